/- What print.File answers, plainly. -/
import Derived.Test.YtknbhbppofphpaaGreatDoorPrDecl0
import Derived.Test.YtknbhbppofphpaaGreatDoorLexWords
set_option linter.unusedVariables false
set_option linter.unusedSimpArgs false
namespace Go.Proofs.YtknbhbppofphpaaGreatDoor.X
open Go.RowKit Go.Shelf Go.Proofs.YtknbhbppofphpaaGreatDoorW.PrintWords Go.Proofs.YtknbhbppofphpaaGreatDoorW.PrintLast Go.Proofs.YtknbhbppofphpaaGreatDoorW.PrintMore
def sepB (i : Nat) : ByteArray := if 0 < i then ⟨#[10]⟩ else ⟨#[]⟩
theorem fileB_take : ∀ (l : List PD) (i : Nat) (h : i < l.length), fileB (l.take (i + 1)) = fileB (l.take i) ++ sepB i ++ declL [l[i]] 0
  | d :: l, 0, _ => by
    rw [List.take_succ_cons, List.take_zero, List.take_zero, fileB, fileB, List.map_nil, catB, app_nil]
    show _ = (⟨#[]⟩ : ByteArray) ++ ⟨#[]⟩ ++ _
    rw [nil_app, nil_app]
    rfl
  | d :: l, i + 1, h => by
    have h2 : i < l.length := by simpa using h
    rw [List.take_succ_cons, List.take_succ_cons, fileB, fileB, List.take_succ_eq_append_getElem h2, List.map_append, List.map_singleton, catB_snoc]
    simp only [List.getElem_cons_succ, ByteArray.append_assoc]
    rfl
theorem sep_size : ∀ l : List PD, (catB (l.map fun x => ⟨#[10]⟩ ++ declL [x] 0)).size = (declL l 0).size + l.length
  | [] => by rw [declL]; rfl
  | d :: l => by
    have e : declL (d :: l) 0 = declL [d] 0 ++ declL l 0 := declL_app [d] l 0
    rw [List.map_cons, catB, ByteArray.size_append, ByteArray.size_append, sep_size l, e, ByteArray.size_append, List.length_cons]
    have : (⟨#[10]⟩ : ByteArray).size = 1 := rfl
    omega
theorem fileB_size : ∀ l : List PD, (fileB l).size ≤ (declL l 0).size + l.length
  | [] => Nat.zero_le _
  | d :: l => by
    have e : declL (d :: l) 0 = declL [d] 0 ++ declL l 0 := declL_app [d] l 0
    rw [fileB, ByteArray.size_append, sep_size l, e, ByteArray.size_append, List.length_cons]
    omega
theorem fileB_part (l : List PD) (i : Nat) : (fileB (l.take i)).size ≤ (fileB l).size := by
  cases l with
  | nil => rw [List.take_nil]; exact Nat.le_refl _
  | cons d l =>
    cases i with
    | zero => exact Nat.zero_le _
    | succ i =>
      rw [List.take_succ_cons, fileB, fileB, ByteArray.size_append, ByteArray.size_append]
      have := catB_le (l.map fun x => (⟨#[10]⟩ : ByteArray) ++ declL [x] 0) i
      rw [← List.map_take] at this
      omega
theorem fileB_ne (d : PD) (l : List PD) : (fileB (d :: l)).size ≠ 0 := by
  rw [fileB, ByteArray.size_append, declL_one, ByteArray.size_append, lineB_size]
  omega
theorem fileB_le (l : List PD) (h : okL l = true) (hs : szP l ≤ 300000) : (fileB l).size ≤ 1000000000000 := by
  have h1 := fileB_size l
  have h2 := declL_le l 0 (600100) h (by omega)
  have h3 := szP_len l
  have h4 : szP l * 600100 ≤ 300000 * 600100 := Nat.mul_le_mul_right _ hs
  omega
def lexE (s : ByteArray) : Int := (wordsP s).2.2.2
def formedP (l : List PD) : Bool := l.all fun d => pfrmD d 1
def printV (l : List PD) : ByteArray × Int :=
  if formedP l then (if (lexE (fileB l) != 0) then (⟨#[]⟩, 4) else (fileB l, 0)) else (⟨#[]⟩, 1)
theorem formedP_ok {l : List PD} (h : formedP l = true) : okL l = true := by
  unfold formedP at h
  rw [← pfrmI_all] at h
  exact pfrmI_ok l 1 h
end Go.Proofs.YtknbhbppofphpaaGreatDoor.X
