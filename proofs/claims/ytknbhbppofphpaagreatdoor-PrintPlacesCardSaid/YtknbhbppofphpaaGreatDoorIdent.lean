/- Names: what ident.Name answers of any text, by the runes that a range over it gives; texts below 2^62 bytes. -/
import Derived.Test.YtknbhbppofphpaaGreatDoorXA
import Derived.Test.YtknbhbppofphpaaGreatDoorShelf
import Derived.WalkKit
import Derived.BigCall
import Derived.Laws.Externs
import Derived.Shelf.Unicode.DecodeAny
import Derived.LoopTactic
import Derived.Lib.OthersKept
set_option linter.unusedVariables false
set_option linter.unusedSimpArgs false
namespace Go.Proofs.YtknbhbppofphpaaGreatDoor.X
open Go.RowKit Go.Shelf Go.Proofs.YtknbhbppofphpaaGreatDoorW.PrintWords Go.Proofs.YtknbhbppofphpaaGreatDoorW.PrintLast Go.Proofs.YtknbhbppofphpaaGreatDoorW.PrintMore
/-- The runes that a range over a text gives, from a place on. -/
def runesFrom (s : ByteArray) : Nat → Nat → List Nat
  | 0, _ => []
  | f + 1, pos => if pos < s.size then (Utf8.decode s pos).1 :: runesFrom s f (pos + (Utf8.decode s pos).2) else []
def runesOf (s : ByteArray) : List Nat := runesFrom s s.size 0
def letterV (r : Nat) : Bool := decide ((97 ≤ r ∧ r ≤ 122) ∨ (65 ≤ r ∧ r ≤ 90) ∨ (913 ≤ r ∧ r ≤ 969))
def insideV (r : Nat) : Bool := letterV r || decide ((48 ≤ r ∧ r ≤ 57) ∨ r = 95)
/-- The loop of Name: n runes are behind. -/
def nameGo : Nat → List Nat → Bool
  | n, [] => decide (0 < n) && decide (n ≤ 40)
  | n, x :: l => if insideV x = true ∧ (n = 0 → letterV x = true) then nameGo (n + 1) l else false
def nameV (l : List Nat) : Bool := nameGo 0 l
theorem runesFrom_end (s : ByteArray) (f pos : Nat) (h : ¬ pos < s.size) : runesFrom s f pos = [] := by
  cases f with
  | zero => rfl
  | succ f => simp [runesFrom, h]
theorem runesFrom_next (s : ByteArray) (f pos : Nat) (h : pos < s.size) : runesFrom s (f + 1) pos = (Utf8.decode s pos).1 :: runesFrom s f (pos + (Utf8.decode s pos).2) := by simp [runesFrom, h]
theorem width_pos (s : ByteArray) (pos : Nat) (h : pos < s.size) : 1 ≤ (Utf8.decode s pos).2 := by
  by_cases ha : (s[pos]'h).toNat < 128
  · rw [decode_ascii s pos h ha]
    exact Nat.le_refl _
  · exact (decode_high s pos h (by omega)).2
theorem bsomeI {α β : Type} (x : α) (g : α → Option β) : (some x).bind g = g x := rfl
theorem letter_f (r : Nat) : ident_Letter.f (r : Int) = some (letterV r) := by
  unfold ident_Letter.f letterV
  repeat' split
  all_goals
    rw [Option.some.injEq, Bool.eq_iff_iff]
    simp only [decide_eq_true_eq, true_iff, Bool.false_eq_true, false_iff]
    omega
theorem inside_f (r : Nat) : ident_Inside.f (r : Int) = some (insideV r) := by
  unfold ident_Inside.f insideV ident_Digit.f
  rw [letter_f]
  cases letterV r with
  | true => rfl
  | false =>
    rw [bsomeI, if_neg (by decide), Bool.false_or]
    by_cases h1 : (48 : Int) ≤ r
    · rw [if_pos h1, bsomeI]
      by_cases h2 : (r : Int) ≤ 57
      · rw [if_pos (decide_eq_true h2)]
        rw [Option.some.injEq, Bool.eq_iff_iff]
        simp only [decide_eq_true_eq, true_iff]
        omega
      · rw [if_neg (by simp; omega)]
        rw [Option.some.injEq, Bool.eq_iff_iff]
        simp only [decide_eq_true_eq, beq_iff_eq]
        omega
    · rw [if_neg h1, bsomeI, if_neg (by decide)]
      rw [Option.some.injEq, Bool.eq_iff_iff]
      simp only [decide_eq_true_eq, beq_iff_eq]
      omega
set_option maxHeartbeats 4000000 in
set_option maxRecDepth 100000 in
theorem ident_Name.calls (s : ByteArray) (w : World) (hs : s.size ≤ 4611686018427387904) :
    Calls Tryz.prog 66 #[.string s] w fun e w' => e = .returned (.bool (nameV (runesOf s))) ∧ Below w.heap.size w w' := by
  go_enter Tryz.func66, Tryz.ntmps66
  go_wp2
  go_loopw [3] (fun v3 wr => ∃ (pos fuel n : Nat), v3 = .int .i64 n ∧ Aside0 (wr.heap[w.heap.size]? = some (.stringIter s pos)) ∧ Aside0 (Below w.heap.size w wr) ∧ Aside0 (nameGo n (runesFrom s fuel pos) = nameV (runesOf s)) ∧ s.size ≤ pos + fuel ∧ n ≤ pos ∧ (n = 0 → pos = 0) ∧ n ≤ s.size) (fun _ wr => s.size - wr.iterPos w.heap.size)
  case atStart =>
    refine ⟨0, s.size, 0, rfl, ⟨?_⟩, ⟨?_⟩, ⟨rfl⟩, by omega, by omega, fun _ => rfl, by omega⟩
    · exact World.iter_heap w s 0
    · exact (Below.refl _ w).alloc (Nat.le_refl _) _
  case round =>
    obtain ⟨pos, fuel, n, rfl, HI, HB, HN, hfu, hn, hn0, hns⟩ := hrel
    have hsz : w.heap.size < wr.heap.size := (Array.getElem?_eq_some_iff.1 HI.out).1
    by_cases hp : pos < s.size
    · have hnx : ∀ ty, (Instr.next (.pointer (some ⟨w.heap.size, 0, none⟩)) true ty).run Tryz.prog wr = _ := fun ty => Lib.run_next_any_at wr w.heap.size s pos ty HI.out hp
      have hwd := width_pos s pos hp
      have HI2 := Aside0.mk (Lib.iterAt_heap wr w.heap.size s pos (pos + (Utf8.decode s pos).2) HI.out)
      have HB2 := Aside0.mk (Lib.below_iterAt HB.out (k := w.heap.size) (by omega) s (pos + (Utf8.decode s pos).2))
      obtain ⟨f, rfl⟩ : ∃ f, fuel = f + 1 := ⟨fuel - 1, by omega⟩
      have HR := Aside0.mk (runesFrom_next s f pos hp)
      have hfu2 : s.size ≤ pos + (Utf8.decode s pos).2 + f := by omega
      have hpos2 : n + 1 ≤ pos + (Utf8.decode s pos).2 := by omega
      have hadv : pos < pos + (Utf8.decode s pos).2 := by omega
      have HM : Aside0 (wr.iterPos w.heap.size = pos) := ⟨by simp only [World.iterPos, HI.out]⟩
      generalize (Utf8.decode s pos).1 = x at *
      generalize pos + (Utf8.decode s pos).2 = pos2 at *
      have hw1 : wrap64 ((n : Int) + 1) = ((n + 1 : Nat) : Int) := by unfold wrap64; omega
      have hin := inside_f x
      have hle := letter_f x
      have HF := Aside0.mk hin
      have HL := Aside0.mk hle
      clear hin hle
      by_cases hin : insideV x = true
      · by_cases hpz : pos = 0
        · have hz : n = 0 := by omega
          have tp : ((pos : Int) == 0) = true := beq_iff_eq.mpr (by omega)
          by_cases hl : letterV x = true
          · have HV : Aside0 (nameGo (n + 1) (runesFrom s f pos2) = nameV (runesOf s)) := ⟨by rw [← HN.out, HR.out, nameGo, if_pos ⟨hin, fun _ => hl⟩]⟩
            rw [hin] at HF
            rw [hl] at HL
            go_wp2_with fail
            refine (ident_Inside.calls (x : Int) true _ HF.out).mono ?_
            rintro e w' ⟨rfl, ⟨nd, rfl⟩⟩
            go_wp2_with fail
            refine (ident_Letter.calls (x : Int) true _ HL.out).mono ?_
            rintro e w' ⟨rfl, ⟨nd2, rfl⟩⟩
            go_wp2_with fail
            go_roundw
            case rel => exact ⟨pos2, f, n + 1, congrArg (Value.int .i64) (by omega), HI2, ⟨pw_below_drewN HB2.out _⟩, HV, hfu2, hpos2, by omega, by omega⟩
            case measure =>
              have h1 : ∀ q, World.iterPos ((wr.iterAt w.heap.size s pos2).drewN q) w.heap.size = pos2 := fun q => by simp only [World.iterPos, World.drewN, HI2.out]
              rw [h1, HM.out]
              omega
          · have HV : Aside0 (nameV (runesOf s) = false) := ⟨by rw [← HN.out, HR.out, nameGo, if_neg (fun h => hl (h.2 hz))]⟩
            rw [hin] at HF
            rw [Bool.eq_false_iff.mpr hl] at HL
            go_wp2_with fail
            refine (ident_Inside.calls (x : Int) true _ HF.out).mono ?_
            rintro e w' ⟨rfl, ⟨nd, rfl⟩⟩
            go_wp2_with fail
            refine (ident_Letter.calls (x : Int) false _ HL.out).mono ?_
            rintro e w' ⟨rfl, ⟨nd2, rfl⟩⟩
            go_wp2_with fail
            go_ret
            exact ⟨congrArg (fun b => Ending.returned (Value.bool b)) HV.out.symm, pw_below_drewN HB2.out _⟩
        · have hz : ¬ n = 0 := fun h => hpz (hn0 h)
          have tp : ((pos : Int) == 0) = false := beq_eq_false_iff_ne.mpr (by omega)
          have HV : Aside0 (nameGo (n + 1) (runesFrom s f pos2) = nameV (runesOf s)) := ⟨by rw [← HN.out, HR.out, nameGo, if_pos ⟨hin, fun h => absurd h hz⟩]⟩
          rw [hin] at HF
          go_wp2_with fail
          refine (ident_Inside.calls (x : Int) true _ HF.out).mono ?_
          rintro e w' ⟨rfl, ⟨nd, rfl⟩⟩
          go_wp2_with fail
          go_roundw
          case rel => exact ⟨pos2, f, n + 1, congrArg (Value.int .i64) (by omega), HI2, ⟨pw_below_drewN HB2.out nd⟩, HV, hfu2, hpos2, by omega, by omega⟩
          case measure =>
            have h1 : ∀ q, World.iterPos ((wr.iterAt w.heap.size s pos2).drewN q) w.heap.size = pos2 := fun q => by simp only [World.iterPos, World.drewN, HI2.out]
            rw [h1, HM.out]
            omega
      · have HV : Aside0 (nameV (runesOf s) = false) := ⟨by rw [← HN.out, HR.out, nameGo, if_neg (fun h => hin h.1)]⟩
        rw [Bool.eq_false_iff.mpr hin] at HF
        go_wp2_with fail
        refine (ident_Inside.calls (x : Int) false _ HF.out).mono ?_
        rintro e w' ⟨rfl, ⟨nd, rfl⟩⟩
        go_wp2_with fail
        go_ret
        exact ⟨congrArg (fun b => Ending.returned (Value.bool b)) HV.out.symm, pw_below_drewN HB2.out nd⟩
    · have hnx : ∀ ty, (Instr.next (.pointer (some ⟨w.heap.size, 0, none⟩)) true ty).run Tryz.prog wr = _ := fun ty => Lib.run_next_end_at wr w.heap.size s pos ty HI.out hp
      have HV : Aside0 (nameV (runesOf s) = (decide (0 < n) && decide (n ≤ 40))) := ⟨by rw [← HN.out, runesFrom_end s fuel pos hp, nameGo]⟩
      by_cases h1 : 0 < n
      · have t1 : decide (0 < (n : Int)) = true := decide_eq_true (by omega)
        have t2 : decide (0 < n) = true := decide_eq_true h1
        rw [t2, Bool.true_and] at HV
        go_wp2
        go_ret
        exact ⟨congrArg (fun b => Ending.returned (Value.bool b)) (by rw [HV.out]; exact decide_eq_decide.mpr (by omega)), HB.out⟩
      · have t1 : decide (0 < (n : Int)) = false := decide_eq_false (by omega)
        have t2 : decide (0 < n) = false := decide_eq_false h1
        rw [t2, Bool.false_and] at HV
        go_wp2
        go_ret
        exact ⟨congrArg (fun b => Ending.returned (Value.bool b)) HV.out.symm, HB.out⟩
end Go.Proofs.YtknbhbppofphpaaGreatDoor.X
