/- What print.formed asks, plainly. -/
import Derived.Test.YtknbhbppofphpaaGreatDoorPfField
set_option linter.unusedVariables false
set_option linter.unusedSimpArgs false
namespace Go.Proofs.YtknbhbppofphpaaGreatDoor.X
open Go.RowKit Go.Shelf Go.Proofs.YtknbhbppofphpaaGreatDoorW.PrintWords Go.Proofs.YtknbhbppofphpaaGreatDoorW.PrintLast Go.Proofs.YtknbhbppofphpaaGreatDoorW.PrintMore
def nmPF : List PF → Nat
  | [] => 0
  | f :: l => 1 + f.f1.size + f.f2.size + nmPF l
def nmPV : List PV → Nat
  | [] => 0
  | f :: l => 1 + f.f0.size + nmPV l
def nmPM : List PM → Nat
  | [] => 0
  | f :: l => 1 + f.f0.size + f.f1.size + f.f2.size + nmPM l
/-- How many bytes and how many things. -/
def szP : List PD → Nat
  | [] => 0
  | ⟨_, b, _, fs, vs, ms, ds⟩ :: l => 1 + b.size + nmPF fs + nmPV vs + nmPM ms + szP ds + szP l
theorem nmPF_mem : ∀ {fs : List PF} {f : PF}, f ∈ fs → 1 + f.f1.size + f.f2.size ≤ nmPF fs
  | x :: l, f, h => by
    rw [nmPF]
    rcases List.mem_cons.1 h with rfl | h
    · omega
    · have := nmPF_mem h; omega
theorem nmPV_mem : ∀ {fs : List PV} {f : PV}, f ∈ fs → 1 + f.f0.size ≤ nmPV fs
  | x :: l, f, h => by
    rw [nmPV]
    rcases List.mem_cons.1 h with rfl | h
    · omega
    · have := nmPV_mem h; omega
theorem nmPM_mem : ∀ {fs : List PM} {f : PM}, f ∈ fs → 1 + f.f0.size + f.f1.size + f.f2.size ≤ nmPM fs
  | x :: l, f, h => by
    rw [nmPM]
    rcases List.mem_cons.1 h with rfl | h
    · omega
    · have := nmPM_mem h; omega
theorem nmPF_len : ∀ l : List PF, l.length ≤ nmPF l
  | [] => Nat.zero_le _
  | x :: l => by have := nmPF_len l; rw [nmPF, List.length_cons]; omega
theorem nmPV_len : ∀ l : List PV, l.length ≤ nmPV l
  | [] => Nat.zero_le _
  | x :: l => by have := nmPV_len l; rw [nmPV, List.length_cons]; omega
theorem nmPM_len : ∀ l : List PM, l.length ≤ nmPM l
  | [] => Nat.zero_le _
  | x :: l => by have := nmPM_len l; rw [nmPM, List.length_cons]; omega
theorem szP_len : ∀ l : List PD, l.length ≤ szP l
  | [] => Nat.zero_le _
  | ⟨_, _, _, _, _, _, _⟩ :: l => by have := szP_len l; rw [szP, List.length_cons]; omega
theorem szP_mem : ∀ {l : List PD} {d : PD}, d ∈ l → szP [d] ≤ szP l
  | ⟨_, _, _, _, _, _, _⟩ :: l, d, h => by
    rcases List.mem_cons.1 h with rfl | h
    · rw [szP, szP, szP]; omega
    · have := szP_mem h
      rw [szP.eq_2]
      omega
def pmany (a : Int) (b0 b1 b2 : Bool) : Bool := (!b0 || a == 1) && (!b1 || a == 2) && (!b2 || a == 3)
def pkind (a dep : Int) : Bool := decide (1 ≤ a) && decide (a ≤ 3) && !(a == 1 && decide (8 < dep)) && !(a == 3 && decide (1 < dep))
def phead (a : Int) (b : ByteArray) (fs : List PF) (vs : List PV) (ms : List PM) (nd : Nat) (dep : Int) : Bool :=
  pmany a (decide (0 < fs.length + nd)) (decide (0 < vs.length)) (decide (0 < ms.length)) && plainV b && pkind a dep && fs.all fldP && vs.all valP && ms.all metP
def pfrmI : List PD → Int → Bool
  | [], _ => true
  | ⟨a, b, _, fs, vs, ms, ds⟩ :: l, dep => (phead a b fs vs ms ds.length dep && pfrmI ds (dep + 1)) && pfrmI l dep
def pfrmD (d : PD) (dep : Int) : Bool := phead d.f0 d.f1 d.f3 d.f4 d.f5 d.f6.length dep && pfrmI d.f6 (dep + 1)
theorem pfrmI_cons (d : PD) (l : List PD) (dep : Int) : pfrmI (d :: l) dep = (pfrmD d dep && pfrmI l dep) := by
  obtain ⟨a, b, c, fs, vs, ms, ds⟩ := d
  rw [pfrmI]
  rfl
theorem pfrmI_all : ∀ (l : List PD) (dep : Int), pfrmI l dep = l.all fun d => pfrmD d dep
  | [], _ => by rw [pfrmI]; rfl
  | d :: l, dep => by rw [pfrmI_cons, List.all_cons, pfrmI_all l dep]
theorem any_not {α : Type} (l : List α) (p : α → Bool) : (!(l.any fun x => !p x)) = l.all p := by
  induction l with
  | nil => rfl
  | cons x l ih => rw [List.any_cons, List.all_cons, Bool.not_or, Bool.not_not, ih]
theorem any_not' {α : Type} (l : List α) (p : α → Bool) : (l.any fun x => !p x) = !l.all p := by rw [← any_not, Bool.not_not]
end Go.Proofs.YtknbhbppofphpaaGreatDoor.X
