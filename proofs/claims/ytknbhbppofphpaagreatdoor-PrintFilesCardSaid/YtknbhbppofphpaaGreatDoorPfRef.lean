/- print.formed and the reference's formed ask the same, plainly; how many bytes declarations have that Small lets in. -/
import Derived.Test.YtknbhbppofphpaaGreatDoorPfMath
import Derived.Test.YtknbhbppofphpaaGreatDoorRefFormed
import Derived.Test.YtknbhbppofphpaaGreatDoorRefReserved
set_option linter.unusedVariables false
set_option linter.unusedSimpArgs false
namespace Go.Proofs.YtknbhbppofphpaaGreatDoor.X
open Go.RowKit Go.Shelf Go.Proofs.YtknbhbppofphpaaGreatDoorW.PrintWords Go.Proofs.YtknbhbppofphpaaGreatDoorW.PrintLast Go.Proofs.YtknbhbppofphpaaGreatDoorW.PrintMore
theorem scalP_ref (s : ByteArray) : scalP s = decide (0 < scalI s) := by
  by_cases h2 : s ∈ scalWords
  · simp only [scalWords, List.mem_cons, List.mem_nil_iff, or_false] at h2
    rcases h2 with rfl | rfl | rfl | rfl | rfl | rfl | rfl | rfl | rfl <;> decide +kernel
  have hr : scalP s = false := by
    unfold scalP
    rw [Bool.eq_false_iff.mpr (fun h => h2 ((Lib.containsS_iff _ _).mp h))]
    split <;> rfl
  have n2 : ∀ l : List UInt8, ({ data := l.toArray } : ByteArray) ∈ scalWords → ¬ s.toList = l := fun l hl h => h2 (by rw [text_of h]; exact hl)
  rw [hr]
  unfold scalI courierref03_Scalar.f
  rw [if_neg (n2 _ (by simp [scalWords])), if_neg (n2 _ (by simp [scalWords])), if_neg (n2 _ (by simp [scalWords])), if_neg (n2 _ (by simp [scalWords])), if_neg (n2 _ (by simp [scalWords])), if_neg (n2 _ (by simp [scalWords])), if_neg (n2 _ (by simp [scalWords])), if_neg (n2 _ (by simp [scalWords]))]
  rfl
theorem fldP_ref (f : RF) : fldP (cvF f) = fieldV f := by unfold fldP fieldV; rw [scalP_ref]; rfl
theorem all_cvF (fs : List RF) : (fs.map cvF).all fldP = fs.all fieldV := by
  rw [List.all_map]; congr 1; funext f; exact fldP_ref f
theorem all_cvV (fs : List RV) : (fs.map cvV).all valP = fs.all valueV := by rw [List.all_map]; rfl
theorem all_cvM (fs : List RM) : (fs.map cvM).all metP = fs.all methodV := by rw [List.all_map]; rfl
theorem len_cvL : ∀ l : List RD, (cvL l).length = l.length
  | [] => by rw [cvL]; rfl
  | ⟨_, _, _, _, _, _, _⟩ :: l => by rw [cvL, List.length_cons, List.length_cons, len_cvL l]
theorem pm1 (b0 b1 b2 : Bool) : pmany 1 b0 b1 b2 = (!b1 && !b2) := by revert b0 b1 b2; decide
theorem pm2 (b0 b1 b2 : Bool) : pmany 2 b0 b1 b2 = (!b0 && !b2) := by revert b0 b1 b2; decide
theorem pm3 (b0 b1 b2 : Bool) : pmany 3 b0 b1 b2 = (!b0 && !b1) := by revert b0 b1 b2; decide
theorem not_pos (n : Nat) : (!decide (0 < n)) = decide (n = 0) := by
  by_cases h : n = 0
  · subst h; rfl
  · rw [decide_eq_false h, decide_eq_true (by omega)]; rfl
/-- The head of a declaration, by its kind. -/
theorem head_ref (a : Int) (b : ByteArray) (fs : List RF) (vs : List RV) (ms : List RM) (nd : Nat) (dep : Int) (h0 : 1 ≤ dep) :
    phead a b (fs.map cvF) (vs.map cvV) (ms.map cvM) nd dep = (if a = 3 ∧ 1 < dep then false else headV a b fs vs ms nd (deepV a dep)) := by
  unfold phead headV
  rw [all_cvF, all_cvV, all_cvM, List.length_map, List.length_map, List.length_map]
  by_cases h1 : a = 1
  · subst h1
    rw [if_neg (by omega), pm1, not_pos, not_pos]
    have e1 : pkind 1 dep = decide (dep ≤ 8) := by
      unfold pkind
      by_cases h : dep ≤ 8
      · rw [decide_eq_true h, decide_eq_false (show ¬ 8 < dep by omega)]; rfl
      · rw [decide_eq_false h, decide_eq_true (show 8 < dep by omega)]; rfl
    have e2 : kindV 1 fs.length vs.length ms.length nd (deepV 1 dep) = (decide (vs.length = 0) && decide (ms.length = 0)) := by
      unfold kindV; rw [if_pos rfl, ← Bool.decide_and]; exact decide_eq_decide.mpr (by omega)
    rw [e1, e2, show deepV 1 dep = dep from if_pos rfl]
    generalize decide (vs.length = 0) = x1; generalize decide (ms.length = 0) = x2; generalize plainV b = x3; generalize decide (dep ≤ 8) = x4; generalize fs.all fieldV = x5
    cases x1 <;> cases x2 <;> cases x3 <;> cases x4 <;> rfl
  by_cases h2 : a = 2
  · subst h2
    rw [if_neg (by omega), pm2, not_pos, not_pos]
    have e1 : pkind 2 dep = true := by unfold pkind; rfl
    have e3 : deepV 2 dep = min dep 8 := if_neg (by decide)
    have e2 : kindV 2 fs.length vs.length ms.length nd (deepV 2 dep) = (decide (fs.length + nd = 0) && decide (ms.length = 0)) := by
      unfold kindV; rw [if_neg (by decide), if_pos rfl, ← Bool.decide_and]; exact decide_eq_decide.mpr (by omega)
    rw [e1, e2, e3, decide_eq_true (show min dep 8 ≤ 8 by omega)]
    generalize decide (fs.length + nd = 0) = x1; generalize decide (ms.length = 0) = x2; generalize plainV b = x3; generalize fs.all fieldV = x5
    cases x1 <;> cases x2 <;> cases x3 <;> rfl
  by_cases h3 : a = 3
  · subst h3
    rw [pm3, not_pos, not_pos]
    by_cases hd : 1 < dep
    · rw [if_pos ⟨rfl, hd⟩]
      have e1 : pkind 3 dep = false := by unfold pkind; rw [decide_eq_true hd]; rfl
      rw [e1]
      generalize decide (fs.length + nd = 0) = x1; generalize decide (vs.length = 0) = x2; generalize plainV b = x3
      cases x1 <;> cases x2 <;> cases x3 <;> rfl
    · rw [if_neg (by omega)]
      have e1 : pkind 3 dep = true := by unfold pkind; rw [decide_eq_false hd]; rfl
      have e3 : deepV 3 dep = min dep 8 := if_neg (by decide)
      have e2 : kindV 3 fs.length vs.length ms.length nd (deepV 3 dep) = (decide (fs.length + nd = 0) && decide (vs.length = 0)) := by
        unfold kindV; rw [if_neg (by decide), if_neg (by decide), if_pos rfl, e3, decide_eq_true (show min dep 8 ≤ 1 by omega), Bool.and_true, ← Bool.decide_and]; exact decide_eq_decide.mpr (by omega)
      rw [e1, e2, e3, decide_eq_true (show min dep 8 ≤ 8 by omega)]
      generalize decide (fs.length + nd = 0) = x1; generalize decide (vs.length = 0) = x2; generalize plainV b = x3; generalize fs.all fieldV = x5
      cases x1 <;> cases x2 <;> cases x3 <;> rfl
  · rw [if_neg (by omega)]
    have e1 : pkind a dep = false := by
      unfold pkind
      by_cases h : 1 ≤ a
      · rw [decide_eq_false (show ¬ a ≤ 3 by omega), Bool.and_false]; rfl
      · rw [decide_eq_false h]; rfl
    have e2 : kindV a fs.length vs.length ms.length nd (deepV a dep) = false := by unfold kindV; rw [if_neg h1, if_neg h2, if_neg h3]
    rw [e1, e2]
    simp
theorem head_none {a : Int} {b : ByteArray} {fs : List RF} {vs : List RV} {ms : List RM} {nd : Nat} {dep : Int} (ha : a ≠ 1) (h : headV a b fs vs ms nd dep = true) : nd = 0 := by
  unfold headV at h
  simp only [Bool.and_eq_true] at h
  have h5 := h.1.1.1.2
  unfold kindV at h5
  rw [if_neg ha] at h5
  split at h5
  · have := of_decide_eq_true h5; omega
  · split at h5
    · rw [Bool.and_eq_true] at h5
      have := of_decide_eq_true h5.1; omega
    · exact absurd h5 (by decide)
theorem inner_ref : ∀ (l : List RD) (dep : Int), 2 ≤ dep → dep ≤ 9 → pfrmI (cvL l) dep = frmI l dep := by
  intro l
  induction l using rd_ind with
  | nil => intro dep _ _; rw [cvL, pfrmI, frmI]
  | cons a b c fs vs ms ds l ihd ihl =>
    intro dep h2 h9
    rw [cvL, pfrmI, frmI, ihl dep h2 h9, head_ref a b fs vs ms _ dep (by omega), len_cvL]
    congr 1
    by_cases h3 : a = 3
    · rw [if_pos ⟨h3, by omega⟩, if_pos h3]; rfl
    rw [if_neg (fun h => h3 h.1), if_neg h3]
    by_cases hh : headV a b fs vs ms ds.length (deepV a dep) = true
    rotate_left
    · rw [Bool.eq_false_iff.mpr hh]; rfl
    rw [hh, Bool.true_and, Bool.true_and]
    by_cases h1 : a = 1
    · have e : deepV a dep = dep := if_pos h1
      rw [e]
      have h8 : dep ≤ 8 := by
        unfold headV at hh
        simp only [Bool.and_eq_true] at hh
        have := of_decide_eq_true hh.1.1.1.1.2
        rw [e] at this
        exact this
      exact ihd (dep + 1) (by omega) (by omega)
    · have := List.length_eq_zero_iff.mp (head_none h1 hh)
      subst this
      rw [cvL, pfrmI, frmI]
theorem formed_ref (l : List RD) : (cvL l).all (fun d => pfrmD d 1) = frmT l := by
  unfold frmT
  induction l with
  | nil => rw [cvL]; rfl
  | cons d l ih =>
    obtain ⟨a, b, c, fs, vs, ms, ds⟩ := d
    rw [cvL, List.all_cons, List.all_cons, ih]
    congr 1
    unfold pfrmD frmD
    simp only
    have e : deepV a 1 = 1 := by unfold deepV; split <;> omega
    rw [head_ref a b fs vs ms _ 1 (by omega), len_cvL, if_neg (by omega), e]
    by_cases hh : headV a b fs vs ms ds.length 1 = true
    · rw [hh, Bool.true_and, Bool.true_and]; exact inner_ref ds 2 (by decide) (by decide)
    · rw [Bool.eq_false_iff.mpr hh]; rfl
theorem nmPF_cv : ∀ l : List RF, nmPF (l.map cvF) ≤ 199 * l.length + 100 * nmF l
  | [] => Nat.le_refl _
  | f :: l => by
    have := nmPF_cv l
    rw [List.map_cons, nmPF, nmF, List.length_cons]
    have e1 : (cvF f).f1 = f.f1 := rfl
    have e2 : (cvF f).f2 = f.f2 := rfl
    rw [e1, e2]
    omega
theorem nmPV_cv : ∀ l : List RV, nmPV (l.map cvV) ≤ 199 * l.length + 100 * nmV l
  | [] => Nat.le_refl _
  | f :: l => by
    have := nmPV_cv l
    rw [List.map_cons, nmPV, nmV, List.length_cons]
    have e1 : (cvV f).f0 = f.f0 := rfl
    rw [e1]
    omega
theorem nmPM_cv : ∀ l : List RM, nmPM (l.map cvM) ≤ 299 * l.length + 100 * nmM l
  | [] => Nat.le_refl _
  | f :: l => by
    have := nmPM_cv l
    rw [List.map_cons, nmPM, nmM, List.length_cons]
    have e0 : (cvM f).f0 = f.f0 := rfl
    have e1 : (cvM f).f1 = f.f1 := rfl
    have e2 : (cvM f).f2 = f.f2 := rfl
    rw [e0, e1, e2]
    omega
theorem szP_cv : ∀ l : List RD, szP (cvL l) ≤ 300 * szL l := by
  intro l
  induction l using rd_ind with
  | nil => rw [cvL, szP]; exact Nat.zero_le _
  | cons a b c fs vs ms ds l ihd ihl =>
    rw [cvL, szP, szL]
    have h1 := nmPF_cv fs
    have h2 := nmPV_cv vs
    have h3 := nmPM_cv ms
    omega
end Go.Proofs.YtknbhbppofphpaaGreatDoor.X
