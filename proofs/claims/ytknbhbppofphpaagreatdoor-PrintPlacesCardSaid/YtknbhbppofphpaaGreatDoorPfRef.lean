/- print.formed and the reference's formed ask the same, plainly; how many bytes declarations have that Small lets in. -/
import Derived.Test.YtknbhbppofphpaaGreatDoorPfMath
import Derived.Test.YtknbhbppofphpaaGreatDoorRefFormed
import Derived.Test.YtknbhbppofphpaaGreatDoorRefReserved
set_option linter.unusedVariables false
set_option linter.unusedSimpArgs false
namespace Go.Proofs.YtknbhbppofphpaaGreatDoor.X
open Go.RowKit Go.Shelf Go.Proofs.YtknbhbppofphpaaGreatDoorW.PrintWords Go.Proofs.YtknbhbppofphpaaGreatDoorW.PrintLast Go.Proofs.YtknbhbppofphpaaGreatDoorW.PrintMore
theorem nmPF_cv : ∀ l : List RF, nmPF (l.map cvF) ≤ 199 * l.length + 100 * nmF l
  | [] => Nat.le_refl _
  | f :: l => by
    have := nmPF_cv l
    rw [List.map_cons, nmPF, nmF, List.length_cons]
    have e1 : (cvF f).f1 = f.f1 := rfl
    have e2 : (cvF f).f2 = f.f2 := rfl
    rw [e1, e2]
    omega
theorem nmPV_cv : ∀ l : List RV, nmPV (l.map cvV) ≤ 199 * l.length + 100 * nmV l
  | [] => Nat.le_refl _
  | f :: l => by
    have := nmPV_cv l
    rw [List.map_cons, nmPV, nmV, List.length_cons]
    have e1 : (cvV f).f0 = f.f0 := rfl
    rw [e1]
    omega
theorem nmPM_cv : ∀ l : List RM, nmPM (l.map cvM) ≤ 299 * l.length + 100 * nmM l
  | [] => Nat.le_refl _
  | f :: l => by
    have := nmPM_cv l
    rw [List.map_cons, nmPM, nmM, List.length_cons]
    have e0 : (cvM f).f0 = f.f0 := rfl
    have e1 : (cvM f).f1 = f.f1 := rfl
    have e2 : (cvM f).f2 = f.f2 := rfl
    rw [e0, e1, e2]
    omega
theorem szP_cv : ∀ l : List RD, szP (cvL l) ≤ 300 * szL l := by
  intro l
  induction l using rd_ind with
  | nil => rw [cvL, szP]; exact Nat.zero_le _
  | cons a b c fs vs ms ds l ihd ihl =>
    rw [cvL, szP, szL]
    have h1 := nmPF_cv fs
    have h2 := nmPV_cv vs
    have h3 := nmPM_cv ms
    omega
end Go.Proofs.YtknbhbppofphpaaGreatDoor.X
