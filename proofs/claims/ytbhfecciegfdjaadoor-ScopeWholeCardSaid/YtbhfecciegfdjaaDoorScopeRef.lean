/- The reference's All: the same whole names; and that they are few. -/
import Derived.Test.YtbhfecciegfdjaaDoorX31
import Derived.Test.YtbhfecciegfdjaaDoorX32
import Derived.Test.YtbhfecciegfdjaaDoorScopeM
set_option linter.unusedVariables false
set_option linter.unusedSimpArgs false
namespace Go.Proofs.YtbhfecciegfdjaaDoor.X
open Go.RowKit Go.Proofs.YtbhfecciegfdjaaDoorW.PrintWords Go.Proofs.YtbhfecciegfdjaaDoorW.PrintLast Go.Proofs.YtbhfecciegfdjaaDoorW.PrintMore
theorem nm_cv : ∀ l : List RD, nmP (cvL l) ≤ 100 * szL l := by
  intro l
  induction l using rd_ind with
  | nil => rw [cvL, nmP]; omega
  | cons a b c fs vs ms ds l ihd ihl =>
    rw [cvL, nmP, szL]
    omega
theorem all_l0 : ∀ (l pre : List RD) (acc : List RS) (p : ByteArray), p.size + nmP (cvL l) ≤ 1000000000 → acc.length + nmP (cvL l) ≤ 1000000000 → pre.length + l.length ≤ 1000000000 →
    Ev (fun k => courierref05_all.l0 k (pre ++ l) p acc ((pre ++ l).length : Int) (pre.length : Int)) (acc ++ alL (cvL l) p) := by
  intro l
  induction l using rd_ind with
  | nil =>
    intro pre acc p _ _ _
    refine Ev.step (f := fun _ => some acc) (fun k => ?_) (by rw [cvL, alL, List.append_nil]; exact Ev.now _)
    rw [courierref05_all.l0, if_neg (by simp)]
  | cons a b c fs vs ms ds l ihd ihl =>
    intro pre acc p hp ha hl
    rw [cvL, nmP] at hp ha
    rw [List.length_cons] at hl
    have hdt : dot.size = 1 := rfl
    have hal := alL_len (cvL ds) (p ++ b ++ dot)
    have hdl := len_le_nm (cvL ds)
    have hcl : ∀ m : List RD, (cvL m).length = m.length := by
      intro m
      induction m using rd_ind with
      | nil => rw [cvL]; rfl
      | cons a b c fs vs ms ds l _ ih => rw [cvL, List.length_cons, List.length_cons, ih]
    rw [hcl] at hdl
    have HPL : Aside0 (wrap64 ((pre.length : Int) + 1) = (pre.length : Int) + 1) := ⟨w64 (by omega) (by omega)⟩
    refine Ev.step (f := fun k => (courierref05_all.f k ds ((p ++ b) ++ (⟨#[46]⟩ : ByteArray))).bind fun t => if (acc ++ [(⟨p ++ b, a⟩ : RS)]).length + t.length < 5864062014805 then courierref05_all.l0 k (pre ++ (⟨a, b, c, fs, vs, ms, ds⟩ : RD) :: l) p ((acc ++ [(⟨p ++ b, a⟩ : RS)]) ++ t) ((pre ++ (⟨a, b, c, fs, vs, ms, ds⟩ : RD) :: l).length : Int) (wrap64 ((pre.length : Int) + 1)) else none) (fun k => ?_) ?_
    · rw [courierref05_all.l0, if_pos (lt_len _ _ _), if_pos (Int.natCast_nonneg _), if_pos (lt_len _ _ _), rdRD, if_pos (show p.size + b.size ≤ 9223372036854775807 by omega), if_pos (show acc.length < 5864062014805 by omega)]
      simp only [Option.bind_some]
      rw [if_pos (show (p ++ b).size + 1 ≤ 9223372036854775807 by rw [ByteArray.size_append]; omega)]
    refine Ev.bind (a := alL (cvL ds) (p ++ b ++ dot)) ?_ ?_
    · have h0 := ihd [] [] (p ++ b ++ dot) (by rw [ByteArray.size_append, ByteArray.size_append]; omega) (by rw [List.length_nil]; omega) (by rw [List.length_nil]; omega)
      refine Ev.step (f := fun k => courierref05_all.l0 k ds (p ++ b ++ dot) [] (ds.length : Int) 0) (fun k => by rw [courierref05_all.f]; rfl) ?_
      simpa using h0
    · have hc1 : (acc ++ [(⟨p ++ b, a⟩ : RS)]).length + (alL (cvL ds) (p ++ b ++ dot)).length < 5864062014805 := by rw [List.length_append, List.length_singleton]; omega
      simp only [if_pos hc1, HPL.out]
      have e1 : acc ++ alL (cvL ((⟨a, b, c, fs, vs, ms, ds⟩ : RD) :: l)) p = (acc ++ [(⟨p ++ b, a⟩ : RS)]) ++ alL (cvL ds) (p ++ b ++ dot) ++ alL (cvL l) p := by
        rw [cvL, alL]; simp
      have e2 : pre ++ (⟨a, b, c, fs, vs, ms, ds⟩ : RD) :: l = (pre ++ [(⟨a, b, c, fs, vs, ms, ds⟩ : RD)]) ++ l := snoc_eq _ _ _
      rw [e1, e2, ← snoc_len pre (⟨a, b, c, fs, vs, ms, ds⟩ : RD)]
      exact ihl _ _ p (by omega) (by rw [List.length_append, List.length_append, List.length_singleton]; omega) (by rw [List.length_append, List.length_singleton]; omega)
theorem nm_sm {l : List RD} (h : Sm l) : nmP (cvL l) ≤ 80000 := by
  have := nm_cv l
  have := h.1
  omega
theorem all_ref {l : List RD} (h : Sm l) : ∃ k, courierref05_All.f k l = some (alL (cvL l) ⟨#[]⟩) := by
  have h1 := nm_sm h
  have h2 := len_le_sz l
  have h3 := h.1
  have h0 := all_l0 l [] [] ⟨#[]⟩ (by show 0 + _ ≤ _; omega) (by rw [List.length_nil]; omega) (by rw [List.length_nil]; omega)
  have h4 : Ev (fun k => courierref05_all.f k l ⟨#[]⟩) (alL (cvL l) ⟨#[]⟩) := by
    refine Ev.step (f := fun k => courierref05_all.l0 k l ⟨#[]⟩ [] (l.length : Int) 0) (fun k => by rw [courierref05_all.f]) ?_
    simpa using h0
  obtain ⟨k, hk⟩ := h4.rounds
  refine ⟨k, ?_⟩
  unfold courierref05_All.f
  rw [hk]
  rfl
theorem kinds_cv : ∀ (l : List RD) (p : ByteArray), GoodL l → Kinds (alL (cvL l) p) := by
  intro l
  induction l using rd_ind with
  | nil => intro p _ x hx; rw [cvL, alL] at hx; cases hx
  | cons a b c fs vs ms ds l ihd ihl =>
    intro p hg x hx
    rw [GoodL] at hg
    rw [cvL, alL] at hx
    rcases List.mem_cons.1 hx with rfl | hx
    · exact hg.1.1
    · rcases List.mem_append.1 hx with hx | hx
      · exact ihd _ hg.2.2.2.2.1 x hx
      · exact ihl _ hg.2.2.2.2.2 x hx
end Go.Proofs.YtbhfecciegfdjaaDoor.X
