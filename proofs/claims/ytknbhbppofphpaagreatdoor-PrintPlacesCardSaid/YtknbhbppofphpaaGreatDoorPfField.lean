/- print.formed$1: what print.formed asks of a field. Printed by gen_pffield.py. -/
import Derived.Test.YtknbhbppofphpaaGreatDoorPfHead
import Derived.Deep.RegionWith
set_option linter.unusedVariables false
set_option linter.unusedSimpArgs false
namespace Go.Proofs.YtknbhbppofphpaaGreatDoor.X
open Go.RowKit Go.Shelf Go.Proofs.YtknbhbppofphpaaGreatDoorW.PrintWords Go.Proofs.YtknbhbppofphpaaGreatDoorW.PrintLast Go.Proofs.YtknbhbppofphpaaGreatDoorW.PrintMore
def scalP (s : ByteArray) : Bool := if s.toList = [] then false else Lib.containsS scalWords s
def fldP (f : PF) : Bool := plainV f.f2 && numV f.f3 && (pathOk f.f1 || scalP f.f1)
set_option maxHeartbeats 4000000 in
set_option maxRecDepth 100000 in
theorem formed1.calls (d : PF) (m : Int) (w : World) (h1 : d.f1.size ≤ 1000000) (h2 : d.f2.size ≤ 1000000) (hm : w.cell? ⟨3, 0, none⟩ = some (.int .i64 m)) :
    Calls Tryz.prog 43 #[.agg #[.bool d.f0, .string d.f1, .string d.f2, .int .i64 d.f3, .int .i64 d.f4.f0, .int .i64 d.f4.f1]] w fun e w' => e = .returned (.bool (!fldP d)) ∧ Below w.heap.size w w' := by
  obtain ⟨rep, ty, nm, num, p0, p1⟩ := d
  simp only at h1 h2 ⊢
  have HM := Aside0.mk hm
  clear hm
  have HV : Aside0 (fldP ⟨rep, ty, nm, num, ⟨p0, p1⟩⟩ = (plainV nm && numV num && (pathOk ty || scalP ty))) := ⟨rfl⟩
  have HPL : Aside0 (∀ W : World, Calls Tryz.prog 41 #[.string nm] W fun e w' => e = .returned (.bool (plainV nm)) ∧ Below W.heap.size W w') := ⟨fun W => ident_Plain.calls nm W (by omega)⟩
  have HNU : Aside0 (∀ W : World, Calls Tryz.prog 44 #[.int .i64 num] W fun e w' => e = .returned (.bool (numV num)) ∧ w' = W) := ⟨fun W => print_number.calls num W⟩
  have HPA : Aside0 (∀ W : World, Below w.heap.size w W → Calls Tryz.prog 45 #[.string ty] W fun e w' => e = .returned (.bool (pathOk ty)) ∧ Below W.heap.size W w') := ⟨fun W hW => print_path.calls ty m W h1 (pw_cell_below hW HM.out)⟩
  have HSC : Aside0 (scalP ty = if ty.toList = [] then false else Lib.containsS scalWords ty) := ⟨rfl⟩
  have STEP : ∀ W W2 : World, (W.cell? ⟨w.heap.size, 1, none⟩ = some (.string ty) ∧ W.cell? ⟨w.heap.size, 2, none⟩ = some (.string nm) ∧ W.cell? ⟨w.heap.size, 3, none⟩ = some (.int .i64 num) ∧ Below w.heap.size w W) → Below W.heap.size W W2 → (W2.cell? ⟨w.heap.size, 1, none⟩ = some (.string ty) ∧ W2.cell? ⟨w.heap.size, 2, none⟩ = some (.string nm) ∧ W2.cell? ⟨w.heap.size, 3, none⟩ = some (.int .i64 num) ∧ Below w.heap.size w W2) := fun W W2 h hb => ⟨pw_cell_below hb h.1, pw_cell_below hb h.2.1, pw_cell_below hb h.2.2.1, below_step h.2.2.2 hb⟩
  have HSTEP := Aside0.mk STEP
  clear STEP h1 h2
  go_enter Tryz.func43, Tryz.ntmps43
  go_wp2_with fail
  obtain ⟨W0, hW0⟩ : ∃ W0, W0 = w.alloc (.cells #[.bool rep, .string ty, .string nm, .int .i64 num, .int .i64 p0, .int .i64 p1] 62) := ⟨_, rfl⟩
  have hX0 : W0.heap[w.heap.size]? = some (.cells #[.bool rep, .string ty, .string nm, .int .i64 num, .int .i64 p0, .int .i64 p1] 62 (0, 0)) := by rw [hW0]; exact blk_new w _
  have HS0 : Aside0 (W0.drew.cell? ⟨w.heap.size, 1, none⟩ = some (.string ty) ∧ W0.drew.cell? ⟨w.heap.size, 2, none⟩ = some (.string nm) ∧ W0.drew.cell? ⟨w.heap.size, 3, none⟩ = some (.int .i64 num) ∧ Below w.heap.size w W0.drew) := ⟨blk_cell (blk_drew hX0) 1, blk_cell (blk_drew hX0) 2, blk_cell (blk_drew hX0) 3, below_drew (by rw [hW0]; exact below_alloc (Below.refl _ _) _)⟩
  rw [← hW0]
  clear hW0 hX0
  have c1 := HS0.out.1
  have c2 := HS0.out.2.1
  have c3 := HS0.out.2.2.1
  generalize plainV nm = pl at *
  generalize numV num = nv at *
  generalize pathOk ty = pa at *
  generalize scalP ty = sc at *
  cases pl with
  | false =>
    (first | go_region_with (first | (rename_i _ hud; exact absurd (show some Go.undef = some (Go.Value.bool _) from hud) (fun hh => nomatch hh)) | (rename_i hud; exact absurd (show some Go.undef = some (Go.Value.bool _) from hud) (fun hh => nomatch hh)) | (go_at_call 41; refine (HPL.out _).mono ?_; rintro e w1 ⟨rfl, hb1⟩; have HS1 : Aside0 (w1.cell? ⟨w.heap.size, 1, none⟩ = some (.string ty) ∧ w1.cell? ⟨w.heap.size, 2, none⟩ = some (.string nm) ∧ w1.cell? ⟨w.heap.size, 3, none⟩ = some (.int .i64 num) ∧ Below w.heap.size w w1) := ⟨HSTEP.out _ _ HS0.out hb1⟩; have d1 := HS1.out.1; have d2 := HS1.out.2.1; have d3 := HS1.out.2.2.1)) | fail)
    all_goals (go_wp2_with fail; go_ret; exact ⟨congrArg (fun b => Ending.returned (Value.bool b)) (by rw [HV.out]; rfl), HS1.out.2.2.2⟩)
  | true =>
  cases nv with
  | false =>
    (first | go_region_with (first | (rename_i _ hud; exact absurd (show some Go.undef = some (Go.Value.bool _) from hud) (fun hh => nomatch hh)) | (rename_i hud; exact absurd (show some Go.undef = some (Go.Value.bool _) from hud) (fun hh => nomatch hh)) | (go_at_call 41; refine (HPL.out _).mono ?_; rintro e w1 ⟨rfl, hb1⟩; have HS1 : Aside0 (w1.cell? ⟨w.heap.size, 1, none⟩ = some (.string ty) ∧ w1.cell? ⟨w.heap.size, 2, none⟩ = some (.string nm) ∧ w1.cell? ⟨w.heap.size, 3, none⟩ = some (.int .i64 num) ∧ Below w.heap.size w w1) := ⟨HSTEP.out _ _ HS0.out hb1⟩; have d1 := HS1.out.1; have d2 := HS1.out.2.1; have d3 := HS1.out.2.2.1) | (go_at_call 44; refine (HNU.out _).mono ?_; rintro e w2 ⟨rfl, hw2⟩; obtain rfl := hw2.symm)) | fail)
    all_goals (go_wp2_with fail; go_ret; exact ⟨congrArg (fun b => Ending.returned (Value.bool b)) (by rw [HV.out]; rfl), HS1.out.2.2.2⟩)
  | true =>
  cases pa with
  | true =>
    (first | go_region_with (first | (rename_i _ hud; exact absurd (show some Go.undef = some (Go.Value.bool _) from hud) (fun hh => nomatch hh)) | (rename_i hud; exact absurd (show some Go.undef = some (Go.Value.bool _) from hud) (fun hh => nomatch hh)) | (go_at_call 41; refine (HPL.out _).mono ?_; rintro e w1 ⟨rfl, hb1⟩; have HS1 : Aside0 (w1.cell? ⟨w.heap.size, 1, none⟩ = some (.string ty) ∧ w1.cell? ⟨w.heap.size, 2, none⟩ = some (.string nm) ∧ w1.cell? ⟨w.heap.size, 3, none⟩ = some (.int .i64 num) ∧ Below w.heap.size w w1) := ⟨HSTEP.out _ _ HS0.out hb1⟩; have d1 := HS1.out.1; have d2 := HS1.out.2.1; have d3 := HS1.out.2.2.1) | (go_at_call 44; refine (HNU.out _).mono ?_; rintro e w2 ⟨rfl, hw2⟩; obtain rfl := hw2.symm) | (go_at_call 45; refine (HPA.out _ HS1.out.2.2.2).mono ?_; rintro e w3 ⟨rfl, hb3⟩; have HS3 : Aside0 (w3.cell? ⟨w.heap.size, 1, none⟩ = some (.string ty) ∧ w3.cell? ⟨w.heap.size, 2, none⟩ = some (.string nm) ∧ w3.cell? ⟨w.heap.size, 3, none⟩ = some (.int .i64 num) ∧ Below w.heap.size w w3) := ⟨HSTEP.out _ _ HS1.out hb3⟩; have k1 := HS3.out.1; have k2 := HS3.out.2.1; have k3 := HS3.out.2.2.1)) | fail)
    all_goals (go_wp2_with fail; go_ret; exact ⟨congrArg (fun b => Ending.returned (Value.bool b)) (by rw [HV.out]; rfl), HS3.out.2.2.2⟩)
  | false =>
  by_cases he : ty.toList = []
  · have he2 : ty.toList.isEmpty = true := by rw [he]; rfl
    rw [if_pos he] at HSC
    rw [HSC.out] at HV
    clear he
    (first | go_region_with (first | (rename_i _ hud; exact absurd (show some Go.undef = some (Go.Value.bool _) from hud) (fun hh => nomatch hh)) | (rename_i hud; exact absurd (show some Go.undef = some (Go.Value.bool _) from hud) (fun hh => nomatch hh)) | (go_at_call 41; refine (HPL.out _).mono ?_; rintro e w1 ⟨rfl, hb1⟩; have HS1 : Aside0 (w1.cell? ⟨w.heap.size, 1, none⟩ = some (.string ty) ∧ w1.cell? ⟨w.heap.size, 2, none⟩ = some (.string nm) ∧ w1.cell? ⟨w.heap.size, 3, none⟩ = some (.int .i64 num) ∧ Below w.heap.size w w1) := ⟨HSTEP.out _ _ HS0.out hb1⟩; have d1 := HS1.out.1; have d2 := HS1.out.2.1; have d3 := HS1.out.2.2.1) | (go_at_call 44; refine (HNU.out _).mono ?_; rintro e w2 ⟨rfl, hw2⟩; obtain rfl := hw2.symm) | (go_at_call 45; refine (HPA.out _ HS1.out.2.2.2).mono ?_; rintro e w3 ⟨rfl, hb3⟩; have HS3 : Aside0 (w3.cell? ⟨w.heap.size, 1, none⟩ = some (.string ty) ∧ w3.cell? ⟨w.heap.size, 2, none⟩ = some (.string nm) ∧ w3.cell? ⟨w.heap.size, 3, none⟩ = some (.int .i64 num) ∧ Below w.heap.size w w3) := ⟨HSTEP.out _ _ HS1.out hb3⟩; have k1 := HS3.out.1; have k2 := HS3.out.2.1; have k3 := HS3.out.2.2.1)) | fail)
    all_goals (go_wp2_with fail; go_ret; exact ⟨congrArg (fun b => Ending.returned (Value.bool b)) (by rw [HV.out]; rfl), HS3.out.2.2.2⟩)
  have he2 : ty.toList.isEmpty = false := by rw [Bool.eq_false_iff]; intro h; exact he (List.isEmpty_iff.mp h)
  rw [if_neg he] at HSC
  rw [HSC.out] at HV
  clear he HSC
  obtain ⟨cs, hcs⟩ : ∃ b, Lib.containsS scalWords ty = b := ⟨_, rfl⟩
  rw [hcs] at HV
  have HCS := Aside0.mk hcs
  clear hcs
  (first | go_region_with (first | (rename_i _ hud; exact absurd (show some Go.undef = some (Go.Value.bool _) from hud) (fun hh => nomatch hh)) | (rename_i hud; exact absurd (show some Go.undef = some (Go.Value.bool _) from hud) (fun hh => nomatch hh)) | (go_at_call 41; refine (HPL.out _).mono ?_; rintro e w1 ⟨rfl, hb1⟩; have HS1 : Aside0 (w1.cell? ⟨w.heap.size, 1, none⟩ = some (.string ty) ∧ w1.cell? ⟨w.heap.size, 2, none⟩ = some (.string nm) ∧ w1.cell? ⟨w.heap.size, 3, none⟩ = some (.int .i64 num) ∧ Below w.heap.size w w1) := ⟨HSTEP.out _ _ HS0.out hb1⟩; have d1 := HS1.out.1; have d2 := HS1.out.2.1; have d3 := HS1.out.2.2.1) | (go_at_call 44; refine (HNU.out _).mono ?_; rintro e w2 ⟨rfl, hw2⟩; obtain rfl := hw2.symm) | (go_at_call 45; refine (HPA.out _ HS1.out.2.2.2).mono ?_; rintro e w3 ⟨rfl, hb3⟩; have HS3 : Aside0 (w3.cell? ⟨w.heap.size, 1, none⟩ = some (.string ty) ∧ w3.cell? ⟨w.heap.size, 2, none⟩ = some (.string nm) ∧ w3.cell? ⟨w.heap.size, 3, none⟩ = some (.int .i64 num) ∧ Below w.heap.size w w3) := ⟨HSTEP.out _ _ HS1.out hb3⟩; have k1 := HS3.out.1; have k2 := HS3.out.2.1; have k3 := HS3.out.2.2.1) | (go_at_call 47; refine (ident_Scalars.calls _).mono ?_; rintro e w4 ⟨rfl, hw4⟩; have HS4 : Aside0 (w4.cell? ⟨w.heap.size, 1, none⟩ = some (.string ty) ∧ w4.cell? ⟨w.heap.size, 2, none⟩ = some (.string nm) ∧ w4.cell? ⟨w.heap.size, 3, none⟩ = some (.int .i64 num) ∧ Below w.heap.size w w4) := ⟨HSTEP.out _ _ HS3.out (by rw [hw4]; exact below_alloc (Below.refl _ _) _)⟩; have HG4 : Aside0 (w4.heap[w3.heap.size]? = some (.cells (scalWords.map Value.string).toArray 9 (0, 0))) := ⟨by rw [hw4]; exact heap_alloc_new w3 _⟩; clear hw4; have q1 := HS4.out.1) | (go_at_call 46; refine (Tryz.slices_Contains_string w3.heap.size 0 9 9 scalWords ty w4 (by decide) (by omega) (words_cell scalWords HG4.out)).mono ?_; rintro e w5 ⟨rfl, hw5⟩; obtain rfl := hw5.symm; rw [show scalWords.take 9 = scalWords from rfl])) | fail)
  all_goals (rw [HCS.out]; go_wp2_with fail; go_ret; exact ⟨congrArg (fun b => Ending.returned (Value.bool b)) (by rw [HV.out]; cases cs <;> rfl), HS4.out.2.2.2⟩)
end Go.Proofs.YtknbhbppofphpaaGreatDoor.X
