/- Plain functions for Go's own, out of the translation's print, and a proof that each call comes to what they tell; no condition but the functions' own answers. -/
import Derived.Test.YthhkdabajikckaaX0
import Derived.Test.YthhkdabajikckaaX7
import Derived.Test.YthhkdabajikckaaX8
import Derived.Test.YthhkdabajikckaaX10
namespace Go.Proofs.Ythhkdabajikckaa.X
open Go.RowKit Go.Proofs.YthhkdabajikckaaW.PrintWords Go.Proofs.YthhkdabajikckaaW.PrintLast Go.Proofs.YthhkdabajikckaaW.PrintMore
attribute [local go_sem] max2_int min2_int max_two min_two max_three min_three max_four min_four Go.Proofs.Ythhkdabajikckaa.MyWords.put_isSome Go.Proofs.Ythhkdabajikckaa.MyWords.drewN_put   -- for this text's walks alone
set_option linter.unusedVariables false
set_option linter.unusedSimpArgs false

/-! ### courierref15_Build: function 11 -/
def courierref15_Build.l0 : Nat → List Int → List Int → Int → Int → Int → Int → Int → Int → Int → Int → Int → Int → List Int → Option (List Int × Int)
  | 0, _, _, _, _, _, _, _, _, _, _, _, _, _ => none
  | k + 1, x4, x5, x40, x41, x156000, x156001, x156002, x156003, x156004, x156005, x156006, x156007, x156008 => if x41 < x40 then (if 0 ≤ x41 then (if x41 < (x5.length : Int) then ((courierref01_Varint.f k x4 (rd x5 x41)).bind fun t164 => (courierref15_Build.l0 k t164 x5 x40 (wrap64 (x41 + 1)) x156000 x156001 x156002 x156003 x156004 x156005 x156006 x156007 x156008)) else (none)) else (none)) else (if x4.length + x156008.length < 140737488355328 then ((some (x4 ++ x156008 : List Int)).bind fun y167 => ((courierref15_Sum.f k y167).bind fun t170 => ((some (([(t170 / 16777216) % 256, (t170 / 65536) % 256, (t170 / 256) % 256, (t170) % 256] : List Int) : List Int)).bind fun y171 => (if y167.length + y171.length < 140737488355328 then (some ((y167 ++ y171), 0)) else (none))))) else (none))
def courierref15_Build.f (k : Nat) (a0_0 : Int) (a0_1 : Int) (a0_2 : Int) (a0_3 : Int) (a0_4 : Int) (a0_5 : Int) (a0_6 : Int) (a0_7 : Int) (l0_8 : List Int) : Option (List Int × Int) := (courierref15_Formed.f k a0_0 a0_1 a0_2 a0_3 a0_4 a0_5 a0_6 a0_7 l0_8).bind fun t156 => (if t156 = true then ((some (([IntKind.u64.wrap (a0_0), IntKind.u64.wrap (a0_1), a0_2, IntKind.u64.wrap (a0_3), a0_4, IntKind.u64.wrap (a0_5), IntKind.u64.wrap (a0_6), IntKind.u64.wrap (a0_7), IntKind.u64.wrap ((l0_8.length : Int))] : List Int) : List Int)).bind fun y160 => (courierref15_Build.l0 k (([199] : List Int)) y160 (y160.length : Int) 0 a0_0 a0_1 a0_2 a0_3 a0_4 a0_5 a0_6 a0_7 l0_8)) else (some (([] : List Int), 1)))
theorem courierref15_Build.mono_l : ∀ k, (∀ y0 y1 y2 y3 y4 y5 y6 y7 y8 y9 y10 y11 y12, LeO (courierref15_Build.l0 k y0 y1 y2 y3 y4 y5 y6 y7 y8 y9 y10 y11 y12) (courierref15_Build.l0 (k + 1) y0 y1 y2 y3 y4 y5 y6 y7 y8 y9 y10 y11 y12))
  | 0 => fun _ _ _ _ _ _ _ _ _ _ _ _ _ r h => by simp [courierref15_Build.l0] at h
  | k + 1 => by
    have ih0 := courierref15_Build.mono_l k
    · intro y0 y1 y2 y3 y4 y5 y6 y7 y8 y9 y10 y11 y12
      unfold courierref15_Build.l0
      repeat' first
      | (with_reducible exact ih0 _ _ _ _ _ _ _ _ _ _ _ _ _)
      | (with_reducible exact courierref01_Varint.mono _ _ _)
      | (with_reducible exact courierref15_Formed.mono _ _ _ _ _ _ _ _ _ _)
      | (with_reducible exact courierref15_Sum.mono _ _)
      | (with_reducible exact LeO.refl _)
      | (with_reducible exact LeO.none _)
      | (with_reducible refine LeO.ite ?_ ?_)
      | (with_reducible refine LeO.bind ?_ (fun _ => ?_))
      | exact ih0 _ _ _ _ _ _ _ _ _ _ _ _ _
      | exact courierref01_Varint.mono _ _ _
      | exact courierref15_Formed.mono _ _ _ _ _ _ _ _ _ _
      | exact courierref15_Sum.mono _ _
      | exact LeO.none _
      | refine LeO.ite ?_ ?_
      | refine LeO.bind ?_ (fun _ => ?_)
theorem courierref15_Build.mono : ∀ a0 a1 a2 a3 a4 a5 a6 a7 a8 k, LeO (courierref15_Build.f k a0 a1 a2 a3 a4 a5 a6 a7 a8) (courierref15_Build.f (k + 1) a0 a1 a2 a3 a4 a5 a6 a7 a8) := by
  intro a0 a1 a2 a3 a4 a5 a6 a7 a8 k
  have ih0 := courierref15_Build.mono_l k
  unfold courierref15_Build.f
  repeat' first
      | (with_reducible exact ih0 _ _ _ _ _ _ _ _ _ _ _ _ _)
      | (with_reducible exact courierref01_Varint.mono _ _ _)
      | (with_reducible exact courierref15_Formed.mono _ _ _ _ _ _ _ _ _ _)
      | (with_reducible exact courierref15_Sum.mono _ _)
      | (with_reducible exact LeO.refl _)
      | (with_reducible exact LeO.none _)
      | (with_reducible refine LeO.ite ?_ ?_)
      | (with_reducible refine LeO.bind ?_ (fun _ => ?_))
      | exact ih0 _ _ _ _ _ _ _ _ _ _ _ _ _
      | exact courierref01_Varint.mono _ _ _
      | exact courierref15_Formed.mono _ _ _ _ _ _ _ _ _ _
      | exact courierref15_Sum.mono _ _
      | exact LeO.none _
      | refine LeO.ite ?_ ?_
      | refine LeO.bind ?_ (fun _ => ?_)
set_option maxHeartbeats 8000000 in
set_option maxRecDepth 100000 in
theorem courierref15_Build.calls (k : Nat) (a0_0 : Int) (a0_1 : Int) (a0_2 : Int) (a0_3 : Int) (a0_4 : Int) (a0_5 : Int) (a0_6 : Int) (a0_7 : Int) (A0_8 : Option Addr) (c0_8 : Nat) (l0_8 : List Int) (r1 : List Int) (r2 : Int) (w : World) (hr0_8 : Kd.C (Kd.int .u8) w A0_8 l0_8.length l0_8) (hc0_8 : l0_8.length ≤ c0_8) (h : courierref15_Build.f k a0_0 a0_1 a0_2 a0_3 a0_4 a0_5 a0_6 a0_7 l0_8 = some (r1, r2)) :
    Calls Try.prog 11 #[.agg #[.int .i64 a0_0, .int .i64 a0_1, .int .u64 a0_2, .int .i64 a0_3, .int .u64 a0_4, .int .i64 a0_5, .int .i64 a0_6, .int .i64 a0_7, .slice A0_8 l0_8.length c0_8]] w fun e w' => ∃ v0_ : Value, e = .returned (.tuple #[v0_, .int .i64 r2]) ∧ Kd.R (Kd.int .u8) 5 w' w.heap.size (fun _ => True) v0_ r1 ∧ Below w.heap.size w w' := by
  have hu25 := Try.underlying25
  have HR0_8 := Aside0.mk hr0_8
  have HC0_8 := Aside0.mk hc0_8
  clear hr0_8 hc0_8
  have HB := Aside0.mk (Below.refl w.heap.size w)
  have H : ((courierref15_Formed.f k a0_0 a0_1 a0_2 a0_3 a0_4 a0_5 a0_6 a0_7 l0_8).bind fun t156 => (if t156 = true then ((some (([IntKind.u64.wrap (a0_0), IntKind.u64.wrap (a0_1), a0_2, IntKind.u64.wrap (a0_3), a0_4, IntKind.u64.wrap (a0_5), IntKind.u64.wrap (a0_6), IntKind.u64.wrap (a0_7), IntKind.u64.wrap ((l0_8.length : Int))] : List Int) : List Int)).bind fun y160 => (courierref15_Build.l0 k (([199] : List Int)) y160 (y160.length : Int) 0 a0_0 a0_1 a0_2 a0_3 a0_4 a0_5 a0_6 a0_7 l0_8)) else (some (([] : List Int), 1)))) = some (r1, r2) := h
  clear h
  replace H := Option.bind_eq_some_iff.mp H
  obtain ⟨t156, A20, H⟩ := H
  replace H : (if t156 = true then ((some (([IntKind.u64.wrap (a0_0), IntKind.u64.wrap (a0_1), a0_2, IntKind.u64.wrap (a0_3), a0_4, IntKind.u64.wrap (a0_5), IntKind.u64.wrap (a0_6), IntKind.u64.wrap (a0_7), IntKind.u64.wrap ((l0_8.length : Int))] : List Int) : List Int)).bind fun y160 => (courierref15_Build.l0 k (([199] : List Int)) y160 (y160.length : Int) 0 a0_0 a0_1 a0_2 a0_3 a0_4 a0_5 a0_6 a0_7 l0_8)) else (some (([] : List Int), 1))) = some (r1, r2) := H
  have A2 := Aside0.mk A20
  clear A20
  by_cases c3 : t156 = true
  · subst c3
    have H1 : ((some (([IntKind.u64.wrap (a0_0), IntKind.u64.wrap (a0_1), a0_2, IntKind.u64.wrap (a0_3), a0_4, IntKind.u64.wrap (a0_5), IntKind.u64.wrap (a0_6), IntKind.u64.wrap (a0_7), IntKind.u64.wrap ((l0_8.length : Int))] : List Int) : List Int)).bind fun y160 => (courierref15_Build.l0 k (([199] : List Int)) y160 (y160.length : Int) 0 a0_0 a0_1 a0_2 a0_3 a0_4 a0_5 a0_6 a0_7 l0_8)) = some (r1, r2) := by rw [if_pos rfl] at H; exact H
    clear H
    have H := H1
    clear H1
    obtain ⟨y157, hy157⟩ : ∃ y_ : List Int, y_ = (([199] : List Int)) := ⟨_, rfl⟩
    replace H : ((some (([IntKind.u64.wrap (a0_0), IntKind.u64.wrap (a0_1), a0_2, IntKind.u64.wrap (a0_3), a0_4, IntKind.u64.wrap (a0_5), IntKind.u64.wrap (a0_6), IntKind.u64.wrap (a0_7), IntKind.u64.wrap ((l0_8.length : Int))] : List Int) : List Int)).bind fun y160 => (courierref15_Build.l0 k y157 y160 (y160.length : Int) 0 a0_0 a0_1 a0_2 a0_3 a0_4 a0_5 a0_6 a0_7 l0_8)) = some (r1, r2) := by first | (rw [hy157]; with_reducible exact H) | (have H2_ := (Option.bind_some _ _).symm.trans H; rw [hy157]; with_reducible exact H2_) | (have H2_ := (Option.bind_some _ _).symm.trans H; with_reducible exact H2_) | with_reducible exact H | (rw [hy157]; exact H) | exact H
    have Ny157 := Aside0.mk hy157
    clear hy157
    obtain ⟨y160, hy160⟩ : ∃ y_ : List Int, y_ = (([IntKind.u64.wrap (a0_0), IntKind.u64.wrap (a0_1), a0_2, IntKind.u64.wrap (a0_3), a0_4, IntKind.u64.wrap (a0_5), IntKind.u64.wrap (a0_6), IntKind.u64.wrap (a0_7), IntKind.u64.wrap ((l0_8.length : Int))] : List Int)) := ⟨_, rfl⟩
    replace H : (courierref15_Build.l0 k y157 y160 (y160.length : Int) 0 a0_0 a0_1 a0_2 a0_3 a0_4 a0_5 a0_6 a0_7 l0_8) = some (r1, r2) := by first | (rw [hy160]; with_reducible exact H) | (have H2_ := (Option.bind_some _ _).symm.trans H; rw [hy160]; with_reducible exact H2_) | (have H2_ := (Option.bind_some _ _).symm.trans H; with_reducible exact H2_) | with_reducible exact H | (rw [hy160]; exact H) | exact H
    have Ny160 := Aside0.mk hy160
    clear hy160
    have H' := Aside0.mk H
    clear H
    go_enter Try.func11, Try.ntmps11
    go_wp2_with (first | ((with_reducible refine gate_dst (N := 1) rfl ?_); refine box_event ?hg (N := 1) ?hd (cs := #[.int .i64 a0_0, .int .i64 a0_1, .int .u64 a0_2, .int .i64 a0_3, .int .u64 a0_4, .int .i64 a0_5, .int .i64 a0_6, .int .i64 a0_7, .slice A0_8 l0_8.length c0_8]) (t := 25) ?hr ?_; (case hd => rfl); (case hg => rfl); (case hr => first | (go_simp; done) | (go_simp; rfl)); intro gb155 hg w4 hbox hb; have n0_ := Aside0.mk (below_step (by repeat (first | (with_reducible first | exact HB.out | apply below_alloc | apply pw_below_drewN | apply below_drew1) | exact HB.out)) hb); have n1_ := Aside0.mk (hbox); have n2_ := Aside0.mk ((by rw [hg]; exact (below_size (by repeat (first | (with_reducible first | exact HB.out | apply below_alloc | apply pw_below_drewN | apply below_drew1) | exact HB.out))) : w.heap.size ≤ gb155)); have n3_ := Aside0.mk ((by rw [hg]; exact (below_size (by repeat (first | (with_reducible first | exact HB.out | apply below_alloc | apply pw_below_drewN | apply below_drew1) | exact HB.out))) : w.heap.size ≤ gb155)); clear HB; have HB := n0_; have BK155 := n1_; have GW155 := n2_; have GE155 := n3_; clear n0_ n1_ n2_ n3_; clear hb hbox hg; have hcz5_0 : w4.cell? ⟨gb155, 0, none⟩ = some (.int .i64 a0_0) := (blk_cell BK155.out 0).trans rfl; have hcz5_1 : w4.cell? ⟨gb155, 1, none⟩ = some (.int .i64 a0_1) := (blk_cell BK155.out 1).trans rfl; have hcz5_2 : w4.cell? ⟨gb155, 2, none⟩ = some (.int .u64 a0_2) := (blk_cell BK155.out 2).trans rfl; have hcz5_3 : w4.cell? ⟨gb155, 3, none⟩ = some (.int .i64 a0_3) := (blk_cell BK155.out 3).trans rfl; have hcz5_4 : w4.cell? ⟨gb155, 4, none⟩ = some (.int .u64 a0_4) := (blk_cell BK155.out 4).trans rfl; have hcz5_5 : w4.cell? ⟨gb155, 5, none⟩ = some (.int .i64 a0_5) := (blk_cell BK155.out 5).trans rfl; have hcz5_6 : w4.cell? ⟨gb155, 6, none⟩ = some (.int .i64 a0_6) := (blk_cell BK155.out 6).trans rfl; have hcz5_7 : w4.cell? ⟨gb155, 7, none⟩ = some (.int .i64 a0_7) := (blk_cell BK155.out 7).trans rfl; have hcz5_8 : w4.cell? ⟨gb155, 8, none⟩ = some (.slice A0_8 l0_8.length c0_8) := (blk_cell BK155.out 8).trans rfl; have hfz5_0 := blk_frozen BK155.out 0; have hfz5_1 := blk_frozen BK155.out 1; have hfz5_2 := blk_frozen BK155.out 2; have hfz5_3 := blk_frozen BK155.out 3; have hfz5_4 := blk_frozen BK155.out 4; have hfz5_5 := blk_frozen BK155.out 5; have hfz5_6 := blk_frozen BK155.out 6; have hfz5_7 := blk_frozen BK155.out 7; have hfz5_8 := blk_frozen BK155.out 8) | ((with_reducible refine gate_callee (f := 13) rfl ?_); refine goesL_ (some 9) rfl rfl Try.func13 (by kernel_rfl) rfl #[.agg #[.int .i64 a0_0, .int .i64 a0_1, .int .u64 a0_2, .int .i64 a0_3, .int .u64 a0_4, .int .i64 a0_5, .int .i64 a0_6, .int .i64 a0_7, .slice A0_8 l0_8.length c0_8]] rfl (by (try simp only [List.map_toArray, List.map_cons, List.map_nil]); first | done | rfl | (simp only [List.length_drop, List.length_take]; rfl)) ?_; (with_reducible refine (courierref15_Formed.calls k a0_0 a0_1 a0_2 a0_3 a0_4 a0_5 a0_6 a0_7 _ _ l0_8 true _ ?side1 ?side2 A2.out).mono ?_); (case side1 => repeat (first | exact (Kd.C_below HR0_8.out HB.out) | (with_reducible refine Kd.C_alloc ?_ _) | (with_reducible refine Kd.C_drewN ?_ _) | (with_reducible refine Kd.C_drew ?_))); (case side2 => exact HC0_8.out); rintro e w6 ⟨rfl, hb⟩; refine ⟨_, rfl, ?_⟩; have n0_ := Aside0.mk (blk_below (g := gb155) (o := .cells #[.int .i64 a0_0, .int .i64 a0_1, .int .u64 a0_2, .int .i64 a0_3, .int .u64 a0_4, .int .i64 a0_5, .int .i64 a0_6, .int .i64 a0_7, .slice A0_8 l0_8.length c0_8] 25 (0, 0)) (by (with_reducible repeat (first | refine blk_drewN ?_ _ | refine blk_drew ?_ | refine blk_alloc ?_ _)); exact BK155.out) hb); have n1_ := Aside0.mk (below_step (by repeat (first | (with_reducible first | exact HB.out | apply below_alloc | apply pw_below_drewN | apply below_drew1 | refine below_set ?_ GE155.out) | exact HB.out)) hb); clear BK155; clear HB; have BK155 := n0_; have HB := n1_; clear n0_ n1_; (try clear hb); (try clear hb2); (try clear hk); (try clear hi)) | ((with_reducible refine gate_dst (N := 11) rfl ?_); refine Kd.R_lit (Kd.int .u8) _ 5 ?hg (N := 11) ?hd (xs := ([199] : List Int)) (inner := [.int .u8 199]) (ok := fun _ => True) (okp := fun _ => True) ?hr ?hp (fun _ hk => hk) trivial (Below.refl _ _) (Nat.le_refl _) (by simp) ?_; (case hd => rfl); (case hg => rfl); (case hr => first | (go_simp; done) | (go_simp; rfl)); (case hp => exact (Reps.one (show Kd.M (Kd.int .u8) _ _ _ 199 [.int .u8 199] from rfl) (Reps.none _ _))); intro v158 w7 ho8 hb hg_ hnew_; clear hg_ hnew_; (first | rw [← Ny157.out] at ho8 | (simp only [Int.reduceToNat] at ho8; rw [← Ny157.out] at ho8)); have n0_ := Aside0.mk (Kd.R_lower ho8 (below_size (by repeat (first | (with_reducible first | exact HB.out | apply below_alloc | apply pw_below_drewN | apply below_drew1 | refine below_set ?_ GE155.out) | exact HB.out)))); have n1_ := Aside0.mk (blk_below (g := gb155) (o := .cells #[.int .i64 a0_0, .int .i64 a0_1, .int .u64 a0_2, .int .i64 a0_3, .int .u64 a0_4, .int .i64 a0_5, .int .i64 a0_6, .int .i64 a0_7, .slice A0_8 l0_8.length c0_8] 25 (0, 0)) (by (with_reducible repeat (first | refine blk_drewN ?_ _ | refine blk_drew ?_ | refine blk_alloc ?_ _)); exact BK155.out) hb); have n2_ := Aside0.mk (below_step (by repeat (first | (with_reducible first | exact HB.out | apply below_alloc | apply pw_below_drewN | apply below_drew1 | refine below_set ?_ GE155.out) | exact HB.out)) hb); clear BK155; clear HB; have HO159 := n0_; have BK155 := n1_; have HB := n2_; clear n0_ n1_ n2_; clear hb ho8; have hcz9_0 : w7.cell? ⟨gb155, 0, none⟩ = some (.int .i64 a0_0) := (blk_cell BK155.out 0).trans rfl; have hcz9_1 : w7.cell? ⟨gb155, 1, none⟩ = some (.int .i64 a0_1) := (blk_cell BK155.out 1).trans rfl; have hcz9_2 : w7.cell? ⟨gb155, 2, none⟩ = some (.int .u64 a0_2) := (blk_cell BK155.out 2).trans rfl; have hcz9_3 : w7.cell? ⟨gb155, 3, none⟩ = some (.int .i64 a0_3) := (blk_cell BK155.out 3).trans rfl; have hcz9_4 : w7.cell? ⟨gb155, 4, none⟩ = some (.int .u64 a0_4) := (blk_cell BK155.out 4).trans rfl; have hcz9_5 : w7.cell? ⟨gb155, 5, none⟩ = some (.int .i64 a0_5) := (blk_cell BK155.out 5).trans rfl; have hcz9_6 : w7.cell? ⟨gb155, 6, none⟩ = some (.int .i64 a0_6) := (blk_cell BK155.out 6).trans rfl; have hcz9_7 : w7.cell? ⟨gb155, 7, none⟩ = some (.int .i64 a0_7) := (blk_cell BK155.out 7).trans rfl; have hcz9_8 : w7.cell? ⟨gb155, 8, none⟩ = some (.slice A0_8 l0_8.length c0_8) := (blk_cell BK155.out 8).trans rfl; have hfz9_0 := blk_frozen BK155.out 0; have hfz9_1 := blk_frozen BK155.out 1; have hfz9_2 := blk_frozen BK155.out 2; have hfz9_3 := blk_frozen BK155.out 3; have hfz9_4 := blk_frozen BK155.out 4; have hfz9_5 := blk_frozen BK155.out 5; have hfz9_6 := blk_frozen BK155.out 6; have hfz9_7 := blk_frozen BK155.out 7; have hfz9_8 := blk_frozen BK155.out 8) | ((with_reducible refine gate_dst (N := 38) rfl ?_); refine Kd.R_lit (Kd.int .u64) _ 22 ?hg (N := 38) ?hd (xs := ([IntKind.u64.wrap (a0_0), IntKind.u64.wrap (a0_1), a0_2, IntKind.u64.wrap (a0_3), a0_4, IntKind.u64.wrap (a0_5), IntKind.u64.wrap (a0_6), IntKind.u64.wrap (a0_7), IntKind.u64.wrap ((l0_8.length : Int))] : List Int)) (inner := [.int .u64 (IntKind.u64.wrap (a0_0)), .int .u64 (IntKind.u64.wrap (a0_1)), .int .u64 a0_2, .int .u64 (IntKind.u64.wrap (a0_3)), .int .u64 a0_4, .int .u64 (IntKind.u64.wrap (a0_5)), .int .u64 (IntKind.u64.wrap (a0_6)), .int .u64 (IntKind.u64.wrap (a0_7)), .int .u64 (IntKind.u64.wrap ((l0_8.length : Int)))]) (ok := fun _ => True) (okp := fun _ => True) ?hr ?hp (fun _ hk => hk) trivial (Below.refl _ _) (Nat.le_refl _) (by simp) ?_; (case hd => rfl); (case hg => rfl); (case hr => first | (go_simp; done) | (go_simp; rfl)); (case hp => exact (Reps.one (show Kd.M (Kd.int .u64) _ _ _ (IntKind.u64.wrap (a0_0)) [.int .u64 (IntKind.u64.wrap (a0_0))] from rfl) (Reps.one (show Kd.M (Kd.int .u64) _ _ _ (IntKind.u64.wrap (a0_1)) [.int .u64 (IntKind.u64.wrap (a0_1))] from rfl) (Reps.one (show Kd.M (Kd.int .u64) _ _ _ a0_2 [.int .u64 a0_2] from rfl) (Reps.one (show Kd.M (Kd.int .u64) _ _ _ (IntKind.u64.wrap (a0_3)) [.int .u64 (IntKind.u64.wrap (a0_3))] from rfl) (Reps.one (show Kd.M (Kd.int .u64) _ _ _ a0_4 [.int .u64 a0_4] from rfl) (Reps.one (show Kd.M (Kd.int .u64) _ _ _ (IntKind.u64.wrap (a0_5)) [.int .u64 (IntKind.u64.wrap (a0_5))] from rfl) (Reps.one (show Kd.M (Kd.int .u64) _ _ _ (IntKind.u64.wrap (a0_6)) [.int .u64 (IntKind.u64.wrap (a0_6))] from rfl) (Reps.one (show Kd.M (Kd.int .u64) _ _ _ (IntKind.u64.wrap (a0_7)) [.int .u64 (IntKind.u64.wrap (a0_7))] from rfl) (Reps.one (show Kd.M (Kd.int .u64) _ _ _ (IntKind.u64.wrap ((l0_8.length : Int))) [.int .u64 (IntKind.u64.wrap ((l0_8.length : Int)))] from rfl) (Reps.none _ _))))))))))); intro v161 w10 ho11 hb hg_ hnew_; clear hg_ hnew_; (first | rw [← Ny160.out] at ho11 | (simp only [Int.reduceToNat] at ho11; rw [← Ny160.out] at ho11)); have n0_ := Aside0.mk (Kd.R_below (by (with_reducible repeat (first | apply Kd.R_alloc | apply Kd.R_drewN | apply Kd.R_drew)); exact HO159.out) hb); have n1_ := Aside0.mk (Kd.R_lower ho11 (below_size (by repeat (first | (with_reducible first | exact HB.out | apply below_alloc | apply pw_below_drewN | apply below_drew1 | refine below_set ?_ GE155.out) | exact HB.out)))); have n2_ := Aside0.mk (blk_below (g := gb155) (o := .cells #[.int .i64 a0_0, .int .i64 a0_1, .int .u64 a0_2, .int .i64 a0_3, .int .u64 a0_4, .int .i64 a0_5, .int .i64 a0_6, .int .i64 a0_7, .slice A0_8 l0_8.length c0_8] 25 (0, 0)) (by (with_reducible repeat (first | refine blk_drewN ?_ _ | refine blk_drew ?_ | refine blk_alloc ?_ _)); exact BK155.out) hb); have n3_ := Aside0.mk (below_step (by repeat (first | (with_reducible first | exact HB.out | apply below_alloc | apply pw_below_drewN | apply below_drew1 | refine below_set ?_ GE155.out) | exact HB.out)) hb); clear HO159; clear BK155; clear HB; have HO159 := n0_; have HO162 := n1_; have BK155 := n2_; have HB := n3_; clear n0_ n1_ n2_ n3_; clear hb ho11; obtain ⟨Ao12, co12, eo12⟩ := Kd.R_slice HO162.out; subst eo12))
    go_loopg [4, 41] k (fun kq v4 v41 w' => ∃ (x4_1 : List Int) (x41_1 : Int), v41 = .int .i64 x41_1 ∧ Aside0 (courierref15_Build.l0 kq x4_1 y160 (y160.length : Int) x41_1 a0_0 a0_1 a0_2 a0_3 a0_4 a0_5 a0_6 a0_7 l0_8 = some (r1, r2)) ∧ Aside0 (kq ≤ k) ∧ Aside0 (Kd.R (Kd.int .u8) 5 w' w.heap.size (fun _ => True) v4 x4_1) ∧ Aside0 (Kd.R (Kd.int .u64) 22 w' w.heap.size (fun _ => True) (.slice Ao12 y160.length co12) y160) ∧ Aside0 (w'.heap[gb155]? = some (.cells #[.int .i64 a0_0, .int .i64 a0_1, .int .u64 a0_2, .int .i64 a0_3, .int .u64 a0_4, .int .i64 a0_5, .int .i64 a0_6, .int .i64 a0_7, (.slice A0_8 l0_8.length c0_8)] 25 (0, 0))) ∧ Aside0 (Below w.heap.size w w'))
    case atStart => exact ⟨(y157), (0), (by first | rfl | (simp; done) | (simp [*]; done)), H', ⟨Nat.le_refl _⟩, ⟨by (with_reducible repeat (first | apply Kd.R_alloc | apply Kd.R_drewN | apply Kd.R_drew)); exact HO159.out⟩, ⟨by (with_reducible repeat (first | apply Kd.R_alloc | apply Kd.R_drewN | apply Kd.R_drew)); exact HO162.out⟩, ⟨by (with_reducible repeat (first | refine blk_drewN ?_ _ | refine blk_drew ?_ | refine blk_alloc ?_ _)); exact BK155.out⟩, ⟨by repeat (first | (with_reducible first | exact HB.out | apply below_alloc | apply pw_below_drewN | apply below_drew1 | refine below_set ?_ GE155.out) | exact HB.out)⟩⟩
    case round =>
      clear H'
      try clear c1
      try clear p2
      try clear c3
      try clear c11
      try clear hcz5_0
      try clear hcz5_1
      try clear hcz5_2
      try clear hcz5_3
      try clear hcz5_4
      try clear hcz5_5
      try clear hcz5_6
      try clear hcz5_7
      try clear hcz5_8
      try clear hcz9_0
      try clear hcz9_1
      try clear hcz9_2
      try clear hcz9_3
      try clear hcz9_4
      try clear hcz9_5
      try clear hcz9_6
      try clear hcz9_7
      try clear hcz9_8
      try clear hfz5_0
      try clear hfz5_1
      try clear hfz5_2
      try clear hfz5_3
      try clear hfz5_4
      try clear hfz5_5
      try clear hfz5_6
      try clear hfz5_7
      try clear hfz5_8
      try clear hfz9_0
      try clear hfz9_1
      try clear hfz9_2
      try clear hfz9_3
      try clear hfz9_4
      try clear hfz9_5
      try clear hfz9_6
      try clear hfz9_7
      try clear hfz9_8
      obtain ⟨x4_1, x41_1, rfl, HA, HK1, HO_4, HO_5, BK155, HB⟩ := hrel
      cases gk with
      | zero => exact absurd HA.out (by simp [courierref15_Build.l0])
      | succ k1 =>
        have H := HA.out
        clear HA
        simp only [courierref15_Build.l0] at H
        by_cases c13 : x41_1 < (y160.length : Int)
        · rw [if_pos c13] at H
          have c13b0 : decide (x41_1 < (y160.length : Int)) = true := decide_eq_true c13
          clear c13
          by_cases c14 : 0 ≤ x41_1
          · rw [if_pos c14] at H
            have c14b0 : decide (0 ≤ x41_1) = true := decide_eq_true c14
            clear c14
            by_cases c15 : x41_1 < (y160.length : Int)
            · rw [if_pos c15] at H
              have c15b0 : decide (x41_1 < (y160.length : Int)) = true := decide_eq_true c15
              clear c15
              replace H := Option.bind_eq_some_iff.mp H
              obtain ⟨t164, A160, H⟩ := H
              replace H : (courierref15_Build.l0 k1 t164 y160 (y160.length : Int) (wrap64 (x41_1 + 1)) a0_0 a0_1 a0_2 a0_3 a0_4 a0_5 a0_6 a0_7 l0_8) = some (r1, r2) := H
              have A16 := Aside0.mk A160
              clear A160
              have H' := Aside0.mk H
              clear H
              have p163 : 0 ≤ (x41_1 : Int) := of_decide_eq_true (by first | (with_reducible assumption) | assumption)
              have q163 : x41_1 < (y160.length : Int) := of_decide_eq_true (by first | (with_reducible assumption) | assumption)
              obtain ⟨ad163, e163, hx163_0⟩ := Kd.at_int (Kd.R_reads' HO_5.out).2.2 x41_1 p163 q163
              cases e163
              replace p163 := eq_true p163
              replace q163 := eq_true q163
              obtain ⟨Ao17, co17, eo17⟩ := Kd.R_slice HO_4.out
              subst eo17
              go_wp2_with (first | ((with_reducible refine gate_callee (f := 20) rfl ?_); refine goesL_ (some 49) rfl rfl Try.func20 (by kernel_rfl) rfl #[.slice Ao17 x4_1.length co17, .int .u64 (rd y160 x41_1)] rfl (by (try simp only [List.map_toArray, List.map_cons, List.map_nil]); first | done | rfl | (simp only [List.length_drop, List.length_take]; rfl)) ?_; (with_reducible refine (courierref01_Varint.calls k1 (fun k_ => some k_ = (.slice Ao17 x4_1.length co17 : Value).ownBlock) (.slice Ao17 x4_1.length co17) x4_1 (rd y160 x41_1) t164 w _ ?side1 ?side2 A16.out).mono ?_); (case side1 => repeat (first | (with_reducible first | exact HB.out | apply below_alloc | apply pw_below_drewN | apply below_drew1 | refine below_set ?_ GE155.out) | exact HB.out)); (case side2 => exact Kd.R_tight rfl HO_4.out); rintro e w18 ⟨v165, rfl, ho0, hb, hkp⟩; refine ⟨_, rfl, ?_⟩; have n0_ := Aside0.mk (Kd.R_mono (ok' := fun k_ => True) (Kd.R_keptB ((Kd.R_apart' HO_5.out (Kd.R_typed HO_4.out) (by decide))) hkp (fun k_ hk_ hs_ => (hk_.2) hs_)) (fun k_ hk_ => trivial)); have n1_ := Aside0.mk (blk_kept (by (with_reducible repeat (first | refine blk_drewN ?_ _ | refine blk_drew ?_ | refine blk_alloc ?_ _)); exact BK155.out) hkp (fun hs_ => (fun e_ => (Kd.R_ne HO_4.out BK155.out (by decide)) e_) hs_)); have n2_ := Aside0.mk (Kd.R_mono (ok' := fun k_ => True) ho0 (fun k_ hk_ => trivial)); have n3_ := Aside0.mk (hb); clear HO_5; clear BK155; clear HB; clear HO_4; have HO_5 := n0_; have BK155 := n1_; have HO166 := n2_; have HB := n3_; clear n0_ n1_ n2_ n3_; (try clear hb); (try clear hkp); (try clear ho0)))
              go_roundg k1
              case measure => have := HK1.out; omega
              case rel => exact ⟨(t164), (wrap64 (x41_1 + 1)), (by first | rfl | (simp; done) | (simp [*]; done)), H', ⟨by have := HK1.out; omega⟩, ⟨by (with_reducible repeat (first | apply Kd.R_alloc | apply Kd.R_drewN | apply Kd.R_drew)); exact HO166.out⟩, ⟨by (with_reducible repeat (first | apply Kd.R_alloc | apply Kd.R_drewN | apply Kd.R_drew)); exact HO_5.out⟩, ⟨by (with_reducible repeat (first | refine blk_drewN ?_ _ | refine blk_drew ?_ | refine blk_alloc ?_ _)); exact BK155.out⟩, ⟨by repeat (first | (with_reducible first | exact HB.out | apply below_alloc | apply pw_below_drewN | apply below_drew1 | refine below_set ?_ GE155.out) | exact HB.out)⟩⟩
            · rw [if_neg c15] at H
              exact absurd H (by simp)
          · rw [if_neg c14] at H
            exact absurd H (by simp)
        · rw [if_neg c13] at H
          have c13b0 : decide (x41_1 < (y160.length : Int)) = false := decide_eq_false c13
          clear c13
          by_cases c19 : x4_1.length + l0_8.length < 140737488355328
          · rw [if_pos c19] at H
            have LMc19 := Aside0.mk c19
            clear c19
            obtain ⟨y167, hy167⟩ : ∃ y_ : List Int, y_ = (x4_1 ++ l0_8) := ⟨_, rfl⟩
            replace H : ((courierref15_Sum.f k1 y167).bind fun t170 => ((some (([(t170 / 16777216) % 256, (t170 / 65536) % 256, (t170 / 256) % 256, (t170) % 256] : List Int) : List Int)).bind fun y171 => (if y167.length + y171.length < 140737488355328 then (some ((y167 ++ y171), 0)) else (none)))) = some (r1, r2) := by first | (rw [hy167]; with_reducible exact H) | (have H2_ := (Option.bind_some _ _).symm.trans H; rw [hy167]; with_reducible exact H2_) | (have H2_ := (Option.bind_some _ _).symm.trans H; with_reducible exact H2_) | with_reducible exact H | (rw [hy167]; exact H) | exact H
            have Ny167 := Aside0.mk hy167
            clear hy167
            replace H := Option.bind_eq_some_iff.mp H
            obtain ⟨t170, A200, H⟩ := H
            replace H : ((some (([(t170 / 16777216) % 256, (t170 / 65536) % 256, (t170 / 256) % 256, (t170) % 256] : List Int) : List Int)).bind fun y171 => (if y167.length + y171.length < 140737488355328 then (some ((y167 ++ y171), 0)) else (none))) = some (r1, r2) := H
            have A20 := Aside0.mk A200
            clear A200
            obtain ⟨y171, hy171⟩ : ∃ y_ : List Int, y_ = (([(t170 / 16777216) % 256, (t170 / 65536) % 256, (t170 / 256) % 256, (t170) % 256] : List Int)) := ⟨_, rfl⟩
            replace H : (if y167.length + y171.length < 140737488355328 then (some ((y167 ++ y171), 0)) else (none)) = some (r1, r2) := by first | (rw [hy171]; with_reducible exact H) | (have H2_ := (Option.bind_some _ _).symm.trans H; rw [hy171]; with_reducible exact H2_) | (have H2_ := (Option.bind_some _ _).symm.trans H; with_reducible exact H2_) | with_reducible exact H | (rw [hy171]; exact H) | exact H
            have Ny171 := Aside0.mk hy171
            clear hy171
            by_cases c21 : y167.length + y171.length < 140737488355328
            · rw [if_pos c21] at H
              have LMc21 := Aside0.mk c21
              clear c21
              obtain ⟨y174, hy174⟩ : ∃ y_ : List Int, y_ = (y167 ++ y171) := ⟨_, rfl⟩
              replace H : (some (y174, 0)) = some (r1, r2) := by first | (rw [hy174]; with_reducible exact H) | (have H2_ := (Option.bind_some _ _).symm.trans H; rw [hy174]; with_reducible exact H2_) | (have H2_ := (Option.bind_some _ _).symm.trans H; with_reducible exact H2_) | with_reducible exact H | (rw [hy174]; exact H) | exact H
              have Ny174 := Aside0.mk hy174
              clear hy174
              simp only [Option.some.injEq, Prod.mk.injEq] at H
              obtain ⟨rfl, rfl⟩ := H
              have hcz22_0 : wr.cell? ⟨gb155, 0, none⟩ = some (.int .i64 a0_0) := (blk_cell BK155.out 0).trans rfl
              have hcz22_1 : wr.cell? ⟨gb155, 1, none⟩ = some (.int .i64 a0_1) := (blk_cell BK155.out 1).trans rfl
              have hcz22_2 : wr.cell? ⟨gb155, 2, none⟩ = some (.int .u64 a0_2) := (blk_cell BK155.out 2).trans rfl
              have hcz22_3 : wr.cell? ⟨gb155, 3, none⟩ = some (.int .i64 a0_3) := (blk_cell BK155.out 3).trans rfl
              have hcz22_4 : wr.cell? ⟨gb155, 4, none⟩ = some (.int .u64 a0_4) := (blk_cell BK155.out 4).trans rfl
              have hcz22_5 : wr.cell? ⟨gb155, 5, none⟩ = some (.int .i64 a0_5) := (blk_cell BK155.out 5).trans rfl
              have hcz22_6 : wr.cell? ⟨gb155, 6, none⟩ = some (.int .i64 a0_6) := (blk_cell BK155.out 6).trans rfl
              have hcz22_7 : wr.cell? ⟨gb155, 7, none⟩ = some (.int .i64 a0_7) := (blk_cell BK155.out 7).trans rfl
              have hcz22_8 : wr.cell? ⟨gb155, 8, none⟩ = some (.slice A0_8 l0_8.length c0_8) := (blk_cell BK155.out 8).trans rfl
              have hfz22_0 := blk_frozen BK155.out 0
              have hfz22_1 := blk_frozen BK155.out 1
              have hfz22_2 := blk_frozen BK155.out 2
              have hfz22_3 := blk_frozen BK155.out 3
              have hfz22_4 := blk_frozen BK155.out 4
              have hfz22_5 := blk_frozen BK155.out 5
              have hfz22_6 := blk_frozen BK155.out 6
              have hfz22_7 := blk_frozen BK155.out 7
              have hfz22_8 := blk_frozen BK155.out 8
              go_wp2_with (first | ((with_reducible refine gate_builtin (b := .append) (xs := #[.tmp 51, .tmp 53]) rfl ?_); at_builtin; refine Kd.R_append_rows (Kd.int .u8) (w0 := w) w.heap.size rfl (.tmp 51) (.tmp 53) 23 5 (.int .u8 0) 1 rfl Try.underlying23 info5 rfl (by decide) (by omega) u4 x4_1 l0_8 _ _ _ (fun _ => True) (fun _ => False) rfl rfl ?aO ?aR (fun _ _ h => h) (fun _ h => h.elim) ?aF ?aB ?aS ?aL ?_; (case aR => repeat (first | exact (Kd.C_below HR0_8.out HB.out) | (with_reducible refine Kd.C_alloc ?_ _) | (with_reducible refine Kd.C_drewN ?_ _) | (with_reducible refine Kd.C_drew ?_))); (case aB => exact (by repeat (first | (with_reducible first | exact HB.out | apply below_alloc | apply pw_below_drewN | apply below_drew1 | refine below_set ?_ GE155.out) | exact HB.out))); (case aF => exact (fun _ _ => trivial)); (case aO => exact (by (with_reducible repeat (first | apply Kd.R_alloc | apply Kd.R_drewN | apply Kd.R_drew)); exact HO_4.out)); (case aS => exact (below_size (by repeat (first | (with_reducible first | exact HB.out | apply below_alloc | apply pw_below_drewN | apply below_drew1 | refine below_set ?_ GE155.out) | exact HB.out)))); (case aL => have := LMc19.out; omega); intro v168 w23 ho hb hg hat; rw [← Ny167.out] at ho; have n0_ := Aside0.mk (Kd.R_over' (by (with_reducible repeat (first | apply Kd.R_alloc | apply Kd.R_drewN | apply Kd.R_drew)); exact HO_5.out) (Kd.R_typed (by (with_reducible repeat (first | apply Kd.R_alloc | apply Kd.R_drewN | apply Kd.R_drew)); exact HO_4.out)) (by decide) hg); have n1_ := Aside0.mk (blk_grown (g := gb155) (o := .cells #[.int .i64 a0_0, .int .i64 a0_1, .int .u64 a0_2, .int .i64 a0_3, .int .u64 a0_4, .int .i64 a0_5, .int .i64 a0_6, .int .i64 a0_7, .slice A0_8 l0_8.length c0_8] 25 (0, 0)) (by (with_reducible repeat (first | refine blk_drewN ?_ _ | refine blk_drew ?_ | refine blk_alloc ?_ _)); exact BK155.out) hg (Kd.R_ne HO_4.out BK155.out (by decide))); have n2_ := Aside0.mk (hb); have n3_ := Aside0.mk (ho); clear HO_5; clear BK155; clear HB; clear HO_4; have HO_5 := n0_; have BK155 := n1_; have HB := n2_; have HO169 := n3_; clear n0_ n1_ n2_ n3_; clear ho hb hg hat; obtain ⟨Ao24, co24, eo24⟩ := Kd.R_slice HO169.out; subst eo24) | ((with_reducible refine gate_callee (f := 21) rfl ?_); refine goesL_ (some 56) rfl rfl Try.func21 (by kernel_rfl) rfl #[.slice Ao24 y167.length co24] rfl (by (try simp only [List.map_toArray, List.map_cons, List.map_nil]); first | done | rfl | (simp only [List.length_drop, List.length_take]; rfl)) ?_; (with_reducible refine (courierref15_Sum.calls k1 _ _ y167 t170 _ ?side1 ?side2 A20.out).mono ?_); (case side1 => repeat (first | exact (Kd.R_reads' HO169.out).2.2 | (with_reducible refine Kd.C_alloc ?_ _) | (with_reducible refine Kd.C_drewN ?_ _) | (with_reducible refine Kd.C_drew ?_))); (case side2 => exact (Kd.R_reads' HO169.out).2.1); rintro e w' ⟨rfl, ⟨nd, rfl⟩⟩; refine ⟨_, rfl, ?_⟩) | ((with_reducible refine gate_dst (N := 69) rfl ?_); refine Kd.R_lit (Kd.int .u8) _ 5 ?hg (N := 69) ?hd (xs := ([(t170 / 16777216) % 256, (t170 / 65536) % 256, (t170 / 256) % 256, (t170) % 256] : List Int)) (inner := [.int .u8 ((t170 / 16777216) % 256), .int .u8 ((t170 / 65536) % 256), .int .u8 ((t170 / 256) % 256), .int .u8 ((t170) % 256)]) (ok := fun _ => True) (okp := fun _ => True) ?hr ?hp (fun _ hk => hk) trivial (Below.refl _ _) (Nat.le_refl _) (by simp) ?_; (case hd => rfl); (case hg => rfl); (case hr => first | (go_simp; done) | (go_simp; rfl)); (case hp => exact (Reps.one (show Kd.M (Kd.int .u8) _ _ _ ((t170 / 16777216) % 256) [.int .u8 ((t170 / 16777216) % 256)] from rfl) (Reps.one (show Kd.M (Kd.int .u8) _ _ _ ((t170 / 65536) % 256) [.int .u8 ((t170 / 65536) % 256)] from rfl) (Reps.one (show Kd.M (Kd.int .u8) _ _ _ ((t170 / 256) % 256) [.int .u8 ((t170 / 256) % 256)] from rfl) (Reps.one (show Kd.M (Kd.int .u8) _ _ _ ((t170) % 256) [.int .u8 ((t170) % 256)] from rfl) (Reps.none _ _)))))); intro v172 w25 ho26 hb hg_ hnew_; clear hg_ hnew_; (first | rw [← Ny171.out] at ho26 | (simp only [Int.reduceToNat] at ho26; rw [← Ny171.out] at ho26)); have n0_ := Aside0.mk (Kd.R_below (by (with_reducible repeat (first | apply Kd.R_alloc | apply Kd.R_drewN | apply Kd.R_drew)); exact HO_5.out) hb); have n1_ := Aside0.mk (Kd.R_elder' (by (with_reducible repeat (first | apply Kd.R_alloc | apply Kd.R_drewN | apply Kd.R_drew)); exact HO169.out) (Kd.R_base ho26) hb); have n2_ := Aside0.mk (Kd.R_lower (Kd.R_new' ho26 (Kd.R_lt (by (with_reducible repeat (first | apply Kd.R_alloc | apply Kd.R_drewN | apply Kd.R_drew)); exact HO169.out))) (below_size (by repeat (first | (with_reducible first | exact HB.out | apply below_alloc | apply pw_below_drewN | apply below_drew1 | refine below_set ?_ GE155.out) | exact HB.out)))); have n3_ := Aside0.mk (blk_below (g := gb155) (o := .cells #[.int .i64 a0_0, .int .i64 a0_1, .int .u64 a0_2, .int .i64 a0_3, .int .u64 a0_4, .int .i64 a0_5, .int .i64 a0_6, .int .i64 a0_7, .slice A0_8 l0_8.length c0_8] 25 (0, 0)) (by (with_reducible repeat (first | refine blk_drewN ?_ _ | refine blk_drew ?_ | refine blk_alloc ?_ _)); exact BK155.out) hb); have n4_ := Aside0.mk (below_step (by repeat (first | (with_reducible first | exact HB.out | apply below_alloc | apply pw_below_drewN | apply below_drew1 | refine below_set ?_ GE155.out) | exact HB.out)) hb); clear HO_5; clear HO169; clear BK155; clear HB; have HO_5 := n0_; have HO169 := n1_; have HO173 := n2_; have BK155 := n3_; have HB := n4_; clear n0_ n1_ n2_ n3_ n4_; clear hb ho26; obtain ⟨Ao28, co28, eo28⟩ := Kd.R_slice HO173.out; subst eo28) | ((with_reducible refine gate_builtin (b := .append) (xs := #[.tmp 57, .tmp 69]) rfl ?_); at_builtin; refine Kd.R_append_rows (Kd.int .u8) (w0 := w) w.heap.size rfl (.tmp 57) (.tmp 69) 23 5 (.int .u8 0) 1 rfl Try.underlying23 info5 rfl (by decide) (by omega) (.slice Ao24 y167.length co24) y167 y171 _ _ _ (fun k_ => some k_ ≠ (.slice Ao28 y171.length co28 : Value).ownBlock) (fun _ => False) rfl rfl ?aO ?aR (fun _ _ h => h) (fun _ h => h.elim) ?aF ?aB ?aS ?aL ?_; (case aR => repeat (first | exact (Kd.R_reads' HO173.out).2.2 | (with_reducible refine Kd.C_alloc ?_ _) | (with_reducible refine Kd.C_drewN ?_ _) | (with_reducible refine Kd.C_drew ?_))); (case aB => exact (by repeat (first | (with_reducible first | exact HB.out | apply below_alloc | apply pw_below_drewN | apply below_drew1 | refine below_set ?_ GE155.out) | exact HB.out))); (case aF => exact (fun k_ hk => Kd.fresh' (Kd.R_lt (by (with_reducible repeat (first | apply Kd.R_alloc | apply Kd.R_drewN | apply Kd.R_drew)); exact HO173.out)) k_ hk)); (case aO => exact (by (with_reducible repeat (first | apply Kd.R_alloc | apply Kd.R_drewN | apply Kd.R_drew)); exact Kd.R_mono HO169.out (fun _ hk => hk.2))); (case aS => exact (below_size (by repeat (first | (with_reducible first | exact HB.out | apply below_alloc | apply pw_below_drewN | apply below_drew1 | refine below_set ?_ GE155.out) | exact HB.out)))); (case aL => have := LMc21.out; omega); intro v175 w27 ho hb hg hat; rw [← Ny174.out] at ho; have n0_ := Aside0.mk (Kd.R_over' (by (with_reducible repeat (first | apply Kd.R_alloc | apply Kd.R_drewN | apply Kd.R_drew)); exact HO_5.out) (Kd.R_typed (by (with_reducible repeat (first | apply Kd.R_alloc | apply Kd.R_drewN | apply Kd.R_drew)); exact HO169.out)) (by decide) hg); have n1_ := Aside0.mk (blk_grown (g := gb155) (o := .cells #[.int .i64 a0_0, .int .i64 a0_1, .int .u64 a0_2, .int .i64 a0_3, .int .u64 a0_4, .int .i64 a0_5, .int .i64 a0_6, .int .i64 a0_7, .slice A0_8 l0_8.length c0_8] 25 (0, 0)) (by (with_reducible repeat (first | refine blk_drewN ?_ _ | refine blk_drew ?_ | refine blk_alloc ?_ _)); exact BK155.out) hg (Kd.R_ne HO169.out BK155.out (by decide))); have n2_ := Aside0.mk (Kd.R_after (ok := (fun _ => True)) (by (with_reducible repeat (first | apply Kd.R_alloc | apply Kd.R_drewN | apply Kd.R_drew)); exact HO173.out) hg hat); have n3_ := Aside0.mk (hb); have n4_ := Aside0.mk (ho); clear HO_5; clear BK155; clear HO173; clear HB; clear HO169; have HO_5 := n0_; have BK155 := n1_; have HO173 := n2_; have HB := n3_; have HO176 := n4_; clear n0_ n1_ n2_ n3_ n4_; clear ho hb hg hat))
              go_ret2
              exact ⟨_, by first | rfl | (simp [errW_none, errW_some] <;> rfl) | (simp [*, errW_none, errW_some] <;> rfl), by (with_reducible repeat (first | apply Kd.R_alloc | apply Kd.R_drewN | apply Kd.R_drew)); exact Kd.R_mono HO176.out (fun _ hk => trivial), by repeat (first | (with_reducible first | exact HB.out | apply below_alloc | apply pw_below_drewN | apply below_drew1 | refine below_set ?_ GE155.out) | exact HB.out)⟩
            · rw [if_neg c21] at H
              exact absurd H (by simp)
          · rw [if_neg c19] at H
            exact absurd H (by simp)
  · replace c3 := Bool.eq_false_iff.mpr c3
    subst c3
    have H1 : (some (([] : List Int), 1)) = some (r1, r2) := by rw [if_neg (show ¬ (false = true) by decide)] at H; exact H
    clear H
    have H := H1
    clear H1
    simp only [Option.some.injEq, Prod.mk.injEq] at H
    obtain ⟨rfl, rfl⟩ := H
    go_enter Try.func11, Try.ntmps11
    go_wp2_with (first | ((with_reducible refine gate_dst (N := 1) rfl ?_); refine box_event ?hg (N := 1) ?hd (cs := #[.int .i64 a0_0, .int .i64 a0_1, .int .u64 a0_2, .int .i64 a0_3, .int .u64 a0_4, .int .i64 a0_5, .int .i64 a0_6, .int .i64 a0_7, .slice A0_8 l0_8.length c0_8]) (t := 25) ?hr ?_; (case hd => rfl); (case hg => rfl); (case hr => first | (go_simp; done) | (go_simp; rfl)); intro gb155 hg w29 hbox hb; have n0_ := Aside0.mk (below_step (by repeat (first | (with_reducible first | exact HB.out | apply below_alloc | apply pw_below_drewN | apply below_drew1) | exact HB.out)) hb); have n1_ := Aside0.mk (hbox); have n2_ := Aside0.mk ((by rw [hg]; exact (below_size (by repeat (first | (with_reducible first | exact HB.out | apply below_alloc | apply pw_below_drewN | apply below_drew1) | exact HB.out))) : w.heap.size ≤ gb155)); have n3_ := Aside0.mk ((by rw [hg]; exact (below_size (by repeat (first | (with_reducible first | exact HB.out | apply below_alloc | apply pw_below_drewN | apply below_drew1) | exact HB.out))) : w.heap.size ≤ gb155)); clear HB; have HB := n0_; have BK155 := n1_; have GW155 := n2_; have GE155 := n3_; clear n0_ n1_ n2_ n3_; clear hb hbox hg; have hcz30_0 : w29.cell? ⟨gb155, 0, none⟩ = some (.int .i64 a0_0) := (blk_cell BK155.out 0).trans rfl; have hcz30_1 : w29.cell? ⟨gb155, 1, none⟩ = some (.int .i64 a0_1) := (blk_cell BK155.out 1).trans rfl; have hcz30_2 : w29.cell? ⟨gb155, 2, none⟩ = some (.int .u64 a0_2) := (blk_cell BK155.out 2).trans rfl; have hcz30_3 : w29.cell? ⟨gb155, 3, none⟩ = some (.int .i64 a0_3) := (blk_cell BK155.out 3).trans rfl; have hcz30_4 : w29.cell? ⟨gb155, 4, none⟩ = some (.int .u64 a0_4) := (blk_cell BK155.out 4).trans rfl; have hcz30_5 : w29.cell? ⟨gb155, 5, none⟩ = some (.int .i64 a0_5) := (blk_cell BK155.out 5).trans rfl; have hcz30_6 : w29.cell? ⟨gb155, 6, none⟩ = some (.int .i64 a0_6) := (blk_cell BK155.out 6).trans rfl; have hcz30_7 : w29.cell? ⟨gb155, 7, none⟩ = some (.int .i64 a0_7) := (blk_cell BK155.out 7).trans rfl; have hcz30_8 : w29.cell? ⟨gb155, 8, none⟩ = some (.slice A0_8 l0_8.length c0_8) := (blk_cell BK155.out 8).trans rfl; have hfz30_0 := blk_frozen BK155.out 0; have hfz30_1 := blk_frozen BK155.out 1; have hfz30_2 := blk_frozen BK155.out 2; have hfz30_3 := blk_frozen BK155.out 3; have hfz30_4 := blk_frozen BK155.out 4; have hfz30_5 := blk_frozen BK155.out 5; have hfz30_6 := blk_frozen BK155.out 6; have hfz30_7 := blk_frozen BK155.out 7; have hfz30_8 := blk_frozen BK155.out 8) | ((with_reducible refine gate_callee (f := 13) rfl ?_); refine goesL_ (some 9) rfl rfl Try.func13 (by kernel_rfl) rfl #[.agg #[.int .i64 a0_0, .int .i64 a0_1, .int .u64 a0_2, .int .i64 a0_3, .int .u64 a0_4, .int .i64 a0_5, .int .i64 a0_6, .int .i64 a0_7, .slice A0_8 l0_8.length c0_8]] rfl (by (try simp only [List.map_toArray, List.map_cons, List.map_nil]); first | done | rfl | (simp only [List.length_drop, List.length_take]; rfl)) ?_; (with_reducible refine (courierref15_Formed.calls k a0_0 a0_1 a0_2 a0_3 a0_4 a0_5 a0_6 a0_7 _ _ l0_8 false _ ?side1 ?side2 A2.out).mono ?_); (case side1 => repeat (first | exact (Kd.C_below HR0_8.out HB.out) | (with_reducible refine Kd.C_alloc ?_ _) | (with_reducible refine Kd.C_drewN ?_ _) | (with_reducible refine Kd.C_drew ?_))); (case side2 => exact HC0_8.out); rintro e w31 ⟨rfl, hb⟩; refine ⟨_, rfl, ?_⟩; have n0_ := Aside0.mk (blk_below (g := gb155) (o := .cells #[.int .i64 a0_0, .int .i64 a0_1, .int .u64 a0_2, .int .i64 a0_3, .int .u64 a0_4, .int .i64 a0_5, .int .i64 a0_6, .int .i64 a0_7, .slice A0_8 l0_8.length c0_8] 25 (0, 0)) (by (with_reducible repeat (first | refine blk_drewN ?_ _ | refine blk_drew ?_ | refine blk_alloc ?_ _)); exact BK155.out) hb); have n1_ := Aside0.mk (below_step (by repeat (first | (with_reducible first | exact HB.out | apply below_alloc | apply pw_below_drewN | apply below_drew1 | refine below_set ?_ GE155.out) | exact HB.out)) hb); clear BK155; clear HB; have BK155 := n0_; have HB := n1_; clear n0_ n1_; (try clear hb); (try clear hb2); (try clear hk); (try clear hi)))
    go_ret2
    exact ⟨_, by first | rfl | (simp [errW_none, errW_some] <;> rfl) | (simp [*, errW_none, errW_some] <;> rfl), by first | exact Kd.R_nil _ _ _ _ _ | exact Kd.N_nil _ _ _ _ _ | exact Kd.V_nil _ _ _ _ _ | exact Kd.Q_nil _ _ _ _ _ | exact Kd.S_nil _ _ _ _ _, by repeat (first | (with_reducible first | exact HB.out | apply below_alloc | apply pw_below_drewN | apply below_drew1 | refine below_set ?_ GE155.out) | exact HB.out)⟩

end Go.Proofs.Ythhkdabajikckaa.X
