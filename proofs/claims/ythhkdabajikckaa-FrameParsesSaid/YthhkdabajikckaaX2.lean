/- Plain functions for Go's own, out of the translation's print, and a proof that each call comes to what they tell; no condition but the functions' own answers. -/
import Derived.Test.YthhkdabajikckaaX0
import Derived.Test.YthhkdabajikckaaX1
namespace Go.Proofs.Ythhkdabajikckaa.X
open Go.RowKit Go.Proofs.YthhkdabajikckaaW.PrintWords Go.Proofs.YthhkdabajikckaaW.PrintLast Go.Proofs.YthhkdabajikckaaW.PrintMore
attribute [local go_sem] max2_int min2_int max_two min_two max_three min_three max_four min_four Go.Proofs.Ythhkdabajikckaa.MyWords.put_isSome Go.Proofs.Ythhkdabajikckaa.MyWords.drewN_put   -- for this text's walks alone
set_option linter.unusedVariables false
set_option linter.unusedSimpArgs false

/-! ### frame_Formed: function 12 -/
mutual
def frame_Formed.j0 : Nat → Bool → Int → Int → Int → Int → Int → Int → Int → Int → List Int → Option (Bool)
  | 0, _, _, _, _, _, _, _, _, _, _ => none
  | k + 1, x3, x102000, x102001, x102002, x102003, x102004, x102005, x102006, x102007, x102008 => if x3 = true then (some false) else ((frame_number.f x102001).bind fun t102 => (if t102 = true then (if x102001 = 0 then (frame_Formed.j1 k true x102000 x102001 x102002 x102003 x102004 x102005 x102006 x102007 x102008) else ((frame_number.f x102005).bind fun t103 => (frame_Formed.j1 k (!t103) x102000 x102001 x102002 x102003 x102004 x102005 x102006 x102007 x102008))) else (frame_Formed.j1 k true x102000 x102001 x102002 x102003 x102004 x102005 x102006 x102007 x102008)))
def frame_Formed.j1 : Nat → Bool → Int → Int → Int → Int → Int → Int → Int → Int → List Int → Option (Bool)
  | 0, _, _, _, _, _, _, _, _, _, _ => none
  | k + 1, x3, x102000, x102001, x102002, x102003, x102004, x102005, x102006, x102007, x102008 => if x3 = true then (some false) else (if x102004 = 0 then (frame_Formed.j2 k true x102000 x102001 x102002 x102003 x102004 x102005 x102006 x102007 x102008) else (frame_Formed.j2 k (decide (x102004 > x102002)) x102000 x102001 x102002 x102003 x102004 x102005 x102006 x102007 x102008))
def frame_Formed.j2 : Nat → Bool → Int → Int → Int → Int → Int → Int → Int → Int → List Int → Option (Bool)
  | 0, _, _, _, _, _, _, _, _, _, _ => none
  | k + 1, x3, x102000, x102001, x102002, x102003, x102004, x102005, x102006, x102007, x102008 => if x3 = true then (some false) else (if x102003 < 0 then (frame_Formed.j3 k true x102000 x102001 x102002 x102003 x102004 x102005 x102006 x102007 x102008) else (frame_Formed.j3 k (decide (x102003 ≥ 6)) x102000 x102001 x102002 x102003 x102004 x102005 x102006 x102007 x102008))
def frame_Formed.j3 : Nat → Bool → Int → Int → Int → Int → Int → Int → Int → Int → List Int → Option (Bool)
  | 0, _, _, _, _, _, _, _, _, _, _ => none
  | k + 1, x3, x102000, x102001, x102002, x102003, x102004, x102005, x102006, x102007, x102008 => if x3 = true then (some false) else (if x102006 < 0 then (frame_Formed.j4 k true x102000 x102001 x102002 x102003 x102004 x102005 x102006 x102007 x102008) else (frame_Formed.j4 k (decide (x102006 > 1099511627776)) x102000 x102001 x102002 x102003 x102004 x102005 x102006 x102007 x102008))
def frame_Formed.j4 : Nat → Bool → Int → Int → Int → Int → Int → Int → Int → Int → List Int → Option (Bool)
  | 0, _, _, _, _, _, _, _, _, _, _ => none
  | k + 1, x3, x102000, x102001, x102002, x102003, x102004, x102005, x102006, x102007, x102008 => if x3 = true then (some false) else (if x102007 < 0 then (frame_Formed.j5 k true x102000 x102001 x102002 x102003 x102004 x102005 x102006 x102007 x102008) else (if x102007 > 255 then (frame_Formed.j5 k true x102000 x102001 x102002 x102003 x102004 x102005 x102006 x102007 x102008) else (if x102007 > 0 then (frame_Formed.j5 k (x102000 != 2) x102000 x102001 x102002 x102003 x102004 x102005 x102006 x102007 x102008) else (frame_Formed.j5 k false x102000 x102001 x102002 x102003 x102004 x102005 x102006 x102007 x102008))))
def frame_Formed.j5 : Nat → Bool → Int → Int → Int → Int → Int → Int → Int → Int → List Int → Option (Bool)
  | 0, _, _, _, _, _, _, _, _, _, _ => none
  | k + 1, x3, x102000, x102001, x102002, x102003, x102004, x102005, x102006, x102007, x102008 => if x3 = true then (some false) else (if (x102008.length : Int) > 4096 then (some false) else (if (x102008.length : Int) > 0 then (if x102000 = 3 then (some false) else (some true)) else (some true)))
end
def frame_Formed.f (k : Nat) (a0_0 : Int) (a0_1 : Int) (a0_2 : Int) (a0_3 : Int) (a0_4 : Int) (a0_5 : Int) (a0_6 : Int) (a0_7 : Int) (l0_8 : List Int) : Option (Bool) := if a0_0 < 1 then (frame_Formed.j0 k true a0_0 a0_1 a0_2 a0_3 a0_4 a0_5 a0_6 a0_7 l0_8) else (frame_Formed.j0 k (decide (a0_0 > 3)) a0_0 a0_1 a0_2 a0_3 a0_4 a0_5 a0_6 a0_7 l0_8)
theorem frame_Formed.mono_l : ∀ k, (∀ y0 y1 y2 y3 y4 y5 y6 y7 y8 y9, LeO (frame_Formed.j0 k y0 y1 y2 y3 y4 y5 y6 y7 y8 y9) (frame_Formed.j0 (k + 1) y0 y1 y2 y3 y4 y5 y6 y7 y8 y9)) ∧ (∀ y0 y1 y2 y3 y4 y5 y6 y7 y8 y9, LeO (frame_Formed.j1 k y0 y1 y2 y3 y4 y5 y6 y7 y8 y9) (frame_Formed.j1 (k + 1) y0 y1 y2 y3 y4 y5 y6 y7 y8 y9)) ∧ (∀ y0 y1 y2 y3 y4 y5 y6 y7 y8 y9, LeO (frame_Formed.j2 k y0 y1 y2 y3 y4 y5 y6 y7 y8 y9) (frame_Formed.j2 (k + 1) y0 y1 y2 y3 y4 y5 y6 y7 y8 y9)) ∧ (∀ y0 y1 y2 y3 y4 y5 y6 y7 y8 y9, LeO (frame_Formed.j3 k y0 y1 y2 y3 y4 y5 y6 y7 y8 y9) (frame_Formed.j3 (k + 1) y0 y1 y2 y3 y4 y5 y6 y7 y8 y9)) ∧ (∀ y0 y1 y2 y3 y4 y5 y6 y7 y8 y9, LeO (frame_Formed.j4 k y0 y1 y2 y3 y4 y5 y6 y7 y8 y9) (frame_Formed.j4 (k + 1) y0 y1 y2 y3 y4 y5 y6 y7 y8 y9)) ∧ (∀ y0 y1 y2 y3 y4 y5 y6 y7 y8 y9, LeO (frame_Formed.j5 k y0 y1 y2 y3 y4 y5 y6 y7 y8 y9) (frame_Formed.j5 (k + 1) y0 y1 y2 y3 y4 y5 y6 y7 y8 y9))
  | 0 => ⟨fun _ _ _ _ _ _ _ _ _ _ r h => by simp [frame_Formed.j0] at h, fun _ _ _ _ _ _ _ _ _ _ r h => by simp [frame_Formed.j1] at h, fun _ _ _ _ _ _ _ _ _ _ r h => by simp [frame_Formed.j2] at h, fun _ _ _ _ _ _ _ _ _ _ r h => by simp [frame_Formed.j3] at h, fun _ _ _ _ _ _ _ _ _ _ r h => by simp [frame_Formed.j4] at h, fun _ _ _ _ _ _ _ _ _ _ r h => by simp [frame_Formed.j5] at h⟩
  | k + 1 => by
    obtain ⟨ih0, ih1, ih2, ih3, ih4, ih5⟩ := frame_Formed.mono_l k
    refine ⟨?_, ?_, ?_, ?_, ?_, ?_⟩
    · intro y0 y1 y2 y3 y4 y5 y6 y7 y8 y9
      unfold frame_Formed.j0
      repeat' first
      | (with_reducible exact ih0 _ _ _ _ _ _ _ _ _ _)
      | (with_reducible exact ih1 _ _ _ _ _ _ _ _ _ _)
      | (with_reducible exact ih2 _ _ _ _ _ _ _ _ _ _)
      | (with_reducible exact ih3 _ _ _ _ _ _ _ _ _ _)
      | (with_reducible exact ih4 _ _ _ _ _ _ _ _ _ _)
      | (with_reducible exact ih5 _ _ _ _ _ _ _ _ _ _)
      | (with_reducible exact LeO.refl _)
      | (with_reducible exact LeO.none _)
      | (with_reducible refine LeO.ite ?_ ?_)
      | (with_reducible refine LeO.bind ?_ (fun _ => ?_))
      | exact ih0 _ _ _ _ _ _ _ _ _ _
      | exact ih1 _ _ _ _ _ _ _ _ _ _
      | exact ih2 _ _ _ _ _ _ _ _ _ _
      | exact ih3 _ _ _ _ _ _ _ _ _ _
      | exact ih4 _ _ _ _ _ _ _ _ _ _
      | exact ih5 _ _ _ _ _ _ _ _ _ _
      | exact LeO.none _
      | refine LeO.ite ?_ ?_
      | refine LeO.bind ?_ (fun _ => ?_)
    · intro y0 y1 y2 y3 y4 y5 y6 y7 y8 y9
      unfold frame_Formed.j1
      repeat' first
      | (with_reducible exact ih0 _ _ _ _ _ _ _ _ _ _)
      | (with_reducible exact ih1 _ _ _ _ _ _ _ _ _ _)
      | (with_reducible exact ih2 _ _ _ _ _ _ _ _ _ _)
      | (with_reducible exact ih3 _ _ _ _ _ _ _ _ _ _)
      | (with_reducible exact ih4 _ _ _ _ _ _ _ _ _ _)
      | (with_reducible exact ih5 _ _ _ _ _ _ _ _ _ _)
      | (with_reducible exact LeO.refl _)
      | (with_reducible exact LeO.none _)
      | (with_reducible refine LeO.ite ?_ ?_)
      | (with_reducible refine LeO.bind ?_ (fun _ => ?_))
      | exact ih0 _ _ _ _ _ _ _ _ _ _
      | exact ih1 _ _ _ _ _ _ _ _ _ _
      | exact ih2 _ _ _ _ _ _ _ _ _ _
      | exact ih3 _ _ _ _ _ _ _ _ _ _
      | exact ih4 _ _ _ _ _ _ _ _ _ _
      | exact ih5 _ _ _ _ _ _ _ _ _ _
      | exact LeO.none _
      | refine LeO.ite ?_ ?_
      | refine LeO.bind ?_ (fun _ => ?_)
    · intro y0 y1 y2 y3 y4 y5 y6 y7 y8 y9
      unfold frame_Formed.j2
      repeat' first
      | (with_reducible exact ih0 _ _ _ _ _ _ _ _ _ _)
      | (with_reducible exact ih1 _ _ _ _ _ _ _ _ _ _)
      | (with_reducible exact ih2 _ _ _ _ _ _ _ _ _ _)
      | (with_reducible exact ih3 _ _ _ _ _ _ _ _ _ _)
      | (with_reducible exact ih4 _ _ _ _ _ _ _ _ _ _)
      | (with_reducible exact ih5 _ _ _ _ _ _ _ _ _ _)
      | (with_reducible exact LeO.refl _)
      | (with_reducible exact LeO.none _)
      | (with_reducible refine LeO.ite ?_ ?_)
      | (with_reducible refine LeO.bind ?_ (fun _ => ?_))
      | exact ih0 _ _ _ _ _ _ _ _ _ _
      | exact ih1 _ _ _ _ _ _ _ _ _ _
      | exact ih2 _ _ _ _ _ _ _ _ _ _
      | exact ih3 _ _ _ _ _ _ _ _ _ _
      | exact ih4 _ _ _ _ _ _ _ _ _ _
      | exact ih5 _ _ _ _ _ _ _ _ _ _
      | exact LeO.none _
      | refine LeO.ite ?_ ?_
      | refine LeO.bind ?_ (fun _ => ?_)
    · intro y0 y1 y2 y3 y4 y5 y6 y7 y8 y9
      unfold frame_Formed.j3
      repeat' first
      | (with_reducible exact ih0 _ _ _ _ _ _ _ _ _ _)
      | (with_reducible exact ih1 _ _ _ _ _ _ _ _ _ _)
      | (with_reducible exact ih2 _ _ _ _ _ _ _ _ _ _)
      | (with_reducible exact ih3 _ _ _ _ _ _ _ _ _ _)
      | (with_reducible exact ih4 _ _ _ _ _ _ _ _ _ _)
      | (with_reducible exact ih5 _ _ _ _ _ _ _ _ _ _)
      | (with_reducible exact LeO.refl _)
      | (with_reducible exact LeO.none _)
      | (with_reducible refine LeO.ite ?_ ?_)
      | (with_reducible refine LeO.bind ?_ (fun _ => ?_))
      | exact ih0 _ _ _ _ _ _ _ _ _ _
      | exact ih1 _ _ _ _ _ _ _ _ _ _
      | exact ih2 _ _ _ _ _ _ _ _ _ _
      | exact ih3 _ _ _ _ _ _ _ _ _ _
      | exact ih4 _ _ _ _ _ _ _ _ _ _
      | exact ih5 _ _ _ _ _ _ _ _ _ _
      | exact LeO.none _
      | refine LeO.ite ?_ ?_
      | refine LeO.bind ?_ (fun _ => ?_)
    · intro y0 y1 y2 y3 y4 y5 y6 y7 y8 y9
      unfold frame_Formed.j4
      repeat' first
      | (with_reducible exact ih0 _ _ _ _ _ _ _ _ _ _)
      | (with_reducible exact ih1 _ _ _ _ _ _ _ _ _ _)
      | (with_reducible exact ih2 _ _ _ _ _ _ _ _ _ _)
      | (with_reducible exact ih3 _ _ _ _ _ _ _ _ _ _)
      | (with_reducible exact ih4 _ _ _ _ _ _ _ _ _ _)
      | (with_reducible exact ih5 _ _ _ _ _ _ _ _ _ _)
      | (with_reducible exact LeO.refl _)
      | (with_reducible exact LeO.none _)
      | (with_reducible refine LeO.ite ?_ ?_)
      | (with_reducible refine LeO.bind ?_ (fun _ => ?_))
      | exact ih0 _ _ _ _ _ _ _ _ _ _
      | exact ih1 _ _ _ _ _ _ _ _ _ _
      | exact ih2 _ _ _ _ _ _ _ _ _ _
      | exact ih3 _ _ _ _ _ _ _ _ _ _
      | exact ih4 _ _ _ _ _ _ _ _ _ _
      | exact ih5 _ _ _ _ _ _ _ _ _ _
      | exact LeO.none _
      | refine LeO.ite ?_ ?_
      | refine LeO.bind ?_ (fun _ => ?_)
    · intro y0 y1 y2 y3 y4 y5 y6 y7 y8 y9
      unfold frame_Formed.j5
      repeat' first
      | (with_reducible exact ih0 _ _ _ _ _ _ _ _ _ _)
      | (with_reducible exact ih1 _ _ _ _ _ _ _ _ _ _)
      | (with_reducible exact ih2 _ _ _ _ _ _ _ _ _ _)
      | (with_reducible exact ih3 _ _ _ _ _ _ _ _ _ _)
      | (with_reducible exact ih4 _ _ _ _ _ _ _ _ _ _)
      | (with_reducible exact ih5 _ _ _ _ _ _ _ _ _ _)
      | (with_reducible exact LeO.refl _)
      | (with_reducible exact LeO.none _)
      | (with_reducible refine LeO.ite ?_ ?_)
      | (with_reducible refine LeO.bind ?_ (fun _ => ?_))
      | exact ih0 _ _ _ _ _ _ _ _ _ _
      | exact ih1 _ _ _ _ _ _ _ _ _ _
      | exact ih2 _ _ _ _ _ _ _ _ _ _
      | exact ih3 _ _ _ _ _ _ _ _ _ _
      | exact ih4 _ _ _ _ _ _ _ _ _ _
      | exact ih5 _ _ _ _ _ _ _ _ _ _
      | exact LeO.none _
      | refine LeO.ite ?_ ?_
      | refine LeO.bind ?_ (fun _ => ?_)
theorem frame_Formed.mono : ∀ a0 a1 a2 a3 a4 a5 a6 a7 a8 k, LeO (frame_Formed.f k a0 a1 a2 a3 a4 a5 a6 a7 a8) (frame_Formed.f (k + 1) a0 a1 a2 a3 a4 a5 a6 a7 a8) := by
  intro a0 a1 a2 a3 a4 a5 a6 a7 a8 k
  obtain ⟨ih0, ih1, ih2, ih3, ih4, ih5⟩ := frame_Formed.mono_l k
  unfold frame_Formed.f
  repeat' first
      | (with_reducible exact ih0 _ _ _ _ _ _ _ _ _ _)
      | (with_reducible exact ih1 _ _ _ _ _ _ _ _ _ _)
      | (with_reducible exact ih2 _ _ _ _ _ _ _ _ _ _)
      | (with_reducible exact ih3 _ _ _ _ _ _ _ _ _ _)
      | (with_reducible exact ih4 _ _ _ _ _ _ _ _ _ _)
      | (with_reducible exact ih5 _ _ _ _ _ _ _ _ _ _)
      | (with_reducible exact LeO.refl _)
      | (with_reducible exact LeO.none _)
      | (with_reducible refine LeO.ite ?_ ?_)
      | (with_reducible refine LeO.bind ?_ (fun _ => ?_))
      | exact ih0 _ _ _ _ _ _ _ _ _ _
      | exact ih1 _ _ _ _ _ _ _ _ _ _
      | exact ih2 _ _ _ _ _ _ _ _ _ _
      | exact ih3 _ _ _ _ _ _ _ _ _ _
      | exact ih4 _ _ _ _ _ _ _ _ _ _
      | exact ih5 _ _ _ _ _ _ _ _ _ _
      | exact LeO.none _
      | refine LeO.ite ?_ ?_
      | refine LeO.bind ?_ (fun _ => ?_)
set_option maxHeartbeats 8000000 in
set_option maxRecDepth 100000 in
theorem frame_Formed.calls (k : Nat) (a0_0 : Int) (a0_1 : Int) (a0_2 : Int) (a0_3 : Int) (a0_4 : Int) (a0_5 : Int) (a0_6 : Int) (a0_7 : Int) (A0_8 : Option Addr) (c0_8 : Nat) (l0_8 : List Int) (r : Bool) (w : World) (hr0_8 : Kd.C (Kd.int .u8) w A0_8 l0_8.length l0_8) (hc0_8 : l0_8.length ≤ c0_8) (h : frame_Formed.f k a0_0 a0_1 a0_2 a0_3 a0_4 a0_5 a0_6 a0_7 l0_8 = some r) :
    Calls Try.prog 12 #[.agg #[.int .i64 a0_0, .int .i64 a0_1, .int .u64 a0_2, .int .i64 a0_3, .int .u64 a0_4, .int .i64 a0_5, .int .i64 a0_6, .int .i64 a0_7, .slice A0_8 l0_8.length c0_8]] w fun e w' => e = .returned (.bool r) ∧ Below w.heap.size w w' := by
  have hu25 := Try.underlying25
  have HR0_8 := Aside0.mk hr0_8
  have HC0_8 := Aside0.mk hc0_8
  clear hr0_8 hc0_8
  have HB := Aside0.mk (Below.refl w.heap.size w)
  have H : (if a0_0 < 1 then (frame_Formed.j0 k true a0_0 a0_1 a0_2 a0_3 a0_4 a0_5 a0_6 a0_7 l0_8) else (frame_Formed.j0 k (decide (a0_0 > 3)) a0_0 a0_1 a0_2 a0_3 a0_4 a0_5 a0_6 a0_7 l0_8)) = some r := h
  clear h
  have HC2 := Aside0.mk H
  clear H
  go_enter Try.func12, Try.ntmps12
  go_upto_region 1 with (first | ((with_reducible refine gate_dst (N := 1) rfl ?_); (try (refine gate_guard (by rfl) ?_; dsimp only)); refine box_event ?hg (N := 1) ?hd (cs := #[.int .i64 a0_0, .int .i64 a0_1, .int .u64 a0_2, .int .i64 a0_3, .int .u64 a0_4, .int .i64 a0_5, .int .i64 a0_6, .int .i64 a0_7, .slice A0_8 l0_8.length c0_8]) (t := 25) ?hr ?_; (case hd => rfl); (case hg => rfl); (case hr => first | (go_simp; done) | (go_simp; rfl)); intro gb101 hg w3 hbox hb; have n0_ := Aside0.mk (below_step (by repeat (first | (with_reducible first | exact HB.out | apply below_alloc | apply pw_below_drewN | apply below_drew1) | exact HB.out)) hb); have n1_ := Aside0.mk (hbox); have n2_ := Aside0.mk ((by rw [hg]; exact (below_size (by repeat (first | (with_reducible first | exact HB.out | apply below_alloc | apply pw_below_drewN | apply below_drew1) | exact HB.out))) : w.heap.size ≤ gb101)); have n3_ := Aside0.mk ((by rw [hg]; exact (below_size (by repeat (first | (with_reducible first | exact HB.out | apply below_alloc | apply pw_below_drewN | apply below_drew1) | exact HB.out))) : w.heap.size ≤ gb101)); clear HB; have HB := n0_; have BK101 := n1_; have GW101 := n2_; have GE101 := n3_; clear n0_ n1_ n2_ n3_; clear hb hbox hg))
  (try simp only [Act.put, List.setIfInBounds_toArray, List.set_cons_zero, List.set_cons_succ])
  go_cut [3] (fun v3 wc => ∃ (kq : Nat) (x3_1 : Bool), v3 = .bool x3_1 ∧ Aside0 (frame_Formed.j0 kq x3_1 a0_0 a0_1 a0_2 a0_3 a0_4 a0_5 a0_6 a0_7 l0_8 = some r) ∧ Aside0 (kq ≤ k) ∧ Aside0 (wc.heap[gb101]? = some (.cells #[.int .i64 a0_0, .int .i64 a0_1, .int .u64 a0_2, .int .i64 a0_3, .int .u64 a0_4, .int .i64 a0_5, .int .i64 a0_6, .int .i64 a0_7, (.slice A0_8 l0_8.length c0_8)] 25 (0, 0))) ∧ Aside0 (Below w.heap.size w wc))
  case first =>
    have H := HC2.out
    clear HC2
    by_cases c4 : a0_0 < 1
    · rw [if_pos c4] at H
      have c4b0 : decide (a0_0 < 1) = true := decide_eq_true c4
      clear c4
      (first | rw [c4b0] | (simp only [i64_w, i32_w]; rw [c4b0]) | skip)
      have H' := Aside0.mk H
      clear H
      have hcz5_0 : w3.cell? ⟨gb101, 0, none⟩ = some (.int .i64 a0_0) := (blk_cell BK101.out 0).trans rfl
      have hcz5_1 : w3.cell? ⟨gb101, 1, none⟩ = some (.int .i64 a0_1) := (blk_cell BK101.out 1).trans rfl
      have hcz5_2 : w3.cell? ⟨gb101, 2, none⟩ = some (.int .u64 a0_2) := (blk_cell BK101.out 2).trans rfl
      have hcz5_3 : w3.cell? ⟨gb101, 3, none⟩ = some (.int .i64 a0_3) := (blk_cell BK101.out 3).trans rfl
      have hcz5_4 : w3.cell? ⟨gb101, 4, none⟩ = some (.int .u64 a0_4) := (blk_cell BK101.out 4).trans rfl
      have hcz5_5 : w3.cell? ⟨gb101, 5, none⟩ = some (.int .i64 a0_5) := (blk_cell BK101.out 5).trans rfl
      have hcz5_6 : w3.cell? ⟨gb101, 6, none⟩ = some (.int .i64 a0_6) := (blk_cell BK101.out 6).trans rfl
      have hcz5_7 : w3.cell? ⟨gb101, 7, none⟩ = some (.int .i64 a0_7) := (blk_cell BK101.out 7).trans rfl
      have hcz5_8 : w3.cell? ⟨gb101, 8, none⟩ = some (.slice A0_8 l0_8.length c0_8) := (blk_cell BK101.out 8).trans rfl
      have hfz5_0 := blk_frozen BK101.out 0
      have hfz5_1 := blk_frozen BK101.out 1
      have hfz5_2 := blk_frozen BK101.out 2
      have hfz5_3 := blk_frozen BK101.out 3
      have hfz5_4 := blk_frozen BK101.out 4
      have hfz5_5 := blk_frozen BK101.out 5
      have hfz5_6 := blk_frozen BK101.out 6
      have hfz5_7 := blk_frozen BK101.out 7
      have hfz5_8 := blk_frozen BK101.out 8
      go_wp2
      go_meet
      case rel => exact ⟨_, (true), (by first | rfl | (simp; done) | (simp [*]; done)), H', ⟨by first | omega | exact Nat.le_refl _⟩, ⟨by (with_reducible repeat (first | refine blk_drewN ?_ _ | refine blk_drew ?_ | refine blk_alloc ?_ _)); exact BK101.out⟩, ⟨by repeat (first | (with_reducible first | exact HB.out | apply below_alloc | apply pw_below_drewN | apply below_drew1 | refine below_set ?_ GE101.out) | exact HB.out)⟩⟩
    · rw [if_neg c4] at H
      have c4b0 : decide (a0_0 < 1) = false := decide_eq_false c4
      clear c4
      (first | rw [c4b0] | (simp only [i64_w, i32_w]; rw [c4b0]) | skip)
      have H' := Aside0.mk H
      clear H
      have hcz6_0 : w3.cell? ⟨gb101, 0, none⟩ = some (.int .i64 a0_0) := (blk_cell BK101.out 0).trans rfl
      have hcz6_1 : w3.cell? ⟨gb101, 1, none⟩ = some (.int .i64 a0_1) := (blk_cell BK101.out 1).trans rfl
      have hcz6_2 : w3.cell? ⟨gb101, 2, none⟩ = some (.int .u64 a0_2) := (blk_cell BK101.out 2).trans rfl
      have hcz6_3 : w3.cell? ⟨gb101, 3, none⟩ = some (.int .i64 a0_3) := (blk_cell BK101.out 3).trans rfl
      have hcz6_4 : w3.cell? ⟨gb101, 4, none⟩ = some (.int .u64 a0_4) := (blk_cell BK101.out 4).trans rfl
      have hcz6_5 : w3.cell? ⟨gb101, 5, none⟩ = some (.int .i64 a0_5) := (blk_cell BK101.out 5).trans rfl
      have hcz6_6 : w3.cell? ⟨gb101, 6, none⟩ = some (.int .i64 a0_6) := (blk_cell BK101.out 6).trans rfl
      have hcz6_7 : w3.cell? ⟨gb101, 7, none⟩ = some (.int .i64 a0_7) := (blk_cell BK101.out 7).trans rfl
      have hcz6_8 : w3.cell? ⟨gb101, 8, none⟩ = some (.slice A0_8 l0_8.length c0_8) := (blk_cell BK101.out 8).trans rfl
      have hfz6_0 := blk_frozen BK101.out 0
      have hfz6_1 := blk_frozen BK101.out 1
      have hfz6_2 := blk_frozen BK101.out 2
      have hfz6_3 := blk_frozen BK101.out 3
      have hfz6_4 := blk_frozen BK101.out 4
      have hfz6_5 := blk_frozen BK101.out 5
      have hfz6_6 := blk_frozen BK101.out 6
      have hfz6_7 := blk_frozen BK101.out 7
      have hfz6_8 := blk_frozen BK101.out 8
      go_wp2
      go_meet
      case rel => exact ⟨_, (decide (a0_0 > 3)), (by first | rfl | (simp; done) | (simp [*]; done)), H', ⟨by first | omega | exact Nat.le_refl _⟩, ⟨by (with_reducible repeat (first | refine blk_drewN ?_ _ | refine blk_drew ?_ | refine blk_alloc ?_ _)); exact BK101.out⟩, ⟨by repeat (first | (with_reducible first | exact HB.out | apply below_alloc | apply pw_below_drewN | apply below_drew1 | refine below_set ?_ GE101.out) | exact HB.out)⟩⟩
  case rest =>
    clear HC2
    try clear c1
    try clear p2
    try clear c4
    try clear c4b0
    try clear hcz5_0
    try clear hcz5_1
    try clear hcz5_2
    try clear hcz5_3
    try clear hcz5_4
    try clear hcz5_5
    try clear hcz5_6
    try clear hcz5_7
    try clear hcz5_8
    try clear hcz6_0
    try clear hcz6_1
    try clear hcz6_2
    try clear hcz6_3
    try clear hcz6_4
    try clear hcz6_5
    try clear hcz6_6
    try clear hcz6_7
    try clear hcz6_8
    try clear hfz5_0
    try clear hfz5_1
    try clear hfz5_2
    try clear hfz5_3
    try clear hfz5_4
    try clear hfz5_5
    try clear hfz5_6
    try clear hfz5_7
    try clear hfz5_8
    try clear hfz6_0
    try clear hfz6_1
    try clear hfz6_2
    try clear hfz6_3
    try clear hfz6_4
    try clear hfz6_5
    try clear hfz6_6
    try clear hfz6_7
    try clear hfz6_8
    obtain ⟨kq, x3_1, rfl, HA, HJ1, BK101, HB⟩ := hcut
    cases kq with
    | zero => exact absurd HA.out (by simp [frame_Formed.j0])
    | succ kj1 =>
      have H := HA.out
      clear HA
      simp only [frame_Formed.j0] at H
      by_cases c7 : x3_1 = true
      · subst c7
        have H1 : (some false) = some r := by rw [if_pos rfl] at H; exact H
        clear H
        have H := H1
        clear H1
        obtain rfl := Option.some.inj H
        go_wp2
        go_ret
        exact ⟨by first | rfl | (simp [errW_none, errW_some] <;> rfl) | (simp [*, errW_none, errW_some] <;> rfl), by repeat (first | (with_reducible first | exact HB.out | apply below_alloc | apply pw_below_drewN | apply below_drew1 | refine below_set ?_ GE101.out) | exact HB.out)⟩
      · replace c7 := Bool.eq_false_iff.mpr c7
        subst c7
        have H1 : ((frame_number.f a0_1).bind fun t102 => (if t102 = true then (if a0_1 = 0 then (frame_Formed.j1 kj1 true a0_0 a0_1 a0_2 a0_3 a0_4 a0_5 a0_6 a0_7 l0_8) else ((frame_number.f a0_5).bind fun t103 => (frame_Formed.j1 kj1 (!t103) a0_0 a0_1 a0_2 a0_3 a0_4 a0_5 a0_6 a0_7 l0_8))) else (frame_Formed.j1 kj1 true a0_0 a0_1 a0_2 a0_3 a0_4 a0_5 a0_6 a0_7 l0_8))) = some r := by rw [if_neg (show ¬ (false = true) by decide)] at H; exact H
        clear H
        have H := H1
        clear H1
        have HC8 := Aside0.mk H
        clear H
        go_upto_region 2 with (fail)
        go_cut [3] (fun v3 wc => ∃ (kq : Nat) (x3_7 : Bool), v3 = .bool x3_7 ∧ Aside0 (frame_Formed.j1 kq x3_7 a0_0 a0_1 a0_2 a0_3 a0_4 a0_5 a0_6 a0_7 l0_8 = some r) ∧ Aside0 (kq ≤ kj1) ∧ Aside0 (wc.heap[gb101]? = some (.cells #[.int .i64 a0_0, .int .i64 a0_1, .int .u64 a0_2, .int .i64 a0_3, .int .u64 a0_4, .int .i64 a0_5, .int .i64 a0_6, .int .i64 a0_7, (.slice A0_8 l0_8.length c0_8)] 25 (0, 0))) ∧ Aside0 (Below w.heap.size w wc))
        case first =>
          have H := HC8.out
          clear HC8
          replace H := Option.bind_eq_some_iff.mp H
          obtain ⟨t102, A90, H⟩ := H
          replace H : (if t102 = true then (if a0_1 = 0 then (frame_Formed.j1 kj1 true a0_0 a0_1 a0_2 a0_3 a0_4 a0_5 a0_6 a0_7 l0_8) else ((frame_number.f a0_5).bind fun t103 => (frame_Formed.j1 kj1 (!t103) a0_0 a0_1 a0_2 a0_3 a0_4 a0_5 a0_6 a0_7 l0_8))) else (frame_Formed.j1 kj1 true a0_0 a0_1 a0_2 a0_3 a0_4 a0_5 a0_6 a0_7 l0_8)) = some r := H
          have A9 := Aside0.mk A90
          clear A90
          by_cases c10 : t102 = true
          · subst c10
            have H1 : (if a0_1 = 0 then (frame_Formed.j1 kj1 true a0_0 a0_1 a0_2 a0_3 a0_4 a0_5 a0_6 a0_7 l0_8) else ((frame_number.f a0_5).bind fun t103 => (frame_Formed.j1 kj1 (!t103) a0_0 a0_1 a0_2 a0_3 a0_4 a0_5 a0_6 a0_7 l0_8))) = some r := by rw [if_pos rfl] at H; exact H
            clear H
            have H := H1
            clear H1
            by_cases c11 : a0_1 = 0
            · rw [if_pos c11] at H
              have c11b0 : (a0_1 == 0) = true := beq_iff_eq.mpr c11
              have c11b1 : (a0_1 != 0) = false := bne_eq_false_iff_eq.mpr c11
              clear c11
              (first | rw [c11b0] | (simp only [i64_w, i32_w]; rw [c11b0]) | skip)
              have H' := Aside0.mk H
              clear H
              have hcz12_0 : wc.cell? ⟨gb101, 0, none⟩ = some (.int .i64 a0_0) := (blk_cell BK101.out 0).trans rfl
              have hcz12_1 : wc.cell? ⟨gb101, 1, none⟩ = some (.int .i64 a0_1) := (blk_cell BK101.out 1).trans rfl
              have hcz12_2 : wc.cell? ⟨gb101, 2, none⟩ = some (.int .u64 a0_2) := (blk_cell BK101.out 2).trans rfl
              have hcz12_3 : wc.cell? ⟨gb101, 3, none⟩ = some (.int .i64 a0_3) := (blk_cell BK101.out 3).trans rfl
              have hcz12_4 : wc.cell? ⟨gb101, 4, none⟩ = some (.int .u64 a0_4) := (blk_cell BK101.out 4).trans rfl
              have hcz12_5 : wc.cell? ⟨gb101, 5, none⟩ = some (.int .i64 a0_5) := (blk_cell BK101.out 5).trans rfl
              have hcz12_6 : wc.cell? ⟨gb101, 6, none⟩ = some (.int .i64 a0_6) := (blk_cell BK101.out 6).trans rfl
              have hcz12_7 : wc.cell? ⟨gb101, 7, none⟩ = some (.int .i64 a0_7) := (blk_cell BK101.out 7).trans rfl
              have hcz12_8 : wc.cell? ⟨gb101, 8, none⟩ = some (.slice A0_8 l0_8.length c0_8) := (blk_cell BK101.out 8).trans rfl
              have hfz12_0 := blk_frozen BK101.out 0
              have hfz12_1 := blk_frozen BK101.out 1
              have hfz12_2 := blk_frozen BK101.out 2
              have hfz12_3 := blk_frozen BK101.out 3
              have hfz12_4 := blk_frozen BK101.out 4
              have hfz12_5 := blk_frozen BK101.out 5
              have hfz12_6 := blk_frozen BK101.out 6
              have hfz12_7 := blk_frozen BK101.out 7
              have hfz12_8 := blk_frozen BK101.out 8
              go_wp2_with (first | ((with_reducible refine gate_callee (f := 22) rfl ?_); refine goesL_ (some 14) rfl rfl Try.func22 (by kernel_rfl) rfl #[.int .i64 a0_1] rfl (by (try simp only [List.map_toArray, List.map_cons, List.map_nil]); first | done | rfl | (simp only [List.length_drop, List.length_take]; rfl)) ?_; (with_reducible refine (frame_number.calls a0_1 true _ A9.out).mono ?_); rintro e w' ⟨rfl, ⟨nd, rfl⟩⟩; refine ⟨_, rfl, ?_⟩))
              go_meet
              case rel => exact ⟨_, (true), (by first | rfl | (simp; done) | (simp [*]; done)), H', ⟨by have := HJ1.out; first | omega | exact Nat.le_refl _⟩, ⟨by (with_reducible repeat (first | refine blk_drewN ?_ _ | refine blk_drew ?_ | refine blk_alloc ?_ _)); exact BK101.out⟩, ⟨by repeat (first | (with_reducible first | exact HB.out | apply below_alloc | apply pw_below_drewN | apply below_drew1 | refine below_set ?_ GE101.out) | exact HB.out)⟩⟩
            · rw [if_neg c11] at H
              have c11b0 : (a0_1 == 0) = false := beq_eq_false_iff_ne.mpr c11
              have c11b1 : (a0_1 != 0) = true := bne_iff_ne.mpr c11
              (first | rw [c11b0] | (simp only [i64_w, i32_w]; rw [c11b0]) | skip)
              replace H := Option.bind_eq_some_iff.mp H
              obtain ⟨t103, A130, H⟩ := H
              replace H : (frame_Formed.j1 kj1 (!t103) a0_0 a0_1 a0_2 a0_3 a0_4 a0_5 a0_6 a0_7 l0_8) = some r := H
              have A13 := Aside0.mk A130
              clear A130
              have H' := Aside0.mk H
              clear H
              have hcz14_0 : wc.cell? ⟨gb101, 0, none⟩ = some (.int .i64 a0_0) := (blk_cell BK101.out 0).trans rfl
              have hcz14_1 : wc.cell? ⟨gb101, 1, none⟩ = some (.int .i64 a0_1) := (blk_cell BK101.out 1).trans rfl
              have hcz14_2 : wc.cell? ⟨gb101, 2, none⟩ = some (.int .u64 a0_2) := (blk_cell BK101.out 2).trans rfl
              have hcz14_3 : wc.cell? ⟨gb101, 3, none⟩ = some (.int .i64 a0_3) := (blk_cell BK101.out 3).trans rfl
              have hcz14_4 : wc.cell? ⟨gb101, 4, none⟩ = some (.int .u64 a0_4) := (blk_cell BK101.out 4).trans rfl
              have hcz14_5 : wc.cell? ⟨gb101, 5, none⟩ = some (.int .i64 a0_5) := (blk_cell BK101.out 5).trans rfl
              have hcz14_6 : wc.cell? ⟨gb101, 6, none⟩ = some (.int .i64 a0_6) := (blk_cell BK101.out 6).trans rfl
              have hcz14_7 : wc.cell? ⟨gb101, 7, none⟩ = some (.int .i64 a0_7) := (blk_cell BK101.out 7).trans rfl
              have hcz14_8 : wc.cell? ⟨gb101, 8, none⟩ = some (.slice A0_8 l0_8.length c0_8) := (blk_cell BK101.out 8).trans rfl
              have hfz14_0 := blk_frozen BK101.out 0
              have hfz14_1 := blk_frozen BK101.out 1
              have hfz14_2 := blk_frozen BK101.out 2
              have hfz14_3 := blk_frozen BK101.out 3
              have hfz14_4 := blk_frozen BK101.out 4
              have hfz14_5 := blk_frozen BK101.out 5
              have hfz14_6 := blk_frozen BK101.out 6
              have hfz14_7 := blk_frozen BK101.out 7
              have hfz14_8 := blk_frozen BK101.out 8
              go_wp2_with (first | ((with_reducible refine gate_callee (f := 22) rfl ?_); refine goesL_ (some 14) rfl rfl Try.func22 (by kernel_rfl) rfl #[.int .i64 a0_1] rfl (by (try simp only [List.map_toArray, List.map_cons, List.map_nil]); first | done | rfl | (simp only [List.length_drop, List.length_take]; rfl)) ?_; (with_reducible refine (frame_number.calls a0_1 true _ A9.out).mono ?_); rintro e w' ⟨rfl, ⟨nd, rfl⟩⟩; refine ⟨_, rfl, ?_⟩) | (go_at_call 22; (with_reducible refine (frame_number.calls a0_5 t103 _ A13.out).mono ?_); rintro e w' ⟨rfl, ⟨nd, rfl⟩⟩))
              go_meet
              case rel => exact ⟨_, (!t103), (by first | rfl | (simp; done) | (simp [*]; done)), H', ⟨by have := HJ1.out; first | omega | exact Nat.le_refl _⟩, ⟨by (with_reducible repeat (first | refine blk_drewN ?_ _ | refine blk_drew ?_ | refine blk_alloc ?_ _)); exact BK101.out⟩, ⟨by repeat (first | (with_reducible first | exact HB.out | apply below_alloc | apply pw_below_drewN | apply below_drew1 | refine below_set ?_ GE101.out) | exact HB.out)⟩⟩
          · replace c10 := Bool.eq_false_iff.mpr c10
            subst c10
            have H1 : (frame_Formed.j1 kj1 true a0_0 a0_1 a0_2 a0_3 a0_4 a0_5 a0_6 a0_7 l0_8) = some r := by rw [if_neg (show ¬ (false = true) by decide)] at H; exact H
            clear H
            have H := H1
            clear H1
            have H' := Aside0.mk H
            clear H
            have hcz15_0 : wc.cell? ⟨gb101, 0, none⟩ = some (.int .i64 a0_0) := (blk_cell BK101.out 0).trans rfl
            have hcz15_1 : wc.cell? ⟨gb101, 1, none⟩ = some (.int .i64 a0_1) := (blk_cell BK101.out 1).trans rfl
            have hcz15_2 : wc.cell? ⟨gb101, 2, none⟩ = some (.int .u64 a0_2) := (blk_cell BK101.out 2).trans rfl
            have hcz15_3 : wc.cell? ⟨gb101, 3, none⟩ = some (.int .i64 a0_3) := (blk_cell BK101.out 3).trans rfl
            have hcz15_4 : wc.cell? ⟨gb101, 4, none⟩ = some (.int .u64 a0_4) := (blk_cell BK101.out 4).trans rfl
            have hcz15_5 : wc.cell? ⟨gb101, 5, none⟩ = some (.int .i64 a0_5) := (blk_cell BK101.out 5).trans rfl
            have hcz15_6 : wc.cell? ⟨gb101, 6, none⟩ = some (.int .i64 a0_6) := (blk_cell BK101.out 6).trans rfl
            have hcz15_7 : wc.cell? ⟨gb101, 7, none⟩ = some (.int .i64 a0_7) := (blk_cell BK101.out 7).trans rfl
            have hcz15_8 : wc.cell? ⟨gb101, 8, none⟩ = some (.slice A0_8 l0_8.length c0_8) := (blk_cell BK101.out 8).trans rfl
            have hfz15_0 := blk_frozen BK101.out 0
            have hfz15_1 := blk_frozen BK101.out 1
            have hfz15_2 := blk_frozen BK101.out 2
            have hfz15_3 := blk_frozen BK101.out 3
            have hfz15_4 := blk_frozen BK101.out 4
            have hfz15_5 := blk_frozen BK101.out 5
            have hfz15_6 := blk_frozen BK101.out 6
            have hfz15_7 := blk_frozen BK101.out 7
            have hfz15_8 := blk_frozen BK101.out 8
            go_wp2_with (first | ((with_reducible refine gate_callee (f := 22) rfl ?_); refine goesL_ (some 14) rfl rfl Try.func22 (by kernel_rfl) rfl #[.int .i64 a0_1] rfl (by (try simp only [List.map_toArray, List.map_cons, List.map_nil]); first | done | rfl | (simp only [List.length_drop, List.length_take]; rfl)) ?_; (with_reducible refine (frame_number.calls a0_1 false _ A9.out).mono ?_); rintro e w' ⟨rfl, ⟨nd, rfl⟩⟩; refine ⟨_, rfl, ?_⟩))
            go_meet
            case rel => exact ⟨_, (true), (by first | rfl | (simp; done) | (simp [*]; done)), H', ⟨by have := HJ1.out; first | omega | exact Nat.le_refl _⟩, ⟨by (with_reducible repeat (first | refine blk_drewN ?_ _ | refine blk_drew ?_ | refine blk_alloc ?_ _)); exact BK101.out⟩, ⟨by repeat (first | (with_reducible first | exact HB.out | apply below_alloc | apply pw_below_drewN | apply below_drew1 | refine below_set ?_ GE101.out) | exact HB.out)⟩⟩
        case rest =>
          clear HC8
          try clear c1
          try clear c2
          try clear p2
          try clear c4
          try clear c4b0
          try clear c7
          try clear c10
          try clear c11
          try clear c11b0
          try clear c11b1
          try clear c12
          try clear hcz12_0
          try clear hcz12_1
          try clear hcz12_2
          try clear hcz12_3
          try clear hcz12_4
          try clear hcz12_5
          try clear hcz12_6
          try clear hcz12_7
          try clear hcz12_8
          try clear hcz14_0
          try clear hcz14_1
          try clear hcz14_2
          try clear hcz14_3
          try clear hcz14_4
          try clear hcz14_5
          try clear hcz14_6
          try clear hcz14_7
          try clear hcz14_8
          try clear hcz15_0
          try clear hcz15_1
          try clear hcz15_2
          try clear hcz15_3
          try clear hcz15_4
          try clear hcz15_5
          try clear hcz15_6
          try clear hcz15_7
          try clear hcz15_8
          try clear hcz5_0
          try clear hcz5_1
          try clear hcz5_2
          try clear hcz5_3
          try clear hcz5_4
          try clear hcz5_5
          try clear hcz5_6
          try clear hcz5_7
          try clear hcz5_8
          try clear hcz6_0
          try clear hcz6_1
          try clear hcz6_2
          try clear hcz6_3
          try clear hcz6_4
          try clear hcz6_5
          try clear hcz6_6
          try clear hcz6_7
          try clear hcz6_8
          try clear hfz12_0
          try clear hfz12_1
          try clear hfz12_2
          try clear hfz12_3
          try clear hfz12_4
          try clear hfz12_5
          try clear hfz12_6
          try clear hfz12_7
          try clear hfz12_8
          try clear hfz14_0
          try clear hfz14_1
          try clear hfz14_2
          try clear hfz14_3
          try clear hfz14_4
          try clear hfz14_5
          try clear hfz14_6
          try clear hfz14_7
          try clear hfz14_8
          try clear hfz15_0
          try clear hfz15_1
          try clear hfz15_2
          try clear hfz15_3
          try clear hfz15_4
          try clear hfz15_5
          try clear hfz15_6
          try clear hfz15_7
          try clear hfz15_8
          try clear hfz5_0
          try clear hfz5_1
          try clear hfz5_2
          try clear hfz5_3
          try clear hfz5_4
          try clear hfz5_5
          try clear hfz5_6
          try clear hfz5_7
          try clear hfz5_8
          try clear hfz6_0
          try clear hfz6_1
          try clear hfz6_2
          try clear hfz6_3
          try clear hfz6_4
          try clear hfz6_5
          try clear hfz6_6
          try clear hfz6_7
          try clear hfz6_8
          try clear p2
          obtain ⟨kq, x3_7, rfl, HA, HJ7, BK101, HB⟩ := hcut
          cases kq with
          | zero => exact absurd HA.out (by simp [frame_Formed.j1])
          | succ kj7 =>
            have H := HA.out
            clear HA
            simp only [frame_Formed.j1] at H
            by_cases c16 : x3_7 = true
            · subst c16
              have H1 : (some false) = some r := by rw [if_pos rfl] at H; exact H
              clear H
              have H := H1
              clear H1
              obtain rfl := Option.some.inj H
              go_wp2
              go_ret
              exact ⟨by first | rfl | (simp [errW_none, errW_some] <;> rfl) | (simp [*, errW_none, errW_some] <;> rfl), by repeat (first | (with_reducible first | exact HB.out | apply below_alloc | apply pw_below_drewN | apply below_drew1 | refine below_set ?_ GE101.out) | exact HB.out)⟩
            · replace c16 := Bool.eq_false_iff.mpr c16
              subst c16
              have H1 : (if a0_4 = 0 then (frame_Formed.j2 kj7 true a0_0 a0_1 a0_2 a0_3 a0_4 a0_5 a0_6 a0_7 l0_8) else (frame_Formed.j2 kj7 (decide (a0_4 > a0_2)) a0_0 a0_1 a0_2 a0_3 a0_4 a0_5 a0_6 a0_7 l0_8)) = some r := by rw [if_neg (show ¬ (false = true) by decide)] at H; exact H
              clear H
              have H := H1
              clear H1
              have HC17 := Aside0.mk H
              clear H
              go_upto_region 3 with (fail)
              go_cut [3] (fun v3 wc => ∃ (kq : Nat) (x3_16 : Bool), v3 = .bool x3_16 ∧ Aside0 (frame_Formed.j2 kq x3_16 a0_0 a0_1 a0_2 a0_3 a0_4 a0_5 a0_6 a0_7 l0_8 = some r) ∧ Aside0 (kq ≤ kj7) ∧ Aside0 (wc.heap[gb101]? = some (.cells #[.int .i64 a0_0, .int .i64 a0_1, .int .u64 a0_2, .int .i64 a0_3, .int .u64 a0_4, .int .i64 a0_5, .int .i64 a0_6, .int .i64 a0_7, (.slice A0_8 l0_8.length c0_8)] 25 (0, 0))) ∧ Aside0 (Below w.heap.size w wc))
              case first =>
                have H := HC17.out
                clear HC17
                by_cases c18 : a0_4 = 0
                · rw [if_pos c18] at H
                  have c18b0 : (a0_4 == 0) = true := beq_iff_eq.mpr c18
                  have c18b1 : (a0_4 != 0) = false := bne_eq_false_iff_eq.mpr c18
                  clear c18
                  (first | rw [c18b0] | (simp only [i64_w, i32_w]; rw [c18b0]) | skip)
                  have H' := Aside0.mk H
                  clear H
                  have hcz19_0 : wc.cell? ⟨gb101, 0, none⟩ = some (.int .i64 a0_0) := (blk_cell BK101.out 0).trans rfl
                  have hcz19_1 : wc.cell? ⟨gb101, 1, none⟩ = some (.int .i64 a0_1) := (blk_cell BK101.out 1).trans rfl
                  have hcz19_2 : wc.cell? ⟨gb101, 2, none⟩ = some (.int .u64 a0_2) := (blk_cell BK101.out 2).trans rfl
                  have hcz19_3 : wc.cell? ⟨gb101, 3, none⟩ = some (.int .i64 a0_3) := (blk_cell BK101.out 3).trans rfl
                  have hcz19_4 : wc.cell? ⟨gb101, 4, none⟩ = some (.int .u64 a0_4) := (blk_cell BK101.out 4).trans rfl
                  have hcz19_5 : wc.cell? ⟨gb101, 5, none⟩ = some (.int .i64 a0_5) := (blk_cell BK101.out 5).trans rfl
                  have hcz19_6 : wc.cell? ⟨gb101, 6, none⟩ = some (.int .i64 a0_6) := (blk_cell BK101.out 6).trans rfl
                  have hcz19_7 : wc.cell? ⟨gb101, 7, none⟩ = some (.int .i64 a0_7) := (blk_cell BK101.out 7).trans rfl
                  have hcz19_8 : wc.cell? ⟨gb101, 8, none⟩ = some (.slice A0_8 l0_8.length c0_8) := (blk_cell BK101.out 8).trans rfl
                  have hfz19_0 := blk_frozen BK101.out 0
                  have hfz19_1 := blk_frozen BK101.out 1
                  have hfz19_2 := blk_frozen BK101.out 2
                  have hfz19_3 := blk_frozen BK101.out 3
                  have hfz19_4 := blk_frozen BK101.out 4
                  have hfz19_5 := blk_frozen BK101.out 5
                  have hfz19_6 := blk_frozen BK101.out 6
                  have hfz19_7 := blk_frozen BK101.out 7
                  have hfz19_8 := blk_frozen BK101.out 8
                  go_wp2
                  go_meet
                  case rel => exact ⟨_, (true), (by first | rfl | (simp; done) | (simp [*]; done)), H', ⟨by have := HJ1.out; have := HJ7.out; first | omega | exact Nat.le_refl _⟩, ⟨by (with_reducible repeat (first | refine blk_drewN ?_ _ | refine blk_drew ?_ | refine blk_alloc ?_ _)); exact BK101.out⟩, ⟨by repeat (first | (with_reducible first | exact HB.out | apply below_alloc | apply pw_below_drewN | apply below_drew1 | refine below_set ?_ GE101.out) | exact HB.out)⟩⟩
                · rw [if_neg c18] at H
                  have c18b0 : (a0_4 == 0) = false := beq_eq_false_iff_ne.mpr c18
                  have c18b1 : (a0_4 != 0) = true := bne_iff_ne.mpr c18
                  (first | rw [c18b0] | (simp only [i64_w, i32_w]; rw [c18b0]) | skip)
                  have H' := Aside0.mk H
                  clear H
                  have hcz20_0 : wc.cell? ⟨gb101, 0, none⟩ = some (.int .i64 a0_0) := (blk_cell BK101.out 0).trans rfl
                  have hcz20_1 : wc.cell? ⟨gb101, 1, none⟩ = some (.int .i64 a0_1) := (blk_cell BK101.out 1).trans rfl
                  have hcz20_2 : wc.cell? ⟨gb101, 2, none⟩ = some (.int .u64 a0_2) := (blk_cell BK101.out 2).trans rfl
                  have hcz20_3 : wc.cell? ⟨gb101, 3, none⟩ = some (.int .i64 a0_3) := (blk_cell BK101.out 3).trans rfl
                  have hcz20_4 : wc.cell? ⟨gb101, 4, none⟩ = some (.int .u64 a0_4) := (blk_cell BK101.out 4).trans rfl
                  have hcz20_5 : wc.cell? ⟨gb101, 5, none⟩ = some (.int .i64 a0_5) := (blk_cell BK101.out 5).trans rfl
                  have hcz20_6 : wc.cell? ⟨gb101, 6, none⟩ = some (.int .i64 a0_6) := (blk_cell BK101.out 6).trans rfl
                  have hcz20_7 : wc.cell? ⟨gb101, 7, none⟩ = some (.int .i64 a0_7) := (blk_cell BK101.out 7).trans rfl
                  have hcz20_8 : wc.cell? ⟨gb101, 8, none⟩ = some (.slice A0_8 l0_8.length c0_8) := (blk_cell BK101.out 8).trans rfl
                  have hfz20_0 := blk_frozen BK101.out 0
                  have hfz20_1 := blk_frozen BK101.out 1
                  have hfz20_2 := blk_frozen BK101.out 2
                  have hfz20_3 := blk_frozen BK101.out 3
                  have hfz20_4 := blk_frozen BK101.out 4
                  have hfz20_5 := blk_frozen BK101.out 5
                  have hfz20_6 := blk_frozen BK101.out 6
                  have hfz20_7 := blk_frozen BK101.out 7
                  have hfz20_8 := blk_frozen BK101.out 8
                  go_wp2
                  go_meet
                  case rel => exact ⟨_, (decide (a0_4 > a0_2)), (by first | rfl | (simp; done) | (simp [*]; done)), H', ⟨by have := HJ1.out; have := HJ7.out; first | omega | exact Nat.le_refl _⟩, ⟨by (with_reducible repeat (first | refine blk_drewN ?_ _ | refine blk_drew ?_ | refine blk_alloc ?_ _)); exact BK101.out⟩, ⟨by repeat (first | (with_reducible first | exact HB.out | apply below_alloc | apply pw_below_drewN | apply below_drew1 | refine below_set ?_ GE101.out) | exact HB.out)⟩⟩
              case rest =>
                clear HC17
                try clear c1
                try clear c2
                try clear p2
                try clear c4
                try clear c4b0
                try clear c7
                try clear c10
                try clear c11
                try clear c11b0
                try clear c11b1
                try clear c12
                try clear c16
                try clear c18
                try clear c18b0
                try clear c18b1
                try clear hcz12_0
                try clear hcz12_1
                try clear hcz12_2
                try clear hcz12_3
                try clear hcz12_4
                try clear hcz12_5
                try clear hcz12_6
                try clear hcz12_7
                try clear hcz12_8
                try clear hcz14_0
                try clear hcz14_1
                try clear hcz14_2
                try clear hcz14_3
                try clear hcz14_4
                try clear hcz14_5
                try clear hcz14_6
                try clear hcz14_7
                try clear hcz14_8
                try clear hcz15_0
                try clear hcz15_1
                try clear hcz15_2
                try clear hcz15_3
                try clear hcz15_4
                try clear hcz15_5
                try clear hcz15_6
                try clear hcz15_7
                try clear hcz15_8
                try clear hcz19_0
                try clear hcz19_1
                try clear hcz19_2
                try clear hcz19_3
                try clear hcz19_4
                try clear hcz19_5
                try clear hcz19_6
                try clear hcz19_7
                try clear hcz19_8
                try clear hcz20_0
                try clear hcz20_1
                try clear hcz20_2
                try clear hcz20_3
                try clear hcz20_4
                try clear hcz20_5
                try clear hcz20_6
                try clear hcz20_7
                try clear hcz20_8
                try clear hcz5_0
                try clear hcz5_1
                try clear hcz5_2
                try clear hcz5_3
                try clear hcz5_4
                try clear hcz5_5
                try clear hcz5_6
                try clear hcz5_7
                try clear hcz5_8
                try clear hcz6_0
                try clear hcz6_1
                try clear hcz6_2
                try clear hcz6_3
                try clear hcz6_4
                try clear hcz6_5
                try clear hcz6_6
                try clear hcz6_7
                try clear hcz6_8
                try clear hfz12_0
                try clear hfz12_1
                try clear hfz12_2
                try clear hfz12_3
                try clear hfz12_4
                try clear hfz12_5
                try clear hfz12_6
                try clear hfz12_7
                try clear hfz12_8
                try clear hfz14_0
                try clear hfz14_1
                try clear hfz14_2
                try clear hfz14_3
                try clear hfz14_4
                try clear hfz14_5
                try clear hfz14_6
                try clear hfz14_7
                try clear hfz14_8
                try clear hfz15_0
                try clear hfz15_1
                try clear hfz15_2
                try clear hfz15_3
                try clear hfz15_4
                try clear hfz15_5
                try clear hfz15_6
                try clear hfz15_7
                try clear hfz15_8
                try clear hfz19_0
                try clear hfz19_1
                try clear hfz19_2
                try clear hfz19_3
                try clear hfz19_4
                try clear hfz19_5
                try clear hfz19_6
                try clear hfz19_7
                try clear hfz19_8
                try clear hfz20_0
                try clear hfz20_1
                try clear hfz20_2
                try clear hfz20_3
                try clear hfz20_4
                try clear hfz20_5
                try clear hfz20_6
                try clear hfz20_7
                try clear hfz20_8
                try clear hfz5_0
                try clear hfz5_1
                try clear hfz5_2
                try clear hfz5_3
                try clear hfz5_4
                try clear hfz5_5
                try clear hfz5_6
                try clear hfz5_7
                try clear hfz5_8
                try clear hfz6_0
                try clear hfz6_1
                try clear hfz6_2
                try clear hfz6_3
                try clear hfz6_4
                try clear hfz6_5
                try clear hfz6_6
                try clear hfz6_7
                try clear hfz6_8
                try clear p2
                obtain ⟨kq, x3_16, rfl, HA, HJ16, BK101, HB⟩ := hcut
                cases kq with
                | zero => exact absurd HA.out (by simp [frame_Formed.j2])
                | succ kj16 =>
                  have H := HA.out
                  clear HA
                  simp only [frame_Formed.j2] at H
                  by_cases c21 : x3_16 = true
                  · subst c21
                    have H1 : (some false) = some r := by rw [if_pos rfl] at H; exact H
                    clear H
                    have H := H1
                    clear H1
                    obtain rfl := Option.some.inj H
                    go_wp2
                    go_ret
                    exact ⟨by first | rfl | (simp [errW_none, errW_some] <;> rfl) | (simp [*, errW_none, errW_some] <;> rfl), by repeat (first | (with_reducible first | exact HB.out | apply below_alloc | apply pw_below_drewN | apply below_drew1 | refine below_set ?_ GE101.out) | exact HB.out)⟩
                  · replace c21 := Bool.eq_false_iff.mpr c21
                    subst c21
                    have H1 : (if a0_3 < 0 then (frame_Formed.j3 kj16 true a0_0 a0_1 a0_2 a0_3 a0_4 a0_5 a0_6 a0_7 l0_8) else (frame_Formed.j3 kj16 (decide (a0_3 ≥ 6)) a0_0 a0_1 a0_2 a0_3 a0_4 a0_5 a0_6 a0_7 l0_8)) = some r := by rw [if_neg (show ¬ (false = true) by decide)] at H; exact H
                    clear H
                    have H := H1
                    clear H1
                    have HC22 := Aside0.mk H
                    clear H
                    go_upto_region 4 with (fail)
                    go_cut [3] (fun v3 wc => ∃ (kq : Nat) (x3_21 : Bool), v3 = .bool x3_21 ∧ Aside0 (frame_Formed.j3 kq x3_21 a0_0 a0_1 a0_2 a0_3 a0_4 a0_5 a0_6 a0_7 l0_8 = some r) ∧ Aside0 (kq ≤ kj16) ∧ Aside0 (wc.heap[gb101]? = some (.cells #[.int .i64 a0_0, .int .i64 a0_1, .int .u64 a0_2, .int .i64 a0_3, .int .u64 a0_4, .int .i64 a0_5, .int .i64 a0_6, .int .i64 a0_7, (.slice A0_8 l0_8.length c0_8)] 25 (0, 0))) ∧ Aside0 (Below w.heap.size w wc))
                    case first =>
                      have H := HC22.out
                      clear HC22
                      by_cases c23 : a0_3 < 0
                      · rw [if_pos c23] at H
                        have c23b0 : decide (a0_3 < 0) = true := decide_eq_true c23
                        clear c23
                        (first | rw [c23b0] | (simp only [i64_w, i32_w]; rw [c23b0]) | skip)
                        have H' := Aside0.mk H
                        clear H
                        have hcz24_0 : wc.cell? ⟨gb101, 0, none⟩ = some (.int .i64 a0_0) := (blk_cell BK101.out 0).trans rfl
                        have hcz24_1 : wc.cell? ⟨gb101, 1, none⟩ = some (.int .i64 a0_1) := (blk_cell BK101.out 1).trans rfl
                        have hcz24_2 : wc.cell? ⟨gb101, 2, none⟩ = some (.int .u64 a0_2) := (blk_cell BK101.out 2).trans rfl
                        have hcz24_3 : wc.cell? ⟨gb101, 3, none⟩ = some (.int .i64 a0_3) := (blk_cell BK101.out 3).trans rfl
                        have hcz24_4 : wc.cell? ⟨gb101, 4, none⟩ = some (.int .u64 a0_4) := (blk_cell BK101.out 4).trans rfl
                        have hcz24_5 : wc.cell? ⟨gb101, 5, none⟩ = some (.int .i64 a0_5) := (blk_cell BK101.out 5).trans rfl
                        have hcz24_6 : wc.cell? ⟨gb101, 6, none⟩ = some (.int .i64 a0_6) := (blk_cell BK101.out 6).trans rfl
                        have hcz24_7 : wc.cell? ⟨gb101, 7, none⟩ = some (.int .i64 a0_7) := (blk_cell BK101.out 7).trans rfl
                        have hcz24_8 : wc.cell? ⟨gb101, 8, none⟩ = some (.slice A0_8 l0_8.length c0_8) := (blk_cell BK101.out 8).trans rfl
                        have hfz24_0 := blk_frozen BK101.out 0
                        have hfz24_1 := blk_frozen BK101.out 1
                        have hfz24_2 := blk_frozen BK101.out 2
                        have hfz24_3 := blk_frozen BK101.out 3
                        have hfz24_4 := blk_frozen BK101.out 4
                        have hfz24_5 := blk_frozen BK101.out 5
                        have hfz24_6 := blk_frozen BK101.out 6
                        have hfz24_7 := blk_frozen BK101.out 7
                        have hfz24_8 := blk_frozen BK101.out 8
                        go_wp2
                        go_meet
                        case rel => exact ⟨_, (true), (by first | rfl | (simp; done) | (simp [*]; done)), H', ⟨by have := HJ1.out; have := HJ7.out; have := HJ16.out; first | omega | exact Nat.le_refl _⟩, ⟨by (with_reducible repeat (first | refine blk_drewN ?_ _ | refine blk_drew ?_ | refine blk_alloc ?_ _)); exact BK101.out⟩, ⟨by repeat (first | (with_reducible first | exact HB.out | apply below_alloc | apply pw_below_drewN | apply below_drew1 | refine below_set ?_ GE101.out) | exact HB.out)⟩⟩
                      · rw [if_neg c23] at H
                        have c23b0 : decide (a0_3 < 0) = false := decide_eq_false c23
                        clear c23
                        (first | rw [c23b0] | (simp only [i64_w, i32_w]; rw [c23b0]) | skip)
                        have H' := Aside0.mk H
                        clear H
                        have hcz25_0 : wc.cell? ⟨gb101, 0, none⟩ = some (.int .i64 a0_0) := (blk_cell BK101.out 0).trans rfl
                        have hcz25_1 : wc.cell? ⟨gb101, 1, none⟩ = some (.int .i64 a0_1) := (blk_cell BK101.out 1).trans rfl
                        have hcz25_2 : wc.cell? ⟨gb101, 2, none⟩ = some (.int .u64 a0_2) := (blk_cell BK101.out 2).trans rfl
                        have hcz25_3 : wc.cell? ⟨gb101, 3, none⟩ = some (.int .i64 a0_3) := (blk_cell BK101.out 3).trans rfl
                        have hcz25_4 : wc.cell? ⟨gb101, 4, none⟩ = some (.int .u64 a0_4) := (blk_cell BK101.out 4).trans rfl
                        have hcz25_5 : wc.cell? ⟨gb101, 5, none⟩ = some (.int .i64 a0_5) := (blk_cell BK101.out 5).trans rfl
                        have hcz25_6 : wc.cell? ⟨gb101, 6, none⟩ = some (.int .i64 a0_6) := (blk_cell BK101.out 6).trans rfl
                        have hcz25_7 : wc.cell? ⟨gb101, 7, none⟩ = some (.int .i64 a0_7) := (blk_cell BK101.out 7).trans rfl
                        have hcz25_8 : wc.cell? ⟨gb101, 8, none⟩ = some (.slice A0_8 l0_8.length c0_8) := (blk_cell BK101.out 8).trans rfl
                        have hfz25_0 := blk_frozen BK101.out 0
                        have hfz25_1 := blk_frozen BK101.out 1
                        have hfz25_2 := blk_frozen BK101.out 2
                        have hfz25_3 := blk_frozen BK101.out 3
                        have hfz25_4 := blk_frozen BK101.out 4
                        have hfz25_5 := blk_frozen BK101.out 5
                        have hfz25_6 := blk_frozen BK101.out 6
                        have hfz25_7 := blk_frozen BK101.out 7
                        have hfz25_8 := blk_frozen BK101.out 8
                        go_wp2
                        go_meet
                        case rel => exact ⟨_, (decide (a0_3 ≥ 6)), (by first | rfl | (simp; done) | (simp [*]; done)), H', ⟨by have := HJ1.out; have := HJ7.out; have := HJ16.out; first | omega | exact Nat.le_refl _⟩, ⟨by (with_reducible repeat (first | refine blk_drewN ?_ _ | refine blk_drew ?_ | refine blk_alloc ?_ _)); exact BK101.out⟩, ⟨by repeat (first | (with_reducible first | exact HB.out | apply below_alloc | apply pw_below_drewN | apply below_drew1 | refine below_set ?_ GE101.out) | exact HB.out)⟩⟩
                    case rest =>
                      clear HC22
                      try clear c1
                      try clear c2
                      try clear p2
                      try clear c4
                      try clear c4b0
                      try clear c7
                      try clear c10
                      try clear c11
                      try clear c11b0
                      try clear c11b1
                      try clear c12
                      try clear c16
                      try clear c18
                      try clear c18b0
                      try clear c18b1
                      try clear c21
                      try clear c22
                      try clear c23
                      try clear c23b0
                      try clear hcz12_0
                      try clear hcz12_1
                      try clear hcz12_2
                      try clear hcz12_3
                      try clear hcz12_4
                      try clear hcz12_5
                      try clear hcz12_6
                      try clear hcz12_7
                      try clear hcz12_8
                      try clear hcz14_0
                      try clear hcz14_1
                      try clear hcz14_2
                      try clear hcz14_3
                      try clear hcz14_4
                      try clear hcz14_5
                      try clear hcz14_6
                      try clear hcz14_7
                      try clear hcz14_8
                      try clear hcz15_0
                      try clear hcz15_1
                      try clear hcz15_2
                      try clear hcz15_3
                      try clear hcz15_4
                      try clear hcz15_5
                      try clear hcz15_6
                      try clear hcz15_7
                      try clear hcz15_8
                      try clear hcz19_0
                      try clear hcz19_1
                      try clear hcz19_2
                      try clear hcz19_3
                      try clear hcz19_4
                      try clear hcz19_5
                      try clear hcz19_6
                      try clear hcz19_7
                      try clear hcz19_8
                      try clear hcz20_0
                      try clear hcz20_1
                      try clear hcz20_2
                      try clear hcz20_3
                      try clear hcz20_4
                      try clear hcz20_5
                      try clear hcz20_6
                      try clear hcz20_7
                      try clear hcz20_8
                      try clear hcz24_0
                      try clear hcz24_1
                      try clear hcz24_2
                      try clear hcz24_3
                      try clear hcz24_4
                      try clear hcz24_5
                      try clear hcz24_6
                      try clear hcz24_7
                      try clear hcz24_8
                      try clear hcz25_0
                      try clear hcz25_1
                      try clear hcz25_2
                      try clear hcz25_3
                      try clear hcz25_4
                      try clear hcz25_5
                      try clear hcz25_6
                      try clear hcz25_7
                      try clear hcz25_8
                      try clear hcz5_0
                      try clear hcz5_1
                      try clear hcz5_2
                      try clear hcz5_3
                      try clear hcz5_4
                      try clear hcz5_5
                      try clear hcz5_6
                      try clear hcz5_7
                      try clear hcz5_8
                      try clear hcz6_0
                      try clear hcz6_1
                      try clear hcz6_2
                      try clear hcz6_3
                      try clear hcz6_4
                      try clear hcz6_5
                      try clear hcz6_6
                      try clear hcz6_7
                      try clear hcz6_8
                      try clear hfz12_0
                      try clear hfz12_1
                      try clear hfz12_2
                      try clear hfz12_3
                      try clear hfz12_4
                      try clear hfz12_5
                      try clear hfz12_6
                      try clear hfz12_7
                      try clear hfz12_8
                      try clear hfz14_0
                      try clear hfz14_1
                      try clear hfz14_2
                      try clear hfz14_3
                      try clear hfz14_4
                      try clear hfz14_5
                      try clear hfz14_6
                      try clear hfz14_7
                      try clear hfz14_8
                      try clear hfz15_0
                      try clear hfz15_1
                      try clear hfz15_2
                      try clear hfz15_3
                      try clear hfz15_4
                      try clear hfz15_5
                      try clear hfz15_6
                      try clear hfz15_7
                      try clear hfz15_8
                      try clear hfz19_0
                      try clear hfz19_1
                      try clear hfz19_2
                      try clear hfz19_3
                      try clear hfz19_4
                      try clear hfz19_5
                      try clear hfz19_6
                      try clear hfz19_7
                      try clear hfz19_8
                      try clear hfz20_0
                      try clear hfz20_1
                      try clear hfz20_2
                      try clear hfz20_3
                      try clear hfz20_4
                      try clear hfz20_5
                      try clear hfz20_6
                      try clear hfz20_7
                      try clear hfz20_8
                      try clear hfz24_0
                      try clear hfz24_1
                      try clear hfz24_2
                      try clear hfz24_3
                      try clear hfz24_4
                      try clear hfz24_5
                      try clear hfz24_6
                      try clear hfz24_7
                      try clear hfz24_8
                      try clear hfz25_0
                      try clear hfz25_1
                      try clear hfz25_2
                      try clear hfz25_3
                      try clear hfz25_4
                      try clear hfz25_5
                      try clear hfz25_6
                      try clear hfz25_7
                      try clear hfz25_8
                      try clear hfz5_0
                      try clear hfz5_1
                      try clear hfz5_2
                      try clear hfz5_3
                      try clear hfz5_4
                      try clear hfz5_5
                      try clear hfz5_6
                      try clear hfz5_7
                      try clear hfz5_8
                      try clear hfz6_0
                      try clear hfz6_1
                      try clear hfz6_2
                      try clear hfz6_3
                      try clear hfz6_4
                      try clear hfz6_5
                      try clear hfz6_6
                      try clear hfz6_7
                      try clear hfz6_8
                      try clear p2
                      obtain ⟨kq, x3_21, rfl, HA, HJ21, BK101, HB⟩ := hcut
                      cases kq with
                      | zero => exact absurd HA.out (by simp [frame_Formed.j3])
                      | succ kj21 =>
                        have H := HA.out
                        clear HA
                        simp only [frame_Formed.j3] at H
                        by_cases c26 : x3_21 = true
                        · subst c26
                          have H1 : (some false) = some r := by rw [if_pos rfl] at H; exact H
                          clear H
                          have H := H1
                          clear H1
                          obtain rfl := Option.some.inj H
                          go_wp2
                          go_ret
                          exact ⟨by first | rfl | (simp [errW_none, errW_some] <;> rfl) | (simp [*, errW_none, errW_some] <;> rfl), by repeat (first | (with_reducible first | exact HB.out | apply below_alloc | apply pw_below_drewN | apply below_drew1 | refine below_set ?_ GE101.out) | exact HB.out)⟩
                        · replace c26 := Bool.eq_false_iff.mpr c26
                          subst c26
                          have H1 : (if a0_6 < 0 then (frame_Formed.j4 kj21 true a0_0 a0_1 a0_2 a0_3 a0_4 a0_5 a0_6 a0_7 l0_8) else (frame_Formed.j4 kj21 (decide (a0_6 > 1099511627776)) a0_0 a0_1 a0_2 a0_3 a0_4 a0_5 a0_6 a0_7 l0_8)) = some r := by rw [if_neg (show ¬ (false = true) by decide)] at H; exact H
                          clear H
                          have H := H1
                          clear H1
                          have HC27 := Aside0.mk H
                          clear H
                          go_upto_region 5 with (fail)
                          go_cut [3] (fun v3 wc => ∃ (kq : Nat) (x3_26 : Bool), v3 = .bool x3_26 ∧ Aside0 (frame_Formed.j4 kq x3_26 a0_0 a0_1 a0_2 a0_3 a0_4 a0_5 a0_6 a0_7 l0_8 = some r) ∧ Aside0 (kq ≤ kj21) ∧ Aside0 (wc.heap[gb101]? = some (.cells #[.int .i64 a0_0, .int .i64 a0_1, .int .u64 a0_2, .int .i64 a0_3, .int .u64 a0_4, .int .i64 a0_5, .int .i64 a0_6, .int .i64 a0_7, (.slice A0_8 l0_8.length c0_8)] 25 (0, 0))) ∧ Aside0 (Below w.heap.size w wc))
                          case first =>
                            have H := HC27.out
                            clear HC27
                            by_cases c28 : a0_6 < 0
                            · rw [if_pos c28] at H
                              have c28b0 : decide (a0_6 < 0) = true := decide_eq_true c28
                              clear c28
                              (first | rw [c28b0] | (simp only [i64_w, i32_w]; rw [c28b0]) | skip)
                              have H' := Aside0.mk H
                              clear H
                              have hcz29_0 : wc.cell? ⟨gb101, 0, none⟩ = some (.int .i64 a0_0) := (blk_cell BK101.out 0).trans rfl
                              have hcz29_1 : wc.cell? ⟨gb101, 1, none⟩ = some (.int .i64 a0_1) := (blk_cell BK101.out 1).trans rfl
                              have hcz29_2 : wc.cell? ⟨gb101, 2, none⟩ = some (.int .u64 a0_2) := (blk_cell BK101.out 2).trans rfl
                              have hcz29_3 : wc.cell? ⟨gb101, 3, none⟩ = some (.int .i64 a0_3) := (blk_cell BK101.out 3).trans rfl
                              have hcz29_4 : wc.cell? ⟨gb101, 4, none⟩ = some (.int .u64 a0_4) := (blk_cell BK101.out 4).trans rfl
                              have hcz29_5 : wc.cell? ⟨gb101, 5, none⟩ = some (.int .i64 a0_5) := (blk_cell BK101.out 5).trans rfl
                              have hcz29_6 : wc.cell? ⟨gb101, 6, none⟩ = some (.int .i64 a0_6) := (blk_cell BK101.out 6).trans rfl
                              have hcz29_7 : wc.cell? ⟨gb101, 7, none⟩ = some (.int .i64 a0_7) := (blk_cell BK101.out 7).trans rfl
                              have hcz29_8 : wc.cell? ⟨gb101, 8, none⟩ = some (.slice A0_8 l0_8.length c0_8) := (blk_cell BK101.out 8).trans rfl
                              have hfz29_0 := blk_frozen BK101.out 0
                              have hfz29_1 := blk_frozen BK101.out 1
                              have hfz29_2 := blk_frozen BK101.out 2
                              have hfz29_3 := blk_frozen BK101.out 3
                              have hfz29_4 := blk_frozen BK101.out 4
                              have hfz29_5 := blk_frozen BK101.out 5
                              have hfz29_6 := blk_frozen BK101.out 6
                              have hfz29_7 := blk_frozen BK101.out 7
                              have hfz29_8 := blk_frozen BK101.out 8
                              go_wp2
                              go_meet
                              case rel => exact ⟨_, (true), (by first | rfl | (simp; done) | (simp [*]; done)), H', ⟨by have := HJ1.out; have := HJ7.out; have := HJ16.out; have := HJ21.out; first | omega | exact Nat.le_refl _⟩, ⟨by (with_reducible repeat (first | refine blk_drewN ?_ _ | refine blk_drew ?_ | refine blk_alloc ?_ _)); exact BK101.out⟩, ⟨by repeat (first | (with_reducible first | exact HB.out | apply below_alloc | apply pw_below_drewN | apply below_drew1 | refine below_set ?_ GE101.out) | exact HB.out)⟩⟩
                            · rw [if_neg c28] at H
                              have c28b0 : decide (a0_6 < 0) = false := decide_eq_false c28
                              clear c28
                              (first | rw [c28b0] | (simp only [i64_w, i32_w]; rw [c28b0]) | skip)
                              have H' := Aside0.mk H
                              clear H
                              have hcz30_0 : wc.cell? ⟨gb101, 0, none⟩ = some (.int .i64 a0_0) := (blk_cell BK101.out 0).trans rfl
                              have hcz30_1 : wc.cell? ⟨gb101, 1, none⟩ = some (.int .i64 a0_1) := (blk_cell BK101.out 1).trans rfl
                              have hcz30_2 : wc.cell? ⟨gb101, 2, none⟩ = some (.int .u64 a0_2) := (blk_cell BK101.out 2).trans rfl
                              have hcz30_3 : wc.cell? ⟨gb101, 3, none⟩ = some (.int .i64 a0_3) := (blk_cell BK101.out 3).trans rfl
                              have hcz30_4 : wc.cell? ⟨gb101, 4, none⟩ = some (.int .u64 a0_4) := (blk_cell BK101.out 4).trans rfl
                              have hcz30_5 : wc.cell? ⟨gb101, 5, none⟩ = some (.int .i64 a0_5) := (blk_cell BK101.out 5).trans rfl
                              have hcz30_6 : wc.cell? ⟨gb101, 6, none⟩ = some (.int .i64 a0_6) := (blk_cell BK101.out 6).trans rfl
                              have hcz30_7 : wc.cell? ⟨gb101, 7, none⟩ = some (.int .i64 a0_7) := (blk_cell BK101.out 7).trans rfl
                              have hcz30_8 : wc.cell? ⟨gb101, 8, none⟩ = some (.slice A0_8 l0_8.length c0_8) := (blk_cell BK101.out 8).trans rfl
                              have hfz30_0 := blk_frozen BK101.out 0
                              have hfz30_1 := blk_frozen BK101.out 1
                              have hfz30_2 := blk_frozen BK101.out 2
                              have hfz30_3 := blk_frozen BK101.out 3
                              have hfz30_4 := blk_frozen BK101.out 4
                              have hfz30_5 := blk_frozen BK101.out 5
                              have hfz30_6 := blk_frozen BK101.out 6
                              have hfz30_7 := blk_frozen BK101.out 7
                              have hfz30_8 := blk_frozen BK101.out 8
                              go_wp2
                              go_meet
                              case rel => exact ⟨_, (decide (a0_6 > 1099511627776)), (by first | rfl | (simp; done) | (simp [*]; done)), H', ⟨by have := HJ1.out; have := HJ7.out; have := HJ16.out; have := HJ21.out; first | omega | exact Nat.le_refl _⟩, ⟨by (with_reducible repeat (first | refine blk_drewN ?_ _ | refine blk_drew ?_ | refine blk_alloc ?_ _)); exact BK101.out⟩, ⟨by repeat (first | (with_reducible first | exact HB.out | apply below_alloc | apply pw_below_drewN | apply below_drew1 | refine below_set ?_ GE101.out) | exact HB.out)⟩⟩
                          case rest =>
                            clear HC27
                            try clear c1
                            try clear c2
                            try clear p2
                            try clear c4
                            try clear c4b0
                            try clear c7
                            try clear c10
                            try clear c11
                            try clear c11b0
                            try clear c11b1
                            try clear c12
                            try clear c16
                            try clear c18
                            try clear c18b0
                            try clear c18b1
                            try clear c21
                            try clear c22
                            try clear c23
                            try clear c23b0
                            try clear c26
                            try clear c28
                            try clear c28b0
                            try clear hcz12_0
                            try clear hcz12_1
                            try clear hcz12_2
                            try clear hcz12_3
                            try clear hcz12_4
                            try clear hcz12_5
                            try clear hcz12_6
                            try clear hcz12_7
                            try clear hcz12_8
                            try clear hcz14_0
                            try clear hcz14_1
                            try clear hcz14_2
                            try clear hcz14_3
                            try clear hcz14_4
                            try clear hcz14_5
                            try clear hcz14_6
                            try clear hcz14_7
                            try clear hcz14_8
                            try clear hcz15_0
                            try clear hcz15_1
                            try clear hcz15_2
                            try clear hcz15_3
                            try clear hcz15_4
                            try clear hcz15_5
                            try clear hcz15_6
                            try clear hcz15_7
                            try clear hcz15_8
                            try clear hcz19_0
                            try clear hcz19_1
                            try clear hcz19_2
                            try clear hcz19_3
                            try clear hcz19_4
                            try clear hcz19_5
                            try clear hcz19_6
                            try clear hcz19_7
                            try clear hcz19_8
                            try clear hcz20_0
                            try clear hcz20_1
                            try clear hcz20_2
                            try clear hcz20_3
                            try clear hcz20_4
                            try clear hcz20_5
                            try clear hcz20_6
                            try clear hcz20_7
                            try clear hcz20_8
                            try clear hcz24_0
                            try clear hcz24_1
                            try clear hcz24_2
                            try clear hcz24_3
                            try clear hcz24_4
                            try clear hcz24_5
                            try clear hcz24_6
                            try clear hcz24_7
                            try clear hcz24_8
                            try clear hcz25_0
                            try clear hcz25_1
                            try clear hcz25_2
                            try clear hcz25_3
                            try clear hcz25_4
                            try clear hcz25_5
                            try clear hcz25_6
                            try clear hcz25_7
                            try clear hcz25_8
                            try clear hcz29_0
                            try clear hcz29_1
                            try clear hcz29_2
                            try clear hcz29_3
                            try clear hcz29_4
                            try clear hcz29_5
                            try clear hcz29_6
                            try clear hcz29_7
                            try clear hcz29_8
                            try clear hcz30_0
                            try clear hcz30_1
                            try clear hcz30_2
                            try clear hcz30_3
                            try clear hcz30_4
                            try clear hcz30_5
                            try clear hcz30_6
                            try clear hcz30_7
                            try clear hcz30_8
                            try clear hcz5_0
                            try clear hcz5_1
                            try clear hcz5_2
                            try clear hcz5_3
                            try clear hcz5_4
                            try clear hcz5_5
                            try clear hcz5_6
                            try clear hcz5_7
                            try clear hcz5_8
                            try clear hcz6_0
                            try clear hcz6_1
                            try clear hcz6_2
                            try clear hcz6_3
                            try clear hcz6_4
                            try clear hcz6_5
                            try clear hcz6_6
                            try clear hcz6_7
                            try clear hcz6_8
                            try clear hfz12_0
                            try clear hfz12_1
                            try clear hfz12_2
                            try clear hfz12_3
                            try clear hfz12_4
                            try clear hfz12_5
                            try clear hfz12_6
                            try clear hfz12_7
                            try clear hfz12_8
                            try clear hfz14_0
                            try clear hfz14_1
                            try clear hfz14_2
                            try clear hfz14_3
                            try clear hfz14_4
                            try clear hfz14_5
                            try clear hfz14_6
                            try clear hfz14_7
                            try clear hfz14_8
                            try clear hfz15_0
                            try clear hfz15_1
                            try clear hfz15_2
                            try clear hfz15_3
                            try clear hfz15_4
                            try clear hfz15_5
                            try clear hfz15_6
                            try clear hfz15_7
                            try clear hfz15_8
                            try clear hfz19_0
                            try clear hfz19_1
                            try clear hfz19_2
                            try clear hfz19_3
                            try clear hfz19_4
                            try clear hfz19_5
                            try clear hfz19_6
                            try clear hfz19_7
                            try clear hfz19_8
                            try clear hfz20_0
                            try clear hfz20_1
                            try clear hfz20_2
                            try clear hfz20_3
                            try clear hfz20_4
                            try clear hfz20_5
                            try clear hfz20_6
                            try clear hfz20_7
                            try clear hfz20_8
                            try clear hfz24_0
                            try clear hfz24_1
                            try clear hfz24_2
                            try clear hfz24_3
                            try clear hfz24_4
                            try clear hfz24_5
                            try clear hfz24_6
                            try clear hfz24_7
                            try clear hfz24_8
                            try clear hfz25_0
                            try clear hfz25_1
                            try clear hfz25_2
                            try clear hfz25_3
                            try clear hfz25_4
                            try clear hfz25_5
                            try clear hfz25_6
                            try clear hfz25_7
                            try clear hfz25_8
                            try clear hfz29_0
                            try clear hfz29_1
                            try clear hfz29_2
                            try clear hfz29_3
                            try clear hfz29_4
                            try clear hfz29_5
                            try clear hfz29_6
                            try clear hfz29_7
                            try clear hfz29_8
                            try clear hfz30_0
                            try clear hfz30_1
                            try clear hfz30_2
                            try clear hfz30_3
                            try clear hfz30_4
                            try clear hfz30_5
                            try clear hfz30_6
                            try clear hfz30_7
                            try clear hfz30_8
                            try clear hfz5_0
                            try clear hfz5_1
                            try clear hfz5_2
                            try clear hfz5_3
                            try clear hfz5_4
                            try clear hfz5_5
                            try clear hfz5_6
                            try clear hfz5_7
                            try clear hfz5_8
                            try clear hfz6_0
                            try clear hfz6_1
                            try clear hfz6_2
                            try clear hfz6_3
                            try clear hfz6_4
                            try clear hfz6_5
                            try clear hfz6_6
                            try clear hfz6_7
                            try clear hfz6_8
                            try clear p2
                            obtain ⟨kq, x3_26, rfl, HA, HJ26, BK101, HB⟩ := hcut
                            cases kq with
                            | zero => exact absurd HA.out (by simp [frame_Formed.j4])
                            | succ kj26 =>
                              have H := HA.out
                              clear HA
                              simp only [frame_Formed.j4] at H
                              by_cases c31 : x3_26 = true
                              · subst c31
                                have H1 : (some false) = some r := by rw [if_pos rfl] at H; exact H
                                clear H
                                have H := H1
                                clear H1
                                obtain rfl := Option.some.inj H
                                go_wp2
                                go_ret
                                exact ⟨by first | rfl | (simp [errW_none, errW_some] <;> rfl) | (simp [*, errW_none, errW_some] <;> rfl), by repeat (first | (with_reducible first | exact HB.out | apply below_alloc | apply pw_below_drewN | apply below_drew1 | refine below_set ?_ GE101.out) | exact HB.out)⟩
                              · replace c31 := Bool.eq_false_iff.mpr c31
                                subst c31
                                have H1 : (if a0_7 < 0 then (frame_Formed.j5 kj26 true a0_0 a0_1 a0_2 a0_3 a0_4 a0_5 a0_6 a0_7 l0_8) else (if a0_7 > 255 then (frame_Formed.j5 kj26 true a0_0 a0_1 a0_2 a0_3 a0_4 a0_5 a0_6 a0_7 l0_8) else (if a0_7 > 0 then (frame_Formed.j5 kj26 (a0_0 != 2) a0_0 a0_1 a0_2 a0_3 a0_4 a0_5 a0_6 a0_7 l0_8) else (frame_Formed.j5 kj26 false a0_0 a0_1 a0_2 a0_3 a0_4 a0_5 a0_6 a0_7 l0_8)))) = some r := by rw [if_neg (show ¬ (false = true) by decide)] at H; exact H
                                clear H
                                have H := H1
                                clear H1
                                have HC32 := Aside0.mk H
                                clear H
                                go_upto_region 6 with (fail)
                                go_cut [3] (fun v3 wc => ∃ (kq : Nat) (x3_31 : Bool), v3 = .bool x3_31 ∧ Aside0 (frame_Formed.j5 kq x3_31 a0_0 a0_1 a0_2 a0_3 a0_4 a0_5 a0_6 a0_7 l0_8 = some r) ∧ Aside0 (kq ≤ kj26) ∧ Aside0 (wc.heap[gb101]? = some (.cells #[.int .i64 a0_0, .int .i64 a0_1, .int .u64 a0_2, .int .i64 a0_3, .int .u64 a0_4, .int .i64 a0_5, .int .i64 a0_6, .int .i64 a0_7, (.slice A0_8 l0_8.length c0_8)] 25 (0, 0))) ∧ Aside0 (Below w.heap.size w wc))
                                case first =>
                                  have H := HC32.out
                                  clear HC32
                                  by_cases c33 : a0_7 < 0
                                  · rw [if_pos c33] at H
                                    have c33b0 : decide (a0_7 < 0) = true := decide_eq_true c33
                                    clear c33
                                    (first | rw [c33b0] | (simp only [i64_w, i32_w]; rw [c33b0]) | skip)
                                    have H' := Aside0.mk H
                                    clear H
                                    have hcz34_0 : wc.cell? ⟨gb101, 0, none⟩ = some (.int .i64 a0_0) := (blk_cell BK101.out 0).trans rfl
                                    have hcz34_1 : wc.cell? ⟨gb101, 1, none⟩ = some (.int .i64 a0_1) := (blk_cell BK101.out 1).trans rfl
                                    have hcz34_2 : wc.cell? ⟨gb101, 2, none⟩ = some (.int .u64 a0_2) := (blk_cell BK101.out 2).trans rfl
                                    have hcz34_3 : wc.cell? ⟨gb101, 3, none⟩ = some (.int .i64 a0_3) := (blk_cell BK101.out 3).trans rfl
                                    have hcz34_4 : wc.cell? ⟨gb101, 4, none⟩ = some (.int .u64 a0_4) := (blk_cell BK101.out 4).trans rfl
                                    have hcz34_5 : wc.cell? ⟨gb101, 5, none⟩ = some (.int .i64 a0_5) := (blk_cell BK101.out 5).trans rfl
                                    have hcz34_6 : wc.cell? ⟨gb101, 6, none⟩ = some (.int .i64 a0_6) := (blk_cell BK101.out 6).trans rfl
                                    have hcz34_7 : wc.cell? ⟨gb101, 7, none⟩ = some (.int .i64 a0_7) := (blk_cell BK101.out 7).trans rfl
                                    have hcz34_8 : wc.cell? ⟨gb101, 8, none⟩ = some (.slice A0_8 l0_8.length c0_8) := (blk_cell BK101.out 8).trans rfl
                                    have hfz34_0 := blk_frozen BK101.out 0
                                    have hfz34_1 := blk_frozen BK101.out 1
                                    have hfz34_2 := blk_frozen BK101.out 2
                                    have hfz34_3 := blk_frozen BK101.out 3
                                    have hfz34_4 := blk_frozen BK101.out 4
                                    have hfz34_5 := blk_frozen BK101.out 5
                                    have hfz34_6 := blk_frozen BK101.out 6
                                    have hfz34_7 := blk_frozen BK101.out 7
                                    have hfz34_8 := blk_frozen BK101.out 8
                                    go_wp2
                                    go_meet
                                    case rel => exact ⟨_, (true), (by first | rfl | (simp; done) | (simp [*]; done)), H', ⟨by have := HJ1.out; have := HJ7.out; have := HJ16.out; have := HJ21.out; have := HJ26.out; first | omega | exact Nat.le_refl _⟩, ⟨by (with_reducible repeat (first | refine blk_drewN ?_ _ | refine blk_drew ?_ | refine blk_alloc ?_ _)); exact BK101.out⟩, ⟨by repeat (first | (with_reducible first | exact HB.out | apply below_alloc | apply pw_below_drewN | apply below_drew1 | refine below_set ?_ GE101.out) | exact HB.out)⟩⟩
                                  · rw [if_neg c33] at H
                                    have c33b0 : decide (a0_7 < 0) = false := decide_eq_false c33
                                    clear c33
                                    (first | rw [c33b0] | (simp only [i64_w, i32_w]; rw [c33b0]) | skip)
                                    by_cases c35 : a0_7 > 255
                                    · rw [if_pos c35] at H
                                      have c35b0 : decide (255 < a0_7) = true := decide_eq_true c35
                                      clear c35
                                      have H' := Aside0.mk H
                                      clear H
                                      have hcz36_0 : wc.cell? ⟨gb101, 0, none⟩ = some (.int .i64 a0_0) := (blk_cell BK101.out 0).trans rfl
                                      have hcz36_1 : wc.cell? ⟨gb101, 1, none⟩ = some (.int .i64 a0_1) := (blk_cell BK101.out 1).trans rfl
                                      have hcz36_2 : wc.cell? ⟨gb101, 2, none⟩ = some (.int .u64 a0_2) := (blk_cell BK101.out 2).trans rfl
                                      have hcz36_3 : wc.cell? ⟨gb101, 3, none⟩ = some (.int .i64 a0_3) := (blk_cell BK101.out 3).trans rfl
                                      have hcz36_4 : wc.cell? ⟨gb101, 4, none⟩ = some (.int .u64 a0_4) := (blk_cell BK101.out 4).trans rfl
                                      have hcz36_5 : wc.cell? ⟨gb101, 5, none⟩ = some (.int .i64 a0_5) := (blk_cell BK101.out 5).trans rfl
                                      have hcz36_6 : wc.cell? ⟨gb101, 6, none⟩ = some (.int .i64 a0_6) := (blk_cell BK101.out 6).trans rfl
                                      have hcz36_7 : wc.cell? ⟨gb101, 7, none⟩ = some (.int .i64 a0_7) := (blk_cell BK101.out 7).trans rfl
                                      have hcz36_8 : wc.cell? ⟨gb101, 8, none⟩ = some (.slice A0_8 l0_8.length c0_8) := (blk_cell BK101.out 8).trans rfl
                                      have hfz36_0 := blk_frozen BK101.out 0
                                      have hfz36_1 := blk_frozen BK101.out 1
                                      have hfz36_2 := blk_frozen BK101.out 2
                                      have hfz36_3 := blk_frozen BK101.out 3
                                      have hfz36_4 := blk_frozen BK101.out 4
                                      have hfz36_5 := blk_frozen BK101.out 5
                                      have hfz36_6 := blk_frozen BK101.out 6
                                      have hfz36_7 := blk_frozen BK101.out 7
                                      have hfz36_8 := blk_frozen BK101.out 8
                                      go_wp2
                                      go_meet
                                      case rel => exact ⟨_, (true), (by first | rfl | (simp; done) | (simp [*]; done)), H', ⟨by have := HJ1.out; have := HJ7.out; have := HJ16.out; have := HJ21.out; have := HJ26.out; first | omega | exact Nat.le_refl _⟩, ⟨by (with_reducible repeat (first | refine blk_drewN ?_ _ | refine blk_drew ?_ | refine blk_alloc ?_ _)); exact BK101.out⟩, ⟨by repeat (first | (with_reducible first | exact HB.out | apply below_alloc | apply pw_below_drewN | apply below_drew1 | refine below_set ?_ GE101.out) | exact HB.out)⟩⟩
                                    · rw [if_neg c35] at H
                                      have c35b0 : decide (255 < a0_7) = false := decide_eq_false c35
                                      clear c35
                                      by_cases c37 : a0_7 > 0
                                      · rw [if_pos c37] at H
                                        have c37b0 : decide (0 < a0_7) = true := decide_eq_true c37
                                        clear c37
                                        have H' := Aside0.mk H
                                        clear H
                                        have hcz38_0 : wc.cell? ⟨gb101, 0, none⟩ = some (.int .i64 a0_0) := (blk_cell BK101.out 0).trans rfl
                                        have hcz38_1 : wc.cell? ⟨gb101, 1, none⟩ = some (.int .i64 a0_1) := (blk_cell BK101.out 1).trans rfl
                                        have hcz38_2 : wc.cell? ⟨gb101, 2, none⟩ = some (.int .u64 a0_2) := (blk_cell BK101.out 2).trans rfl
                                        have hcz38_3 : wc.cell? ⟨gb101, 3, none⟩ = some (.int .i64 a0_3) := (blk_cell BK101.out 3).trans rfl
                                        have hcz38_4 : wc.cell? ⟨gb101, 4, none⟩ = some (.int .u64 a0_4) := (blk_cell BK101.out 4).trans rfl
                                        have hcz38_5 : wc.cell? ⟨gb101, 5, none⟩ = some (.int .i64 a0_5) := (blk_cell BK101.out 5).trans rfl
                                        have hcz38_6 : wc.cell? ⟨gb101, 6, none⟩ = some (.int .i64 a0_6) := (blk_cell BK101.out 6).trans rfl
                                        have hcz38_7 : wc.cell? ⟨gb101, 7, none⟩ = some (.int .i64 a0_7) := (blk_cell BK101.out 7).trans rfl
                                        have hcz38_8 : wc.cell? ⟨gb101, 8, none⟩ = some (.slice A0_8 l0_8.length c0_8) := (blk_cell BK101.out 8).trans rfl
                                        have hfz38_0 := blk_frozen BK101.out 0
                                        have hfz38_1 := blk_frozen BK101.out 1
                                        have hfz38_2 := blk_frozen BK101.out 2
                                        have hfz38_3 := blk_frozen BK101.out 3
                                        have hfz38_4 := blk_frozen BK101.out 4
                                        have hfz38_5 := blk_frozen BK101.out 5
                                        have hfz38_6 := blk_frozen BK101.out 6
                                        have hfz38_7 := blk_frozen BK101.out 7
                                        have hfz38_8 := blk_frozen BK101.out 8
                                        go_wp2
                                        go_meet
                                        case rel => exact ⟨_, ((a0_0 != 2)), (by first | rfl | (simp; done) | (simp [*]; done)), H', ⟨by have := HJ1.out; have := HJ7.out; have := HJ16.out; have := HJ21.out; have := HJ26.out; first | omega | exact Nat.le_refl _⟩, ⟨by (with_reducible repeat (first | refine blk_drewN ?_ _ | refine blk_drew ?_ | refine blk_alloc ?_ _)); exact BK101.out⟩, ⟨by repeat (first | (with_reducible first | exact HB.out | apply below_alloc | apply pw_below_drewN | apply below_drew1 | refine below_set ?_ GE101.out) | exact HB.out)⟩⟩
                                      · rw [if_neg c37] at H
                                        have c37b0 : decide (0 < a0_7) = false := decide_eq_false c37
                                        clear c37
                                        have H' := Aside0.mk H
                                        clear H
                                        have hcz39_0 : wc.cell? ⟨gb101, 0, none⟩ = some (.int .i64 a0_0) := (blk_cell BK101.out 0).trans rfl
                                        have hcz39_1 : wc.cell? ⟨gb101, 1, none⟩ = some (.int .i64 a0_1) := (blk_cell BK101.out 1).trans rfl
                                        have hcz39_2 : wc.cell? ⟨gb101, 2, none⟩ = some (.int .u64 a0_2) := (blk_cell BK101.out 2).trans rfl
                                        have hcz39_3 : wc.cell? ⟨gb101, 3, none⟩ = some (.int .i64 a0_3) := (blk_cell BK101.out 3).trans rfl
                                        have hcz39_4 : wc.cell? ⟨gb101, 4, none⟩ = some (.int .u64 a0_4) := (blk_cell BK101.out 4).trans rfl
                                        have hcz39_5 : wc.cell? ⟨gb101, 5, none⟩ = some (.int .i64 a0_5) := (blk_cell BK101.out 5).trans rfl
                                        have hcz39_6 : wc.cell? ⟨gb101, 6, none⟩ = some (.int .i64 a0_6) := (blk_cell BK101.out 6).trans rfl
                                        have hcz39_7 : wc.cell? ⟨gb101, 7, none⟩ = some (.int .i64 a0_7) := (blk_cell BK101.out 7).trans rfl
                                        have hcz39_8 : wc.cell? ⟨gb101, 8, none⟩ = some (.slice A0_8 l0_8.length c0_8) := (blk_cell BK101.out 8).trans rfl
                                        have hfz39_0 := blk_frozen BK101.out 0
                                        have hfz39_1 := blk_frozen BK101.out 1
                                        have hfz39_2 := blk_frozen BK101.out 2
                                        have hfz39_3 := blk_frozen BK101.out 3
                                        have hfz39_4 := blk_frozen BK101.out 4
                                        have hfz39_5 := blk_frozen BK101.out 5
                                        have hfz39_6 := blk_frozen BK101.out 6
                                        have hfz39_7 := blk_frozen BK101.out 7
                                        have hfz39_8 := blk_frozen BK101.out 8
                                        go_wp2
                                        go_meet
                                        case rel => exact ⟨_, (false), (by first | rfl | (simp; done) | (simp [*]; done)), H', ⟨by have := HJ1.out; have := HJ7.out; have := HJ16.out; have := HJ21.out; have := HJ26.out; first | omega | exact Nat.le_refl _⟩, ⟨by (with_reducible repeat (first | refine blk_drewN ?_ _ | refine blk_drew ?_ | refine blk_alloc ?_ _)); exact BK101.out⟩, ⟨by repeat (first | (with_reducible first | exact HB.out | apply below_alloc | apply pw_below_drewN | apply below_drew1 | refine below_set ?_ GE101.out) | exact HB.out)⟩⟩
                                case rest =>
                                  clear HC32
                                  try clear c1
                                  try clear c2
                                  try clear p2
                                  try clear c3
                                  try clear c4
                                  try clear c4b0
                                  try clear c7
                                  try clear c10
                                  try clear c11
                                  try clear c11b0
                                  try clear c11b1
                                  try clear c12
                                  try clear c16
                                  try clear c18
                                  try clear c18b0
                                  try clear c18b1
                                  try clear c21
                                  try clear c22
                                  try clear c23
                                  try clear c23b0
                                  try clear c26
                                  try clear c28
                                  try clear c28b0
                                  try clear c31
                                  try clear c33
                                  try clear c33b0
                                  try clear c35
                                  try clear c35b0
                                  try clear c37
                                  try clear c37b0
                                  try clear hcz12_0
                                  try clear hcz12_1
                                  try clear hcz12_2
                                  try clear hcz12_3
                                  try clear hcz12_4
                                  try clear hcz12_5
                                  try clear hcz12_6
                                  try clear hcz12_7
                                  try clear hcz12_8
                                  try clear hcz14_0
                                  try clear hcz14_1
                                  try clear hcz14_2
                                  try clear hcz14_3
                                  try clear hcz14_4
                                  try clear hcz14_5
                                  try clear hcz14_6
                                  try clear hcz14_7
                                  try clear hcz14_8
                                  try clear hcz15_0
                                  try clear hcz15_1
                                  try clear hcz15_2
                                  try clear hcz15_3
                                  try clear hcz15_4
                                  try clear hcz15_5
                                  try clear hcz15_6
                                  try clear hcz15_7
                                  try clear hcz15_8
                                  try clear hcz19_0
                                  try clear hcz19_1
                                  try clear hcz19_2
                                  try clear hcz19_3
                                  try clear hcz19_4
                                  try clear hcz19_5
                                  try clear hcz19_6
                                  try clear hcz19_7
                                  try clear hcz19_8
                                  try clear hcz20_0
                                  try clear hcz20_1
                                  try clear hcz20_2
                                  try clear hcz20_3
                                  try clear hcz20_4
                                  try clear hcz20_5
                                  try clear hcz20_6
                                  try clear hcz20_7
                                  try clear hcz20_8
                                  try clear hcz24_0
                                  try clear hcz24_1
                                  try clear hcz24_2
                                  try clear hcz24_3
                                  try clear hcz24_4
                                  try clear hcz24_5
                                  try clear hcz24_6
                                  try clear hcz24_7
                                  try clear hcz24_8
                                  try clear hcz25_0
                                  try clear hcz25_1
                                  try clear hcz25_2
                                  try clear hcz25_3
                                  try clear hcz25_4
                                  try clear hcz25_5
                                  try clear hcz25_6
                                  try clear hcz25_7
                                  try clear hcz25_8
                                  try clear hcz29_0
                                  try clear hcz29_1
                                  try clear hcz29_2
                                  try clear hcz29_3
                                  try clear hcz29_4
                                  try clear hcz29_5
                                  try clear hcz29_6
                                  try clear hcz29_7
                                  try clear hcz29_8
                                  try clear hcz30_0
                                  try clear hcz30_1
                                  try clear hcz30_2
                                  try clear hcz30_3
                                  try clear hcz30_4
                                  try clear hcz30_5
                                  try clear hcz30_6
                                  try clear hcz30_7
                                  try clear hcz30_8
                                  try clear hcz34_0
                                  try clear hcz34_1
                                  try clear hcz34_2
                                  try clear hcz34_3
                                  try clear hcz34_4
                                  try clear hcz34_5
                                  try clear hcz34_6
                                  try clear hcz34_7
                                  try clear hcz34_8
                                  try clear hcz36_0
                                  try clear hcz36_1
                                  try clear hcz36_2
                                  try clear hcz36_3
                                  try clear hcz36_4
                                  try clear hcz36_5
                                  try clear hcz36_6
                                  try clear hcz36_7
                                  try clear hcz36_8
                                  try clear hcz38_0
                                  try clear hcz38_1
                                  try clear hcz38_2
                                  try clear hcz38_3
                                  try clear hcz38_4
                                  try clear hcz38_5
                                  try clear hcz38_6
                                  try clear hcz38_7
                                  try clear hcz38_8
                                  try clear hcz39_0
                                  try clear hcz39_1
                                  try clear hcz39_2
                                  try clear hcz39_3
                                  try clear hcz39_4
                                  try clear hcz39_5
                                  try clear hcz39_6
                                  try clear hcz39_7
                                  try clear hcz39_8
                                  try clear hcz5_0
                                  try clear hcz5_1
                                  try clear hcz5_2
                                  try clear hcz5_3
                                  try clear hcz5_4
                                  try clear hcz5_5
                                  try clear hcz5_6
                                  try clear hcz5_7
                                  try clear hcz5_8
                                  try clear hcz6_0
                                  try clear hcz6_1
                                  try clear hcz6_2
                                  try clear hcz6_3
                                  try clear hcz6_4
                                  try clear hcz6_5
                                  try clear hcz6_6
                                  try clear hcz6_7
                                  try clear hcz6_8
                                  try clear hfz12_0
                                  try clear hfz12_1
                                  try clear hfz12_2
                                  try clear hfz12_3
                                  try clear hfz12_4
                                  try clear hfz12_5
                                  try clear hfz12_6
                                  try clear hfz12_7
                                  try clear hfz12_8
                                  try clear hfz14_0
                                  try clear hfz14_1
                                  try clear hfz14_2
                                  try clear hfz14_3
                                  try clear hfz14_4
                                  try clear hfz14_5
                                  try clear hfz14_6
                                  try clear hfz14_7
                                  try clear hfz14_8
                                  try clear hfz15_0
                                  try clear hfz15_1
                                  try clear hfz15_2
                                  try clear hfz15_3
                                  try clear hfz15_4
                                  try clear hfz15_5
                                  try clear hfz15_6
                                  try clear hfz15_7
                                  try clear hfz15_8
                                  try clear hfz19_0
                                  try clear hfz19_1
                                  try clear hfz19_2
                                  try clear hfz19_3
                                  try clear hfz19_4
                                  try clear hfz19_5
                                  try clear hfz19_6
                                  try clear hfz19_7
                                  try clear hfz19_8
                                  try clear hfz20_0
                                  try clear hfz20_1
                                  try clear hfz20_2
                                  try clear hfz20_3
                                  try clear hfz20_4
                                  try clear hfz20_5
                                  try clear hfz20_6
                                  try clear hfz20_7
                                  try clear hfz20_8
                                  try clear hfz24_0
                                  try clear hfz24_1
                                  try clear hfz24_2
                                  try clear hfz24_3
                                  try clear hfz24_4
                                  try clear hfz24_5
                                  try clear hfz24_6
                                  try clear hfz24_7
                                  try clear hfz24_8
                                  try clear hfz25_0
                                  try clear hfz25_1
                                  try clear hfz25_2
                                  try clear hfz25_3
                                  try clear hfz25_4
                                  try clear hfz25_5
                                  try clear hfz25_6
                                  try clear hfz25_7
                                  try clear hfz25_8
                                  try clear hfz29_0
                                  try clear hfz29_1
                                  try clear hfz29_2
                                  try clear hfz29_3
                                  try clear hfz29_4
                                  try clear hfz29_5
                                  try clear hfz29_6
                                  try clear hfz29_7
                                  try clear hfz29_8
                                  try clear hfz30_0
                                  try clear hfz30_1
                                  try clear hfz30_2
                                  try clear hfz30_3
                                  try clear hfz30_4
                                  try clear hfz30_5
                                  try clear hfz30_6
                                  try clear hfz30_7
                                  try clear hfz30_8
                                  try clear hfz34_0
                                  try clear hfz34_1
                                  try clear hfz34_2
                                  try clear hfz34_3
                                  try clear hfz34_4
                                  try clear hfz34_5
                                  try clear hfz34_6
                                  try clear hfz34_7
                                  try clear hfz34_8
                                  try clear hfz36_0
                                  try clear hfz36_1
                                  try clear hfz36_2
                                  try clear hfz36_3
                                  try clear hfz36_4
                                  try clear hfz36_5
                                  try clear hfz36_6
                                  try clear hfz36_7
                                  try clear hfz36_8
                                  try clear hfz38_0
                                  try clear hfz38_1
                                  try clear hfz38_2
                                  try clear hfz38_3
                                  try clear hfz38_4
                                  try clear hfz38_5
                                  try clear hfz38_6
                                  try clear hfz38_7
                                  try clear hfz38_8
                                  try clear hfz39_0
                                  try clear hfz39_1
                                  try clear hfz39_2
                                  try clear hfz39_3
                                  try clear hfz39_4
                                  try clear hfz39_5
                                  try clear hfz39_6
                                  try clear hfz39_7
                                  try clear hfz39_8
                                  try clear hfz5_0
                                  try clear hfz5_1
                                  try clear hfz5_2
                                  try clear hfz5_3
                                  try clear hfz5_4
                                  try clear hfz5_5
                                  try clear hfz5_6
                                  try clear hfz5_7
                                  try clear hfz5_8
                                  try clear hfz6_0
                                  try clear hfz6_1
                                  try clear hfz6_2
                                  try clear hfz6_3
                                  try clear hfz6_4
                                  try clear hfz6_5
                                  try clear hfz6_6
                                  try clear hfz6_7
                                  try clear hfz6_8
                                  try clear p2
                                  obtain ⟨kq, x3_31, rfl, HA, HJ31, BK101, HB⟩ := hcut
                                  cases kq with
                                  | zero => exact absurd HA.out (by simp [frame_Formed.j5])
                                  | succ kj31 =>
                                    have H := HA.out
                                    clear HA
                                    simp only [frame_Formed.j5] at H
                                    by_cases c40 : x3_31 = true
                                    · subst c40
                                      have H1 : (some false) = some r := by rw [if_pos rfl] at H; exact H
                                      clear H
                                      have H := H1
                                      clear H1
                                      obtain rfl := Option.some.inj H
                                      go_wp2
                                      go_ret
                                      exact ⟨by first | rfl | (simp [errW_none, errW_some] <;> rfl) | (simp [*, errW_none, errW_some] <;> rfl), by repeat (first | (with_reducible first | exact HB.out | apply below_alloc | apply pw_below_drewN | apply below_drew1 | refine below_set ?_ GE101.out) | exact HB.out)⟩
                                    · replace c40 := Bool.eq_false_iff.mpr c40
                                      subst c40
                                      have H1 : (if (l0_8.length : Int) > 4096 then (some false) else (if (l0_8.length : Int) > 0 then (if a0_0 = 3 then (some false) else (some true)) else (some true))) = some r := by rw [if_neg (show ¬ (false = true) by decide)] at H; exact H
                                      clear H
                                      have H := H1
                                      clear H1
                                      by_cases c41 : (l0_8.length : Int) > 4096
                                      · rw [if_pos c41] at H
                                        have c41b0 : decide (4096 < (l0_8.length : Int)) = true := decide_eq_true c41
                                        have c41b1 : decide (4096 < l0_8.length) = true := decide_eq_true (by omega)
                                        clear c41
                                        obtain rfl := Option.some.inj H
                                        have hcz42_0 : wc.cell? ⟨gb101, 0, none⟩ = some (.int .i64 a0_0) := (blk_cell BK101.out 0).trans rfl
                                        have hcz42_1 : wc.cell? ⟨gb101, 1, none⟩ = some (.int .i64 a0_1) := (blk_cell BK101.out 1).trans rfl
                                        have hcz42_2 : wc.cell? ⟨gb101, 2, none⟩ = some (.int .u64 a0_2) := (blk_cell BK101.out 2).trans rfl
                                        have hcz42_3 : wc.cell? ⟨gb101, 3, none⟩ = some (.int .i64 a0_3) := (blk_cell BK101.out 3).trans rfl
                                        have hcz42_4 : wc.cell? ⟨gb101, 4, none⟩ = some (.int .u64 a0_4) := (blk_cell BK101.out 4).trans rfl
                                        have hcz42_5 : wc.cell? ⟨gb101, 5, none⟩ = some (.int .i64 a0_5) := (blk_cell BK101.out 5).trans rfl
                                        have hcz42_6 : wc.cell? ⟨gb101, 6, none⟩ = some (.int .i64 a0_6) := (blk_cell BK101.out 6).trans rfl
                                        have hcz42_7 : wc.cell? ⟨gb101, 7, none⟩ = some (.int .i64 a0_7) := (blk_cell BK101.out 7).trans rfl
                                        have hcz42_8 : wc.cell? ⟨gb101, 8, none⟩ = some (.slice A0_8 l0_8.length c0_8) := (blk_cell BK101.out 8).trans rfl
                                        have hfz42_0 := blk_frozen BK101.out 0
                                        have hfz42_1 := blk_frozen BK101.out 1
                                        have hfz42_2 := blk_frozen BK101.out 2
                                        have hfz42_3 := blk_frozen BK101.out 3
                                        have hfz42_4 := blk_frozen BK101.out 4
                                        have hfz42_5 := blk_frozen BK101.out 5
                                        have hfz42_6 := blk_frozen BK101.out 6
                                        have hfz42_7 := blk_frozen BK101.out 7
                                        have hfz42_8 := blk_frozen BK101.out 8
                                        go_wp2
                                        go_ret
                                        exact ⟨by first | rfl | (simp [errW_none, errW_some] <;> rfl) | (simp [*, errW_none, errW_some] <;> rfl), by repeat (first | (with_reducible first | exact HB.out | apply below_alloc | apply pw_below_drewN | apply below_drew1 | refine below_set ?_ GE101.out) | exact HB.out)⟩
                                      · rw [if_neg c41] at H
                                        have c41b0 : decide (4096 < (l0_8.length : Int)) = false := decide_eq_false c41
                                        have c41b1 : decide (4096 < l0_8.length) = false := decide_eq_false (by omega)
                                        clear c41
                                        by_cases c43 : (l0_8.length : Int) > 0
                                        · rw [if_pos c43] at H
                                          have c43b0 : decide (0 < (l0_8.length : Int)) = true := decide_eq_true c43
                                          have c43b1 : decide (0 < l0_8.length) = true := decide_eq_true (by omega)
                                          clear c43
                                          by_cases c44 : a0_0 = 3
                                          · rw [if_pos c44] at H
                                            have c44b0 : (a0_0 == 3) = true := beq_iff_eq.mpr c44
                                            have c44b1 : (a0_0 != 3) = false := bne_eq_false_iff_eq.mpr c44
                                            clear c44
                                            obtain rfl := Option.some.inj H
                                            have hcz45_0 : wc.cell? ⟨gb101, 0, none⟩ = some (.int .i64 a0_0) := (blk_cell BK101.out 0).trans rfl
                                            have hcz45_1 : wc.cell? ⟨gb101, 1, none⟩ = some (.int .i64 a0_1) := (blk_cell BK101.out 1).trans rfl
                                            have hcz45_2 : wc.cell? ⟨gb101, 2, none⟩ = some (.int .u64 a0_2) := (blk_cell BK101.out 2).trans rfl
                                            have hcz45_3 : wc.cell? ⟨gb101, 3, none⟩ = some (.int .i64 a0_3) := (blk_cell BK101.out 3).trans rfl
                                            have hcz45_4 : wc.cell? ⟨gb101, 4, none⟩ = some (.int .u64 a0_4) := (blk_cell BK101.out 4).trans rfl
                                            have hcz45_5 : wc.cell? ⟨gb101, 5, none⟩ = some (.int .i64 a0_5) := (blk_cell BK101.out 5).trans rfl
                                            have hcz45_6 : wc.cell? ⟨gb101, 6, none⟩ = some (.int .i64 a0_6) := (blk_cell BK101.out 6).trans rfl
                                            have hcz45_7 : wc.cell? ⟨gb101, 7, none⟩ = some (.int .i64 a0_7) := (blk_cell BK101.out 7).trans rfl
                                            have hcz45_8 : wc.cell? ⟨gb101, 8, none⟩ = some (.slice A0_8 l0_8.length c0_8) := (blk_cell BK101.out 8).trans rfl
                                            have hfz45_0 := blk_frozen BK101.out 0
                                            have hfz45_1 := blk_frozen BK101.out 1
                                            have hfz45_2 := blk_frozen BK101.out 2
                                            have hfz45_3 := blk_frozen BK101.out 3
                                            have hfz45_4 := blk_frozen BK101.out 4
                                            have hfz45_5 := blk_frozen BK101.out 5
                                            have hfz45_6 := blk_frozen BK101.out 6
                                            have hfz45_7 := blk_frozen BK101.out 7
                                            have hfz45_8 := blk_frozen BK101.out 8
                                            go_wp2
                                            go_ret
                                            exact ⟨by first | rfl | (simp [errW_none, errW_some] <;> rfl) | (simp [*, errW_none, errW_some] <;> rfl), by repeat (first | (with_reducible first | exact HB.out | apply below_alloc | apply pw_below_drewN | apply below_drew1 | refine below_set ?_ GE101.out) | exact HB.out)⟩
                                          · rw [if_neg c44] at H
                                            have c44b0 : (a0_0 == 3) = false := beq_eq_false_iff_ne.mpr c44
                                            have c44b1 : (a0_0 != 3) = true := bne_iff_ne.mpr c44
                                            obtain rfl := Option.some.inj H
                                            have hcz46_0 : wc.cell? ⟨gb101, 0, none⟩ = some (.int .i64 a0_0) := (blk_cell BK101.out 0).trans rfl
                                            have hcz46_1 : wc.cell? ⟨gb101, 1, none⟩ = some (.int .i64 a0_1) := (blk_cell BK101.out 1).trans rfl
                                            have hcz46_2 : wc.cell? ⟨gb101, 2, none⟩ = some (.int .u64 a0_2) := (blk_cell BK101.out 2).trans rfl
                                            have hcz46_3 : wc.cell? ⟨gb101, 3, none⟩ = some (.int .i64 a0_3) := (blk_cell BK101.out 3).trans rfl
                                            have hcz46_4 : wc.cell? ⟨gb101, 4, none⟩ = some (.int .u64 a0_4) := (blk_cell BK101.out 4).trans rfl
                                            have hcz46_5 : wc.cell? ⟨gb101, 5, none⟩ = some (.int .i64 a0_5) := (blk_cell BK101.out 5).trans rfl
                                            have hcz46_6 : wc.cell? ⟨gb101, 6, none⟩ = some (.int .i64 a0_6) := (blk_cell BK101.out 6).trans rfl
                                            have hcz46_7 : wc.cell? ⟨gb101, 7, none⟩ = some (.int .i64 a0_7) := (blk_cell BK101.out 7).trans rfl
                                            have hcz46_8 : wc.cell? ⟨gb101, 8, none⟩ = some (.slice A0_8 l0_8.length c0_8) := (blk_cell BK101.out 8).trans rfl
                                            have hfz46_0 := blk_frozen BK101.out 0
                                            have hfz46_1 := blk_frozen BK101.out 1
                                            have hfz46_2 := blk_frozen BK101.out 2
                                            have hfz46_3 := blk_frozen BK101.out 3
                                            have hfz46_4 := blk_frozen BK101.out 4
                                            have hfz46_5 := blk_frozen BK101.out 5
                                            have hfz46_6 := blk_frozen BK101.out 6
                                            have hfz46_7 := blk_frozen BK101.out 7
                                            have hfz46_8 := blk_frozen BK101.out 8
                                            go_wp2
                                            go_ret
                                            exact ⟨by first | rfl | (simp [errW_none, errW_some] <;> rfl) | (simp [*, errW_none, errW_some] <;> rfl), by repeat (first | (with_reducible first | exact HB.out | apply below_alloc | apply pw_below_drewN | apply below_drew1 | refine below_set ?_ GE101.out) | exact HB.out)⟩
                                        · rw [if_neg c43] at H
                                          have c43b0 : decide (0 < (l0_8.length : Int)) = false := decide_eq_false c43
                                          have c43b1 : decide (0 < l0_8.length) = false := decide_eq_false (by omega)
                                          clear c43
                                          obtain rfl := Option.some.inj H
                                          have hcz47_0 : wc.cell? ⟨gb101, 0, none⟩ = some (.int .i64 a0_0) := (blk_cell BK101.out 0).trans rfl
                                          have hcz47_1 : wc.cell? ⟨gb101, 1, none⟩ = some (.int .i64 a0_1) := (blk_cell BK101.out 1).trans rfl
                                          have hcz47_2 : wc.cell? ⟨gb101, 2, none⟩ = some (.int .u64 a0_2) := (blk_cell BK101.out 2).trans rfl
                                          have hcz47_3 : wc.cell? ⟨gb101, 3, none⟩ = some (.int .i64 a0_3) := (blk_cell BK101.out 3).trans rfl
                                          have hcz47_4 : wc.cell? ⟨gb101, 4, none⟩ = some (.int .u64 a0_4) := (blk_cell BK101.out 4).trans rfl
                                          have hcz47_5 : wc.cell? ⟨gb101, 5, none⟩ = some (.int .i64 a0_5) := (blk_cell BK101.out 5).trans rfl
                                          have hcz47_6 : wc.cell? ⟨gb101, 6, none⟩ = some (.int .i64 a0_6) := (blk_cell BK101.out 6).trans rfl
                                          have hcz47_7 : wc.cell? ⟨gb101, 7, none⟩ = some (.int .i64 a0_7) := (blk_cell BK101.out 7).trans rfl
                                          have hcz47_8 : wc.cell? ⟨gb101, 8, none⟩ = some (.slice A0_8 l0_8.length c0_8) := (blk_cell BK101.out 8).trans rfl
                                          have hfz47_0 := blk_frozen BK101.out 0
                                          have hfz47_1 := blk_frozen BK101.out 1
                                          have hfz47_2 := blk_frozen BK101.out 2
                                          have hfz47_3 := blk_frozen BK101.out 3
                                          have hfz47_4 := blk_frozen BK101.out 4
                                          have hfz47_5 := blk_frozen BK101.out 5
                                          have hfz47_6 := blk_frozen BK101.out 6
                                          have hfz47_7 := blk_frozen BK101.out 7
                                          have hfz47_8 := blk_frozen BK101.out 8
                                          go_wp2
                                          go_ret
                                          exact ⟨by first | rfl | (simp [errW_none, errW_some] <;> rfl) | (simp [*, errW_none, errW_some] <;> rfl), by repeat (first | (with_reducible first | exact HB.out | apply below_alloc | apply pw_below_drewN | apply below_drew1 | refine below_set ?_ GE101.out) | exact HB.out)⟩

end Go.Proofs.Ythhkdabajikckaa.X
