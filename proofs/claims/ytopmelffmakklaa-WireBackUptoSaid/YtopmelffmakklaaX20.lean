/- Plain functions for Go's own, out of the translation's print, and a proof that each call comes to what they tell; no condition but the functions' own answers. -/
import Derived.Test.YtopmelffmakklaaX0
import Derived.Test.YtopmelffmakklaaX5
import Derived.Test.YtopmelffmakklaaX6
import Derived.Test.YtopmelffmakklaaX11
import Derived.Test.YtopmelffmakklaaX15
import Derived.Test.YtopmelffmakklaaX16
import Derived.Test.YtopmelffmakklaaX18
import Derived.Test.YtopmelffmakklaaX19
namespace Go.Proofs.Ytopmelffmakklaa.X
open Go.RowKit Go.Proofs.YtopmelffmakklaaW.PrintWords Go.Proofs.YtopmelffmakklaaW.PrintLast Go.Proofs.YtopmelffmakklaaW.PrintMore
attribute [local go_sem] max2_int min2_int max_two min_two max_three min_three max_four min_four Go.Proofs.Ytopmelffmakklaa.MyWords.put_isSome Go.Proofs.Ytopmelffmakklaa.MyWords.drewN_put   -- for this text's walks alone
set_option linter.unusedVariables false
set_option linter.unusedSimpArgs false

/-! ### courierlaw02_WireBack: function 4 -/
mutual
def courierlaw02_WireBack.j0 : Nat → List Int → Int → Bool → Int → Int → Int → List Int → Option (Bool)
  | 0, _, _, _, _, _, _, _ => none
  | k + 1, x1, x2, x21, x242000, x242001, x242002, x242003 => if x21 = true then ((courierlaw02_awake.f).bind fun t244 => (some t244)) else ((courierlaw02_theirs.f x242000 x242001 x242002 x242003).bind fun bt245 => ((wire_Append.f k ([] : List Int) bt245.1 bt245.2.1 bt245.2.2.1 bt245.2.2.2).bind fun bt251 => (if bt251.2 = 0 then (courierlaw02_WireBack.j1 k x1 x2 bt251.1 ((bt251.1.length : Int) == 0) x242000 x242001 x242002 x242003) else (courierlaw02_WireBack.j1 k x1 x2 bt251.1 true x242000 x242001 x242002 x242003))))
def courierlaw02_WireBack.j1 : Nat → List Int → Int → List Int → Bool → Int → Int → Int → List Int → Option (Bool)
  | 0, _, _, _, _, _, _, _, _ => none
  | k + 1, x1, x2, x7, x35, x242000, x242001, x242002, x242003 => if x35 = true then (some false) else ((some (([] : List Int) : List Int)).bind fun y255 => (if y255.length + x7.length < 140737488355328 then ((some (y255 ++ x7 : List Int)).bind fun y258 => (if y258.length + x1.length < 140737488355328 then ((wire_Take.f k (y258 ++ x1)).bind fun bt264 => (if (IntKind.u64.wrap ((x7.length : Int))) = 0 then (none) else (if 0 ≤ (Int.tmod x2 (IntKind.u64.wrap ((x7.length : Int)))) then (if (Int.tmod x2 (IntKind.u64.wrap ((x7.length : Int)))) ≤ (x7.length : Int) then ((wire_Take.f k (x7.take ((Int.tmod x2 (IntKind.u64.wrap ((x7.length : Int)))) : Int).toNat)).bind fun bt277 => ((courierlaw02_ours.f bt264.1 bt264.2.1 bt264.2.2.1 bt264.2.2.2.1).bind fun bt286 => ((courierref01_Same.f bt286.1 bt286.2.1 bt286.2.2.1 bt286.2.2.2 x242000 x242001 x242002 x242003).bind fun t292 => (if t292 = true then (if bt264.2.2.2.2.1 = (x7.length : Int) then (if bt264.2.2.2.2.2 = 0 then (some (bt277.2.2.2.2.2 == 5)) else (some false)) else (some false)) else (some false))))) else (none)) else (none)))) else (none))) else (none)))
end
def courierlaw02_WireBack.f (k : Nat) (a0_0 : Int) (a0_1 : Int) (a0_2 : Int) (l0_3 : List Int) (l1 : List Int) (a2 : Int) : Option (Bool) := (courierlaw02_awake.f).bind fun t242 => (if t242 = true then ((courierref01_Formed.f k a0_0 a0_1 a0_2 l0_3).bind fun t243 => (courierlaw02_WireBack.j0 k l1 a2 (!t243) a0_0 a0_1 a0_2 l0_3)) else (courierlaw02_WireBack.j0 k l1 a2 true a0_0 a0_1 a0_2 l0_3))
theorem courierlaw02_WireBack.mono_l : ∀ k, (∀ y0 y1 y2 y3 y4 y5 y6, LeO (courierlaw02_WireBack.j0 k y0 y1 y2 y3 y4 y5 y6) (courierlaw02_WireBack.j0 (k + 1) y0 y1 y2 y3 y4 y5 y6)) ∧ (∀ y0 y1 y2 y3 y4 y5 y6 y7, LeO (courierlaw02_WireBack.j1 k y0 y1 y2 y3 y4 y5 y6 y7) (courierlaw02_WireBack.j1 (k + 1) y0 y1 y2 y3 y4 y5 y6 y7))
  | 0 => ⟨fun _ _ _ _ _ _ _ r h => by simp [courierlaw02_WireBack.j0] at h, fun _ _ _ _ _ _ _ _ r h => by simp [courierlaw02_WireBack.j1] at h⟩
  | k + 1 => by
    obtain ⟨ih0, ih1⟩ := courierlaw02_WireBack.mono_l k
    refine ⟨?_, ?_⟩
    · intro y0 y1 y2 y3 y4 y5 y6
      unfold courierlaw02_WireBack.j0
      repeat' first
      | (with_reducible exact ih0 _ _ _ _ _ _ _)
      | (with_reducible exact ih1 _ _ _ _ _ _ _ _)
      | (with_reducible exact courierref01_Formed.mono _ _ _ _ _)
      | (with_reducible exact wire_Append.mono _ _ _ _ _ _)
      | (with_reducible exact wire_Take.mono _ _)
      | (with_reducible exact LeO.refl _)
      | (with_reducible exact LeO.none _)
      | (with_reducible refine LeO.ite ?_ ?_)
      | (with_reducible refine LeO.bind ?_ (fun _ => ?_))
      | exact ih0 _ _ _ _ _ _ _
      | exact ih1 _ _ _ _ _ _ _ _
      | exact courierref01_Formed.mono _ _ _ _ _
      | exact wire_Append.mono _ _ _ _ _ _
      | exact wire_Take.mono _ _
      | exact LeO.none _
      | refine LeO.ite ?_ ?_
      | refine LeO.bind ?_ (fun _ => ?_)
    · intro y0 y1 y2 y3 y4 y5 y6 y7
      unfold courierlaw02_WireBack.j1
      repeat' first
      | (with_reducible exact ih0 _ _ _ _ _ _ _)
      | (with_reducible exact ih1 _ _ _ _ _ _ _ _)
      | (with_reducible exact courierref01_Formed.mono _ _ _ _ _)
      | (with_reducible exact wire_Append.mono _ _ _ _ _ _)
      | (with_reducible exact wire_Take.mono _ _)
      | (with_reducible exact LeO.refl _)
      | (with_reducible exact LeO.none _)
      | (with_reducible refine LeO.ite ?_ ?_)
      | (with_reducible refine LeO.bind ?_ (fun _ => ?_))
      | exact ih0 _ _ _ _ _ _ _
      | exact ih1 _ _ _ _ _ _ _ _
      | exact courierref01_Formed.mono _ _ _ _ _
      | exact wire_Append.mono _ _ _ _ _ _
      | exact wire_Take.mono _ _
      | exact LeO.none _
      | refine LeO.ite ?_ ?_
      | refine LeO.bind ?_ (fun _ => ?_)
theorem courierlaw02_WireBack.mono : ∀ a0 a1 a2 a3 a4 a5 k, LeO (courierlaw02_WireBack.f k a0 a1 a2 a3 a4 a5) (courierlaw02_WireBack.f (k + 1) a0 a1 a2 a3 a4 a5) := by
  intro a0 a1 a2 a3 a4 a5 k
  obtain ⟨ih0, ih1⟩ := courierlaw02_WireBack.mono_l k
  unfold courierlaw02_WireBack.f
  repeat' first
      | (with_reducible exact ih0 _ _ _ _ _ _ _)
      | (with_reducible exact ih1 _ _ _ _ _ _ _ _)
      | (with_reducible exact courierref01_Formed.mono _ _ _ _ _)
      | (with_reducible exact wire_Append.mono _ _ _ _ _ _)
      | (with_reducible exact wire_Take.mono _ _)
      | (with_reducible exact LeO.refl _)
      | (with_reducible exact LeO.none _)
      | (with_reducible refine LeO.ite ?_ ?_)
      | (with_reducible refine LeO.bind ?_ (fun _ => ?_))
      | exact ih0 _ _ _ _ _ _ _
      | exact ih1 _ _ _ _ _ _ _ _
      | exact courierref01_Formed.mono _ _ _ _ _
      | exact wire_Append.mono _ _ _ _ _ _
      | exact wire_Take.mono _ _
      | exact LeO.none _
      | refine LeO.ite ?_ ?_
      | refine LeO.bind ?_ (fun _ => ?_)
def courierlaw02_WireBack.T8 : Bool × List (List Nat × List Nat) := (true, [([], []), ([0], [0]), ([], []), ([1, 2, 1], [1, 2]), ([3, 3], [3]), ([4], [4]), ([4], [4]), ([6, 4], [4, 6]), ([5, 7, 4], [4, 5, 7]), ([4, 8], [4, 8]), ([9, 4], [9]), ([10], [10]), ([11, 10], [10, 11]), ([10, 12], [10, 12]), ([13, 10], [13]), ([14], [14]), ([15, 14], [14, 15]), ([14, 16], [14, 16]), ([17, 14, 0, 1, 2, 3, 4, 5, 6, 7, 8, 9, 10, 11, 12, 13, 14, 15, 16, 17], [17])])
def courierlaw02_WireBack.B8 : List Nat := [0, 1, 0, 7, 15, 31, 31, 95, 255, 511, 1023, 2047, 4095, 8191, 16383, 32767, 65535, 131071, 262143]
theorem courierlaw02_WireBack.tab8 : rtab .any (opsOf Try.f4 8) = courierlaw02_WireBack.T8 := by kernel_rfl
theorem courierlaw02_WireBack.bits8 : waitsOk courierlaw02_WireBack.T8.2 courierlaw02_WireBack.B8 = true := by kernel_rfl
set_option maxHeartbeats 8000000 in
set_option maxRecDepth 100000 in
theorem courierlaw02_WireBack.calls (k : Nat) (a0_0 : Int) (a0_1 : Int) (a0_2 : Int) (A0_3 : Option Addr) (c0_3 : Nat) (l0_3 : List Int) (A1 : Option Addr) (c1 : Nat) (l1 : List Int) (a2 : Int) (r : Bool) (w : World) (hr0_3 : Kd.C (Kd.int .u8) w A0_3 l0_3.length l0_3) (hc0_3 : l0_3.length ≤ c0_3) (hr1 : Kd.C (Kd.int .u8) w A1 l1.length l1) (hc1 : l1.length ≤ c1) (h : courierlaw02_WireBack.f k a0_0 a0_1 a0_2 l0_3 l1 a2 = some r) :
    Calls Try.prog 4 #[.agg #[.int .i64 a0_0, .int .i64 a0_1, .int .u64 a0_2, .slice A0_3 l0_3.length c0_3], .slice A1 l1.length c1, .int .u64 a2] w fun e w' => e = .returned (.bool r) ∧ Below w.heap.size w w' := by
  have hu30 := Try.underlying30
  have hu26 := Try.underlying26
  have HR0_3 := Aside0.mk hr0_3
  have HC0_3 := Aside0.mk hc0_3
  clear hr0_3 hc0_3
  have HR1 := Aside0.mk hr1
  have HC1 := Aside0.mk hc1
  clear hr1 hc1
  have HB := Aside0.mk (Below.refl w.heap.size w)
  have H : ((courierlaw02_awake.f).bind fun t242 => (if t242 = true then ((courierref01_Formed.f k a0_0 a0_1 a0_2 l0_3).bind fun t243 => (courierlaw02_WireBack.j0 k l1 a2 (!t243) a0_0 a0_1 a0_2 l0_3)) else (courierlaw02_WireBack.j0 k l1 a2 true a0_0 a0_1 a0_2 l0_3))) = some r := h
  clear h
  have HC4 := Aside0.mk H
  clear H
  go_enter Try.func4, Try.ntmps4
  go_upto_region 1 with (first | ((with_reducible refine gate_dst (N := 3) rfl ?_); (try (refine gate_guard (by rfl) ?_; dsimp only)); refine box_event ?hg (N := 3) ?hd (cs := #[.int .i64 a0_0, .int .i64 a0_1, .int .u64 a0_2, .slice A0_3 l0_3.length c0_3]) (t := 30) ?hr ?_; (case hd => rfl); (case hg => rfl); (case hr => first | (go_simp; done) | (go_simp; rfl)); intro gb241 hg w5 hbox hb; have n0_ := Aside0.mk (below_step (by repeat (first | (with_reducible first | exact HB.out | apply below_alloc | apply pw_below_drewN | apply below_drew1) | exact HB.out)) hb); have n1_ := Aside0.mk (hbox); have n2_ := Aside0.mk ((by rw [hg]; exact (below_size (by repeat (first | (with_reducible first | exact HB.out | apply below_alloc | apply pw_below_drewN | apply below_drew1) | exact HB.out))) : w.heap.size ≤ gb241)); have n3_ := Aside0.mk ((by rw [hg]; exact (below_size (by repeat (first | (with_reducible first | exact HB.out | apply below_alloc | apply pw_below_drewN | apply below_drew1) | exact HB.out))) : w.heap.size ≤ gb241)); clear HB; have HB := n0_; have BK241 := n1_; have GW241 := n2_; have GE241 := n3_; clear n0_ n1_ n2_ n3_; clear hb hbox hg))
  (try simp only [Act.put, List.setIfInBounds_toArray, List.set_cons_zero, List.set_cons_succ])
  go_cut [21] (fun v21 wc => ∃ (kq : Nat) (x21_3 : Bool), v21 = .bool x21_3 ∧ Aside0 (courierlaw02_WireBack.j0 kq l1 a2 x21_3 a0_0 a0_1 a0_2 l0_3 = some r) ∧ Aside0 (kq ≤ k) ∧ Aside0 (wc.heap[gb241]? = some (.cells #[.int .i64 a0_0, .int .i64 a0_1, .int .u64 a0_2, (.slice A0_3 l0_3.length c0_3)] 30 (0, 0))) ∧ Aside0 (Below w.heap.size w wc))
  case first =>
    have H := HC4.out
    clear HC4
    replace H := Option.bind_eq_some_iff.mp H
    obtain ⟨t242, A60, H⟩ := H
    replace H : (if t242 = true then ((courierref01_Formed.f k a0_0 a0_1 a0_2 l0_3).bind fun t243 => (courierlaw02_WireBack.j0 k l1 a2 (!t243) a0_0 a0_1 a0_2 l0_3)) else (courierlaw02_WireBack.j0 k l1 a2 true a0_0 a0_1 a0_2 l0_3)) = some r := H
    have A6 := Aside0.mk A60
    clear A60
    by_cases c7 : t242 = true
    · subst c7
      have H1 : ((courierref01_Formed.f k a0_0 a0_1 a0_2 l0_3).bind fun t243 => (courierlaw02_WireBack.j0 k l1 a2 (!t243) a0_0 a0_1 a0_2 l0_3)) = some r := by rw [if_pos rfl] at H; exact H
      clear H
      have H := H1
      clear H1
      replace H := Option.bind_eq_some_iff.mp H
      obtain ⟨t243, A80, H⟩ := H
      replace H : (courierlaw02_WireBack.j0 k l1 a2 (!t243) a0_0 a0_1 a0_2 l0_3) = some r := H
      have A8 := Aside0.mk A80
      clear A80
      have H' := Aside0.mk H
      clear H
      go_wp2_with (first | ((with_reducible refine gate_callee (f := 7) rfl ?_); refine goesL_ (some 15) rfl rfl Try.func7 (by kernel_rfl) rfl #[] rfl (by (try simp only [List.map_toArray, List.map_cons, List.map_nil]); first | done | rfl | (simp only [List.length_drop, List.length_take]; rfl)) ?_; (with_reducible refine (courierlaw02_awake.calls  true _ A6.out).mono ?_); rintro e w9 ⟨rfl, hb⟩; refine ⟨_, rfl, ?_⟩; have n0_ := Aside0.mk (blk_below (g := gb241) (o := .cells #[.int .i64 a0_0, .int .i64 a0_1, .int .u64 a0_2, .slice A0_3 l0_3.length c0_3] 30 (0, 0)) (by (with_reducible repeat (first | refine blk_drewN ?_ _ | refine blk_drew ?_ | refine blk_alloc ?_ _)); exact BK241.out) hb); have n1_ := Aside0.mk (below_step (by repeat (first | (with_reducible first | exact HB.out | apply below_alloc | apply pw_below_drewN | apply below_drew1 | refine below_set ?_ GE241.out) | exact HB.out)) hb); clear BK241; clear HB; have BK241 := n0_; have HB := n1_; clear n0_ n1_; (try clear hb); (try clear hb2); (try clear hk); (try clear hi); have hcz10_0 : w9.cell? ⟨gb241, 0, none⟩ = some (.int .i64 a0_0) := (blk_cell BK241.out 0).trans rfl; have hcz10_1 : w9.cell? ⟨gb241, 1, none⟩ = some (.int .i64 a0_1) := (blk_cell BK241.out 1).trans rfl; have hcz10_2 : w9.cell? ⟨gb241, 2, none⟩ = some (.int .u64 a0_2) := (blk_cell BK241.out 2).trans rfl; have hcz10_3 : w9.cell? ⟨gb241, 3, none⟩ = some (.slice A0_3 l0_3.length c0_3) := (blk_cell BK241.out 3).trans rfl; have hfz10_0 := blk_frozen BK241.out 0; have hfz10_1 := blk_frozen BK241.out 1; have hfz10_2 := blk_frozen BK241.out 2; have hfz10_3 := blk_frozen BK241.out 3) | (go_at_call 12; (with_reducible refine (courierref01_Formed.calls k a0_0 a0_1 a0_2 _ _ l0_3 t243 _ ?side1 ?side2 A8.out).mono ?_); (case side1 => repeat (first | exact (Kd.C_below HR0_3.out HB.out) | (with_reducible refine Kd.C_alloc ?_ _) | (with_reducible refine Kd.C_drewN ?_ _) | (with_reducible refine Kd.C_drew ?_))); (case side2 => exact HC0_3.out); rintro e w11 ⟨rfl, hb⟩; have n0_ := Aside0.mk (blk_below (g := gb241) (o := .cells #[.int .i64 a0_0, .int .i64 a0_1, .int .u64 a0_2, .slice A0_3 l0_3.length c0_3] 30 (0, 0)) (by (with_reducible repeat (first | refine blk_drewN ?_ _ | refine blk_drew ?_ | refine blk_alloc ?_ _)); exact BK241.out) hb); have n1_ := Aside0.mk (below_step (by repeat (first | (with_reducible first | exact HB.out | apply below_alloc | apply pw_below_drewN | apply below_drew1 | refine below_set ?_ GE241.out) | exact HB.out)) hb); clear BK241; clear HB; have BK241 := n0_; have HB := n1_; clear n0_ n1_; (try clear hb); (try clear hb2); (try clear hk); (try clear hi)))
      go_meet
      case rel => exact ⟨_, (!t243), (by first | rfl | (simp; done) | (simp [*]; done)), H', ⟨by first | omega | exact Nat.le_refl _⟩, ⟨by (with_reducible repeat (first | refine blk_drewN ?_ _ | refine blk_drew ?_ | refine blk_alloc ?_ _)); exact BK241.out⟩, ⟨by repeat (first | (with_reducible first | exact HB.out | apply below_alloc | apply pw_below_drewN | apply below_drew1 | refine below_set ?_ GE241.out) | exact HB.out)⟩⟩
    · replace c7 := Bool.eq_false_iff.mpr c7
      subst c7
      have H1 : (courierlaw02_WireBack.j0 k l1 a2 true a0_0 a0_1 a0_2 l0_3) = some r := by rw [if_neg (show ¬ (false = true) by decide)] at H; exact H
      clear H
      have H := H1
      clear H1
      have H' := Aside0.mk H
      clear H
      go_wp2_with (first | ((with_reducible refine gate_callee (f := 7) rfl ?_); refine goesL_ (some 15) rfl rfl Try.func7 (by kernel_rfl) rfl #[] rfl (by (try simp only [List.map_toArray, List.map_cons, List.map_nil]); first | done | rfl | (simp only [List.length_drop, List.length_take]; rfl)) ?_; (with_reducible refine (courierlaw02_awake.calls  false _ A6.out).mono ?_); rintro e w12 ⟨rfl, hb⟩; refine ⟨_, rfl, ?_⟩; have n0_ := Aside0.mk (blk_below (g := gb241) (o := .cells #[.int .i64 a0_0, .int .i64 a0_1, .int .u64 a0_2, .slice A0_3 l0_3.length c0_3] 30 (0, 0)) (by (with_reducible repeat (first | refine blk_drewN ?_ _ | refine blk_drew ?_ | refine blk_alloc ?_ _)); exact BK241.out) hb); have n1_ := Aside0.mk (below_step (by repeat (first | (with_reducible first | exact HB.out | apply below_alloc | apply pw_below_drewN | apply below_drew1 | refine below_set ?_ GE241.out) | exact HB.out)) hb); clear BK241; clear HB; have BK241 := n0_; have HB := n1_; clear n0_ n1_; (try clear hb); (try clear hb2); (try clear hk); (try clear hi)))
      go_meet
      case rel => exact ⟨_, (true), (by first | rfl | (simp; done) | (simp [*]; done)), H', ⟨by first | omega | exact Nat.le_refl _⟩, ⟨by (with_reducible repeat (first | refine blk_drewN ?_ _ | refine blk_drew ?_ | refine blk_alloc ?_ _)); exact BK241.out⟩, ⟨by repeat (first | (with_reducible first | exact HB.out | apply below_alloc | apply pw_below_drewN | apply below_drew1 | refine below_set ?_ GE241.out) | exact HB.out)⟩⟩
  case rest =>
    clear HC4
    try clear c1
    try clear p2
    try clear c4
    try clear c7
    try clear hcz10_0
    try clear hcz10_1
    try clear hcz10_2
    try clear hcz10_3
    try clear hfz10_0
    try clear hfz10_1
    try clear hfz10_2
    try clear hfz10_3
    obtain ⟨kq, x21_3, rfl, HA, HJ3, BK241, HB⟩ := hcut
    cases kq with
    | zero => exact absurd HA.out (by simp [courierlaw02_WireBack.j0])
    | succ kj3 =>
      have H := HA.out
      clear HA
      simp only [courierlaw02_WireBack.j0] at H
      by_cases c13 : x21_3 = true
      · subst c13
        have H1 : ((courierlaw02_awake.f).bind fun t244 => (some t244)) = some r := by rw [if_pos rfl] at H; exact H
        clear H
        have H := H1
        clear H1
        replace H := Option.bind_eq_some_iff.mp H
        obtain ⟨t244, A140, H⟩ := H
        replace H : (some t244) = some r := H
        have A14 := Aside0.mk A140
        clear A140
        obtain rfl := Option.some.inj H
        go_wp2_with (first | ((with_reducible refine gate_callee (f := 7) rfl ?_); refine goesL_ (some 22) rfl rfl Try.func7 (by kernel_rfl) rfl #[] rfl (by (try simp only [List.map_toArray, List.map_cons, List.map_nil]); first | done | rfl | (simp only [List.length_drop, List.length_take]; rfl)) ?_; (with_reducible refine (courierlaw02_awake.calls  t244 _ A14.out).mono ?_); rintro e w15 ⟨rfl, hb⟩; refine ⟨_, rfl, ?_⟩; have n0_ := Aside0.mk (blk_below (g := gb241) (o := .cells #[.int .i64 a0_0, .int .i64 a0_1, .int .u64 a0_2, .slice A0_3 l0_3.length c0_3] 30 (0, 0)) (by (with_reducible repeat (first | refine blk_drewN ?_ _ | refine blk_drew ?_ | refine blk_alloc ?_ _)); exact BK241.out) hb); have n1_ := Aside0.mk (below_step (by repeat (first | (with_reducible first | exact HB.out | apply below_alloc | apply pw_below_drewN | apply below_drew1 | refine below_set ?_ GE241.out) | exact HB.out)) hb); clear BK241; clear HB; have BK241 := n0_; have HB := n1_; clear n0_ n1_; (try clear hb); (try clear hb2); (try clear hk); (try clear hi)))
        go_ret
        exact ⟨by first | rfl | (simp [errW_none, errW_some] <;> rfl) | (simp [*, errW_none, errW_some] <;> rfl), by repeat (first | (with_reducible first | exact HB.out | apply below_alloc | apply pw_below_drewN | apply below_drew1 | refine below_set ?_ GE241.out) | exact HB.out)⟩
      · replace c13 := Bool.eq_false_iff.mpr c13
        subst c13
        have H1 : ((courierlaw02_theirs.f a0_0 a0_1 a0_2 l0_3).bind fun bt245 => ((wire_Append.f kj3 ([] : List Int) bt245.1 bt245.2.1 bt245.2.2.1 bt245.2.2.2).bind fun bt251 => (if bt251.2 = 0 then (courierlaw02_WireBack.j1 kj3 l1 a2 bt251.1 ((bt251.1.length : Int) == 0) a0_0 a0_1 a0_2 l0_3) else (courierlaw02_WireBack.j1 kj3 l1 a2 bt251.1 true a0_0 a0_1 a0_2 l0_3)))) = some r := by rw [if_neg (show ¬ (false = true) by decide)] at H; exact H
        clear H
        have H := H1
        clear H1
        replace H := Option.bind_eq_some_iff.mp H
        obtain ⟨⟨t245, t246, t247, t248⟩, A160, H⟩ := H
        replace H : ((wire_Append.f kj3 ([] : List Int) t245 t246 t247 t248).bind fun bt251 => (if bt251.2 = 0 then (courierlaw02_WireBack.j1 kj3 l1 a2 bt251.1 ((bt251.1.length : Int) == 0) a0_0 a0_1 a0_2 l0_3) else (courierlaw02_WireBack.j1 kj3 l1 a2 bt251.1 true a0_0 a0_1 a0_2 l0_3))) = some r := H
        have A16 := Aside0.mk A160
        clear A160
        replace H := Option.bind_eq_some_iff.mp H
        obtain ⟨⟨t251, t254⟩, A170, H⟩ := H
        replace H : (if t254 = 0 then (courierlaw02_WireBack.j1 kj3 l1 a2 t251 ((t251.length : Int) == 0) a0_0 a0_1 a0_2 l0_3) else (courierlaw02_WireBack.j1 kj3 l1 a2 t251 true a0_0 a0_1 a0_2 l0_3)) = some r := H
        have A17 := Aside0.mk A170
        clear A170
        have HC18 := Aside0.mk H
        clear H
        have hcz19_0 : wc.cell? ⟨gb241, 0, none⟩ = some (.int .i64 a0_0) := (blk_cell BK241.out 0).trans rfl
        have hcz19_1 : wc.cell? ⟨gb241, 1, none⟩ = some (.int .i64 a0_1) := (blk_cell BK241.out 1).trans rfl
        have hcz19_2 : wc.cell? ⟨gb241, 2, none⟩ = some (.int .u64 a0_2) := (blk_cell BK241.out 2).trans rfl
        have hcz19_3 : wc.cell? ⟨gb241, 3, none⟩ = some (.slice A0_3 l0_3.length c0_3) := (blk_cell BK241.out 3).trans rfl
        have hfz19_0 := blk_frozen BK241.out 0
        have hfz19_1 := blk_frozen BK241.out 1
        have hfz19_2 := blk_frozen BK241.out 2
        have hfz19_3 := blk_frozen BK241.out 3
        go_upto_region 4 with (first | ((with_reducible refine gate_callee (f := 14) rfl ?_); refine goesL_ (some 25) rfl rfl Try.func14 (by kernel_rfl) rfl #[.agg #[.int .i64 a0_0, .int .i64 a0_1, .int .u64 a0_2, .slice A0_3 l0_3.length c0_3]] rfl (by (try simp only [List.map_toArray, List.map_cons, List.map_nil]); first | done | rfl | (simp only [List.length_drop, List.length_take]; rfl)) ?_; (with_reducible refine (courierlaw02_theirs.calls a0_0 a0_1 a0_2 (fun k_ => k_ < w.heap.size) _ _ l0_3 t245 t246 t247 t248 _ ?side1 A16.out).mono ?_); (case side1 => exact Kd.V_mk HC0_3.out (Kd.F_below (Kd.C_F (Kd.heap_int .u8) HR0_3.out) (by repeat (first | (with_reducible first | exact HB.out | apply below_alloc | apply pw_below_drewN | apply below_drew1 | refine below_set ?_ GE241.out) | exact HB.out)))); rintro e w20 ⟨v249, rfl, ho0, hb⟩; refine ⟨_, rfl, ?_⟩; have n0_ := Aside0.mk (Kd.V_lower (Kd.V_mono (ok' := fun k_ => k_ ≠ gb241) ho0 (fun k_ hk_ => Or.elim hk_ (fun hs_ => fun e_ => Nat.not_le.2 hs_ (by rw [e_]; exact GW241.out)) (fun hn_ => (Kd.freshB (g := gb241) (o := .cells #[.int .i64 a0_0, .int .i64 a0_1, .int .u64 a0_2, .slice A0_3 l0_3.length c0_3] 30 (0, 0)) (by (with_reducible repeat (first | refine blk_drewN ?_ _ | refine blk_drew ?_ | refine blk_alloc ?_ _)); exact BK241.out) k_ hn_)))) (below_size (by repeat (first | (with_reducible first | exact HB.out | apply below_alloc | apply pw_below_drewN | apply below_drew1 | refine below_set ?_ GE241.out) | exact HB.out)))); have n1_ := Aside0.mk (blk_below (g := gb241) (o := .cells #[.int .i64 a0_0, .int .i64 a0_1, .int .u64 a0_2, .slice A0_3 l0_3.length c0_3] 30 (0, 0)) (by (with_reducible repeat (first | refine blk_drewN ?_ _ | refine blk_drew ?_ | refine blk_alloc ?_ _)); exact BK241.out) hb); have n2_ := Aside0.mk (below_step (by repeat (first | (with_reducible first | exact HB.out | apply below_alloc | apply pw_below_drewN | apply below_drew1 | refine below_set ?_ GE241.out) | exact HB.out)) hb); clear BK241; clear HB; have HO250 := n0_; have BK241 := n1_; have HB := n2_; clear n0_ n1_ n2_; (try clear hb); (try clear hb2); (try clear hk); (try clear hi); (try clear ho0); obtain ⟨Ao21, co21, eo21⟩ := Kd.V_slice HO250.out; subst eo21) | ((with_reducible refine gate_callee (f := 13) rfl ?_); refine goesL_ (some 26) rfl rfl Try.func13 (by kernel_rfl) rfl #[.slice none 0 0, .agg #[.int .i64 t245, .int .i64 t246, .int .u64 t247, .slice Ao21 t248.length co21]] rfl (by (try simp only [List.map_toArray, List.map_cons, List.map_nil]); first | done | rfl | (simp only [List.length_drop, List.length_take]; rfl)) ?_; (refine (wire_Append.calls kj3 _ _ ([] : List Int) t245 t246 t247 _ _ t248 t251 t254 _ ?side1 ?side2 ?side3 ?side4 A17.out).mono ?_); (case side1 => exact Kd.C_nil _ _); (case side2 => exact Nat.le_refl _); (case side3 => repeat (first | exact (Kd.V_reads' HO250.out).2.2 | (with_reducible refine Kd.C_alloc ?_ _) | (with_reducible refine Kd.C_drewN ?_ _) | (with_reducible refine Kd.C_drew ?_))); (case side4 => exact (Kd.V_reads' HO250.out).2.1); rintro e w22 ⟨v252, rfl, ho0, hb⟩; refine ⟨_, rfl, ?_⟩; have n0_ := Aside0.mk (Kd.V_elder' (by (with_reducible repeat (first | apply Kd.V_alloc | apply Kd.V_drewN | apply Kd.V_drew)); exact HO250.out) (Kd.R_base ho0) hb); have n1_ := Aside0.mk (Kd.R_lower ho0 (below_size (by repeat (first | (with_reducible first | exact HB.out | apply below_alloc | apply pw_below_drewN | apply below_drew1 | refine below_set ?_ GE241.out) | exact HB.out)))); have n2_ := Aside0.mk (blk_below (g := gb241) (o := .cells #[.int .i64 a0_0, .int .i64 a0_1, .int .u64 a0_2, .slice A0_3 l0_3.length c0_3] 30 (0, 0)) (by (with_reducible repeat (first | refine blk_drewN ?_ _ | refine blk_drew ?_ | refine blk_alloc ?_ _)); exact BK241.out) hb); have n3_ := Aside0.mk (below_step (by repeat (first | (with_reducible first | exact HB.out | apply below_alloc | apply pw_below_drewN | apply below_drew1 | refine below_set ?_ GE241.out) | exact HB.out)) hb); clear HO250; clear BK241; clear HB; have HO250 := n0_; have HO253 := n1_; have BK241 := n2_; have HB := n3_; clear n0_ n1_ n2_ n3_; (try clear hb); (try clear hb2); (try clear hk); (try clear hi); (try clear ho0)))
        (try simp only [Act.put, List.setIfInBounds_toArray, List.set_cons_zero, List.set_cons_succ])
        go_cut [35] (fun v35 wc => ∃ (kq : Nat) (x35_17 : Bool), v35 = .bool x35_17 ∧ Aside0 (courierlaw02_WireBack.j1 kq l1 a2 t251 x35_17 a0_0 a0_1 a0_2 l0_3 = some r) ∧ Aside0 (kq ≤ kj3) ∧ Aside0 (Kd.R (Kd.int .u8) 5 wc w.heap.size (fun _ => True) v252 t251) ∧ Aside0 (wc.heap[gb241]? = some (.cells #[.int .i64 a0_0, .int .i64 a0_1, .int .u64 a0_2, (.slice A0_3 l0_3.length c0_3)] 30 (0, 0))) ∧ Aside0 (Below w.heap.size w wc))
        case first =>
          have H := HC18.out
          clear HC18
          by_cases c23 : t254 = 0
          · rw [if_pos c23] at H
            have c23b0 : (t254 == 0) = true := beq_iff_eq.mpr c23
            have c23b1 : (t254 != 0) = false := bne_eq_false_iff_eq.mpr c23
            clear c23
            (first | rw [c23b0] | (simp only [i64_w, i32_w]; rw [c23b0]) | skip)
            have H' := Aside0.mk H
            clear H
            obtain ⟨Ao24, co24, eo24⟩ := Kd.R_slice HO253.out
            subst eo24
            go_wp2
            go_meet
            case rel => exact ⟨_, (((t251.length : Int) == 0)), (by first | rfl | (simp; done) | (simp [*]; done)), H', ⟨by have := HJ3.out; first | omega | exact Nat.le_refl _⟩, ⟨by (with_reducible repeat (first | apply Kd.R_alloc | apply Kd.R_drewN | apply Kd.R_drew)); exact HO253.out⟩, ⟨by (with_reducible repeat (first | refine blk_drewN ?_ _ | refine blk_drew ?_ | refine blk_alloc ?_ _)); exact BK241.out⟩, ⟨by repeat (first | (with_reducible first | exact HB.out | apply below_alloc | apply pw_below_drewN | apply below_drew1 | refine below_set ?_ GE241.out) | exact HB.out)⟩⟩
          · rw [if_neg c23] at H
            have c23b0 : (t254 == 0) = false := beq_eq_false_iff_ne.mpr c23
            have c23b1 : (t254 != 0) = true := bne_iff_ne.mpr c23
            (first | rw [c23b0] | (simp only [i64_w, i32_w]; rw [c23b0]) | skip)
            have H' := Aside0.mk H
            clear H
            go_wp2
            go_meet
            case rel => exact ⟨_, (true), (by first | rfl | (simp; done) | (simp [*]; done)), H', ⟨by have := HJ3.out; first | omega | exact Nat.le_refl _⟩, ⟨by (with_reducible repeat (first | apply Kd.R_alloc | apply Kd.R_drewN | apply Kd.R_drew)); exact HO253.out⟩, ⟨by (with_reducible repeat (first | refine blk_drewN ?_ _ | refine blk_drew ?_ | refine blk_alloc ?_ _)); exact BK241.out⟩, ⟨by repeat (first | (with_reducible first | exact HB.out | apply below_alloc | apply pw_below_drewN | apply below_drew1 | refine below_set ?_ GE241.out) | exact HB.out)⟩⟩
        case rest =>
          clear HC18
          try clear c1
          try clear c2
          try clear p2
          try clear c4
          try clear c7
          try clear c13
          try clear c14
          try clear c23
          try clear c23b0
          try clear c23b1
          try clear hcz10_0
          try clear hcz10_1
          try clear hcz10_2
          try clear hcz10_3
          try clear hcz19_0
          try clear hcz19_1
          try clear hcz19_2
          try clear hcz19_3
          try clear hfz10_0
          try clear hfz10_1
          try clear hfz10_2
          try clear hfz10_3
          try clear hfz19_0
          try clear hfz19_1
          try clear hfz19_2
          try clear hfz19_3
          try clear p2
          obtain ⟨kq, x35_17, rfl, HA, HJ17, HO_7, BK241, HB⟩ := hcut
          cases kq with
          | zero => exact absurd HA.out (by simp [courierlaw02_WireBack.j1])
          | succ kj17 =>
            have H := HA.out
            clear HA
            simp only [courierlaw02_WireBack.j1] at H
            by_cases c25 : x35_17 = true
            · subst c25
              have H1 : (some false) = some r := by rw [if_pos rfl] at H; exact H
              clear H
              have H := H1
              clear H1
              obtain rfl := Option.some.inj H
              go_wp2
              go_ret
              exact ⟨by first | rfl | (simp [errW_none, errW_some] <;> rfl) | (simp [*, errW_none, errW_some] <;> rfl), by repeat (first | (with_reducible first | exact HB.out | apply below_alloc | apply pw_below_drewN | apply below_drew1 | refine below_set ?_ GE241.out) | exact HB.out)⟩
            · replace c25 := Bool.eq_false_iff.mpr c25
              subst c25
              have H1 : ((some (([] : List Int) : List Int)).bind fun y255 => (if y255.length + t251.length < 140737488355328 then ((some (y255 ++ t251 : List Int)).bind fun y258 => (if y258.length + l1.length < 140737488355328 then ((wire_Take.f kj17 (y258 ++ l1)).bind fun bt264 => (if (IntKind.u64.wrap ((t251.length : Int))) = 0 then (none) else (if 0 ≤ (Int.tmod a2 (IntKind.u64.wrap ((t251.length : Int)))) then (if (Int.tmod a2 (IntKind.u64.wrap ((t251.length : Int)))) ≤ (t251.length : Int) then ((wire_Take.f kj17 (t251.take ((Int.tmod a2 (IntKind.u64.wrap ((t251.length : Int)))) : Int).toNat)).bind fun bt277 => ((courierlaw02_ours.f bt264.1 bt264.2.1 bt264.2.2.1 bt264.2.2.2.1).bind fun bt286 => ((courierref01_Same.f bt286.1 bt286.2.1 bt286.2.2.1 bt286.2.2.2 a0_0 a0_1 a0_2 l0_3).bind fun t292 => (if t292 = true then (if bt264.2.2.2.2.1 = (t251.length : Int) then (if bt264.2.2.2.2.2 = 0 then (some (bt277.2.2.2.2.2 == 5)) else (some false)) else (some false)) else (some false))))) else (none)) else (none)))) else (none))) else (none))) = some r := by rw [if_neg (show ¬ (false = true) by decide)] at H; exact H
              clear H
              have H := H1
              clear H1
              obtain ⟨y255, hy255⟩ : ∃ y_ : List Int, y_ = (([] : List Int)) := ⟨_, rfl⟩
              replace H : (if y255.length + t251.length < 140737488355328 then ((some (y255 ++ t251 : List Int)).bind fun y258 => (if y258.length + l1.length < 140737488355328 then ((wire_Take.f kj17 (y258 ++ l1)).bind fun bt264 => (if (IntKind.u64.wrap ((t251.length : Int))) = 0 then (none) else (if 0 ≤ (Int.tmod a2 (IntKind.u64.wrap ((t251.length : Int)))) then (if (Int.tmod a2 (IntKind.u64.wrap ((t251.length : Int)))) ≤ (t251.length : Int) then ((wire_Take.f kj17 (t251.take ((Int.tmod a2 (IntKind.u64.wrap ((t251.length : Int)))) : Int).toNat)).bind fun bt277 => ((courierlaw02_ours.f bt264.1 bt264.2.1 bt264.2.2.1 bt264.2.2.2.1).bind fun bt286 => ((courierref01_Same.f bt286.1 bt286.2.1 bt286.2.2.1 bt286.2.2.2 a0_0 a0_1 a0_2 l0_3).bind fun t292 => (if t292 = true then (if bt264.2.2.2.2.1 = (t251.length : Int) then (if bt264.2.2.2.2.2 = 0 then (some (bt277.2.2.2.2.2 == 5)) else (some false)) else (some false)) else (some false))))) else (none)) else (none)))) else (none))) else (none)) = some r := by first | (rw [hy255]; with_reducible exact H) | (have H2_ := (Option.bind_some _ _).symm.trans H; rw [hy255]; with_reducible exact H2_) | (have H2_ := (Option.bind_some _ _).symm.trans H; with_reducible exact H2_) | with_reducible exact H | (rw [hy255]; exact H) | exact H
              have Ny255 := Aside0.mk hy255
              clear hy255
              by_cases c26 : y255.length + t251.length < 140737488355328
              · rw [if_pos c26] at H
                have LMc26 := Aside0.mk c26
                clear c26
                obtain ⟨y258, hy258⟩ : ∃ y_ : List Int, y_ = (y255 ++ t251) := ⟨_, rfl⟩
                replace H : (if y258.length + l1.length < 140737488355328 then ((wire_Take.f kj17 (y258 ++ l1)).bind fun bt264 => (if (IntKind.u64.wrap ((t251.length : Int))) = 0 then (none) else (if 0 ≤ (Int.tmod a2 (IntKind.u64.wrap ((t251.length : Int)))) then (if (Int.tmod a2 (IntKind.u64.wrap ((t251.length : Int)))) ≤ (t251.length : Int) then ((wire_Take.f kj17 (t251.take ((Int.tmod a2 (IntKind.u64.wrap ((t251.length : Int)))) : Int).toNat)).bind fun bt277 => ((courierlaw02_ours.f bt264.1 bt264.2.1 bt264.2.2.1 bt264.2.2.2.1).bind fun bt286 => ((courierref01_Same.f bt286.1 bt286.2.1 bt286.2.2.1 bt286.2.2.2 a0_0 a0_1 a0_2 l0_3).bind fun t292 => (if t292 = true then (if bt264.2.2.2.2.1 = (t251.length : Int) then (if bt264.2.2.2.2.2 = 0 then (some (bt277.2.2.2.2.2 == 5)) else (some false)) else (some false)) else (some false))))) else (none)) else (none)))) else (none)) = some r := by first | (rw [hy258]; with_reducible exact H) | (have H2_ := (Option.bind_some _ _).symm.trans H; rw [hy258]; with_reducible exact H2_) | (have H2_ := (Option.bind_some _ _).symm.trans H; with_reducible exact H2_) | with_reducible exact H | (rw [hy258]; exact H) | exact H
                have Ny258 := Aside0.mk hy258
                clear hy258
                by_cases c27 : y258.length + l1.length < 140737488355328
                · rw [if_pos c27] at H
                  have LMc27 := Aside0.mk c27
                  clear c27
                  obtain ⟨y261, hy261⟩ : ∃ y_ : List Int, y_ = (y258 ++ l1) := ⟨_, rfl⟩
                  replace H : ((wire_Take.f kj17 y261).bind fun bt264 => (if (IntKind.u64.wrap ((t251.length : Int))) = 0 then (none) else (if 0 ≤ (Int.tmod a2 (IntKind.u64.wrap ((t251.length : Int)))) then (if (Int.tmod a2 (IntKind.u64.wrap ((t251.length : Int)))) ≤ (t251.length : Int) then ((wire_Take.f kj17 (t251.take ((Int.tmod a2 (IntKind.u64.wrap ((t251.length : Int)))) : Int).toNat)).bind fun bt277 => ((courierlaw02_ours.f bt264.1 bt264.2.1 bt264.2.2.1 bt264.2.2.2.1).bind fun bt286 => ((courierref01_Same.f bt286.1 bt286.2.1 bt286.2.2.1 bt286.2.2.2 a0_0 a0_1 a0_2 l0_3).bind fun t292 => (if t292 = true then (if bt264.2.2.2.2.1 = (t251.length : Int) then (if bt264.2.2.2.2.2 = 0 then (some (bt277.2.2.2.2.2 == 5)) else (some false)) else (some false)) else (some false))))) else (none)) else (none)))) = some r := by first | (rw [hy261]; with_reducible exact H) | (have H2_ := (Option.bind_some _ _).symm.trans H; rw [hy261]; with_reducible exact H2_) | (have H2_ := (Option.bind_some _ _).symm.trans H; with_reducible exact H2_) | with_reducible exact H | (rw [hy261]; exact H) | exact H
                  have Ny261 := Aside0.mk hy261
                  clear hy261
                  replace H := Option.bind_eq_some_iff.mp H
                  obtain ⟨⟨t264, t265, t266, t267, t270, t271⟩, A280, H⟩ := H
                  replace H : (if (IntKind.u64.wrap ((t251.length : Int))) = 0 then (none) else (if 0 ≤ (Int.tmod a2 (IntKind.u64.wrap ((t251.length : Int)))) then (if (Int.tmod a2 (IntKind.u64.wrap ((t251.length : Int)))) ≤ (t251.length : Int) then ((wire_Take.f kj17 (t251.take ((Int.tmod a2 (IntKind.u64.wrap ((t251.length : Int)))) : Int).toNat)).bind fun bt277 => ((courierlaw02_ours.f t264 t265 t266 t267).bind fun bt286 => ((courierref01_Same.f bt286.1 bt286.2.1 bt286.2.2.1 bt286.2.2.2 a0_0 a0_1 a0_2 l0_3).bind fun t292 => (if t292 = true then (if t270 = (t251.length : Int) then (if t271 = 0 then (some (bt277.2.2.2.2.2 == 5)) else (some false)) else (some false)) else (some false))))) else (none)) else (none))) = some r := H
                  have A28 := Aside0.mk A280
                  clear A280
                  by_cases c29 : (IntKind.u64.wrap ((t251.length : Int))) = 0
                  · rw [if_pos c29] at H
                    exact absurd H (by simp)
                  · rw [if_neg c29] at H
                    have c29b0 : ((IntKind.u64.wrap ((t251.length : Int))) == 0) = false := beq_eq_false_iff_ne.mpr c29
                    have c29b1 : ((IntKind.u64.wrap ((t251.length : Int))) != 0) = true := bne_iff_ne.mpr c29
                    obtain ⟨ji30, hji30⟩ : ∃ j_ : Int, (Int.tmod a2 (IntKind.u64.wrap ((t251.length : Int)))) = j_ := ⟨_, rfl⟩
                    replace H : (if 0 ≤ (ji30) then (if (ji30) ≤ (t251.length : Int) then ((wire_Take.f kj17 (t251.take ((ji30) : Int).toNat)).bind fun bt277 => ((courierlaw02_ours.f t264 t265 t266 t267).bind fun bt286 => ((courierref01_Same.f bt286.1 bt286.2.1 bt286.2.2.1 bt286.2.2.2 a0_0 a0_1 a0_2 l0_3).bind fun t292 => (if t292 = true then (if t270 = (t251.length : Int) then (if t271 = 0 then (some (bt277.2.2.2.2.2 == 5)) else (some false)) else (some false)) else (some false))))) else (none)) else (none)) = some r := by first | (rw [hji30] at H; exact H) | (simp only [hji30] at H ⊢; exact H)
                    (try rw [hji30] at A28)
                    by_cases c31 : 0 ≤ (ji30)
                    · rw [if_pos c31] at H
                      have c31b0 := eq_true c31
                      have c31b1 : decide (0 ≤ (ji30)) = true := decide_eq_true c31
                      clear c31
                      by_cases c32 : (ji30) ≤ (t251.length : Int)
                      · rw [if_pos c32] at H
                        have c32b0 := eq_true c32
                        have c32b1 : decide ((ji30) ≤ (t251.length : Int)) = true := decide_eq_true c32
                        clear c32
                        obtain ⟨y273, hy273⟩ : ∃ y_ : List Int, y_ = (t251.take ((ji30) : Int).toNat) := ⟨_, rfl⟩
                        replace H : ((wire_Take.f kj17 y273).bind fun bt277 => ((courierlaw02_ours.f t264 t265 t266 t267).bind fun bt286 => ((courierref01_Same.f bt286.1 bt286.2.1 bt286.2.2.1 bt286.2.2.2 a0_0 a0_1 a0_2 l0_3).bind fun t292 => (if t292 = true then (if t270 = (t251.length : Int) then (if t271 = 0 then (some (bt277.2.2.2.2.2 == 5)) else (some false)) else (some false)) else (some false))))) = some r := by first | (rw [hy273]; with_reducible exact H) | (have H2_ := (Option.bind_some _ _).symm.trans H; rw [hy273]; with_reducible exact H2_) | (have H2_ := (Option.bind_some _ _).symm.trans H; with_reducible exact H2_) | with_reducible exact H | (rw [hy273]; exact H) | exact H
                        have Ny273 := Aside0.mk hy273
                        clear hy273
                        replace H := Option.bind_eq_some_iff.mp H
                        obtain ⟨⟨t277, t278, t279, t280, t283, t284⟩, A330, H⟩ := H
                        replace H : ((courierlaw02_ours.f t264 t265 t266 t267).bind fun bt286 => ((courierref01_Same.f bt286.1 bt286.2.1 bt286.2.2.1 bt286.2.2.2 a0_0 a0_1 a0_2 l0_3).bind fun t292 => (if t292 = true then (if t270 = (t251.length : Int) then (if t271 = 0 then (some (t284 == 5)) else (some false)) else (some false)) else (some false)))) = some r := H
                        have A33 := Aside0.mk A330
                        clear A330
                        replace H := Option.bind_eq_some_iff.mp H
                        obtain ⟨⟨t286, t287, t288, t289⟩, A340, H⟩ := H
                        replace H : ((courierref01_Same.f t286 t287 t288 t289 a0_0 a0_1 a0_2 l0_3).bind fun t292 => (if t292 = true then (if t270 = (t251.length : Int) then (if t271 = 0 then (some (t284 == 5)) else (some false)) else (some false)) else (some false))) = some r := H
                        have A34 := Aside0.mk A340
                        clear A340
                        replace H := Option.bind_eq_some_iff.mp H
                        obtain ⟨t292, A350, H⟩ := H
                        replace H : (if t292 = true then (if t270 = (t251.length : Int) then (if t271 = 0 then (some (t284 == 5)) else (some false)) else (some false)) else (some false)) = some r := H
                        have A35 := Aside0.mk A350
                        clear A350
                        by_cases c36 : t292 = true
                        · subst c36
                          have H1 : (if t270 = (t251.length : Int) then (if t271 = 0 then (some (t284 == 5)) else (some false)) else (some false)) = some r := by rw [if_pos rfl] at H; exact H
                          clear H
                          have H := H1
                          clear H1
                          by_cases c37 : t270 = (t251.length : Int)
                          · rw [if_pos c37] at H
                            have c37b0 : (t270 == (t251.length : Int)) = true := beq_iff_eq.mpr c37
                            have c37b1 : (t270 != (t251.length : Int)) = false := bne_eq_false_iff_eq.mpr c37
                            clear c37
                            by_cases c38 : t271 = 0
                            · rw [if_pos c38] at H
                              have c38b0 : (t271 == 0) = true := beq_iff_eq.mpr c38
                              have c38b1 : (t271 != 0) = false := bne_eq_false_iff_eq.mpr c38
                              clear c38
                              obtain rfl := Option.some.inj H
                              try go_wp2_with (first | ((with_reducible refine gate_dst (N := 37) rfl ?_); (try (refine gate_guard (by rfl) ?_; dsimp only)); refine Kd.R_lit (Kd.int .u8) _ 5 ?hg (N := 37) ?hd (xs := ([] : List Int)) (inner := []) (ok := fun _ => True) (okp := fun _ => True) ?hr ?hp (fun _ hk => hk) trivial (Below.refl _ _) (Nat.le_refl _) (by simp) ?_; (case hd => rfl); (case hg => rfl); (case hr => first | (go_simp; done) | (go_simp; rfl)); (case hp => exact (Reps.none _ _)); intro v256 w39 ho40 hb hg_ hnew_; clear hg_ hnew_; (first | rw [← Ny255.out] at ho40 | (simp only [Int.reduceToNat] at ho40; rw [← Ny255.out] at ho40)); have n0_ := Aside0.mk (Kd.R_elder' (by (with_reducible repeat (first | apply Kd.R_alloc | apply Kd.R_drewN | apply Kd.R_drew)); exact HO_7.out) (Kd.R_base ho40) hb); have n1_ := Aside0.mk (Kd.R_lower (Kd.R_new' ho40 (Kd.R_lt (by (with_reducible repeat (first | apply Kd.R_alloc | apply Kd.R_drewN | apply Kd.R_drew)); exact HO_7.out))) (below_size (by repeat (first | (with_reducible first | exact HB.out | apply below_alloc | apply pw_below_drewN | apply below_drew1 | refine below_set ?_ GE241.out) | exact HB.out)))); have n2_ := Aside0.mk (blk_below (g := gb241) (o := .cells #[.int .i64 a0_0, .int .i64 a0_1, .int .u64 a0_2, .slice A0_3 l0_3.length c0_3] 30 (0, 0)) (by (with_reducible repeat (first | refine blk_drewN ?_ _ | refine blk_drew ?_ | refine blk_alloc ?_ _)); exact BK241.out) hb); have n3_ := Aside0.mk (below_step (by repeat (first | (with_reducible first | exact HB.out | apply below_alloc | apply pw_below_drewN | apply below_drew1 | refine below_set ?_ GE241.out) | exact HB.out)) hb); clear HO_7; clear BK241; clear HB; have HO_7 := n0_; have HO257 := n1_; have BK241 := n2_; have HB := n3_; clear n0_ n1_ n2_ n3_; clear hb ho40; obtain ⟨Ao42, co42, eo42⟩ := Kd.R_slice HO_7.out; subst eo42) | ((with_reducible refine gate_builtin (b := .append) (xs := #[.tmp 37, .tmp 38]) rfl ?_); (try (refine gate_guard (by rfl) ?_; dsimp only)); at_builtin; refine Kd.R_append_rows (Kd.int .u8) (w0 := w) w.heap.size rfl (.tmp 37) (.tmp 38) 22 5 (.int .u8 0) 1 rfl Try.underlying22 info5 rfl (by decide) (by omega) v256 y255 t251 _ _ _ (fun k_ => some k_ ≠ (.slice Ao42 t251.length co42 : Value).ownBlock) (fun _ => False) rfl rfl ?aO ?aR (fun _ _ h => h) (fun _ h => h.elim) ?aF ?aB ?aS ?aL ?_; (case aR => repeat (first | exact (Kd.R_reads' HO_7.out).2.2 | (with_reducible refine Kd.C_alloc ?_ _) | (with_reducible refine Kd.C_drewN ?_ _) | (with_reducible refine Kd.C_drew ?_))); (case aB => exact (by repeat (first | (with_reducible first | exact HB.out | apply below_alloc | apply pw_below_drewN | apply below_drew1 | refine below_set ?_ GE241.out) | exact HB.out))); (case aF => exact (fun k_ hk => Kd.fresh' (Kd.R_lt (by (with_reducible repeat (first | apply Kd.R_alloc | apply Kd.R_drewN | apply Kd.R_drew)); exact HO_7.out)) k_ hk)); (case aO => exact (by (with_reducible repeat (first | apply Kd.R_alloc | apply Kd.R_drewN | apply Kd.R_drew)); exact Kd.R_mono HO257.out (fun _ hk => hk.2))); (case aS => exact (below_size (by repeat (first | (with_reducible first | exact HB.out | apply below_alloc | apply pw_below_drewN | apply below_drew1 | refine below_set ?_ GE241.out) | exact HB.out)))); (case aL => have := LMc26.out; omega); intro v259 w41 ho hb hg hat; rw [← Ny258.out] at ho; have n0_ := Aside0.mk (Kd.R_after (ok := (fun _ => True)) (by (with_reducible repeat (first | apply Kd.R_alloc | apply Kd.R_drewN | apply Kd.R_drew)); exact HO_7.out) hg hat); have n1_ := Aside0.mk (blk_grown (g := gb241) (o := .cells #[.int .i64 a0_0, .int .i64 a0_1, .int .u64 a0_2, .slice A0_3 l0_3.length c0_3] 30 (0, 0)) (by (with_reducible repeat (first | refine blk_drewN ?_ _ | refine blk_drew ?_ | refine blk_alloc ?_ _)); exact BK241.out) hg (Kd.R_ne HO257.out BK241.out (by decide))); have n2_ := Aside0.mk (hb); have n3_ := Aside0.mk (ho); clear HO_7; clear BK241; clear HB; clear HO257; have HO_7 := n0_; have BK241 := n1_; have HB := n2_; have HO260 := n3_; clear n0_ n1_ n2_ n3_; clear ho hb hg hat) | ((with_reducible refine gate_builtin (b := .append) (xs := #[.tmp 39, .tmp 40]) rfl ?_); (try (refine gate_guard (by rfl) ?_; dsimp only)); at_builtin; refine Kd.R_append_rows (Kd.int .u8) (w0 := w) w.heap.size rfl (.tmp 39) (.tmp 40) 22 5 (.int .u8 0) 1 rfl Try.underlying22 info5 rfl (by decide) (by omega) v259 y258 l1 _ _ _ (fun k_ => some k_ ≠ (.slice Ao42 t251.length co42 : Value).ownBlock) (fun _ => False) rfl rfl ?aO ?aR (fun _ _ h => h) (fun _ h => h.elim) ?aF ?aB ?aS ?aL ?_; (case aR => repeat (first | exact (Kd.C_below HR1.out HB.out) | (with_reducible refine Kd.C_alloc ?_ _) | (with_reducible refine Kd.C_drewN ?_ _) | (with_reducible refine Kd.C_drew ?_))); (case aB => exact (by repeat (first | (with_reducible first | exact HB.out | apply below_alloc | apply pw_below_drewN | apply below_drew1 | refine below_set ?_ GE241.out) | exact HB.out))); (case aF => exact (fun k_ hk => Kd.fresh' (Kd.R_lt (by (with_reducible repeat (first | apply Kd.R_alloc | apply Kd.R_drewN | apply Kd.R_drew)); exact HO_7.out)) k_ hk)); (case aO => exact (by (with_reducible repeat (first | apply Kd.R_alloc | apply Kd.R_drewN | apply Kd.R_drew)); exact HO260.out)); (case aS => exact (below_size (by repeat (first | (with_reducible first | exact HB.out | apply below_alloc | apply pw_below_drewN | apply below_drew1 | refine below_set ?_ GE241.out) | exact HB.out)))); (case aL => have := LMc27.out; omega); intro v262 w43 ho hb hg hat; rw [← Ny261.out] at ho; have n0_ := Aside0.mk (Kd.R_after (ok := (fun _ => True)) (by (with_reducible repeat (first | apply Kd.R_alloc | apply Kd.R_drewN | apply Kd.R_drew)); exact HO_7.out) hg hat); have n1_ := Aside0.mk (blk_grown (g := gb241) (o := .cells #[.int .i64 a0_0, .int .i64 a0_1, .int .u64 a0_2, .slice A0_3 l0_3.length c0_3] 30 (0, 0)) (by (with_reducible repeat (first | refine blk_drewN ?_ _ | refine blk_drew ?_ | refine blk_alloc ?_ _)); exact BK241.out) hg (Kd.R_ne HO260.out BK241.out (by decide))); have n2_ := Aside0.mk (hb); have n3_ := Aside0.mk (ho); clear HO_7; clear BK241; clear HB; clear HO260; have HO_7 := n0_; have BK241 := n1_; have HB := n2_; have HO263 := n3_; clear n0_ n1_ n2_ n3_; clear ho hb hg hat; obtain ⟨Ao44, co44, eo44⟩ := Kd.R_slice HO263.out; subst eo44) | ((with_reducible refine gate_callee (f := 8) rfl ?_); refine goesL_ (some 42) rfl rfl Try.func8 (by kernel_rfl) rfl #[.slice Ao44 y261.length co44] rfl (by (try simp only [List.map_toArray, List.map_cons, List.map_nil]); first | done | rfl | (simp only [List.length_drop, List.length_take]; rfl)) ?_; (with_reducible refine (wire_Take.calls kj17 _ _ y261 t264 t265 t266 t267 t270 t271 _ ?side1 ?side2 A28.out).mono ?_); (case side1 => repeat (first | exact (Kd.R_reads' HO263.out).2.2 | (with_reducible refine Kd.C_alloc ?_ _) | (with_reducible refine Kd.C_drewN ?_ _) | (with_reducible refine Kd.C_drew ?_))); (case side2 => exact (Kd.R_reads' HO263.out).2.1); rintro e w45 ⟨v268, rfl, ho0, hb⟩; refine ⟨_, rfl, ?_⟩; have n0_ := Aside0.mk (Kd.R_elder' (by (with_reducible repeat (first | apply Kd.R_alloc | apply Kd.R_drewN | apply Kd.R_drew)); exact HO_7.out) (Kd.R_base ho0) hb); have n1_ := Aside0.mk (Kd.R_elder' (by (with_reducible repeat (first | apply Kd.R_alloc | apply Kd.R_drewN | apply Kd.R_drew)); exact HO263.out) (Kd.R_base ho0) hb); have n2_ := Aside0.mk (Kd.R_lower (Kd.R_new' (Kd.R_new' ho0 (Kd.R_lt (by (with_reducible repeat (first | apply Kd.R_alloc | apply Kd.R_drewN | apply Kd.R_drew)); exact HO_7.out))) (Kd.R_lt (by (with_reducible repeat (first | apply Kd.R_alloc | apply Kd.R_drewN | apply Kd.R_drew)); exact HO263.out))) (below_size (by repeat (first | (with_reducible first | exact HB.out | apply below_alloc | apply pw_below_drewN | apply below_drew1 | refine below_set ?_ GE241.out) | exact HB.out)))); have n3_ := Aside0.mk (blk_below (g := gb241) (o := .cells #[.int .i64 a0_0, .int .i64 a0_1, .int .u64 a0_2, .slice A0_3 l0_3.length c0_3] 30 (0, 0)) (by (with_reducible repeat (first | refine blk_drewN ?_ _ | refine blk_drew ?_ | refine blk_alloc ?_ _)); exact BK241.out) hb); have n4_ := Aside0.mk (below_step (by repeat (first | (with_reducible first | exact HB.out | apply below_alloc | apply pw_below_drewN | apply below_drew1 | refine below_set ?_ GE241.out) | exact HB.out)) hb); clear HO_7; clear HO263; clear BK241; clear HB; have HO_7 := n0_; have HO263 := n1_; have HO269 := n2_; have BK241 := n3_; have HB := n4_; clear n0_ n1_ n2_ n3_ n4_; (try clear hb); (try clear hb2); (try clear hk); (try clear hi); (try clear ho0)) | ((with_reducible refine gate_dst (N := 9) rfl ?_); (try (refine gate_guard (by rfl) ?_; dsimp only)); refine box_event ?hg (N := 9) ?hd (cs := #[.int .i64 0, .int .i64 0, .int .u64 0, .slice none 0 0]) (t := 26) ?hr ?_; (case hd => rfl); (case hg => rfl); (case hr => first | (go_simp; done) | (go_simp; rfl)); intro gb272 hg w46 hbox hb; have n0_ := Aside0.mk (Kd.R_below (by (with_reducible repeat (first | apply Kd.R_alloc | apply Kd.R_drewN | apply Kd.R_drew)); exact HO_7.out) hb); have n1_ := Aside0.mk (Kd.R_below (by (with_reducible repeat (first | apply Kd.R_alloc | apply Kd.R_drewN | apply Kd.R_drew)); exact HO263.out) hb); have n2_ := Aside0.mk (Kd.R_below (by (with_reducible repeat (first | apply Kd.R_alloc | apply Kd.R_drewN | apply Kd.R_drew)); exact HO269.out) hb); have n3_ := Aside0.mk (blk_below (g := gb241) (o := .cells #[.int .i64 a0_0, .int .i64 a0_1, .int .u64 a0_2, .slice A0_3 l0_3.length c0_3] 30 (0, 0)) (by (with_reducible repeat (first | refine blk_drewN ?_ _ | refine blk_drew ?_ | refine blk_alloc ?_ _)); exact BK241.out) hb); have n4_ := Aside0.mk (below_step (by repeat (first | (with_reducible first | exact HB.out | apply below_alloc | apply pw_below_drewN | apply below_drew1 | refine below_set ?_ GE241.out) | exact HB.out)) hb); have n5_ := Aside0.mk (hbox); have n6_ := Aside0.mk ((by rw [hg]; exact (below_size (by repeat (first | (with_reducible first | exact HB.out | apply below_alloc | apply pw_below_drewN | apply below_drew1 | refine below_set ?_ GE241.out) | exact HB.out))) : w.heap.size ≤ gb272)); have n7_ := Aside0.mk ((by rw [hg]; exact (below_size (by repeat (first | (with_reducible first | exact HB.out | apply below_alloc | apply pw_below_drewN | apply below_drew1 | refine below_set ?_ GE241.out) | exact HB.out))) : w.heap.size ≤ gb272)); have n8_ := Aside0.mk ((by rw [hg]; exact Nat.ne_of_lt (blk_lt (g := gb241) (o := .cells #[.int .i64 a0_0, .int .i64 a0_1, .int .u64 a0_2, .slice A0_3 l0_3.length c0_3] 30 (0, 0)) (by (with_reducible repeat (first | refine blk_drewN ?_ _ | refine blk_drew ?_ | refine blk_alloc ?_ _)); exact BK241.out)) : gb241 ≠ gb272)); have n9_ := Aside0.mk ((by rw [hg]; exact Nat.ne_of_gt (blk_lt (g := gb241) (o := .cells #[.int .i64 a0_0, .int .i64 a0_1, .int .u64 a0_2, .slice A0_3 l0_3.length c0_3] 30 (0, 0)) (by (with_reducible repeat (first | refine blk_drewN ?_ _ | refine blk_drew ?_ | refine blk_alloc ?_ _)); exact BK241.out)) : gb272 ≠ gb241)); clear HO_7; clear HO263; clear HO269; clear BK241; clear HB; have HO_7 := n0_; have HO263 := n1_; have HO269 := n2_; have BK241 := n3_; have HB := n4_; have BK272 := n5_; have GW272 := n6_; have GE272 := n7_; have NB241_272 := n8_; have NB272_241 := n9_; clear n0_ n1_ n2_ n3_ n4_ n5_ n6_ n7_ n8_ n9_; clear hb hbox hg; have hnb47 := NB272_241.out; have hnc47 := NB241_272.out; have hcz48_0 : w46.cell? ⟨gb272, 0, none⟩ = some (.int .i64 0) := (blk_cell BK272.out 0).trans rfl; have hcz48_1 : w46.cell? ⟨gb272, 1, none⟩ = some (.int .i64 0) := (blk_cell BK272.out 1).trans rfl; have hcz48_2 : w46.cell? ⟨gb272, 2, none⟩ = some (.int .u64 0) := (blk_cell BK272.out 2).trans rfl; have hcz48_3 : w46.cell? ⟨gb272, 3, none⟩ = some (.slice none 0 0) := (blk_cell BK272.out 3).trans rfl; have hfz48_0 := blk_frozen BK272.out 0; have hfz48_1 := blk_frozen BK272.out 1; have hfz48_2 := blk_frozen BK272.out 2; have hfz48_3 := blk_frozen BK272.out 3; obtain ⟨Ao49, co49, eo49⟩ := Kd.R_slice HO269.out; subst eo49) | ((with_reducible refine gate_store (t := 26) (p := 9) rfl ?_); refine store_event (t := 26) (p := 9) (v := ?vo_w50) (w1 := ((((w46.setCell ⟨gb272, 0, none⟩ (.int .i64 t264)).setCell ⟨gb272, 1, none⟩ (.int .i64 t265)).setCell ⟨gb272, 2, none⟩ (.int .u64 t266)).setCell ⟨gb272, 3, none⟩ (.slice Ao49 t267.length co49))) ?hg ?ho ?hn ?hr ?_; (case ho => rfl); (case hg => rfl); (case hn => rfl); (case hr => first | (go_simp; done) | (go_simp; rfl)); intro w50 hw; have n0_ : Aside0 (Kd.R (Kd.int .u8) 5 w50 w.heap.size (fun k_ => some k_ ≠ (.slice Ao44 y261.length co44 : Value).ownBlock ∧ some k_ ≠ (.slice Ao49 t267.length co49 : Value).ownBlock) (.slice Ao42 t251.length co42) t251) := ⟨(by rw [hw]; exact (by (with_reducible repeat (first | apply Kd.R_alloc | apply Kd.R_drewN | apply Kd.R_drew)); exact Kd.R_mono (Kd.R_far (p := ⟨gb272, 3, none⟩) (Kd.R_far (p := ⟨gb272, 2, none⟩) (Kd.R_far (p := ⟨gb272, 1, none⟩) (Kd.R_far (p := ⟨gb272, 0, none⟩) (Kd.R_types HO_7.out BK272.out (by decide)) (fun _ hk => hk.2) (.int .i64 t264)) (fun _ hk => hk.2) (.int .i64 t265)) (fun _ hk => hk.2) (.int .u64 t266)) (fun _ hk => hk.2) (.slice Ao49 t267.length co49)) (fun _ hk => ⟨hk.1.1.2, hk.1.2⟩)))⟩; have n1_ : Aside0 (Kd.R (Kd.int .u8) 5 w50 w.heap.size (fun k_ => some k_ ≠ (.slice Ao42 t251.length co42 : Value).ownBlock ∧ some k_ ≠ (.slice Ao49 t267.length co49 : Value).ownBlock) (.slice Ao44 y261.length co44) y261) := ⟨(by rw [hw]; exact (by (with_reducible repeat (first | apply Kd.R_alloc | apply Kd.R_drewN | apply Kd.R_drew)); exact Kd.R_mono (Kd.R_far (p := ⟨gb272, 3, none⟩) (Kd.R_far (p := ⟨gb272, 2, none⟩) (Kd.R_far (p := ⟨gb272, 1, none⟩) (Kd.R_far (p := ⟨gb272, 0, none⟩) (Kd.R_types HO263.out BK272.out (by decide)) (fun _ hk => hk.2) (.int .i64 t264)) (fun _ hk => hk.2) (.int .i64 t265)) (fun _ hk => hk.2) (.int .u64 t266)) (fun _ hk => hk.2) (.slice Ao49 t267.length co49)) (fun _ hk => ⟨hk.1.1, hk.1.2⟩)))⟩; have n2_ : Aside0 (Kd.R (Kd.int .u8) 5 w50 w.heap.size (fun k_ => some k_ ≠ (.slice Ao42 t251.length co42 : Value).ownBlock ∧ some k_ ≠ (.slice Ao44 y261.length co44 : Value).ownBlock) (.slice Ao49 t267.length co49) t267) := ⟨(by rw [hw]; exact (by (with_reducible repeat (first | apply Kd.R_alloc | apply Kd.R_drewN | apply Kd.R_drew)); exact Kd.R_mono (Kd.R_far (p := ⟨gb272, 3, none⟩) (Kd.R_far (p := ⟨gb272, 2, none⟩) (Kd.R_far (p := ⟨gb272, 1, none⟩) (Kd.R_far (p := ⟨gb272, 0, none⟩) (Kd.R_types HO269.out BK272.out (by decide)) (fun _ hk => hk.2) (.int .i64 t264)) (fun _ hk => hk.2) (.int .i64 t265)) (fun _ hk => hk.2) (.int .u64 t266)) (fun _ hk => hk.2) (.slice Ao49 t267.length co49)) (fun _ hk => ⟨hk.1.1.2, hk.1.2⟩)))⟩; have n3_ : Aside0 (w50.heap[gb241]? = some (.cells #[.int .i64 a0_0, .int .i64 a0_1, .int .u64 a0_2, .slice A0_3 l0_3.length c0_3] 30 (0, 0))) := ⟨(by rw [hw]; exact (by (with_reducible repeat (first | refine blk_drewN ?_ _ | refine blk_drew ?_ | refine blk_alloc ?_ _)); refine blk_far ?_ NB241_272.out _; (with_reducible repeat (first | refine blk_drewN ?_ _ | refine blk_drew ?_ | refine blk_alloc ?_ _)); refine blk_far ?_ NB241_272.out _; (with_reducible repeat (first | refine blk_drewN ?_ _ | refine blk_drew ?_ | refine blk_alloc ?_ _)); refine blk_far ?_ NB241_272.out _; (with_reducible repeat (first | refine blk_drewN ?_ _ | refine blk_drew ?_ | refine blk_alloc ?_ _)); refine blk_far ?_ NB241_272.out _; (with_reducible repeat (first | refine blk_drewN ?_ _ | refine blk_drew ?_ | refine blk_alloc ?_ _)); exact BK241.out))⟩; have n4_ : Aside0 (w50.heap[gb272]? = some (.cells #[.int .i64 t264, .int .i64 t265, .int .u64 t266, .slice Ao49 t267.length co49] 26 (0, 0))) := ⟨(by rw [hw]; exact (by (with_reducible repeat (first | refine blk_drewN ?_ _ | refine blk_drew ?_ | refine blk_alloc ?_ _)); refine blk_put (cs := #[.int .i64 t264, .int .i64 t265, .int .u64 t266, .slice none 0 0]) ?_ 3 _ rfl; (with_reducible repeat (first | refine blk_drewN ?_ _ | refine blk_drew ?_ | refine blk_alloc ?_ _)); refine blk_put (cs := #[.int .i64 t264, .int .i64 t265, .int .u64 0, .slice none 0 0]) ?_ 2 _ rfl; (with_reducible repeat (first | refine blk_drewN ?_ _ | refine blk_drew ?_ | refine blk_alloc ?_ _)); refine blk_put (cs := #[.int .i64 t264, .int .i64 0, .int .u64 0, .slice none 0 0]) ?_ 1 _ rfl; (with_reducible repeat (first | refine blk_drewN ?_ _ | refine blk_drew ?_ | refine blk_alloc ?_ _)); refine blk_put (cs := #[.int .i64 0, .int .i64 0, .int .u64 0, .slice none 0 0]) ?_ 0 _ rfl; (with_reducible repeat (first | refine blk_drewN ?_ _ | refine blk_drew ?_ | refine blk_alloc ?_ _)); exact BK272.out))⟩; have n5_ : Aside0 (Below w.heap.size w w50) := ⟨(by rw [hw]; exact (by repeat (first | (with_reducible first | exact HB.out | apply below_alloc | apply pw_below_drewN | apply below_drew1 | refine below_set ?_ GE241.out | refine below_set ?_ GE272.out) | exact HB.out)))⟩; clear hw; clear HO_7; clear HO263; clear HO269; clear BK241; clear BK272; clear HB; have HO_7 := n0_; have HO263 := n1_; have HO269 := n2_; have BK241 := n3_; have BK272 := n4_; have HB := n5_; clear n0_ n1_ n2_ n3_ n4_ n5_; have q51 : ((ji30) : Int) ≤ ((t251.length : Int) : Int) := of_decide_eq_true (by first | (with_reducible assumption) | assumption); obtain ⟨i051, hi051, _, hsz51, _⟩ := info_parts info5; have hroom51 : t251.length ≤ co42 := (Kd.R_reads' HO_7.out).2.1; have hC51 : Kd.C (Kd.int .u8) _ Ao42 t251.length t251 := (Kd.R_reads' HO_7.out).2.2; have hcut51 := cut_to (P := Try.prog) 22 5 .u64 Try.underlying22 hi051 Ao42 t251.length co42 (ji30) (of_decide_eq_true (by first | (with_reducible assumption) | assumption)) q51 hroom51; have hr51 := Kd.C_take (m := ((ji30) : Int).toNat) hC51 (by omega); have hy51 : y273.length = ((ji30) : Int).toNat := (by rw [Ny273.out, List.length_take]; omega); rw [← Ny273.out] at hr51; rw [← hy51] at hcut51; have HR276 := Aside0.mk hr51; have HC276 := Aside0.mk (show y273.length ≤ co42 from by omega); clear hr51 hC51 hroom51 hi051 hsz51; have KY51 := Aside0.mk hy51; clear hy51; have KL51 := Aside0.mk (show ((ji30) : Int).toNat ≤ t251.length from by omega); replace q51 := eq_true q51) | ((with_reducible refine gate_callee (f := 8) rfl ?_); refine goesL_ (some 54) rfl rfl Try.func8 (by kernel_rfl) rfl #[.slice Ao42 y273.length co42] rfl (by (try simp only [List.map_toArray, List.map_cons, List.map_nil]); first | done | rfl | (simp only [List.length_drop, List.length_take]; rfl)) ?_; (with_reducible refine (wire_Take.calls kj17 _ _ y273 t277 t278 t279 t280 t283 t284 _ ?side1 ?side2 A33.out).mono ?_); (case side1 => repeat (first | exact (by repeat (first | (with_reducible exact HR276.out) | (with_reducible refine Kd.C_alloc ?_ _) | (with_reducible refine Kd.C_drewN ?_ _) | (with_reducible refine Kd.C_drew ?_) | exact HR276.out)) | (with_reducible refine Kd.C_alloc ?_ _) | (with_reducible refine Kd.C_drewN ?_ _) | (with_reducible refine Kd.C_drew ?_))); (case side2 => exact HC276.out); rintro e w52 ⟨v281, rfl, ho0, hb⟩; refine ⟨_, rfl, ?_⟩; have n0_ := Aside0.mk (Kd.R_elder' (by (with_reducible repeat (first | apply Kd.R_alloc | apply Kd.R_drewN | apply Kd.R_drew)); exact HO_7.out) (Kd.R_base ho0) hb); have n1_ := Aside0.mk (Kd.R_elder' (by (with_reducible repeat (first | apply Kd.R_alloc | apply Kd.R_drewN | apply Kd.R_drew)); exact HO263.out) (Kd.R_base ho0) hb); have n2_ := Aside0.mk (Kd.R_elder' (by (with_reducible repeat (first | apply Kd.R_alloc | apply Kd.R_drewN | apply Kd.R_drew)); exact HO269.out) (Kd.R_base ho0) hb); have n3_ := Aside0.mk (Kd.R_lower (Kd.R_new' (Kd.R_new' (Kd.R_new' ho0 (Kd.R_lt (by (with_reducible repeat (first | apply Kd.R_alloc | apply Kd.R_drewN | apply Kd.R_drew)); exact HO_7.out))) (Kd.R_lt (by (with_reducible repeat (first | apply Kd.R_alloc | apply Kd.R_drewN | apply Kd.R_drew)); exact HO263.out))) (Kd.R_lt (by (with_reducible repeat (first | apply Kd.R_alloc | apply Kd.R_drewN | apply Kd.R_drew)); exact HO269.out))) (below_size (by repeat (first | (with_reducible first | exact HB.out | apply below_alloc | apply pw_below_drewN | apply below_drew1 | refine below_set ?_ GE241.out | refine below_set ?_ GE272.out) | exact HB.out)))); have n4_ := Aside0.mk (blk_below (g := gb241) (o := .cells #[.int .i64 a0_0, .int .i64 a0_1, .int .u64 a0_2, .slice A0_3 l0_3.length c0_3] 30 (0, 0)) (by (with_reducible repeat (first | refine blk_drewN ?_ _ | refine blk_drew ?_ | refine blk_alloc ?_ _)); exact BK241.out) hb); have n5_ := Aside0.mk (blk_below (g := gb272) (o := .cells #[.int .i64 t264, .int .i64 t265, .int .u64 t266, .slice Ao49 t267.length co49] 26 (0, 0)) (by (with_reducible repeat (first | refine blk_drewN ?_ _ | refine blk_drew ?_ | refine blk_alloc ?_ _)); exact BK272.out) hb); have n6_ := Aside0.mk (Kd.C_below (by repeat (first | (with_reducible exact HR276.out) | (with_reducible refine Kd.C_alloc ?_ _) | (with_reducible refine Kd.C_drewN ?_ _) | (with_reducible refine Kd.C_drew ?_) | exact HR276.out)) hb); have n7_ := Aside0.mk (below_step (by repeat (first | (with_reducible first | exact HB.out | apply below_alloc | apply pw_below_drewN | apply below_drew1 | refine below_set ?_ GE241.out | refine below_set ?_ GE272.out) | exact HB.out)) hb); clear HO_7; clear HO263; clear HO269; clear BK241; clear BK272; clear HR276; clear HB; have HO_7 := n0_; have HO263 := n1_; have HO269 := n2_; have HO282 := n3_; have BK241 := n4_; have BK272 := n5_; have HR276 := n6_; have HB := n7_; clear n0_ n1_ n2_ n3_ n4_ n5_ n6_ n7_; (try clear hb); (try clear hb2); (try clear hk); (try clear hi); (try clear ho0)) | ((with_reducible refine gate_dst (N := 12) rfl ?_); (try (refine gate_guard (by rfl) ?_; dsimp only)); refine box_event ?hg (N := 12) ?hd (cs := #[.int .i64 0, .int .i64 0, .int .u64 0, .slice none 0 0]) (t := 26) ?hr ?_; (case hd => rfl); (case hg => rfl); (case hr => first | (go_simp; done) | (go_simp; rfl)); intro gb285 hg w53 hbox hb; have n0_ := Aside0.mk (Kd.R_below (by (with_reducible repeat (first | apply Kd.R_alloc | apply Kd.R_drewN | apply Kd.R_drew)); exact HO_7.out) hb); have n1_ := Aside0.mk (Kd.R_below (by (with_reducible repeat (first | apply Kd.R_alloc | apply Kd.R_drewN | apply Kd.R_drew)); exact HO263.out) hb); have n2_ := Aside0.mk (Kd.R_below (by (with_reducible repeat (first | apply Kd.R_alloc | apply Kd.R_drewN | apply Kd.R_drew)); exact HO269.out) hb); have n3_ := Aside0.mk (Kd.R_below (by (with_reducible repeat (first | apply Kd.R_alloc | apply Kd.R_drewN | apply Kd.R_drew)); exact HO282.out) hb); have n4_ := Aside0.mk (blk_below (g := gb241) (o := .cells #[.int .i64 a0_0, .int .i64 a0_1, .int .u64 a0_2, .slice A0_3 l0_3.length c0_3] 30 (0, 0)) (by (with_reducible repeat (first | refine blk_drewN ?_ _ | refine blk_drew ?_ | refine blk_alloc ?_ _)); exact BK241.out) hb); have n5_ := Aside0.mk (blk_below (g := gb272) (o := .cells #[.int .i64 t264, .int .i64 t265, .int .u64 t266, .slice Ao49 t267.length co49] 26 (0, 0)) (by (with_reducible repeat (first | refine blk_drewN ?_ _ | refine blk_drew ?_ | refine blk_alloc ?_ _)); exact BK272.out) hb); have n6_ := Aside0.mk (Kd.C_below (by repeat (first | (with_reducible exact HR276.out) | (with_reducible refine Kd.C_alloc ?_ _) | (with_reducible refine Kd.C_drewN ?_ _) | (with_reducible refine Kd.C_drew ?_) | exact HR276.out)) hb); have n7_ := Aside0.mk (below_step (by repeat (first | (with_reducible first | exact HB.out | apply below_alloc | apply pw_below_drewN | apply below_drew1 | refine below_set ?_ GE241.out | refine below_set ?_ GE272.out) | exact HB.out)) hb); have n8_ := Aside0.mk (hbox); have n9_ := Aside0.mk ((by rw [hg]; exact (below_size (by repeat (first | (with_reducible first | exact HB.out | apply below_alloc | apply pw_below_drewN | apply below_drew1 | refine below_set ?_ GE241.out | refine below_set ?_ GE272.out) | exact HB.out))) : w.heap.size ≤ gb285)); have n10_ := Aside0.mk ((by rw [hg]; exact (below_size (by repeat (first | (with_reducible first | exact HB.out | apply below_alloc | apply pw_below_drewN | apply below_drew1 | refine below_set ?_ GE241.out | refine below_set ?_ GE272.out) | exact HB.out))) : w.heap.size ≤ gb285)); have n11_ := Aside0.mk ((by rw [hg]; exact Nat.ne_of_lt (blk_lt (g := gb241) (o := .cells #[.int .i64 a0_0, .int .i64 a0_1, .int .u64 a0_2, .slice A0_3 l0_3.length c0_3] 30 (0, 0)) (by (with_reducible repeat (first | refine blk_drewN ?_ _ | refine blk_drew ?_ | refine blk_alloc ?_ _)); exact BK241.out)) : gb241 ≠ gb285)); have n12_ := Aside0.mk ((by rw [hg]; exact Nat.ne_of_gt (blk_lt (g := gb241) (o := .cells #[.int .i64 a0_0, .int .i64 a0_1, .int .u64 a0_2, .slice A0_3 l0_3.length c0_3] 30 (0, 0)) (by (with_reducible repeat (first | refine blk_drewN ?_ _ | refine blk_drew ?_ | refine blk_alloc ?_ _)); exact BK241.out)) : gb285 ≠ gb241)); have n13_ := Aside0.mk ((by rw [hg]; exact Nat.ne_of_lt (blk_lt (g := gb272) (o := .cells #[.int .i64 t264, .int .i64 t265, .int .u64 t266, .slice Ao49 t267.length co49] 26 (0, 0)) (by (with_reducible repeat (first | refine blk_drewN ?_ _ | refine blk_drew ?_ | refine blk_alloc ?_ _)); exact BK272.out)) : gb272 ≠ gb285)); have n14_ := Aside0.mk ((by rw [hg]; exact Nat.ne_of_gt (blk_lt (g := gb272) (o := .cells #[.int .i64 t264, .int .i64 t265, .int .u64 t266, .slice Ao49 t267.length co49] 26 (0, 0)) (by (with_reducible repeat (first | refine blk_drewN ?_ _ | refine blk_drew ?_ | refine blk_alloc ?_ _)); exact BK272.out)) : gb285 ≠ gb272)); clear HO_7; clear HO263; clear HO269; clear HO282; clear BK241; clear BK272; clear HR276; clear HB; have HO_7 := n0_; have HO263 := n1_; have HO269 := n2_; have HO282 := n3_; have BK241 := n4_; have BK272 := n5_; have HR276 := n6_; have HB := n7_; have BK285 := n8_; have GW285 := n9_; have GE285 := n10_; have NB241_285 := n11_; have NB285_241 := n12_; have NB272_285 := n13_; have NB285_272 := n14_; clear n0_ n1_ n2_ n3_ n4_ n5_ n6_ n7_ n8_ n9_ n10_ n11_ n12_ n13_ n14_; clear hb hbox hg; have hnb54 := NB285_241.out; have hnc54 := NB241_285.out; have hnb55 := NB285_272.out; have hnc55 := NB272_285.out; have hcz56_0 : w53.cell? ⟨gb285, 0, none⟩ = some (.int .i64 0) := (blk_cell BK285.out 0).trans rfl; have hcz56_1 : w53.cell? ⟨gb285, 1, none⟩ = some (.int .i64 0) := (blk_cell BK285.out 1).trans rfl; have hcz56_2 : w53.cell? ⟨gb285, 2, none⟩ = some (.int .u64 0) := (blk_cell BK285.out 2).trans rfl; have hcz56_3 : w53.cell? ⟨gb285, 3, none⟩ = some (.slice none 0 0) := (blk_cell BK285.out 3).trans rfl; have hfz56_0 := blk_frozen BK285.out 0; have hfz56_1 := blk_frozen BK285.out 1; have hfz56_2 := blk_frozen BK285.out 2; have hfz56_3 := blk_frozen BK285.out 3; obtain ⟨Ao57, co57, eo57⟩ := Kd.R_slice HO282.out; subst eo57))
                              have n0_ : Aside0 (Kd.R (Kd.int .u8) 5 ((((w53.setCell ⟨gb285, 0, none⟩ (.int .i64 t277)).setCell ⟨gb285, 1, none⟩ (.int .i64 t278)).setCell ⟨gb285, 2, none⟩ (.int .u64 t279)).setCell ⟨gb285, 3, none⟩ (.slice Ao57 t280.length co57)) w.heap.size (fun k_ => some k_ ≠ (.slice Ao44 y261.length co44 : Value).ownBlock ∧ some k_ ≠ (.slice Ao49 t267.length co49 : Value).ownBlock ∧ some k_ ≠ (.slice Ao57 t280.length co57 : Value).ownBlock) (.slice Ao42 t251.length co42) t251) := ⟨by (with_reducible repeat (first | apply Kd.R_alloc | apply Kd.R_drewN | apply Kd.R_drew)); exact Kd.R_mono (Kd.R_far (p := ⟨gb285, 3, none⟩) (Kd.R_far (p := ⟨gb285, 2, none⟩) (Kd.R_far (p := ⟨gb285, 1, none⟩) (Kd.R_far (p := ⟨gb285, 0, none⟩) (Kd.R_types HO_7.out BK285.out (by decide)) (fun _ hk => hk.2) (.int .i64 t277)) (fun _ hk => hk.2) (.int .i64 t278)) (fun _ hk => hk.2) (.int .u64 t279)) (fun _ hk => hk.2) (.slice Ao57 t280.length co57)) (fun _ hk => ⟨hk.1.1.1, ⟨hk.1.1.2, hk.1.2⟩⟩)⟩
                              have n1_ : Aside0 (Kd.R (Kd.int .u8) 5 ((((w53.setCell ⟨gb285, 0, none⟩ (.int .i64 t277)).setCell ⟨gb285, 1, none⟩ (.int .i64 t278)).setCell ⟨gb285, 2, none⟩ (.int .u64 t279)).setCell ⟨gb285, 3, none⟩ (.slice Ao57 t280.length co57)) w.heap.size (fun k_ => some k_ ≠ (.slice Ao42 t251.length co42 : Value).ownBlock ∧ some k_ ≠ (.slice Ao49 t267.length co49 : Value).ownBlock ∧ some k_ ≠ (.slice Ao57 t280.length co57 : Value).ownBlock) (.slice Ao44 y261.length co44) y261) := ⟨by (with_reducible repeat (first | apply Kd.R_alloc | apply Kd.R_drewN | apply Kd.R_drew)); exact Kd.R_mono (Kd.R_far (p := ⟨gb285, 3, none⟩) (Kd.R_far (p := ⟨gb285, 2, none⟩) (Kd.R_far (p := ⟨gb285, 1, none⟩) (Kd.R_far (p := ⟨gb285, 0, none⟩) (Kd.R_types HO263.out BK285.out (by decide)) (fun _ hk => hk.2) (.int .i64 t277)) (fun _ hk => hk.2) (.int .i64 t278)) (fun _ hk => hk.2) (.int .u64 t279)) (fun _ hk => hk.2) (.slice Ao57 t280.length co57)) (fun _ hk => ⟨hk.1.1.1, ⟨hk.1.1.2, hk.1.2⟩⟩)⟩
                              have n2_ : Aside0 (Kd.R (Kd.int .u8) 5 ((((w53.setCell ⟨gb285, 0, none⟩ (.int .i64 t277)).setCell ⟨gb285, 1, none⟩ (.int .i64 t278)).setCell ⟨gb285, 2, none⟩ (.int .u64 t279)).setCell ⟨gb285, 3, none⟩ (.slice Ao57 t280.length co57)) w.heap.size (fun k_ => some k_ ≠ (.slice Ao42 t251.length co42 : Value).ownBlock ∧ some k_ ≠ (.slice Ao44 y261.length co44 : Value).ownBlock ∧ some k_ ≠ (.slice Ao57 t280.length co57 : Value).ownBlock) (.slice Ao49 t267.length co49) t267) := ⟨by (with_reducible repeat (first | apply Kd.R_alloc | apply Kd.R_drewN | apply Kd.R_drew)); exact Kd.R_mono (Kd.R_far (p := ⟨gb285, 3, none⟩) (Kd.R_far (p := ⟨gb285, 2, none⟩) (Kd.R_far (p := ⟨gb285, 1, none⟩) (Kd.R_far (p := ⟨gb285, 0, none⟩) (Kd.R_types HO269.out BK285.out (by decide)) (fun _ hk => hk.2) (.int .i64 t277)) (fun _ hk => hk.2) (.int .i64 t278)) (fun _ hk => hk.2) (.int .u64 t279)) (fun _ hk => hk.2) (.slice Ao57 t280.length co57)) (fun _ hk => ⟨hk.1.1.1, ⟨hk.1.1.2, hk.1.2⟩⟩)⟩
                              have n3_ : Aside0 (Kd.R (Kd.int .u8) 5 ((((w53.setCell ⟨gb285, 0, none⟩ (.int .i64 t277)).setCell ⟨gb285, 1, none⟩ (.int .i64 t278)).setCell ⟨gb285, 2, none⟩ (.int .u64 t279)).setCell ⟨gb285, 3, none⟩ (.slice Ao57 t280.length co57)) w.heap.size (fun k_ => some k_ ≠ (.slice Ao42 t251.length co42 : Value).ownBlock ∧ some k_ ≠ (.slice Ao44 y261.length co44 : Value).ownBlock ∧ some k_ ≠ (.slice Ao49 t267.length co49 : Value).ownBlock) (.slice Ao57 t280.length co57) t280) := ⟨by (with_reducible repeat (first | apply Kd.R_alloc | apply Kd.R_drewN | apply Kd.R_drew)); exact Kd.R_mono (Kd.R_far (p := ⟨gb285, 3, none⟩) (Kd.R_far (p := ⟨gb285, 2, none⟩) (Kd.R_far (p := ⟨gb285, 1, none⟩) (Kd.R_far (p := ⟨gb285, 0, none⟩) (Kd.R_types HO282.out BK285.out (by decide)) (fun _ hk => hk.2) (.int .i64 t277)) (fun _ hk => hk.2) (.int .i64 t278)) (fun _ hk => hk.2) (.int .u64 t279)) (fun _ hk => hk.2) (.slice Ao57 t280.length co57)) (fun _ hk => ⟨hk.1.1.1.2, ⟨hk.1.1.2, hk.1.2⟩⟩)⟩
                              have n4_ : Aside0 (((((w53.setCell ⟨gb285, 0, none⟩ (.int .i64 t277)).setCell ⟨gb285, 1, none⟩ (.int .i64 t278)).setCell ⟨gb285, 2, none⟩ (.int .u64 t279)).setCell ⟨gb285, 3, none⟩ (.slice Ao57 t280.length co57)).heap[gb241]? = some (.cells #[.int .i64 a0_0, .int .i64 a0_1, .int .u64 a0_2, .slice A0_3 l0_3.length c0_3] 30 (0, 0))) := ⟨by (with_reducible repeat (first | refine blk_drewN ?_ _ | refine blk_drew ?_ | refine blk_alloc ?_ _)); refine blk_far ?_ NB241_285.out _; (with_reducible repeat (first | refine blk_drewN ?_ _ | refine blk_drew ?_ | refine blk_alloc ?_ _)); refine blk_far ?_ NB241_285.out _; (with_reducible repeat (first | refine blk_drewN ?_ _ | refine blk_drew ?_ | refine blk_alloc ?_ _)); refine blk_far ?_ NB241_285.out _; (with_reducible repeat (first | refine blk_drewN ?_ _ | refine blk_drew ?_ | refine blk_alloc ?_ _)); refine blk_far ?_ NB241_285.out _; (with_reducible repeat (first | refine blk_drewN ?_ _ | refine blk_drew ?_ | refine blk_alloc ?_ _)); exact BK241.out⟩
                              have n5_ : Aside0 (((((w53.setCell ⟨gb285, 0, none⟩ (.int .i64 t277)).setCell ⟨gb285, 1, none⟩ (.int .i64 t278)).setCell ⟨gb285, 2, none⟩ (.int .u64 t279)).setCell ⟨gb285, 3, none⟩ (.slice Ao57 t280.length co57)).heap[gb272]? = some (.cells #[.int .i64 t264, .int .i64 t265, .int .u64 t266, .slice Ao49 t267.length co49] 26 (0, 0))) := ⟨by (with_reducible repeat (first | refine blk_drewN ?_ _ | refine blk_drew ?_ | refine blk_alloc ?_ _)); refine blk_far ?_ NB272_285.out _; (with_reducible repeat (first | refine blk_drewN ?_ _ | refine blk_drew ?_ | refine blk_alloc ?_ _)); refine blk_far ?_ NB272_285.out _; (with_reducible repeat (first | refine blk_drewN ?_ _ | refine blk_drew ?_ | refine blk_alloc ?_ _)); refine blk_far ?_ NB272_285.out _; (with_reducible repeat (first | refine blk_drewN ?_ _ | refine blk_drew ?_ | refine blk_alloc ?_ _)); refine blk_far ?_ NB272_285.out _; (with_reducible repeat (first | refine blk_drewN ?_ _ | refine blk_drew ?_ | refine blk_alloc ?_ _)); exact BK272.out⟩
                              have n6_ : Aside0 (((((w53.setCell ⟨gb285, 0, none⟩ (.int .i64 t277)).setCell ⟨gb285, 1, none⟩ (.int .i64 t278)).setCell ⟨gb285, 2, none⟩ (.int .u64 t279)).setCell ⟨gb285, 3, none⟩ (.slice Ao57 t280.length co57)).heap[gb285]? = some (.cells #[.int .i64 t277, .int .i64 t278, .int .u64 t279, .slice Ao57 t280.length co57] 26 (0, 0))) := ⟨by (with_reducible repeat (first | refine blk_drewN ?_ _ | refine blk_drew ?_ | refine blk_alloc ?_ _)); refine blk_put (cs := #[.int .i64 t277, .int .i64 t278, .int .u64 t279, .slice none 0 0]) ?_ 3 _ rfl; (with_reducible repeat (first | refine blk_drewN ?_ _ | refine blk_drew ?_ | refine blk_alloc ?_ _)); refine blk_put (cs := #[.int .i64 t277, .int .i64 t278, .int .u64 0, .slice none 0 0]) ?_ 2 _ rfl; (with_reducible repeat (first | refine blk_drewN ?_ _ | refine blk_drew ?_ | refine blk_alloc ?_ _)); refine blk_put (cs := #[.int .i64 t277, .int .i64 0, .int .u64 0, .slice none 0 0]) ?_ 1 _ rfl; (with_reducible repeat (first | refine blk_drewN ?_ _ | refine blk_drew ?_ | refine blk_alloc ?_ _)); refine blk_put (cs := #[.int .i64 0, .int .i64 0, .int .u64 0, .slice none 0 0]) ?_ 0 _ rfl; (with_reducible repeat (first | refine blk_drewN ?_ _ | refine blk_drew ?_ | refine blk_alloc ?_ _)); exact BK285.out⟩
                              have n7_ : Aside0 (Below w.heap.size w ((((w53.setCell ⟨gb285, 0, none⟩ (.int .i64 t277)).setCell ⟨gb285, 1, none⟩ (.int .i64 t278)).setCell ⟨gb285, 2, none⟩ (.int .u64 t279)).setCell ⟨gb285, 3, none⟩ (.slice Ao57 t280.length co57))) := ⟨by repeat (first | (with_reducible first | exact HB.out | apply below_alloc | apply pw_below_drewN | apply below_drew1 | refine below_set ?_ GE241.out | refine below_set ?_ GE272.out | refine below_set ?_ GE285.out) | exact HB.out)⟩
                              (try clear HO_7)
                              (try clear HO263)
                              (try clear HO269)
                              (try clear HO282)
                              (try clear BK241)
                              (try clear BK272)
                              (try clear BK285)
                              (try clear HB)
                              generalize ((((w53.setCell ⟨gb285, 0, none⟩ (.int .i64 t277)).setCell ⟨gb285, 1, none⟩ (.int .i64 t278)).setCell ⟨gb285, 2, none⟩ (.int .u64 t279)).setCell ⟨gb285, 3, none⟩ (.slice Ao57 t280.length co57)) = w58 at n0_ n1_ n2_ n3_ n4_ n5_ n6_ n7_ ⊢
                              have HO_7 := n0_
                              have HO263 := n1_
                              have HO269 := n2_
                              have HO282 := n3_
                              have BK241 := n4_
                              have BK272 := n5_
                              have BK285 := n6_
                              have HB := n7_
                              clear n0_ n1_ n2_ n3_ n4_ n5_ n6_ n7_
                              have n0_ := Aside0.mk (Kd.R_drew HO_7.out)
                              have n1_ := Aside0.mk (Kd.R_drew HO263.out)
                              have n2_ := Aside0.mk (Kd.R_drew HO269.out)
                              have n3_ := Aside0.mk (Kd.R_drew HO282.out)
                              have n4_ := Aside0.mk (blk_drew BK241.out)
                              have n5_ := Aside0.mk (blk_drew BK272.out)
                              have n6_ := Aside0.mk (blk_drew BK285.out)
                              have n7_ := Aside0.mk (below_drew1 HB.out)
                              clear HO_7
                              clear HO263
                              clear HO269
                              clear HO282
                              clear BK241
                              clear BK272
                              clear BK285
                              clear HB
                              have HO_7 := n0_
                              have HO263 := n1_
                              have HO269 := n2_
                              have HO282 := n3_
                              have BK241 := n4_
                              have BK272 := n5_
                              have BK285 := n6_
                              have HB := n7_
                              clear n0_ n1_ n2_ n3_ n4_ n5_ n6_ n7_
                              refine start_ (n := 19) (S := fun w' => w'.cell? ⟨gb272, 0, none⟩ = some (.int .i64 t264) ∧ w'.cell? ⟨gb272, 1, none⟩ = some (.int .i64 t265) ∧ w'.cell? ⟨gb272, 2, none⟩ = some (.int .u64 t266) ∧ w'.cell? ⟨gb272, 3, none⟩ = some (.slice Ao49 t267.length co49) ∧ w'.cell? ⟨gb241, 0, none⟩ = some (.int .i64 a0_0) ∧ w'.cell? ⟨gb241, 1, none⟩ = some (.int .i64 a0_1) ∧ w'.cell? ⟨gb241, 2, none⟩ = some (.int .u64 a0_2) ∧ w'.cell? ⟨gb241, 3, none⟩ = some (.slice A0_3 l0_3.length c0_3)) (ds := []) #[false, false, false, false, false, false, false, false, false, false, false, false, false, false, false, false, false, false, false] (by kernel_rfl) rfl rfl ⟨(blk_cell BK272.out 0).trans rfl, (blk_cell BK272.out 1).trans rfl, (blk_cell BK272.out 2).trans rfl, (blk_cell BK272.out 3).trans rfl, (blk_cell BK241.out 0).trans rfl, (blk_cell BK241.out 1).trans rfl, (blk_cell BK241.out 2).trans rfl, (blk_cell BK241.out 3).trans rfl⟩ (fun hHeld => ?_); refine with_tabW courierlaw02_WireBack.tab8 courierlaw02_WireBack.bits8 (fun HT_ HW_ => ?_)
                              generalize w58.drew = w59 at HO_7 HO263 HO269 HO282 BK241 BK272 BK285 HB hHeld ⊢
                              refine take_ (i := 0) (N := some 58) (v := ?_) (a' := ?_) #[true, false, false, false, false, false, false, false, false, false, false, false, false, false, false, false, false, false, false] rfl rfl (take_ofW HT_.out HW_.out (by kernel_rfl)) (fun _ _ _ h => h) (Or.inl ⟨by rfl, ?_⟩) hHeld ?_ ?_
                              rotate_left
                              · rintro w' ⟨s0, s1, s2, s3, s4, s5, s6, s7⟩
                                go_simp
                                with_reducible rfl
                              rotate_left
                              · simp only [Act.put, List.setIfInBounds_toArray, List.set_cons_zero, List.set_cons_succ, i64_w, i32_w]
                                rfl
                              refine take_ (i := 2) (N := some 60) (v := ?_) (a' := ?_) #[true, false, true, false, false, false, false, false, false, false, false, false, false, false, false, false, false, false, false] rfl rfl (take_ofW HT_.out HW_.out (by kernel_rfl)) (fun _ _ _ h => h) (Or.inl ⟨by rfl, ?_⟩) hHeld ?_ ?_
                              rotate_left
                              · rintro w' ⟨s0, s1, s2, s3, s4, s5, s6, s7⟩
                                go_simp
                                with_reducible rfl
                              rotate_left
                              · simp only [Act.put, List.setIfInBounds_toArray, List.set_cons_zero, List.set_cons_succ, i64_w, i32_w]
                                rfl
                              refine one_ (i := 1) (N := some 59) #[true, true, true, false, false, false, false, false, false, false, false, false, false, false, false, false, false, false, false] rfl rfl (one_of HT_.out (by kernel_rfl)) (by decide) (fun K hK => ?_)
                              refine goes_ Try.func11 (by kernel_rfl) rfl #[.agg #[.int .i64 t264, .int .i64 t265, .int .u64 t266, .slice Ao49 t267.length co49]] (by rfl) rfl rfl (by (try simp only [List.map_toArray, List.map_cons, List.map_nil]); first | done | rfl | (simp only [List.length_drop, List.length_take]; rfl)) ?_
                              with_reducible refine (courierlaw02_ours.calls t264 t265 t266 (fun k_ => some k_ = (.slice Ao49 t267.length co49 : Value).ownBlock) _ _ t267 t286 t287 t288 t289 _ ?side1 A34.out).mono ?_
                              (case side1 => exact Kd.R_V (Kd.R_tight rfl (Kd.R_types (Kd.R_types (Kd.R_types (HO269.out) BK241.out (by decide)) BK272.out (by decide)) BK285.out (by decide))))
                              rintro e w60 ⟨v290, rfl, ho0, hb⟩
                              (try (have nt_ := Aside0.mk (Kd.C_below HR0_3.out hb); clear HR0_3; have HR0_3 := nt_; clear nt_))
                              refine ⟨_, rfl, ?_⟩
                              have n0_ := Aside0.mk (Kd.R_below (by (with_reducible repeat (first | apply Kd.R_alloc | apply Kd.R_drewN | apply Kd.R_drew)); exact HO_7.out) hb)
                              have n1_ := Aside0.mk (Kd.R_below (by (with_reducible repeat (first | apply Kd.R_alloc | apply Kd.R_drewN | apply Kd.R_drew)); exact HO263.out) hb)
                              have n2_ := Aside0.mk (Kd.R_below (by (with_reducible repeat (first | apply Kd.R_alloc | apply Kd.R_drewN | apply Kd.R_drew)); exact HO269.out) hb)
                              have n3_ := Aside0.mk (Kd.R_below (by (with_reducible repeat (first | apply Kd.R_alloc | apply Kd.R_drewN | apply Kd.R_drew)); exact HO282.out) hb)
                              have n4_ := Aside0.mk (Kd.V_lower (Kd.V_mono (ok' := fun k_ => some k_ ≠ (.slice Ao42 t251.length co42 : Value).ownBlock ∧ some k_ ≠ (.slice Ao44 y261.length co44 : Value).ownBlock ∧ some k_ ≠ (.slice Ao57 t280.length co57 : Value).ownBlock ∧ k_ ≠ gb241 ∧ k_ ≠ gb272 ∧ k_ ≠ gb285) ho0 (fun k_ hk_ => ⟨Or.elim hk_ (fun hs_ => ((Kd.R_types (Kd.R_types (Kd.R_types (HO269.out) BK241.out (by decide)) BK272.out (by decide)) BK285.out (by decide)).1 k_ hs_.symm).1.1.1.1) (fun hn_ => (Kd.fresh' (Kd.R_lt (by (with_reducible repeat (first | apply Kd.R_alloc | apply Kd.R_drewN | apply Kd.R_drew)); exact HO_7.out)) k_ hn_)), Or.elim hk_ (fun hs_ => ((Kd.R_types (Kd.R_types (Kd.R_types (HO269.out) BK241.out (by decide)) BK272.out (by decide)) BK285.out (by decide)).1 k_ hs_.symm).1.1.1.2.1) (fun hn_ => (Kd.fresh' (Kd.R_lt (by (with_reducible repeat (first | apply Kd.R_alloc | apply Kd.R_drewN | apply Kd.R_drew)); exact HO263.out)) k_ hn_)), Or.elim hk_ (fun hs_ => ((Kd.R_types (Kd.R_types (Kd.R_types (HO269.out) BK241.out (by decide)) BK272.out (by decide)) BK285.out (by decide)).1 k_ hs_.symm).1.1.1.2.2) (fun hn_ => (Kd.fresh' (Kd.R_lt (by (with_reducible repeat (first | apply Kd.R_alloc | apply Kd.R_drewN | apply Kd.R_drew)); exact HO282.out)) k_ hn_)), Or.elim hk_ (fun hs_ => ((Kd.R_types (Kd.R_types (Kd.R_types (HO269.out) BK241.out (by decide)) BK272.out (by decide)) BK285.out (by decide)).1 k_ hs_.symm).1.1.2) (fun hn_ => (Kd.freshB (g := gb241) (o := .cells #[.int .i64 a0_0, .int .i64 a0_1, .int .u64 a0_2, .slice A0_3 l0_3.length c0_3] 30 (0, 0)) (by (with_reducible repeat (first | refine blk_drewN ?_ _ | refine blk_drew ?_ | refine blk_alloc ?_ _)); exact BK241.out) k_ hn_)), Or.elim hk_ (fun hs_ => ((Kd.R_types (Kd.R_types (Kd.R_types (HO269.out) BK241.out (by decide)) BK272.out (by decide)) BK285.out (by decide)).1 k_ hs_.symm).1.2) (fun hn_ => (Kd.freshB (g := gb272) (o := .cells #[.int .i64 t264, .int .i64 t265, .int .u64 t266, .slice Ao49 t267.length co49] 26 (0, 0)) (by (with_reducible repeat (first | refine blk_drewN ?_ _ | refine blk_drew ?_ | refine blk_alloc ?_ _)); exact BK272.out) k_ hn_)), Or.elim hk_ (fun hs_ => ((Kd.R_types (Kd.R_types (Kd.R_types (HO269.out) BK241.out (by decide)) BK272.out (by decide)) BK285.out (by decide)).1 k_ hs_.symm).2) (fun hn_ => (Kd.freshB (g := gb285) (o := .cells #[.int .i64 t277, .int .i64 t278, .int .u64 t279, .slice Ao57 t280.length co57] 26 (0, 0)) (by (with_reducible repeat (first | refine blk_drewN ?_ _ | refine blk_drew ?_ | refine blk_alloc ?_ _)); exact BK285.out) k_ hn_))⟩)) (below_size (by repeat (first | (with_reducible first | exact HB.out | apply below_alloc | apply pw_below_drewN | apply below_drew1 | refine below_set ?_ GE241.out | refine below_set ?_ GE272.out | refine below_set ?_ GE285.out) | exact HB.out))))
                              have n5_ := Aside0.mk (blk_below (g := gb241) (o := .cells #[.int .i64 a0_0, .int .i64 a0_1, .int .u64 a0_2, .slice A0_3 l0_3.length c0_3] 30 (0, 0)) (by (with_reducible repeat (first | refine blk_drewN ?_ _ | refine blk_drew ?_ | refine blk_alloc ?_ _)); exact BK241.out) hb)
                              have n6_ := Aside0.mk (blk_below (g := gb272) (o := .cells #[.int .i64 t264, .int .i64 t265, .int .u64 t266, .slice Ao49 t267.length co49] 26 (0, 0)) (by (with_reducible repeat (first | refine blk_drewN ?_ _ | refine blk_drew ?_ | refine blk_alloc ?_ _)); exact BK272.out) hb)
                              have n7_ := Aside0.mk (blk_below (g := gb285) (o := .cells #[.int .i64 t277, .int .i64 t278, .int .u64 t279, .slice Ao57 t280.length co57] 26 (0, 0)) (by (with_reducible repeat (first | refine blk_drewN ?_ _ | refine blk_drew ?_ | refine blk_alloc ?_ _)); exact BK285.out) hb)
                              have n8_ := Aside0.mk (below_step (by repeat (first | (with_reducible first | exact HB.out | apply below_alloc | apply pw_below_drewN | apply below_drew1 | refine below_set ?_ GE241.out | refine below_set ?_ GE272.out | refine below_set ?_ GE285.out) | exact HB.out)) hb)
                              clear HO_7
                              clear HO263
                              clear HO269
                              clear HO282
                              clear BK241
                              clear BK272
                              clear BK285
                              clear HB
                              have HO_7 := n0_
                              have HO263 := n1_
                              have HO269 := n2_
                              have HO282 := n3_
                              have HO291 := n4_
                              have BK241 := n5_
                              have BK272 := n6_
                              have BK285 := n7_
                              have HB := n8_
                              clear n0_ n1_ n2_ n3_ n4_ n5_ n6_ n7_ n8_
                              (try clear hb)
                              (try clear hb2)
                              (try clear hk)
                              (try clear hi)
                              (try clear ho0)
                              obtain ⟨Ao61, co61, eo61⟩ := Kd.V_slice HO291.out
                              (first | subst eo61 | (injection eo61 with f1_ f2_ f3_; have f4_ := f1_.symm; have f5_ := f3_.symm; clear f1_ f2_ f3_; subst f4_; subst f5_))
                              refine hK.out _ _ ⟨(blk_cell BK272.out 0).trans rfl, (blk_cell BK272.out 1).trans rfl, (blk_cell BK272.out 2).trans rfl, (blk_cell BK272.out 3).trans rfl, (blk_cell BK241.out 0).trans rfl, (blk_cell BK241.out 1).trans rfl, (blk_cell BK241.out 2).trans rfl, (blk_cell BK241.out 3).trans rfl⟩ (fun hHeld => ?_)
                              clear hK K
                              refine norm_ (a' := ?_) ?_ ?_
                              rotate_left
                              · show Act.put _ (some 59) _ = _
                                simp only [Act.put, List.setIfInBounds_toArray, List.set_cons_zero, List.set_cons_succ, i64_w, i32_w]
                                rfl
                              refine one_ (i := 3) (N := some 61) #[true, true, true, true, false, false, false, false, false, false, false, false, false, false, false, false, false, false, false] rfl rfl (one_of HT_.out (by kernel_rfl)) (by decide) (fun K hK => ?_)
                              refine goes_ Try.func10 (by kernel_rfl) rfl #[.agg #[.int .i64 t286, .int .i64 t287, .int .u64 t288, .slice Ao61 t289.length co61], .agg #[.int .i64 a0_0, .int .i64 a0_1, .int .u64 a0_2, .slice A0_3 l0_3.length c0_3]] (by rfl) rfl rfl (by (try simp only [List.map_toArray, List.map_cons, List.map_nil]); first | done | rfl | (simp only [List.length_drop, List.length_take]; rfl)) ?_
                              with_reducible refine (courierref01_Same.calls t286 t287 t288 _ _ t289 a0_0 a0_1 a0_2 _ _ l0_3 true _ ?side1 ?side2 ?side3 ?side4 A35.out).mono ?_
                              (case side1 => repeat (first | exact (Kd.V_reads' HO291.out).2.2 | (with_reducible refine Kd.C_alloc ?_ _) | (with_reducible refine Kd.C_drewN ?_ _) | (with_reducible refine Kd.C_drew ?_)))
                              (case side2 => exact (Kd.V_reads' HO291.out).2.1)
                              (case side3 => repeat (first | exact (Kd.C_below HR0_3.out HB.out) | (with_reducible refine Kd.C_alloc ?_ _) | (with_reducible refine Kd.C_drewN ?_ _) | (with_reducible refine Kd.C_drew ?_)))
                              (case side4 => exact HC0_3.out)
                              rintro e w62 ⟨rfl, hb⟩
                              (try (have nt_ := Aside0.mk (Kd.C_below HR0_3.out hb); clear HR0_3; have HR0_3 := nt_; clear nt_))
                              refine ⟨_, rfl, ?_⟩
                              have n0_ := Aside0.mk (Kd.R_below (by (with_reducible repeat (first | apply Kd.R_alloc | apply Kd.R_drewN | apply Kd.R_drew)); exact HO_7.out) hb)
                              have n1_ := Aside0.mk (Kd.R_below (by (with_reducible repeat (first | apply Kd.R_alloc | apply Kd.R_drewN | apply Kd.R_drew)); exact HO263.out) hb)
                              have n2_ := Aside0.mk (Kd.R_below (by (with_reducible repeat (first | apply Kd.R_alloc | apply Kd.R_drewN | apply Kd.R_drew)); exact HO269.out) hb)
                              have n3_ := Aside0.mk (Kd.R_below (by (with_reducible repeat (first | apply Kd.R_alloc | apply Kd.R_drewN | apply Kd.R_drew)); exact HO282.out) hb)
                              have n4_ := Aside0.mk (Kd.V_below (by (with_reducible repeat (first | apply Kd.V_alloc | apply Kd.V_drewN | apply Kd.V_drew)); exact HO291.out) hb)
                              have n5_ := Aside0.mk (blk_below (g := gb241) (o := .cells #[.int .i64 a0_0, .int .i64 a0_1, .int .u64 a0_2, .slice A0_3 l0_3.length c0_3] 30 (0, 0)) (by (with_reducible repeat (first | refine blk_drewN ?_ _ | refine blk_drew ?_ | refine blk_alloc ?_ _)); exact BK241.out) hb)
                              have n6_ := Aside0.mk (blk_below (g := gb272) (o := .cells #[.int .i64 t264, .int .i64 t265, .int .u64 t266, .slice Ao49 t267.length co49] 26 (0, 0)) (by (with_reducible repeat (first | refine blk_drewN ?_ _ | refine blk_drew ?_ | refine blk_alloc ?_ _)); exact BK272.out) hb)
                              have n7_ := Aside0.mk (blk_below (g := gb285) (o := .cells #[.int .i64 t277, .int .i64 t278, .int .u64 t279, .slice Ao57 t280.length co57] 26 (0, 0)) (by (with_reducible repeat (first | refine blk_drewN ?_ _ | refine blk_drew ?_ | refine blk_alloc ?_ _)); exact BK285.out) hb)
                              have n8_ := Aside0.mk (below_step (by repeat (first | (with_reducible first | exact HB.out | apply below_alloc | apply pw_below_drewN | apply below_drew1 | refine below_set ?_ GE241.out | refine below_set ?_ GE272.out | refine below_set ?_ GE285.out) | exact HB.out)) hb)
                              clear HO_7
                              clear HO263
                              clear HO269
                              clear HO282
                              clear HO291
                              clear BK241
                              clear BK272
                              clear BK285
                              clear HB
                              have HO_7 := n0_
                              have HO263 := n1_
                              have HO269 := n2_
                              have HO282 := n3_
                              have HO291 := n4_
                              have BK241 := n5_
                              have BK272 := n6_
                              have BK285 := n7_
                              have HB := n8_
                              clear n0_ n1_ n2_ n3_ n4_ n5_ n6_ n7_ n8_
                              (try clear hb)
                              (try clear hb2)
                              (try clear hk)
                              (try clear hi)
                              refine hK.out _ _ ⟨(blk_cell BK272.out 0).trans rfl, (blk_cell BK272.out 1).trans rfl, (blk_cell BK272.out 2).trans rfl, (blk_cell BK272.out 3).trans rfl, (blk_cell BK241.out 0).trans rfl, (blk_cell BK241.out 1).trans rfl, (blk_cell BK241.out 2).trans rfl, (blk_cell BK241.out 3).trans rfl⟩ (fun hHeld => ?_)
                              clear hK K
                              refine norm_ (a' := ?_) ?_ ?_
                              rotate_left
                              · show Act.put _ (some 61) _ = _
                                simp only [Act.put, List.setIfInBounds_toArray, List.set_cons_zero, List.set_cons_succ, i64_w, i32_w]
                                rfl
                              refine pure_ (i := 4) (N := some 62) (v := ?_) (a' := ?_) #[true, true, true, true, true, false, false, false, false, false, false, false, false, false, false, false, false, false, false] rfl rfl (any_of HT_.out (by kernel_rfl)) (fun _ _ _ h => h) (Or.inl ⟨by rfl, ?_⟩) ?_ ?_
                              rotate_left
                              · intro w'
                                go_simp
                                with_reducible rfl
                              rotate_left
                              · simp only [Act.put, List.setIfInBounds_toArray, List.set_cons_zero, List.set_cons_succ, i64_w, i32_w]
                                rfl
                              refine pure_ (i := 5) (N := some 63) (v := ?_) (a' := ?_) #[true, true, true, true, true, true, false, false, false, false, false, false, false, false, false, false, false, false, false] rfl rfl (any_of HT_.out (by kernel_rfl)) (fun _ _ _ h => h) (Or.inl ⟨by rfl, ?_⟩) ?_ ?_
                              rotate_left
                              · intro w'
                                go_simp
                                with_reducible rfl
                              rotate_left
                              · simp only [Act.put, List.setIfInBounds_toArray, List.set_cons_zero, List.set_cons_succ, i64_w, i32_w]
                                rfl
                              refine pure_ (i := 6) (N := some 64) (v := ?_) (a' := ?_) #[true, true, true, true, true, true, true, false, false, false, false, false, false, false, false, false, false, false, false] rfl rfl (any_of HT_.out (by kernel_rfl)) (fun _ _ _ h => h) (Or.inl ⟨by rfl, ?_⟩) ?_ ?_
                              rotate_left
                              · intro w'
                                go_simp
                                with_reducible rfl
                              rotate_left
                              · simp only [Act.put, List.setIfInBounds_toArray, List.set_cons_zero, List.set_cons_succ, i64_w, i32_w]
                                rfl
                              refine pure_ (i := 7) (N := some 65) (v := ?_) (a' := ?_) #[true, true, true, true, true, true, true, true, false, false, false, false, false, false, false, false, false, false, false] rfl rfl (any_of HT_.out (by kernel_rfl)) (fun _ _ _ h => h) (Or.inl ⟨by rfl, ?_⟩) ?_ ?_
                              rotate_left
                              · intro w'
                                go_simp
                                with_reducible rfl
                              rotate_left
                              · simp only [Act.put, List.setIfInBounds_toArray, List.set_cons_zero, List.set_cons_succ, i64_w, i32_w]
                                rfl
                              refine pure_ (i := 8) (N := some 66) (v := ?_) (a' := ?_) #[true, true, true, true, true, true, true, true, true, false, false, false, false, false, false, false, false, false, false] rfl rfl (any_of HT_.out (by kernel_rfl)) (fun _ _ _ h => h) (Or.inl ⟨by rfl, ?_⟩) ?_ ?_
                              rotate_left
                              · intro w'
                                go_simp
                                with_reducible rfl
                              rotate_left
                              · simp only [Act.put, List.setIfInBounds_toArray, List.set_cons_zero, List.set_cons_succ, i64_w, i32_w]
                                rfl
                              refine pure_ (i := 9) (N := some 67) (v := ?_) (a' := ?_) #[true, true, true, true, true, true, true, true, true, true, false, false, false, false, false, false, false, false, false] rfl rfl (any_of HT_.out (by kernel_rfl)) (fun _ _ _ h => h) (Or.inl ⟨by rfl, ?_⟩) ?_ ?_
                              rotate_left
                              · intro w'
                                go_simp
                                with_reducible rfl
                              rotate_left
                              · simp only [Act.put, List.setIfInBounds_toArray, List.set_cons_zero, List.set_cons_succ, i64_w, i32_w]
                                rfl
                              refine pure_ (i := 10) (N := some 68) (v := ?_) (a' := ?_) #[true, true, true, true, true, true, true, true, true, true, true, false, false, false, false, false, false, false, false] rfl rfl (any_of HT_.out (by kernel_rfl)) (fun _ _ _ h => h) (Or.inl ⟨by rfl, ?_⟩) ?_ ?_
                              rotate_left
                              · intro w'
                                go_simp
                                with_reducible rfl
                              rotate_left
                              · simp only [Act.put, List.setIfInBounds_toArray, List.set_cons_zero, List.set_cons_succ, i64_w, i32_w]
                                rfl
                              refine pure_ (i := 11) (N := some 69) (v := ?_) (a' := ?_) #[true, true, true, true, true, true, true, true, true, true, true, true, false, false, false, false, false, false, false] rfl rfl (any_of HT_.out (by kernel_rfl)) (fun _ _ _ h => h) (Or.inl ⟨by rfl, ?_⟩) ?_ ?_
                              rotate_left
                              · intro w'
                                go_simp
                                with_reducible rfl
                              rotate_left
                              · simp only [Act.put, List.setIfInBounds_toArray, List.set_cons_zero, List.set_cons_succ, i64_w, i32_w]
                                rfl
                              refine pure_ (i := 12) (N := some 70) (v := ?_) (a' := ?_) #[true, true, true, true, true, true, true, true, true, true, true, true, true, false, false, false, false, false, false] rfl rfl (any_of HT_.out (by kernel_rfl)) (fun _ _ _ h => h) (Or.inl ⟨by rfl, ?_⟩) ?_ ?_
                              rotate_left
                              · intro w'
                                go_simp
                                with_reducible rfl
                              rotate_left
                              · simp only [Act.put, List.setIfInBounds_toArray, List.set_cons_zero, List.set_cons_succ, i64_w, i32_w]
                                rfl
                              refine pure_ (i := 13) (N := some 71) (v := ?_) (a' := ?_) #[true, true, true, true, true, true, true, true, true, true, true, true, true, true, false, false, false, false, false] rfl rfl (any_of HT_.out (by kernel_rfl)) (fun _ _ _ h => h) (Or.inl ⟨by rfl, ?_⟩) ?_ ?_
                              rotate_left
                              · intro w'
                                go_simp
                                with_reducible rfl
                              rotate_left
                              · simp only [Act.put, List.setIfInBounds_toArray, List.set_cons_zero, List.set_cons_succ, i64_w, i32_w]
                                rfl
                              refine pure_ (i := 14) (N := some 72) (v := ?_) (a' := ?_) #[true, true, true, true, true, true, true, true, true, true, true, true, true, true, true, false, false, false, false] rfl rfl (any_of HT_.out (by kernel_rfl)) (fun _ _ _ h => h) (Or.inl ⟨by rfl, ?_⟩) ?_ ?_
                              rotate_left
                              · intro w'
                                go_simp
                                with_reducible rfl
                              rotate_left
                              · simp only [Act.put, List.setIfInBounds_toArray, List.set_cons_zero, List.set_cons_succ, i64_w, i32_w]
                                rfl
                              refine pure_ (i := 15) (N := some 73) (v := ?_) (a' := ?_) #[true, true, true, true, true, true, true, true, true, true, true, true, true, true, true, true, false, false, false] rfl rfl (any_of HT_.out (by kernel_rfl)) (fun _ _ _ h => h) (Or.inl ⟨by rfl, ?_⟩) ?_ ?_
                              rotate_left
                              · intro w'
                                go_simp
                                with_reducible rfl
                              rotate_left
                              · simp only [Act.put, List.setIfInBounds_toArray, List.set_cons_zero, List.set_cons_succ, i64_w, i32_w]
                                rfl
                              refine pure_ (i := 16) (N := some 74) (v := ?_) (a' := ?_) #[true, true, true, true, true, true, true, true, true, true, true, true, true, true, true, true, true, false, false] rfl rfl (any_of HT_.out (by kernel_rfl)) (fun _ _ _ h => h) (Or.inl ⟨by rfl, ?_⟩) ?_ ?_
                              rotate_left
                              · intro w'
                                go_simp
                                with_reducible rfl
                              rotate_left
                              · simp only [Act.put, List.setIfInBounds_toArray, List.set_cons_zero, List.set_cons_succ, i64_w, i32_w]
                                rfl
                              refine pure_ (i := 17) (N := some 75) (v := ?_) (a' := ?_) #[true, true, true, true, true, true, true, true, true, true, true, true, true, true, true, true, true, true, false] rfl rfl (any_of HT_.out (by kernel_rfl)) (fun _ _ _ h => h) (Or.inl ⟨by rfl, ?_⟩) ?_ ?_
                              rotate_left
                              · intro w'
                                go_simp
                                with_reducible rfl
                              rotate_left
                              · simp only [Act.put, List.setIfInBounds_toArray, List.set_cons_zero, List.set_cons_succ, i64_w, i32_w]
                                rfl
                              refine pure_ (i := 18) (N := some 6) (v := ?_) (a' := ?_) #[true, true, true, true, true, true, true, true, true, true, true, true, true, true, true, true, true, true, true] rfl rfl (any_of HT_.out (by kernel_rfl)) (fun _ _ _ h => h) (Or.inl ⟨by rfl, ?_⟩) ?_ ?_
                              rotate_left
                              · intro w'
                                go_simp
                                with_reducible rfl
                              rotate_left
                              · simp only [Act.put, List.setIfInBounds_toArray, List.set_cons_zero, List.set_cons_succ, i64_w, i32_w]
                                rfl
                              refine done_ (done_of HT_.out (by kernel_rfl)) ?_
                              try go_wp2
                              go_ret
                              exact ⟨by first | rfl | (simp [errW_none, errW_some] <;> rfl) | (simp only [← hji30]; first | rfl | (simp [errW_none, errW_some] <;> rfl)) | (simp [*, errW_none, errW_some] <;> rfl), by repeat (first | (with_reducible first | exact HB.out | apply below_alloc | apply pw_below_drewN | apply below_drew1 | refine below_set ?_ GE241.out | refine below_set ?_ GE272.out | refine below_set ?_ GE285.out) | exact HB.out)⟩
                            · rw [if_neg c38] at H
                              have c38b0 : (t271 == 0) = false := beq_eq_false_iff_ne.mpr c38
                              have c38b1 : (t271 != 0) = true := bne_iff_ne.mpr c38
                              obtain rfl := Option.some.inj H
                              try go_wp2_with (first | ((with_reducible refine gate_dst (N := 37) rfl ?_); (try (refine gate_guard (by rfl) ?_; dsimp only)); refine Kd.R_lit (Kd.int .u8) _ 5 ?hg (N := 37) ?hd (xs := ([] : List Int)) (inner := []) (ok := fun _ => True) (okp := fun _ => True) ?hr ?hp (fun _ hk => hk) trivial (Below.refl _ _) (Nat.le_refl _) (by simp) ?_; (case hd => rfl); (case hg => rfl); (case hr => first | (go_simp; done) | (go_simp; rfl)); (case hp => exact (Reps.none _ _)); intro v256 w63 ho64 hb hg_ hnew_; clear hg_ hnew_; (first | rw [← Ny255.out] at ho64 | (simp only [Int.reduceToNat] at ho64; rw [← Ny255.out] at ho64)); have n0_ := Aside0.mk (Kd.R_elder' (by (with_reducible repeat (first | apply Kd.R_alloc | apply Kd.R_drewN | apply Kd.R_drew)); exact HO_7.out) (Kd.R_base ho64) hb); have n1_ := Aside0.mk (Kd.R_lower (Kd.R_new' ho64 (Kd.R_lt (by (with_reducible repeat (first | apply Kd.R_alloc | apply Kd.R_drewN | apply Kd.R_drew)); exact HO_7.out))) (below_size (by repeat (first | (with_reducible first | exact HB.out | apply below_alloc | apply pw_below_drewN | apply below_drew1 | refine below_set ?_ GE241.out) | exact HB.out)))); have n2_ := Aside0.mk (blk_below (g := gb241) (o := .cells #[.int .i64 a0_0, .int .i64 a0_1, .int .u64 a0_2, .slice A0_3 l0_3.length c0_3] 30 (0, 0)) (by (with_reducible repeat (first | refine blk_drewN ?_ _ | refine blk_drew ?_ | refine blk_alloc ?_ _)); exact BK241.out) hb); have n3_ := Aside0.mk (below_step (by repeat (first | (with_reducible first | exact HB.out | apply below_alloc | apply pw_below_drewN | apply below_drew1 | refine below_set ?_ GE241.out) | exact HB.out)) hb); clear HO_7; clear BK241; clear HB; have HO_7 := n0_; have HO257 := n1_; have BK241 := n2_; have HB := n3_; clear n0_ n1_ n2_ n3_; clear hb ho64; obtain ⟨Ao66, co66, eo66⟩ := Kd.R_slice HO_7.out; subst eo66) | ((with_reducible refine gate_builtin (b := .append) (xs := #[.tmp 37, .tmp 38]) rfl ?_); (try (refine gate_guard (by rfl) ?_; dsimp only)); at_builtin; refine Kd.R_append_rows (Kd.int .u8) (w0 := w) w.heap.size rfl (.tmp 37) (.tmp 38) 22 5 (.int .u8 0) 1 rfl Try.underlying22 info5 rfl (by decide) (by omega) v256 y255 t251 _ _ _ (fun k_ => some k_ ≠ (.slice Ao66 t251.length co66 : Value).ownBlock) (fun _ => False) rfl rfl ?aO ?aR (fun _ _ h => h) (fun _ h => h.elim) ?aF ?aB ?aS ?aL ?_; (case aR => repeat (first | exact (Kd.R_reads' HO_7.out).2.2 | (with_reducible refine Kd.C_alloc ?_ _) | (with_reducible refine Kd.C_drewN ?_ _) | (with_reducible refine Kd.C_drew ?_))); (case aB => exact (by repeat (first | (with_reducible first | exact HB.out | apply below_alloc | apply pw_below_drewN | apply below_drew1 | refine below_set ?_ GE241.out) | exact HB.out))); (case aF => exact (fun k_ hk => Kd.fresh' (Kd.R_lt (by (with_reducible repeat (first | apply Kd.R_alloc | apply Kd.R_drewN | apply Kd.R_drew)); exact HO_7.out)) k_ hk)); (case aO => exact (by (with_reducible repeat (first | apply Kd.R_alloc | apply Kd.R_drewN | apply Kd.R_drew)); exact Kd.R_mono HO257.out (fun _ hk => hk.2))); (case aS => exact (below_size (by repeat (first | (with_reducible first | exact HB.out | apply below_alloc | apply pw_below_drewN | apply below_drew1 | refine below_set ?_ GE241.out) | exact HB.out)))); (case aL => have := LMc26.out; omega); intro v259 w65 ho hb hg hat; rw [← Ny258.out] at ho; have n0_ := Aside0.mk (Kd.R_after (ok := (fun _ => True)) (by (with_reducible repeat (first | apply Kd.R_alloc | apply Kd.R_drewN | apply Kd.R_drew)); exact HO_7.out) hg hat); have n1_ := Aside0.mk (blk_grown (g := gb241) (o := .cells #[.int .i64 a0_0, .int .i64 a0_1, .int .u64 a0_2, .slice A0_3 l0_3.length c0_3] 30 (0, 0)) (by (with_reducible repeat (first | refine blk_drewN ?_ _ | refine blk_drew ?_ | refine blk_alloc ?_ _)); exact BK241.out) hg (Kd.R_ne HO257.out BK241.out (by decide))); have n2_ := Aside0.mk (hb); have n3_ := Aside0.mk (ho); clear HO_7; clear BK241; clear HB; clear HO257; have HO_7 := n0_; have BK241 := n1_; have HB := n2_; have HO260 := n3_; clear n0_ n1_ n2_ n3_; clear ho hb hg hat) | ((with_reducible refine gate_builtin (b := .append) (xs := #[.tmp 39, .tmp 40]) rfl ?_); (try (refine gate_guard (by rfl) ?_; dsimp only)); at_builtin; refine Kd.R_append_rows (Kd.int .u8) (w0 := w) w.heap.size rfl (.tmp 39) (.tmp 40) 22 5 (.int .u8 0) 1 rfl Try.underlying22 info5 rfl (by decide) (by omega) v259 y258 l1 _ _ _ (fun k_ => some k_ ≠ (.slice Ao66 t251.length co66 : Value).ownBlock) (fun _ => False) rfl rfl ?aO ?aR (fun _ _ h => h) (fun _ h => h.elim) ?aF ?aB ?aS ?aL ?_; (case aR => repeat (first | exact (Kd.C_below HR1.out HB.out) | (with_reducible refine Kd.C_alloc ?_ _) | (with_reducible refine Kd.C_drewN ?_ _) | (with_reducible refine Kd.C_drew ?_))); (case aB => exact (by repeat (first | (with_reducible first | exact HB.out | apply below_alloc | apply pw_below_drewN | apply below_drew1 | refine below_set ?_ GE241.out) | exact HB.out))); (case aF => exact (fun k_ hk => Kd.fresh' (Kd.R_lt (by (with_reducible repeat (first | apply Kd.R_alloc | apply Kd.R_drewN | apply Kd.R_drew)); exact HO_7.out)) k_ hk)); (case aO => exact (by (with_reducible repeat (first | apply Kd.R_alloc | apply Kd.R_drewN | apply Kd.R_drew)); exact HO260.out)); (case aS => exact (below_size (by repeat (first | (with_reducible first | exact HB.out | apply below_alloc | apply pw_below_drewN | apply below_drew1 | refine below_set ?_ GE241.out) | exact HB.out)))); (case aL => have := LMc27.out; omega); intro v262 w67 ho hb hg hat; rw [← Ny261.out] at ho; have n0_ := Aside0.mk (Kd.R_after (ok := (fun _ => True)) (by (with_reducible repeat (first | apply Kd.R_alloc | apply Kd.R_drewN | apply Kd.R_drew)); exact HO_7.out) hg hat); have n1_ := Aside0.mk (blk_grown (g := gb241) (o := .cells #[.int .i64 a0_0, .int .i64 a0_1, .int .u64 a0_2, .slice A0_3 l0_3.length c0_3] 30 (0, 0)) (by (with_reducible repeat (first | refine blk_drewN ?_ _ | refine blk_drew ?_ | refine blk_alloc ?_ _)); exact BK241.out) hg (Kd.R_ne HO260.out BK241.out (by decide))); have n2_ := Aside0.mk (hb); have n3_ := Aside0.mk (ho); clear HO_7; clear BK241; clear HB; clear HO260; have HO_7 := n0_; have BK241 := n1_; have HB := n2_; have HO263 := n3_; clear n0_ n1_ n2_ n3_; clear ho hb hg hat; obtain ⟨Ao68, co68, eo68⟩ := Kd.R_slice HO263.out; subst eo68) | ((with_reducible refine gate_callee (f := 8) rfl ?_); refine goesL_ (some 42) rfl rfl Try.func8 (by kernel_rfl) rfl #[.slice Ao68 y261.length co68] rfl (by (try simp only [List.map_toArray, List.map_cons, List.map_nil]); first | done | rfl | (simp only [List.length_drop, List.length_take]; rfl)) ?_; (with_reducible refine (wire_Take.calls kj17 _ _ y261 t264 t265 t266 t267 t270 t271 _ ?side1 ?side2 A28.out).mono ?_); (case side1 => repeat (first | exact (Kd.R_reads' HO263.out).2.2 | (with_reducible refine Kd.C_alloc ?_ _) | (with_reducible refine Kd.C_drewN ?_ _) | (with_reducible refine Kd.C_drew ?_))); (case side2 => exact (Kd.R_reads' HO263.out).2.1); rintro e w69 ⟨v268, rfl, ho0, hb⟩; refine ⟨_, rfl, ?_⟩; have n0_ := Aside0.mk (Kd.R_elder' (by (with_reducible repeat (first | apply Kd.R_alloc | apply Kd.R_drewN | apply Kd.R_drew)); exact HO_7.out) (Kd.R_base ho0) hb); have n1_ := Aside0.mk (Kd.R_elder' (by (with_reducible repeat (first | apply Kd.R_alloc | apply Kd.R_drewN | apply Kd.R_drew)); exact HO263.out) (Kd.R_base ho0) hb); have n2_ := Aside0.mk (Kd.R_lower (Kd.R_new' (Kd.R_new' ho0 (Kd.R_lt (by (with_reducible repeat (first | apply Kd.R_alloc | apply Kd.R_drewN | apply Kd.R_drew)); exact HO_7.out))) (Kd.R_lt (by (with_reducible repeat (first | apply Kd.R_alloc | apply Kd.R_drewN | apply Kd.R_drew)); exact HO263.out))) (below_size (by repeat (first | (with_reducible first | exact HB.out | apply below_alloc | apply pw_below_drewN | apply below_drew1 | refine below_set ?_ GE241.out) | exact HB.out)))); have n3_ := Aside0.mk (blk_below (g := gb241) (o := .cells #[.int .i64 a0_0, .int .i64 a0_1, .int .u64 a0_2, .slice A0_3 l0_3.length c0_3] 30 (0, 0)) (by (with_reducible repeat (first | refine blk_drewN ?_ _ | refine blk_drew ?_ | refine blk_alloc ?_ _)); exact BK241.out) hb); have n4_ := Aside0.mk (below_step (by repeat (first | (with_reducible first | exact HB.out | apply below_alloc | apply pw_below_drewN | apply below_drew1 | refine below_set ?_ GE241.out) | exact HB.out)) hb); clear HO_7; clear HO263; clear BK241; clear HB; have HO_7 := n0_; have HO263 := n1_; have HO269 := n2_; have BK241 := n3_; have HB := n4_; clear n0_ n1_ n2_ n3_ n4_; (try clear hb); (try clear hb2); (try clear hk); (try clear hi); (try clear ho0)) | ((with_reducible refine gate_dst (N := 9) rfl ?_); (try (refine gate_guard (by rfl) ?_; dsimp only)); refine box_event ?hg (N := 9) ?hd (cs := #[.int .i64 0, .int .i64 0, .int .u64 0, .slice none 0 0]) (t := 26) ?hr ?_; (case hd => rfl); (case hg => rfl); (case hr => first | (go_simp; done) | (go_simp; rfl)); intro gb272 hg w70 hbox hb; have n0_ := Aside0.mk (Kd.R_below (by (with_reducible repeat (first | apply Kd.R_alloc | apply Kd.R_drewN | apply Kd.R_drew)); exact HO_7.out) hb); have n1_ := Aside0.mk (Kd.R_below (by (with_reducible repeat (first | apply Kd.R_alloc | apply Kd.R_drewN | apply Kd.R_drew)); exact HO263.out) hb); have n2_ := Aside0.mk (Kd.R_below (by (with_reducible repeat (first | apply Kd.R_alloc | apply Kd.R_drewN | apply Kd.R_drew)); exact HO269.out) hb); have n3_ := Aside0.mk (blk_below (g := gb241) (o := .cells #[.int .i64 a0_0, .int .i64 a0_1, .int .u64 a0_2, .slice A0_3 l0_3.length c0_3] 30 (0, 0)) (by (with_reducible repeat (first | refine blk_drewN ?_ _ | refine blk_drew ?_ | refine blk_alloc ?_ _)); exact BK241.out) hb); have n4_ := Aside0.mk (below_step (by repeat (first | (with_reducible first | exact HB.out | apply below_alloc | apply pw_below_drewN | apply below_drew1 | refine below_set ?_ GE241.out) | exact HB.out)) hb); have n5_ := Aside0.mk (hbox); have n6_ := Aside0.mk ((by rw [hg]; exact (below_size (by repeat (first | (with_reducible first | exact HB.out | apply below_alloc | apply pw_below_drewN | apply below_drew1 | refine below_set ?_ GE241.out) | exact HB.out))) : w.heap.size ≤ gb272)); have n7_ := Aside0.mk ((by rw [hg]; exact (below_size (by repeat (first | (with_reducible first | exact HB.out | apply below_alloc | apply pw_below_drewN | apply below_drew1 | refine below_set ?_ GE241.out) | exact HB.out))) : w.heap.size ≤ gb272)); have n8_ := Aside0.mk ((by rw [hg]; exact Nat.ne_of_lt (blk_lt (g := gb241) (o := .cells #[.int .i64 a0_0, .int .i64 a0_1, .int .u64 a0_2, .slice A0_3 l0_3.length c0_3] 30 (0, 0)) (by (with_reducible repeat (first | refine blk_drewN ?_ _ | refine blk_drew ?_ | refine blk_alloc ?_ _)); exact BK241.out)) : gb241 ≠ gb272)); have n9_ := Aside0.mk ((by rw [hg]; exact Nat.ne_of_gt (blk_lt (g := gb241) (o := .cells #[.int .i64 a0_0, .int .i64 a0_1, .int .u64 a0_2, .slice A0_3 l0_3.length c0_3] 30 (0, 0)) (by (with_reducible repeat (first | refine blk_drewN ?_ _ | refine blk_drew ?_ | refine blk_alloc ?_ _)); exact BK241.out)) : gb272 ≠ gb241)); clear HO_7; clear HO263; clear HO269; clear BK241; clear HB; have HO_7 := n0_; have HO263 := n1_; have HO269 := n2_; have BK241 := n3_; have HB := n4_; have BK272 := n5_; have GW272 := n6_; have GE272 := n7_; have NB241_272 := n8_; have NB272_241 := n9_; clear n0_ n1_ n2_ n3_ n4_ n5_ n6_ n7_ n8_ n9_; clear hb hbox hg; have hnb71 := NB272_241.out; have hnc71 := NB241_272.out; have hcz72_0 : w70.cell? ⟨gb272, 0, none⟩ = some (.int .i64 0) := (blk_cell BK272.out 0).trans rfl; have hcz72_1 : w70.cell? ⟨gb272, 1, none⟩ = some (.int .i64 0) := (blk_cell BK272.out 1).trans rfl; have hcz72_2 : w70.cell? ⟨gb272, 2, none⟩ = some (.int .u64 0) := (blk_cell BK272.out 2).trans rfl; have hcz72_3 : w70.cell? ⟨gb272, 3, none⟩ = some (.slice none 0 0) := (blk_cell BK272.out 3).trans rfl; have hfz72_0 := blk_frozen BK272.out 0; have hfz72_1 := blk_frozen BK272.out 1; have hfz72_2 := blk_frozen BK272.out 2; have hfz72_3 := blk_frozen BK272.out 3; obtain ⟨Ao73, co73, eo73⟩ := Kd.R_slice HO269.out; subst eo73) | ((with_reducible refine gate_store (t := 26) (p := 9) rfl ?_); refine store_event (t := 26) (p := 9) (v := ?vo_w74) (w1 := ((((w70.setCell ⟨gb272, 0, none⟩ (.int .i64 t264)).setCell ⟨gb272, 1, none⟩ (.int .i64 t265)).setCell ⟨gb272, 2, none⟩ (.int .u64 t266)).setCell ⟨gb272, 3, none⟩ (.slice Ao73 t267.length co73))) ?hg ?ho ?hn ?hr ?_; (case ho => rfl); (case hg => rfl); (case hn => rfl); (case hr => first | (go_simp; done) | (go_simp; rfl)); intro w74 hw; have n0_ : Aside0 (Kd.R (Kd.int .u8) 5 w74 w.heap.size (fun k_ => some k_ ≠ (.slice Ao68 y261.length co68 : Value).ownBlock ∧ some k_ ≠ (.slice Ao73 t267.length co73 : Value).ownBlock) (.slice Ao66 t251.length co66) t251) := ⟨(by rw [hw]; exact (by (with_reducible repeat (first | apply Kd.R_alloc | apply Kd.R_drewN | apply Kd.R_drew)); exact Kd.R_mono (Kd.R_far (p := ⟨gb272, 3, none⟩) (Kd.R_far (p := ⟨gb272, 2, none⟩) (Kd.R_far (p := ⟨gb272, 1, none⟩) (Kd.R_far (p := ⟨gb272, 0, none⟩) (Kd.R_types HO_7.out BK272.out (by decide)) (fun _ hk => hk.2) (.int .i64 t264)) (fun _ hk => hk.2) (.int .i64 t265)) (fun _ hk => hk.2) (.int .u64 t266)) (fun _ hk => hk.2) (.slice Ao73 t267.length co73)) (fun _ hk => ⟨hk.1.1.2, hk.1.2⟩)))⟩; have n1_ : Aside0 (Kd.R (Kd.int .u8) 5 w74 w.heap.size (fun k_ => some k_ ≠ (.slice Ao66 t251.length co66 : Value).ownBlock ∧ some k_ ≠ (.slice Ao73 t267.length co73 : Value).ownBlock) (.slice Ao68 y261.length co68) y261) := ⟨(by rw [hw]; exact (by (with_reducible repeat (first | apply Kd.R_alloc | apply Kd.R_drewN | apply Kd.R_drew)); exact Kd.R_mono (Kd.R_far (p := ⟨gb272, 3, none⟩) (Kd.R_far (p := ⟨gb272, 2, none⟩) (Kd.R_far (p := ⟨gb272, 1, none⟩) (Kd.R_far (p := ⟨gb272, 0, none⟩) (Kd.R_types HO263.out BK272.out (by decide)) (fun _ hk => hk.2) (.int .i64 t264)) (fun _ hk => hk.2) (.int .i64 t265)) (fun _ hk => hk.2) (.int .u64 t266)) (fun _ hk => hk.2) (.slice Ao73 t267.length co73)) (fun _ hk => ⟨hk.1.1, hk.1.2⟩)))⟩; have n2_ : Aside0 (Kd.R (Kd.int .u8) 5 w74 w.heap.size (fun k_ => some k_ ≠ (.slice Ao66 t251.length co66 : Value).ownBlock ∧ some k_ ≠ (.slice Ao68 y261.length co68 : Value).ownBlock) (.slice Ao73 t267.length co73) t267) := ⟨(by rw [hw]; exact (by (with_reducible repeat (first | apply Kd.R_alloc | apply Kd.R_drewN | apply Kd.R_drew)); exact Kd.R_mono (Kd.R_far (p := ⟨gb272, 3, none⟩) (Kd.R_far (p := ⟨gb272, 2, none⟩) (Kd.R_far (p := ⟨gb272, 1, none⟩) (Kd.R_far (p := ⟨gb272, 0, none⟩) (Kd.R_types HO269.out BK272.out (by decide)) (fun _ hk => hk.2) (.int .i64 t264)) (fun _ hk => hk.2) (.int .i64 t265)) (fun _ hk => hk.2) (.int .u64 t266)) (fun _ hk => hk.2) (.slice Ao73 t267.length co73)) (fun _ hk => ⟨hk.1.1.2, hk.1.2⟩)))⟩; have n3_ : Aside0 (w74.heap[gb241]? = some (.cells #[.int .i64 a0_0, .int .i64 a0_1, .int .u64 a0_2, .slice A0_3 l0_3.length c0_3] 30 (0, 0))) := ⟨(by rw [hw]; exact (by (with_reducible repeat (first | refine blk_drewN ?_ _ | refine blk_drew ?_ | refine blk_alloc ?_ _)); refine blk_far ?_ NB241_272.out _; (with_reducible repeat (first | refine blk_drewN ?_ _ | refine blk_drew ?_ | refine blk_alloc ?_ _)); refine blk_far ?_ NB241_272.out _; (with_reducible repeat (first | refine blk_drewN ?_ _ | refine blk_drew ?_ | refine blk_alloc ?_ _)); refine blk_far ?_ NB241_272.out _; (with_reducible repeat (first | refine blk_drewN ?_ _ | refine blk_drew ?_ | refine blk_alloc ?_ _)); refine blk_far ?_ NB241_272.out _; (with_reducible repeat (first | refine blk_drewN ?_ _ | refine blk_drew ?_ | refine blk_alloc ?_ _)); exact BK241.out))⟩; have n4_ : Aside0 (w74.heap[gb272]? = some (.cells #[.int .i64 t264, .int .i64 t265, .int .u64 t266, .slice Ao73 t267.length co73] 26 (0, 0))) := ⟨(by rw [hw]; exact (by (with_reducible repeat (first | refine blk_drewN ?_ _ | refine blk_drew ?_ | refine blk_alloc ?_ _)); refine blk_put (cs := #[.int .i64 t264, .int .i64 t265, .int .u64 t266, .slice none 0 0]) ?_ 3 _ rfl; (with_reducible repeat (first | refine blk_drewN ?_ _ | refine blk_drew ?_ | refine blk_alloc ?_ _)); refine blk_put (cs := #[.int .i64 t264, .int .i64 t265, .int .u64 0, .slice none 0 0]) ?_ 2 _ rfl; (with_reducible repeat (first | refine blk_drewN ?_ _ | refine blk_drew ?_ | refine blk_alloc ?_ _)); refine blk_put (cs := #[.int .i64 t264, .int .i64 0, .int .u64 0, .slice none 0 0]) ?_ 1 _ rfl; (with_reducible repeat (first | refine blk_drewN ?_ _ | refine blk_drew ?_ | refine blk_alloc ?_ _)); refine blk_put (cs := #[.int .i64 0, .int .i64 0, .int .u64 0, .slice none 0 0]) ?_ 0 _ rfl; (with_reducible repeat (first | refine blk_drewN ?_ _ | refine blk_drew ?_ | refine blk_alloc ?_ _)); exact BK272.out))⟩; have n5_ : Aside0 (Below w.heap.size w w74) := ⟨(by rw [hw]; exact (by repeat (first | (with_reducible first | exact HB.out | apply below_alloc | apply pw_below_drewN | apply below_drew1 | refine below_set ?_ GE241.out | refine below_set ?_ GE272.out) | exact HB.out)))⟩; clear hw; clear HO_7; clear HO263; clear HO269; clear BK241; clear BK272; clear HB; have HO_7 := n0_; have HO263 := n1_; have HO269 := n2_; have BK241 := n3_; have BK272 := n4_; have HB := n5_; clear n0_ n1_ n2_ n3_ n4_ n5_; have q75 : ((ji30) : Int) ≤ ((t251.length : Int) : Int) := of_decide_eq_true (by first | (with_reducible assumption) | assumption); obtain ⟨i075, hi075, _, hsz75, _⟩ := info_parts info5; have hroom75 : t251.length ≤ co66 := (Kd.R_reads' HO_7.out).2.1; have hC75 : Kd.C (Kd.int .u8) _ Ao66 t251.length t251 := (Kd.R_reads' HO_7.out).2.2; have hcut75 := cut_to (P := Try.prog) 22 5 .u64 Try.underlying22 hi075 Ao66 t251.length co66 (ji30) (of_decide_eq_true (by first | (with_reducible assumption) | assumption)) q75 hroom75; have hr75 := Kd.C_take (m := ((ji30) : Int).toNat) hC75 (by omega); have hy75 : y273.length = ((ji30) : Int).toNat := (by rw [Ny273.out, List.length_take]; omega); rw [← Ny273.out] at hr75; rw [← hy75] at hcut75; have HR276 := Aside0.mk hr75; have HC276 := Aside0.mk (show y273.length ≤ co66 from by omega); clear hr75 hC75 hroom75 hi075 hsz75; have KY75 := Aside0.mk hy75; clear hy75; have KL75 := Aside0.mk (show ((ji30) : Int).toNat ≤ t251.length from by omega); replace q75 := eq_true q75) | ((with_reducible refine gate_callee (f := 8) rfl ?_); refine goesL_ (some 54) rfl rfl Try.func8 (by kernel_rfl) rfl #[.slice Ao66 y273.length co66] rfl (by (try simp only [List.map_toArray, List.map_cons, List.map_nil]); first | done | rfl | (simp only [List.length_drop, List.length_take]; rfl)) ?_; (with_reducible refine (wire_Take.calls kj17 _ _ y273 t277 t278 t279 t280 t283 t284 _ ?side1 ?side2 A33.out).mono ?_); (case side1 => repeat (first | exact (by repeat (first | (with_reducible exact HR276.out) | (with_reducible refine Kd.C_alloc ?_ _) | (with_reducible refine Kd.C_drewN ?_ _) | (with_reducible refine Kd.C_drew ?_) | exact HR276.out)) | (with_reducible refine Kd.C_alloc ?_ _) | (with_reducible refine Kd.C_drewN ?_ _) | (with_reducible refine Kd.C_drew ?_))); (case side2 => exact HC276.out); rintro e w76 ⟨v281, rfl, ho0, hb⟩; refine ⟨_, rfl, ?_⟩; have n0_ := Aside0.mk (Kd.R_elder' (by (with_reducible repeat (first | apply Kd.R_alloc | apply Kd.R_drewN | apply Kd.R_drew)); exact HO_7.out) (Kd.R_base ho0) hb); have n1_ := Aside0.mk (Kd.R_elder' (by (with_reducible repeat (first | apply Kd.R_alloc | apply Kd.R_drewN | apply Kd.R_drew)); exact HO263.out) (Kd.R_base ho0) hb); have n2_ := Aside0.mk (Kd.R_elder' (by (with_reducible repeat (first | apply Kd.R_alloc | apply Kd.R_drewN | apply Kd.R_drew)); exact HO269.out) (Kd.R_base ho0) hb); have n3_ := Aside0.mk (Kd.R_lower (Kd.R_new' (Kd.R_new' (Kd.R_new' ho0 (Kd.R_lt (by (with_reducible repeat (first | apply Kd.R_alloc | apply Kd.R_drewN | apply Kd.R_drew)); exact HO_7.out))) (Kd.R_lt (by (with_reducible repeat (first | apply Kd.R_alloc | apply Kd.R_drewN | apply Kd.R_drew)); exact HO263.out))) (Kd.R_lt (by (with_reducible repeat (first | apply Kd.R_alloc | apply Kd.R_drewN | apply Kd.R_drew)); exact HO269.out))) (below_size (by repeat (first | (with_reducible first | exact HB.out | apply below_alloc | apply pw_below_drewN | apply below_drew1 | refine below_set ?_ GE241.out | refine below_set ?_ GE272.out) | exact HB.out)))); have n4_ := Aside0.mk (blk_below (g := gb241) (o := .cells #[.int .i64 a0_0, .int .i64 a0_1, .int .u64 a0_2, .slice A0_3 l0_3.length c0_3] 30 (0, 0)) (by (with_reducible repeat (first | refine blk_drewN ?_ _ | refine blk_drew ?_ | refine blk_alloc ?_ _)); exact BK241.out) hb); have n5_ := Aside0.mk (blk_below (g := gb272) (o := .cells #[.int .i64 t264, .int .i64 t265, .int .u64 t266, .slice Ao73 t267.length co73] 26 (0, 0)) (by (with_reducible repeat (first | refine blk_drewN ?_ _ | refine blk_drew ?_ | refine blk_alloc ?_ _)); exact BK272.out) hb); have n6_ := Aside0.mk (Kd.C_below (by repeat (first | (with_reducible exact HR276.out) | (with_reducible refine Kd.C_alloc ?_ _) | (with_reducible refine Kd.C_drewN ?_ _) | (with_reducible refine Kd.C_drew ?_) | exact HR276.out)) hb); have n7_ := Aside0.mk (below_step (by repeat (first | (with_reducible first | exact HB.out | apply below_alloc | apply pw_below_drewN | apply below_drew1 | refine below_set ?_ GE241.out | refine below_set ?_ GE272.out) | exact HB.out)) hb); clear HO_7; clear HO263; clear HO269; clear BK241; clear BK272; clear HR276; clear HB; have HO_7 := n0_; have HO263 := n1_; have HO269 := n2_; have HO282 := n3_; have BK241 := n4_; have BK272 := n5_; have HR276 := n6_; have HB := n7_; clear n0_ n1_ n2_ n3_ n4_ n5_ n6_ n7_; (try clear hb); (try clear hb2); (try clear hk); (try clear hi); (try clear ho0)) | ((with_reducible refine gate_dst (N := 12) rfl ?_); (try (refine gate_guard (by rfl) ?_; dsimp only)); refine box_event ?hg (N := 12) ?hd (cs := #[.int .i64 0, .int .i64 0, .int .u64 0, .slice none 0 0]) (t := 26) ?hr ?_; (case hd => rfl); (case hg => rfl); (case hr => first | (go_simp; done) | (go_simp; rfl)); intro gb285 hg w77 hbox hb; have n0_ := Aside0.mk (Kd.R_below (by (with_reducible repeat (first | apply Kd.R_alloc | apply Kd.R_drewN | apply Kd.R_drew)); exact HO_7.out) hb); have n1_ := Aside0.mk (Kd.R_below (by (with_reducible repeat (first | apply Kd.R_alloc | apply Kd.R_drewN | apply Kd.R_drew)); exact HO263.out) hb); have n2_ := Aside0.mk (Kd.R_below (by (with_reducible repeat (first | apply Kd.R_alloc | apply Kd.R_drewN | apply Kd.R_drew)); exact HO269.out) hb); have n3_ := Aside0.mk (Kd.R_below (by (with_reducible repeat (first | apply Kd.R_alloc | apply Kd.R_drewN | apply Kd.R_drew)); exact HO282.out) hb); have n4_ := Aside0.mk (blk_below (g := gb241) (o := .cells #[.int .i64 a0_0, .int .i64 a0_1, .int .u64 a0_2, .slice A0_3 l0_3.length c0_3] 30 (0, 0)) (by (with_reducible repeat (first | refine blk_drewN ?_ _ | refine blk_drew ?_ | refine blk_alloc ?_ _)); exact BK241.out) hb); have n5_ := Aside0.mk (blk_below (g := gb272) (o := .cells #[.int .i64 t264, .int .i64 t265, .int .u64 t266, .slice Ao73 t267.length co73] 26 (0, 0)) (by (with_reducible repeat (first | refine blk_drewN ?_ _ | refine blk_drew ?_ | refine blk_alloc ?_ _)); exact BK272.out) hb); have n6_ := Aside0.mk (Kd.C_below (by repeat (first | (with_reducible exact HR276.out) | (with_reducible refine Kd.C_alloc ?_ _) | (with_reducible refine Kd.C_drewN ?_ _) | (with_reducible refine Kd.C_drew ?_) | exact HR276.out)) hb); have n7_ := Aside0.mk (below_step (by repeat (first | (with_reducible first | exact HB.out | apply below_alloc | apply pw_below_drewN | apply below_drew1 | refine below_set ?_ GE241.out | refine below_set ?_ GE272.out) | exact HB.out)) hb); have n8_ := Aside0.mk (hbox); have n9_ := Aside0.mk ((by rw [hg]; exact (below_size (by repeat (first | (with_reducible first | exact HB.out | apply below_alloc | apply pw_below_drewN | apply below_drew1 | refine below_set ?_ GE241.out | refine below_set ?_ GE272.out) | exact HB.out))) : w.heap.size ≤ gb285)); have n10_ := Aside0.mk ((by rw [hg]; exact (below_size (by repeat (first | (with_reducible first | exact HB.out | apply below_alloc | apply pw_below_drewN | apply below_drew1 | refine below_set ?_ GE241.out | refine below_set ?_ GE272.out) | exact HB.out))) : w.heap.size ≤ gb285)); have n11_ := Aside0.mk ((by rw [hg]; exact Nat.ne_of_lt (blk_lt (g := gb241) (o := .cells #[.int .i64 a0_0, .int .i64 a0_1, .int .u64 a0_2, .slice A0_3 l0_3.length c0_3] 30 (0, 0)) (by (with_reducible repeat (first | refine blk_drewN ?_ _ | refine blk_drew ?_ | refine blk_alloc ?_ _)); exact BK241.out)) : gb241 ≠ gb285)); have n12_ := Aside0.mk ((by rw [hg]; exact Nat.ne_of_gt (blk_lt (g := gb241) (o := .cells #[.int .i64 a0_0, .int .i64 a0_1, .int .u64 a0_2, .slice A0_3 l0_3.length c0_3] 30 (0, 0)) (by (with_reducible repeat (first | refine blk_drewN ?_ _ | refine blk_drew ?_ | refine blk_alloc ?_ _)); exact BK241.out)) : gb285 ≠ gb241)); have n13_ := Aside0.mk ((by rw [hg]; exact Nat.ne_of_lt (blk_lt (g := gb272) (o := .cells #[.int .i64 t264, .int .i64 t265, .int .u64 t266, .slice Ao73 t267.length co73] 26 (0, 0)) (by (with_reducible repeat (first | refine blk_drewN ?_ _ | refine blk_drew ?_ | refine blk_alloc ?_ _)); exact BK272.out)) : gb272 ≠ gb285)); have n14_ := Aside0.mk ((by rw [hg]; exact Nat.ne_of_gt (blk_lt (g := gb272) (o := .cells #[.int .i64 t264, .int .i64 t265, .int .u64 t266, .slice Ao73 t267.length co73] 26 (0, 0)) (by (with_reducible repeat (first | refine blk_drewN ?_ _ | refine blk_drew ?_ | refine blk_alloc ?_ _)); exact BK272.out)) : gb285 ≠ gb272)); clear HO_7; clear HO263; clear HO269; clear HO282; clear BK241; clear BK272; clear HR276; clear HB; have HO_7 := n0_; have HO263 := n1_; have HO269 := n2_; have HO282 := n3_; have BK241 := n4_; have BK272 := n5_; have HR276 := n6_; have HB := n7_; have BK285 := n8_; have GW285 := n9_; have GE285 := n10_; have NB241_285 := n11_; have NB285_241 := n12_; have NB272_285 := n13_; have NB285_272 := n14_; clear n0_ n1_ n2_ n3_ n4_ n5_ n6_ n7_ n8_ n9_ n10_ n11_ n12_ n13_ n14_; clear hb hbox hg; have hnb78 := NB285_241.out; have hnc78 := NB241_285.out; have hnb79 := NB285_272.out; have hnc79 := NB272_285.out; have hcz80_0 : w77.cell? ⟨gb285, 0, none⟩ = some (.int .i64 0) := (blk_cell BK285.out 0).trans rfl; have hcz80_1 : w77.cell? ⟨gb285, 1, none⟩ = some (.int .i64 0) := (blk_cell BK285.out 1).trans rfl; have hcz80_2 : w77.cell? ⟨gb285, 2, none⟩ = some (.int .u64 0) := (blk_cell BK285.out 2).trans rfl; have hcz80_3 : w77.cell? ⟨gb285, 3, none⟩ = some (.slice none 0 0) := (blk_cell BK285.out 3).trans rfl; have hfz80_0 := blk_frozen BK285.out 0; have hfz80_1 := blk_frozen BK285.out 1; have hfz80_2 := blk_frozen BK285.out 2; have hfz80_3 := blk_frozen BK285.out 3; obtain ⟨Ao81, co81, eo81⟩ := Kd.R_slice HO282.out; subst eo81))
                              have n0_ : Aside0 (Kd.R (Kd.int .u8) 5 ((((w77.setCell ⟨gb285, 0, none⟩ (.int .i64 t277)).setCell ⟨gb285, 1, none⟩ (.int .i64 t278)).setCell ⟨gb285, 2, none⟩ (.int .u64 t279)).setCell ⟨gb285, 3, none⟩ (.slice Ao81 t280.length co81)) w.heap.size (fun k_ => some k_ ≠ (.slice Ao68 y261.length co68 : Value).ownBlock ∧ some k_ ≠ (.slice Ao73 t267.length co73 : Value).ownBlock ∧ some k_ ≠ (.slice Ao81 t280.length co81 : Value).ownBlock) (.slice Ao66 t251.length co66) t251) := ⟨by (with_reducible repeat (first | apply Kd.R_alloc | apply Kd.R_drewN | apply Kd.R_drew)); exact Kd.R_mono (Kd.R_far (p := ⟨gb285, 3, none⟩) (Kd.R_far (p := ⟨gb285, 2, none⟩) (Kd.R_far (p := ⟨gb285, 1, none⟩) (Kd.R_far (p := ⟨gb285, 0, none⟩) (Kd.R_types HO_7.out BK285.out (by decide)) (fun _ hk => hk.2) (.int .i64 t277)) (fun _ hk => hk.2) (.int .i64 t278)) (fun _ hk => hk.2) (.int .u64 t279)) (fun _ hk => hk.2) (.slice Ao81 t280.length co81)) (fun _ hk => ⟨hk.1.1.1, ⟨hk.1.1.2, hk.1.2⟩⟩)⟩
                              have n1_ : Aside0 (Kd.R (Kd.int .u8) 5 ((((w77.setCell ⟨gb285, 0, none⟩ (.int .i64 t277)).setCell ⟨gb285, 1, none⟩ (.int .i64 t278)).setCell ⟨gb285, 2, none⟩ (.int .u64 t279)).setCell ⟨gb285, 3, none⟩ (.slice Ao81 t280.length co81)) w.heap.size (fun k_ => some k_ ≠ (.slice Ao66 t251.length co66 : Value).ownBlock ∧ some k_ ≠ (.slice Ao73 t267.length co73 : Value).ownBlock ∧ some k_ ≠ (.slice Ao81 t280.length co81 : Value).ownBlock) (.slice Ao68 y261.length co68) y261) := ⟨by (with_reducible repeat (first | apply Kd.R_alloc | apply Kd.R_drewN | apply Kd.R_drew)); exact Kd.R_mono (Kd.R_far (p := ⟨gb285, 3, none⟩) (Kd.R_far (p := ⟨gb285, 2, none⟩) (Kd.R_far (p := ⟨gb285, 1, none⟩) (Kd.R_far (p := ⟨gb285, 0, none⟩) (Kd.R_types HO263.out BK285.out (by decide)) (fun _ hk => hk.2) (.int .i64 t277)) (fun _ hk => hk.2) (.int .i64 t278)) (fun _ hk => hk.2) (.int .u64 t279)) (fun _ hk => hk.2) (.slice Ao81 t280.length co81)) (fun _ hk => ⟨hk.1.1.1, ⟨hk.1.1.2, hk.1.2⟩⟩)⟩
                              have n2_ : Aside0 (Kd.R (Kd.int .u8) 5 ((((w77.setCell ⟨gb285, 0, none⟩ (.int .i64 t277)).setCell ⟨gb285, 1, none⟩ (.int .i64 t278)).setCell ⟨gb285, 2, none⟩ (.int .u64 t279)).setCell ⟨gb285, 3, none⟩ (.slice Ao81 t280.length co81)) w.heap.size (fun k_ => some k_ ≠ (.slice Ao66 t251.length co66 : Value).ownBlock ∧ some k_ ≠ (.slice Ao68 y261.length co68 : Value).ownBlock ∧ some k_ ≠ (.slice Ao81 t280.length co81 : Value).ownBlock) (.slice Ao73 t267.length co73) t267) := ⟨by (with_reducible repeat (first | apply Kd.R_alloc | apply Kd.R_drewN | apply Kd.R_drew)); exact Kd.R_mono (Kd.R_far (p := ⟨gb285, 3, none⟩) (Kd.R_far (p := ⟨gb285, 2, none⟩) (Kd.R_far (p := ⟨gb285, 1, none⟩) (Kd.R_far (p := ⟨gb285, 0, none⟩) (Kd.R_types HO269.out BK285.out (by decide)) (fun _ hk => hk.2) (.int .i64 t277)) (fun _ hk => hk.2) (.int .i64 t278)) (fun _ hk => hk.2) (.int .u64 t279)) (fun _ hk => hk.2) (.slice Ao81 t280.length co81)) (fun _ hk => ⟨hk.1.1.1, ⟨hk.1.1.2, hk.1.2⟩⟩)⟩
                              have n3_ : Aside0 (Kd.R (Kd.int .u8) 5 ((((w77.setCell ⟨gb285, 0, none⟩ (.int .i64 t277)).setCell ⟨gb285, 1, none⟩ (.int .i64 t278)).setCell ⟨gb285, 2, none⟩ (.int .u64 t279)).setCell ⟨gb285, 3, none⟩ (.slice Ao81 t280.length co81)) w.heap.size (fun k_ => some k_ ≠ (.slice Ao66 t251.length co66 : Value).ownBlock ∧ some k_ ≠ (.slice Ao68 y261.length co68 : Value).ownBlock ∧ some k_ ≠ (.slice Ao73 t267.length co73 : Value).ownBlock) (.slice Ao81 t280.length co81) t280) := ⟨by (with_reducible repeat (first | apply Kd.R_alloc | apply Kd.R_drewN | apply Kd.R_drew)); exact Kd.R_mono (Kd.R_far (p := ⟨gb285, 3, none⟩) (Kd.R_far (p := ⟨gb285, 2, none⟩) (Kd.R_far (p := ⟨gb285, 1, none⟩) (Kd.R_far (p := ⟨gb285, 0, none⟩) (Kd.R_types HO282.out BK285.out (by decide)) (fun _ hk => hk.2) (.int .i64 t277)) (fun _ hk => hk.2) (.int .i64 t278)) (fun _ hk => hk.2) (.int .u64 t279)) (fun _ hk => hk.2) (.slice Ao81 t280.length co81)) (fun _ hk => ⟨hk.1.1.1.2, ⟨hk.1.1.2, hk.1.2⟩⟩)⟩
                              have n4_ : Aside0 (((((w77.setCell ⟨gb285, 0, none⟩ (.int .i64 t277)).setCell ⟨gb285, 1, none⟩ (.int .i64 t278)).setCell ⟨gb285, 2, none⟩ (.int .u64 t279)).setCell ⟨gb285, 3, none⟩ (.slice Ao81 t280.length co81)).heap[gb241]? = some (.cells #[.int .i64 a0_0, .int .i64 a0_1, .int .u64 a0_2, .slice A0_3 l0_3.length c0_3] 30 (0, 0))) := ⟨by (with_reducible repeat (first | refine blk_drewN ?_ _ | refine blk_drew ?_ | refine blk_alloc ?_ _)); refine blk_far ?_ NB241_285.out _; (with_reducible repeat (first | refine blk_drewN ?_ _ | refine blk_drew ?_ | refine blk_alloc ?_ _)); refine blk_far ?_ NB241_285.out _; (with_reducible repeat (first | refine blk_drewN ?_ _ | refine blk_drew ?_ | refine blk_alloc ?_ _)); refine blk_far ?_ NB241_285.out _; (with_reducible repeat (first | refine blk_drewN ?_ _ | refine blk_drew ?_ | refine blk_alloc ?_ _)); refine blk_far ?_ NB241_285.out _; (with_reducible repeat (first | refine blk_drewN ?_ _ | refine blk_drew ?_ | refine blk_alloc ?_ _)); exact BK241.out⟩
                              have n5_ : Aside0 (((((w77.setCell ⟨gb285, 0, none⟩ (.int .i64 t277)).setCell ⟨gb285, 1, none⟩ (.int .i64 t278)).setCell ⟨gb285, 2, none⟩ (.int .u64 t279)).setCell ⟨gb285, 3, none⟩ (.slice Ao81 t280.length co81)).heap[gb272]? = some (.cells #[.int .i64 t264, .int .i64 t265, .int .u64 t266, .slice Ao73 t267.length co73] 26 (0, 0))) := ⟨by (with_reducible repeat (first | refine blk_drewN ?_ _ | refine blk_drew ?_ | refine blk_alloc ?_ _)); refine blk_far ?_ NB272_285.out _; (with_reducible repeat (first | refine blk_drewN ?_ _ | refine blk_drew ?_ | refine blk_alloc ?_ _)); refine blk_far ?_ NB272_285.out _; (with_reducible repeat (first | refine blk_drewN ?_ _ | refine blk_drew ?_ | refine blk_alloc ?_ _)); refine blk_far ?_ NB272_285.out _; (with_reducible repeat (first | refine blk_drewN ?_ _ | refine blk_drew ?_ | refine blk_alloc ?_ _)); refine blk_far ?_ NB272_285.out _; (with_reducible repeat (first | refine blk_drewN ?_ _ | refine blk_drew ?_ | refine blk_alloc ?_ _)); exact BK272.out⟩
                              have n6_ : Aside0 (((((w77.setCell ⟨gb285, 0, none⟩ (.int .i64 t277)).setCell ⟨gb285, 1, none⟩ (.int .i64 t278)).setCell ⟨gb285, 2, none⟩ (.int .u64 t279)).setCell ⟨gb285, 3, none⟩ (.slice Ao81 t280.length co81)).heap[gb285]? = some (.cells #[.int .i64 t277, .int .i64 t278, .int .u64 t279, .slice Ao81 t280.length co81] 26 (0, 0))) := ⟨by (with_reducible repeat (first | refine blk_drewN ?_ _ | refine blk_drew ?_ | refine blk_alloc ?_ _)); refine blk_put (cs := #[.int .i64 t277, .int .i64 t278, .int .u64 t279, .slice none 0 0]) ?_ 3 _ rfl; (with_reducible repeat (first | refine blk_drewN ?_ _ | refine blk_drew ?_ | refine blk_alloc ?_ _)); refine blk_put (cs := #[.int .i64 t277, .int .i64 t278, .int .u64 0, .slice none 0 0]) ?_ 2 _ rfl; (with_reducible repeat (first | refine blk_drewN ?_ _ | refine blk_drew ?_ | refine blk_alloc ?_ _)); refine blk_put (cs := #[.int .i64 t277, .int .i64 0, .int .u64 0, .slice none 0 0]) ?_ 1 _ rfl; (with_reducible repeat (first | refine blk_drewN ?_ _ | refine blk_drew ?_ | refine blk_alloc ?_ _)); refine blk_put (cs := #[.int .i64 0, .int .i64 0, .int .u64 0, .slice none 0 0]) ?_ 0 _ rfl; (with_reducible repeat (first | refine blk_drewN ?_ _ | refine blk_drew ?_ | refine blk_alloc ?_ _)); exact BK285.out⟩
                              have n7_ : Aside0 (Below w.heap.size w ((((w77.setCell ⟨gb285, 0, none⟩ (.int .i64 t277)).setCell ⟨gb285, 1, none⟩ (.int .i64 t278)).setCell ⟨gb285, 2, none⟩ (.int .u64 t279)).setCell ⟨gb285, 3, none⟩ (.slice Ao81 t280.length co81))) := ⟨by repeat (first | (with_reducible first | exact HB.out | apply below_alloc | apply pw_below_drewN | apply below_drew1 | refine below_set ?_ GE241.out | refine below_set ?_ GE272.out | refine below_set ?_ GE285.out) | exact HB.out)⟩
                              (try clear HO_7)
                              (try clear HO263)
                              (try clear HO269)
                              (try clear HO282)
                              (try clear BK241)
                              (try clear BK272)
                              (try clear BK285)
                              (try clear HB)
                              generalize ((((w77.setCell ⟨gb285, 0, none⟩ (.int .i64 t277)).setCell ⟨gb285, 1, none⟩ (.int .i64 t278)).setCell ⟨gb285, 2, none⟩ (.int .u64 t279)).setCell ⟨gb285, 3, none⟩ (.slice Ao81 t280.length co81)) = w82 at n0_ n1_ n2_ n3_ n4_ n5_ n6_ n7_ ⊢
                              have HO_7 := n0_
                              have HO263 := n1_
                              have HO269 := n2_
                              have HO282 := n3_
                              have BK241 := n4_
                              have BK272 := n5_
                              have BK285 := n6_
                              have HB := n7_
                              clear n0_ n1_ n2_ n3_ n4_ n5_ n6_ n7_
                              have n0_ := Aside0.mk (Kd.R_drew HO_7.out)
                              have n1_ := Aside0.mk (Kd.R_drew HO263.out)
                              have n2_ := Aside0.mk (Kd.R_drew HO269.out)
                              have n3_ := Aside0.mk (Kd.R_drew HO282.out)
                              have n4_ := Aside0.mk (blk_drew BK241.out)
                              have n5_ := Aside0.mk (blk_drew BK272.out)
                              have n6_ := Aside0.mk (blk_drew BK285.out)
                              have n7_ := Aside0.mk (below_drew1 HB.out)
                              clear HO_7
                              clear HO263
                              clear HO269
                              clear HO282
                              clear BK241
                              clear BK272
                              clear BK285
                              clear HB
                              have HO_7 := n0_
                              have HO263 := n1_
                              have HO269 := n2_
                              have HO282 := n3_
                              have BK241 := n4_
                              have BK272 := n5_
                              have BK285 := n6_
                              have HB := n7_
                              clear n0_ n1_ n2_ n3_ n4_ n5_ n6_ n7_
                              refine start_ (n := 19) (S := fun w' => w'.cell? ⟨gb272, 0, none⟩ = some (.int .i64 t264) ∧ w'.cell? ⟨gb272, 1, none⟩ = some (.int .i64 t265) ∧ w'.cell? ⟨gb272, 2, none⟩ = some (.int .u64 t266) ∧ w'.cell? ⟨gb272, 3, none⟩ = some (.slice Ao73 t267.length co73) ∧ w'.cell? ⟨gb241, 0, none⟩ = some (.int .i64 a0_0) ∧ w'.cell? ⟨gb241, 1, none⟩ = some (.int .i64 a0_1) ∧ w'.cell? ⟨gb241, 2, none⟩ = some (.int .u64 a0_2) ∧ w'.cell? ⟨gb241, 3, none⟩ = some (.slice A0_3 l0_3.length c0_3)) (ds := []) #[false, false, false, false, false, false, false, false, false, false, false, false, false, false, false, false, false, false, false] (by kernel_rfl) rfl rfl ⟨(blk_cell BK272.out 0).trans rfl, (blk_cell BK272.out 1).trans rfl, (blk_cell BK272.out 2).trans rfl, (blk_cell BK272.out 3).trans rfl, (blk_cell BK241.out 0).trans rfl, (blk_cell BK241.out 1).trans rfl, (blk_cell BK241.out 2).trans rfl, (blk_cell BK241.out 3).trans rfl⟩ (fun hHeld => ?_); refine with_tabW courierlaw02_WireBack.tab8 courierlaw02_WireBack.bits8 (fun HT_ HW_ => ?_)
                              generalize w82.drew = w83 at HO_7 HO263 HO269 HO282 BK241 BK272 BK285 HB hHeld ⊢
                              refine take_ (i := 0) (N := some 58) (v := ?_) (a' := ?_) #[true, false, false, false, false, false, false, false, false, false, false, false, false, false, false, false, false, false, false] rfl rfl (take_ofW HT_.out HW_.out (by kernel_rfl)) (fun _ _ _ h => h) (Or.inl ⟨by rfl, ?_⟩) hHeld ?_ ?_
                              rotate_left
                              · rintro w' ⟨s0, s1, s2, s3, s4, s5, s6, s7⟩
                                go_simp
                                with_reducible rfl
                              rotate_left
                              · simp only [Act.put, List.setIfInBounds_toArray, List.set_cons_zero, List.set_cons_succ, i64_w, i32_w]
                                rfl
                              refine take_ (i := 2) (N := some 60) (v := ?_) (a' := ?_) #[true, false, true, false, false, false, false, false, false, false, false, false, false, false, false, false, false, false, false] rfl rfl (take_ofW HT_.out HW_.out (by kernel_rfl)) (fun _ _ _ h => h) (Or.inl ⟨by rfl, ?_⟩) hHeld ?_ ?_
                              rotate_left
                              · rintro w' ⟨s0, s1, s2, s3, s4, s5, s6, s7⟩
                                go_simp
                                with_reducible rfl
                              rotate_left
                              · simp only [Act.put, List.setIfInBounds_toArray, List.set_cons_zero, List.set_cons_succ, i64_w, i32_w]
                                rfl
                              refine one_ (i := 1) (N := some 59) #[true, true, true, false, false, false, false, false, false, false, false, false, false, false, false, false, false, false, false] rfl rfl (one_of HT_.out (by kernel_rfl)) (by decide) (fun K hK => ?_)
                              refine goes_ Try.func11 (by kernel_rfl) rfl #[.agg #[.int .i64 t264, .int .i64 t265, .int .u64 t266, .slice Ao73 t267.length co73]] (by rfl) rfl rfl (by (try simp only [List.map_toArray, List.map_cons, List.map_nil]); first | done | rfl | (simp only [List.length_drop, List.length_take]; rfl)) ?_
                              with_reducible refine (courierlaw02_ours.calls t264 t265 t266 (fun k_ => some k_ = (.slice Ao73 t267.length co73 : Value).ownBlock) _ _ t267 t286 t287 t288 t289 _ ?side1 A34.out).mono ?_
                              (case side1 => exact Kd.R_V (Kd.R_tight rfl (Kd.R_types (Kd.R_types (Kd.R_types (HO269.out) BK241.out (by decide)) BK272.out (by decide)) BK285.out (by decide))))
                              rintro e w84 ⟨v290, rfl, ho0, hb⟩
                              (try (have nt_ := Aside0.mk (Kd.C_below HR0_3.out hb); clear HR0_3; have HR0_3 := nt_; clear nt_))
                              refine ⟨_, rfl, ?_⟩
                              have n0_ := Aside0.mk (Kd.R_below (by (with_reducible repeat (first | apply Kd.R_alloc | apply Kd.R_drewN | apply Kd.R_drew)); exact HO_7.out) hb)
                              have n1_ := Aside0.mk (Kd.R_below (by (with_reducible repeat (first | apply Kd.R_alloc | apply Kd.R_drewN | apply Kd.R_drew)); exact HO263.out) hb)
                              have n2_ := Aside0.mk (Kd.R_below (by (with_reducible repeat (first | apply Kd.R_alloc | apply Kd.R_drewN | apply Kd.R_drew)); exact HO269.out) hb)
                              have n3_ := Aside0.mk (Kd.R_below (by (with_reducible repeat (first | apply Kd.R_alloc | apply Kd.R_drewN | apply Kd.R_drew)); exact HO282.out) hb)
                              have n4_ := Aside0.mk (Kd.V_lower (Kd.V_mono (ok' := fun k_ => some k_ ≠ (.slice Ao66 t251.length co66 : Value).ownBlock ∧ some k_ ≠ (.slice Ao68 y261.length co68 : Value).ownBlock ∧ some k_ ≠ (.slice Ao81 t280.length co81 : Value).ownBlock ∧ k_ ≠ gb241 ∧ k_ ≠ gb272 ∧ k_ ≠ gb285) ho0 (fun k_ hk_ => ⟨Or.elim hk_ (fun hs_ => ((Kd.R_types (Kd.R_types (Kd.R_types (HO269.out) BK241.out (by decide)) BK272.out (by decide)) BK285.out (by decide)).1 k_ hs_.symm).1.1.1.1) (fun hn_ => (Kd.fresh' (Kd.R_lt (by (with_reducible repeat (first | apply Kd.R_alloc | apply Kd.R_drewN | apply Kd.R_drew)); exact HO_7.out)) k_ hn_)), Or.elim hk_ (fun hs_ => ((Kd.R_types (Kd.R_types (Kd.R_types (HO269.out) BK241.out (by decide)) BK272.out (by decide)) BK285.out (by decide)).1 k_ hs_.symm).1.1.1.2.1) (fun hn_ => (Kd.fresh' (Kd.R_lt (by (with_reducible repeat (first | apply Kd.R_alloc | apply Kd.R_drewN | apply Kd.R_drew)); exact HO263.out)) k_ hn_)), Or.elim hk_ (fun hs_ => ((Kd.R_types (Kd.R_types (Kd.R_types (HO269.out) BK241.out (by decide)) BK272.out (by decide)) BK285.out (by decide)).1 k_ hs_.symm).1.1.1.2.2) (fun hn_ => (Kd.fresh' (Kd.R_lt (by (with_reducible repeat (first | apply Kd.R_alloc | apply Kd.R_drewN | apply Kd.R_drew)); exact HO282.out)) k_ hn_)), Or.elim hk_ (fun hs_ => ((Kd.R_types (Kd.R_types (Kd.R_types (HO269.out) BK241.out (by decide)) BK272.out (by decide)) BK285.out (by decide)).1 k_ hs_.symm).1.1.2) (fun hn_ => (Kd.freshB (g := gb241) (o := .cells #[.int .i64 a0_0, .int .i64 a0_1, .int .u64 a0_2, .slice A0_3 l0_3.length c0_3] 30 (0, 0)) (by (with_reducible repeat (first | refine blk_drewN ?_ _ | refine blk_drew ?_ | refine blk_alloc ?_ _)); exact BK241.out) k_ hn_)), Or.elim hk_ (fun hs_ => ((Kd.R_types (Kd.R_types (Kd.R_types (HO269.out) BK241.out (by decide)) BK272.out (by decide)) BK285.out (by decide)).1 k_ hs_.symm).1.2) (fun hn_ => (Kd.freshB (g := gb272) (o := .cells #[.int .i64 t264, .int .i64 t265, .int .u64 t266, .slice Ao73 t267.length co73] 26 (0, 0)) (by (with_reducible repeat (first | refine blk_drewN ?_ _ | refine blk_drew ?_ | refine blk_alloc ?_ _)); exact BK272.out) k_ hn_)), Or.elim hk_ (fun hs_ => ((Kd.R_types (Kd.R_types (Kd.R_types (HO269.out) BK241.out (by decide)) BK272.out (by decide)) BK285.out (by decide)).1 k_ hs_.symm).2) (fun hn_ => (Kd.freshB (g := gb285) (o := .cells #[.int .i64 t277, .int .i64 t278, .int .u64 t279, .slice Ao81 t280.length co81] 26 (0, 0)) (by (with_reducible repeat (first | refine blk_drewN ?_ _ | refine blk_drew ?_ | refine blk_alloc ?_ _)); exact BK285.out) k_ hn_))⟩)) (below_size (by repeat (first | (with_reducible first | exact HB.out | apply below_alloc | apply pw_below_drewN | apply below_drew1 | refine below_set ?_ GE241.out | refine below_set ?_ GE272.out | refine below_set ?_ GE285.out) | exact HB.out))))
                              have n5_ := Aside0.mk (blk_below (g := gb241) (o := .cells #[.int .i64 a0_0, .int .i64 a0_1, .int .u64 a0_2, .slice A0_3 l0_3.length c0_3] 30 (0, 0)) (by (with_reducible repeat (first | refine blk_drewN ?_ _ | refine blk_drew ?_ | refine blk_alloc ?_ _)); exact BK241.out) hb)
                              have n6_ := Aside0.mk (blk_below (g := gb272) (o := .cells #[.int .i64 t264, .int .i64 t265, .int .u64 t266, .slice Ao73 t267.length co73] 26 (0, 0)) (by (with_reducible repeat (first | refine blk_drewN ?_ _ | refine blk_drew ?_ | refine blk_alloc ?_ _)); exact BK272.out) hb)
                              have n7_ := Aside0.mk (blk_below (g := gb285) (o := .cells #[.int .i64 t277, .int .i64 t278, .int .u64 t279, .slice Ao81 t280.length co81] 26 (0, 0)) (by (with_reducible repeat (first | refine blk_drewN ?_ _ | refine blk_drew ?_ | refine blk_alloc ?_ _)); exact BK285.out) hb)
                              have n8_ := Aside0.mk (below_step (by repeat (first | (with_reducible first | exact HB.out | apply below_alloc | apply pw_below_drewN | apply below_drew1 | refine below_set ?_ GE241.out | refine below_set ?_ GE272.out | refine below_set ?_ GE285.out) | exact HB.out)) hb)
                              clear HO_7
                              clear HO263
                              clear HO269
                              clear HO282
                              clear BK241
                              clear BK272
                              clear BK285
                              clear HB
                              have HO_7 := n0_
                              have HO263 := n1_
                              have HO269 := n2_
                              have HO282 := n3_
                              have HO291 := n4_
                              have BK241 := n5_
                              have BK272 := n6_
                              have BK285 := n7_
                              have HB := n8_
                              clear n0_ n1_ n2_ n3_ n4_ n5_ n6_ n7_ n8_
                              (try clear hb)
                              (try clear hb2)
                              (try clear hk)
                              (try clear hi)
                              (try clear ho0)
                              obtain ⟨Ao85, co85, eo85⟩ := Kd.V_slice HO291.out
                              (first | subst eo85 | (injection eo85 with f1_ f2_ f3_; have f4_ := f1_.symm; have f5_ := f3_.symm; clear f1_ f2_ f3_; subst f4_; subst f5_))
                              refine hK.out _ _ ⟨(blk_cell BK272.out 0).trans rfl, (blk_cell BK272.out 1).trans rfl, (blk_cell BK272.out 2).trans rfl, (blk_cell BK272.out 3).trans rfl, (blk_cell BK241.out 0).trans rfl, (blk_cell BK241.out 1).trans rfl, (blk_cell BK241.out 2).trans rfl, (blk_cell BK241.out 3).trans rfl⟩ (fun hHeld => ?_)
                              clear hK K
                              refine norm_ (a' := ?_) ?_ ?_
                              rotate_left
                              · show Act.put _ (some 59) _ = _
                                simp only [Act.put, List.setIfInBounds_toArray, List.set_cons_zero, List.set_cons_succ, i64_w, i32_w]
                                rfl
                              refine one_ (i := 3) (N := some 61) #[true, true, true, true, false, false, false, false, false, false, false, false, false, false, false, false, false, false, false] rfl rfl (one_of HT_.out (by kernel_rfl)) (by decide) (fun K hK => ?_)
                              refine goes_ Try.func10 (by kernel_rfl) rfl #[.agg #[.int .i64 t286, .int .i64 t287, .int .u64 t288, .slice Ao85 t289.length co85], .agg #[.int .i64 a0_0, .int .i64 a0_1, .int .u64 a0_2, .slice A0_3 l0_3.length c0_3]] (by rfl) rfl rfl (by (try simp only [List.map_toArray, List.map_cons, List.map_nil]); first | done | rfl | (simp only [List.length_drop, List.length_take]; rfl)) ?_
                              with_reducible refine (courierref01_Same.calls t286 t287 t288 _ _ t289 a0_0 a0_1 a0_2 _ _ l0_3 true _ ?side1 ?side2 ?side3 ?side4 A35.out).mono ?_
                              (case side1 => repeat (first | exact (Kd.V_reads' HO291.out).2.2 | (with_reducible refine Kd.C_alloc ?_ _) | (with_reducible refine Kd.C_drewN ?_ _) | (with_reducible refine Kd.C_drew ?_)))
                              (case side2 => exact (Kd.V_reads' HO291.out).2.1)
                              (case side3 => repeat (first | exact (Kd.C_below HR0_3.out HB.out) | (with_reducible refine Kd.C_alloc ?_ _) | (with_reducible refine Kd.C_drewN ?_ _) | (with_reducible refine Kd.C_drew ?_)))
                              (case side4 => exact HC0_3.out)
                              rintro e w86 ⟨rfl, hb⟩
                              (try (have nt_ := Aside0.mk (Kd.C_below HR0_3.out hb); clear HR0_3; have HR0_3 := nt_; clear nt_))
                              refine ⟨_, rfl, ?_⟩
                              have n0_ := Aside0.mk (Kd.R_below (by (with_reducible repeat (first | apply Kd.R_alloc | apply Kd.R_drewN | apply Kd.R_drew)); exact HO_7.out) hb)
                              have n1_ := Aside0.mk (Kd.R_below (by (with_reducible repeat (first | apply Kd.R_alloc | apply Kd.R_drewN | apply Kd.R_drew)); exact HO263.out) hb)
                              have n2_ := Aside0.mk (Kd.R_below (by (with_reducible repeat (first | apply Kd.R_alloc | apply Kd.R_drewN | apply Kd.R_drew)); exact HO269.out) hb)
                              have n3_ := Aside0.mk (Kd.R_below (by (with_reducible repeat (first | apply Kd.R_alloc | apply Kd.R_drewN | apply Kd.R_drew)); exact HO282.out) hb)
                              have n4_ := Aside0.mk (Kd.V_below (by (with_reducible repeat (first | apply Kd.V_alloc | apply Kd.V_drewN | apply Kd.V_drew)); exact HO291.out) hb)
                              have n5_ := Aside0.mk (blk_below (g := gb241) (o := .cells #[.int .i64 a0_0, .int .i64 a0_1, .int .u64 a0_2, .slice A0_3 l0_3.length c0_3] 30 (0, 0)) (by (with_reducible repeat (first | refine blk_drewN ?_ _ | refine blk_drew ?_ | refine blk_alloc ?_ _)); exact BK241.out) hb)
                              have n6_ := Aside0.mk (blk_below (g := gb272) (o := .cells #[.int .i64 t264, .int .i64 t265, .int .u64 t266, .slice Ao73 t267.length co73] 26 (0, 0)) (by (with_reducible repeat (first | refine blk_drewN ?_ _ | refine blk_drew ?_ | refine blk_alloc ?_ _)); exact BK272.out) hb)
                              have n7_ := Aside0.mk (blk_below (g := gb285) (o := .cells #[.int .i64 t277, .int .i64 t278, .int .u64 t279, .slice Ao81 t280.length co81] 26 (0, 0)) (by (with_reducible repeat (first | refine blk_drewN ?_ _ | refine blk_drew ?_ | refine blk_alloc ?_ _)); exact BK285.out) hb)
                              have n8_ := Aside0.mk (below_step (by repeat (first | (with_reducible first | exact HB.out | apply below_alloc | apply pw_below_drewN | apply below_drew1 | refine below_set ?_ GE241.out | refine below_set ?_ GE272.out | refine below_set ?_ GE285.out) | exact HB.out)) hb)
                              clear HO_7
                              clear HO263
                              clear HO269
                              clear HO282
                              clear HO291
                              clear BK241
                              clear BK272
                              clear BK285
                              clear HB
                              have HO_7 := n0_
                              have HO263 := n1_
                              have HO269 := n2_
                              have HO282 := n3_
                              have HO291 := n4_
                              have BK241 := n5_
                              have BK272 := n6_
                              have BK285 := n7_
                              have HB := n8_
                              clear n0_ n1_ n2_ n3_ n4_ n5_ n6_ n7_ n8_
                              (try clear hb)
                              (try clear hb2)
                              (try clear hk)
                              (try clear hi)
                              refine hK.out _ _ ⟨(blk_cell BK272.out 0).trans rfl, (blk_cell BK272.out 1).trans rfl, (blk_cell BK272.out 2).trans rfl, (blk_cell BK272.out 3).trans rfl, (blk_cell BK241.out 0).trans rfl, (blk_cell BK241.out 1).trans rfl, (blk_cell BK241.out 2).trans rfl, (blk_cell BK241.out 3).trans rfl⟩ (fun hHeld => ?_)
                              clear hK K
                              refine norm_ (a' := ?_) ?_ ?_
                              rotate_left
                              · show Act.put _ (some 61) _ = _
                                simp only [Act.put, List.setIfInBounds_toArray, List.set_cons_zero, List.set_cons_succ, i64_w, i32_w]
                                rfl
                              refine pure_ (i := 4) (N := some 62) (v := ?_) (a' := ?_) #[true, true, true, true, true, false, false, false, false, false, false, false, false, false, false, false, false, false, false] rfl rfl (any_of HT_.out (by kernel_rfl)) (fun _ _ _ h => h) (Or.inl ⟨by rfl, ?_⟩) ?_ ?_
                              rotate_left
                              · intro w'
                                go_simp
                                with_reducible rfl
                              rotate_left
                              · simp only [Act.put, List.setIfInBounds_toArray, List.set_cons_zero, List.set_cons_succ, i64_w, i32_w]
                                rfl
                              refine pure_ (i := 5) (N := some 63) (v := ?_) (a' := ?_) #[true, true, true, true, true, true, false, false, false, false, false, false, false, false, false, false, false, false, false] rfl rfl (any_of HT_.out (by kernel_rfl)) (fun _ _ _ h => h) (Or.inl ⟨by rfl, ?_⟩) ?_ ?_
                              rotate_left
                              · intro w'
                                go_simp
                                with_reducible rfl
                              rotate_left
                              · simp only [Act.put, List.setIfInBounds_toArray, List.set_cons_zero, List.set_cons_succ, i64_w, i32_w]
                                rfl
                              refine pure_ (i := 6) (N := some 64) (v := ?_) (a' := ?_) #[true, true, true, true, true, true, true, false, false, false, false, false, false, false, false, false, false, false, false] rfl rfl (any_of HT_.out (by kernel_rfl)) (fun _ _ _ h => h) (Or.inl ⟨by rfl, ?_⟩) ?_ ?_
                              rotate_left
                              · intro w'
                                go_simp
                                with_reducible rfl
                              rotate_left
                              · simp only [Act.put, List.setIfInBounds_toArray, List.set_cons_zero, List.set_cons_succ, i64_w, i32_w]
                                rfl
                              refine pure_ (i := 7) (N := some 65) (v := ?_) (a' := ?_) #[true, true, true, true, true, true, true, true, false, false, false, false, false, false, false, false, false, false, false] rfl rfl (any_of HT_.out (by kernel_rfl)) (fun _ _ _ h => h) (Or.inl ⟨by rfl, ?_⟩) ?_ ?_
                              rotate_left
                              · intro w'
                                go_simp
                                with_reducible rfl
                              rotate_left
                              · simp only [Act.put, List.setIfInBounds_toArray, List.set_cons_zero, List.set_cons_succ, i64_w, i32_w]
                                rfl
                              refine pure_ (i := 8) (N := some 66) (v := ?_) (a' := ?_) #[true, true, true, true, true, true, true, true, true, false, false, false, false, false, false, false, false, false, false] rfl rfl (any_of HT_.out (by kernel_rfl)) (fun _ _ _ h => h) (Or.inl ⟨by rfl, ?_⟩) ?_ ?_
                              rotate_left
                              · intro w'
                                go_simp
                                with_reducible rfl
                              rotate_left
                              · simp only [Act.put, List.setIfInBounds_toArray, List.set_cons_zero, List.set_cons_succ, i64_w, i32_w]
                                rfl
                              refine pure_ (i := 9) (N := some 67) (v := ?_) (a' := ?_) #[true, true, true, true, true, true, true, true, true, true, false, false, false, false, false, false, false, false, false] rfl rfl (any_of HT_.out (by kernel_rfl)) (fun _ _ _ h => h) (Or.inl ⟨by rfl, ?_⟩) ?_ ?_
                              rotate_left
                              · intro w'
                                go_simp
                                with_reducible rfl
                              rotate_left
                              · simp only [Act.put, List.setIfInBounds_toArray, List.set_cons_zero, List.set_cons_succ, i64_w, i32_w]
                                rfl
                              refine pure_ (i := 10) (N := some 68) (v := ?_) (a' := ?_) #[true, true, true, true, true, true, true, true, true, true, true, false, false, false, false, false, false, false, false] rfl rfl (any_of HT_.out (by kernel_rfl)) (fun _ _ _ h => h) (Or.inl ⟨by rfl, ?_⟩) ?_ ?_
                              rotate_left
                              · intro w'
                                go_simp
                                with_reducible rfl
                              rotate_left
                              · simp only [Act.put, List.setIfInBounds_toArray, List.set_cons_zero, List.set_cons_succ, i64_w, i32_w]
                                rfl
                              refine pure_ (i := 11) (N := some 69) (v := ?_) (a' := ?_) #[true, true, true, true, true, true, true, true, true, true, true, true, false, false, false, false, false, false, false] rfl rfl (any_of HT_.out (by kernel_rfl)) (fun _ _ _ h => h) (Or.inl ⟨by rfl, ?_⟩) ?_ ?_
                              rotate_left
                              · intro w'
                                go_simp
                                with_reducible rfl
                              rotate_left
                              · simp only [Act.put, List.setIfInBounds_toArray, List.set_cons_zero, List.set_cons_succ, i64_w, i32_w]
                                rfl
                              refine pure_ (i := 12) (N := some 70) (v := ?_) (a' := ?_) #[true, true, true, true, true, true, true, true, true, true, true, true, true, false, false, false, false, false, false] rfl rfl (any_of HT_.out (by kernel_rfl)) (fun _ _ _ h => h) (Or.inl ⟨by rfl, ?_⟩) ?_ ?_
                              rotate_left
                              · intro w'
                                go_simp
                                with_reducible rfl
                              rotate_left
                              · simp only [Act.put, List.setIfInBounds_toArray, List.set_cons_zero, List.set_cons_succ, i64_w, i32_w]
                                rfl
                              refine pure_ (i := 13) (N := some 71) (v := ?_) (a' := ?_) #[true, true, true, true, true, true, true, true, true, true, true, true, true, true, false, false, false, false, false] rfl rfl (any_of HT_.out (by kernel_rfl)) (fun _ _ _ h => h) (Or.inl ⟨by rfl, ?_⟩) ?_ ?_
                              rotate_left
                              · intro w'
                                go_simp
                                with_reducible rfl
                              rotate_left
                              · simp only [Act.put, List.setIfInBounds_toArray, List.set_cons_zero, List.set_cons_succ, i64_w, i32_w]
                                rfl
                              refine pure_ (i := 14) (N := some 72) (v := ?_) (a' := ?_) #[true, true, true, true, true, true, true, true, true, true, true, true, true, true, true, false, false, false, false] rfl rfl (any_of HT_.out (by kernel_rfl)) (fun _ _ _ h => h) (Or.inl ⟨by rfl, ?_⟩) ?_ ?_
                              rotate_left
                              · intro w'
                                go_simp
                                with_reducible rfl
                              rotate_left
                              · simp only [Act.put, List.setIfInBounds_toArray, List.set_cons_zero, List.set_cons_succ, i64_w, i32_w]
                                rfl
                              refine pure_ (i := 15) (N := some 73) (v := undef) (a' := ?_) #[true, true, true, true, true, true, true, true, true, true, true, true, true, true, true, true, false, false, false] rfl rfl (any_of HT_.out (by kernel_rfl)) (fun _ _ _ h => h) (Or.inr ⟨by rfl, rfl⟩) ?_ ?_
                              rotate_left
                              · simp only [Act.put, List.setIfInBounds_toArray, List.set_cons_zero, List.set_cons_succ, i64_w, i32_w]
                                rfl
                              refine pure_ (i := 16) (N := some 74) (v := undef) (a' := ?_) #[true, true, true, true, true, true, true, true, true, true, true, true, true, true, true, true, true, false, false] rfl rfl (any_of HT_.out (by kernel_rfl)) (fun _ _ _ h => h) (Or.inr ⟨by rfl, rfl⟩) ?_ ?_
                              rotate_left
                              · simp only [Act.put, List.setIfInBounds_toArray, List.set_cons_zero, List.set_cons_succ, i64_w, i32_w]
                                rfl
                              refine pure_ (i := 17) (N := some 75) (v := ?_) (a' := ?_) #[true, true, true, true, true, true, true, true, true, true, true, true, true, true, true, true, true, true, false] rfl rfl (any_of HT_.out (by kernel_rfl)) (fun _ _ _ h => h) (Or.inl ⟨by rfl, ?_⟩) ?_ ?_
                              rotate_left
                              · intro w'
                                go_simp
                                with_reducible rfl
                              rotate_left
                              · simp only [Act.put, List.setIfInBounds_toArray, List.set_cons_zero, List.set_cons_succ, i64_w, i32_w]
                                rfl
                              refine pure_ (i := 18) (N := some 6) (v := ?_) (a' := ?_) #[true, true, true, true, true, true, true, true, true, true, true, true, true, true, true, true, true, true, true] rfl rfl (any_of HT_.out (by kernel_rfl)) (fun _ _ _ h => h) (Or.inl ⟨by rfl, ?_⟩) ?_ ?_
                              rotate_left
                              · intro w'
                                go_simp
                                with_reducible rfl
                              rotate_left
                              · simp only [Act.put, List.setIfInBounds_toArray, List.set_cons_zero, List.set_cons_succ, i64_w, i32_w]
                                rfl
                              refine done_ (done_of HT_.out (by kernel_rfl)) ?_
                              try go_wp2
                              go_ret
                              exact ⟨by first | rfl | (simp [errW_none, errW_some] <;> rfl) | (simp only [← hji30]; first | rfl | (simp [errW_none, errW_some] <;> rfl)) | (simp [*, errW_none, errW_some] <;> rfl), by repeat (first | (with_reducible first | exact HB.out | apply below_alloc | apply pw_below_drewN | apply below_drew1 | refine below_set ?_ GE241.out | refine below_set ?_ GE272.out | refine below_set ?_ GE285.out) | exact HB.out)⟩
                          · rw [if_neg c37] at H
                            have c37b0 : (t270 == (t251.length : Int)) = false := beq_eq_false_iff_ne.mpr c37
                            have c37b1 : (t270 != (t251.length : Int)) = true := bne_iff_ne.mpr c37
                            obtain rfl := Option.some.inj H
                            try go_wp2_with (first | ((with_reducible refine gate_dst (N := 37) rfl ?_); (try (refine gate_guard (by rfl) ?_; dsimp only)); refine Kd.R_lit (Kd.int .u8) _ 5 ?hg (N := 37) ?hd (xs := ([] : List Int)) (inner := []) (ok := fun _ => True) (okp := fun _ => True) ?hr ?hp (fun _ hk => hk) trivial (Below.refl _ _) (Nat.le_refl _) (by simp) ?_; (case hd => rfl); (case hg => rfl); (case hr => first | (go_simp; done) | (go_simp; rfl)); (case hp => exact (Reps.none _ _)); intro v256 w87 ho88 hb hg_ hnew_; clear hg_ hnew_; (first | rw [← Ny255.out] at ho88 | (simp only [Int.reduceToNat] at ho88; rw [← Ny255.out] at ho88)); have n0_ := Aside0.mk (Kd.R_elder' (by (with_reducible repeat (first | apply Kd.R_alloc | apply Kd.R_drewN | apply Kd.R_drew)); exact HO_7.out) (Kd.R_base ho88) hb); have n1_ := Aside0.mk (Kd.R_lower (Kd.R_new' ho88 (Kd.R_lt (by (with_reducible repeat (first | apply Kd.R_alloc | apply Kd.R_drewN | apply Kd.R_drew)); exact HO_7.out))) (below_size (by repeat (first | (with_reducible first | exact HB.out | apply below_alloc | apply pw_below_drewN | apply below_drew1 | refine below_set ?_ GE241.out) | exact HB.out)))); have n2_ := Aside0.mk (blk_below (g := gb241) (o := .cells #[.int .i64 a0_0, .int .i64 a0_1, .int .u64 a0_2, .slice A0_3 l0_3.length c0_3] 30 (0, 0)) (by (with_reducible repeat (first | refine blk_drewN ?_ _ | refine blk_drew ?_ | refine blk_alloc ?_ _)); exact BK241.out) hb); have n3_ := Aside0.mk (below_step (by repeat (first | (with_reducible first | exact HB.out | apply below_alloc | apply pw_below_drewN | apply below_drew1 | refine below_set ?_ GE241.out) | exact HB.out)) hb); clear HO_7; clear BK241; clear HB; have HO_7 := n0_; have HO257 := n1_; have BK241 := n2_; have HB := n3_; clear n0_ n1_ n2_ n3_; clear hb ho88; obtain ⟨Ao90, co90, eo90⟩ := Kd.R_slice HO_7.out; subst eo90) | ((with_reducible refine gate_builtin (b := .append) (xs := #[.tmp 37, .tmp 38]) rfl ?_); (try (refine gate_guard (by rfl) ?_; dsimp only)); at_builtin; refine Kd.R_append_rows (Kd.int .u8) (w0 := w) w.heap.size rfl (.tmp 37) (.tmp 38) 22 5 (.int .u8 0) 1 rfl Try.underlying22 info5 rfl (by decide) (by omega) v256 y255 t251 _ _ _ (fun k_ => some k_ ≠ (.slice Ao90 t251.length co90 : Value).ownBlock) (fun _ => False) rfl rfl ?aO ?aR (fun _ _ h => h) (fun _ h => h.elim) ?aF ?aB ?aS ?aL ?_; (case aR => repeat (first | exact (Kd.R_reads' HO_7.out).2.2 | (with_reducible refine Kd.C_alloc ?_ _) | (with_reducible refine Kd.C_drewN ?_ _) | (with_reducible refine Kd.C_drew ?_))); (case aB => exact (by repeat (first | (with_reducible first | exact HB.out | apply below_alloc | apply pw_below_drewN | apply below_drew1 | refine below_set ?_ GE241.out) | exact HB.out))); (case aF => exact (fun k_ hk => Kd.fresh' (Kd.R_lt (by (with_reducible repeat (first | apply Kd.R_alloc | apply Kd.R_drewN | apply Kd.R_drew)); exact HO_7.out)) k_ hk)); (case aO => exact (by (with_reducible repeat (first | apply Kd.R_alloc | apply Kd.R_drewN | apply Kd.R_drew)); exact Kd.R_mono HO257.out (fun _ hk => hk.2))); (case aS => exact (below_size (by repeat (first | (with_reducible first | exact HB.out | apply below_alloc | apply pw_below_drewN | apply below_drew1 | refine below_set ?_ GE241.out) | exact HB.out)))); (case aL => have := LMc26.out; omega); intro v259 w89 ho hb hg hat; rw [← Ny258.out] at ho; have n0_ := Aside0.mk (Kd.R_after (ok := (fun _ => True)) (by (with_reducible repeat (first | apply Kd.R_alloc | apply Kd.R_drewN | apply Kd.R_drew)); exact HO_7.out) hg hat); have n1_ := Aside0.mk (blk_grown (g := gb241) (o := .cells #[.int .i64 a0_0, .int .i64 a0_1, .int .u64 a0_2, .slice A0_3 l0_3.length c0_3] 30 (0, 0)) (by (with_reducible repeat (first | refine blk_drewN ?_ _ | refine blk_drew ?_ | refine blk_alloc ?_ _)); exact BK241.out) hg (Kd.R_ne HO257.out BK241.out (by decide))); have n2_ := Aside0.mk (hb); have n3_ := Aside0.mk (ho); clear HO_7; clear BK241; clear HB; clear HO257; have HO_7 := n0_; have BK241 := n1_; have HB := n2_; have HO260 := n3_; clear n0_ n1_ n2_ n3_; clear ho hb hg hat) | ((with_reducible refine gate_builtin (b := .append) (xs := #[.tmp 39, .tmp 40]) rfl ?_); (try (refine gate_guard (by rfl) ?_; dsimp only)); at_builtin; refine Kd.R_append_rows (Kd.int .u8) (w0 := w) w.heap.size rfl (.tmp 39) (.tmp 40) 22 5 (.int .u8 0) 1 rfl Try.underlying22 info5 rfl (by decide) (by omega) v259 y258 l1 _ _ _ (fun k_ => some k_ ≠ (.slice Ao90 t251.length co90 : Value).ownBlock) (fun _ => False) rfl rfl ?aO ?aR (fun _ _ h => h) (fun _ h => h.elim) ?aF ?aB ?aS ?aL ?_; (case aR => repeat (first | exact (Kd.C_below HR1.out HB.out) | (with_reducible refine Kd.C_alloc ?_ _) | (with_reducible refine Kd.C_drewN ?_ _) | (with_reducible refine Kd.C_drew ?_))); (case aB => exact (by repeat (first | (with_reducible first | exact HB.out | apply below_alloc | apply pw_below_drewN | apply below_drew1 | refine below_set ?_ GE241.out) | exact HB.out))); (case aF => exact (fun k_ hk => Kd.fresh' (Kd.R_lt (by (with_reducible repeat (first | apply Kd.R_alloc | apply Kd.R_drewN | apply Kd.R_drew)); exact HO_7.out)) k_ hk)); (case aO => exact (by (with_reducible repeat (first | apply Kd.R_alloc | apply Kd.R_drewN | apply Kd.R_drew)); exact HO260.out)); (case aS => exact (below_size (by repeat (first | (with_reducible first | exact HB.out | apply below_alloc | apply pw_below_drewN | apply below_drew1 | refine below_set ?_ GE241.out) | exact HB.out)))); (case aL => have := LMc27.out; omega); intro v262 w91 ho hb hg hat; rw [← Ny261.out] at ho; have n0_ := Aside0.mk (Kd.R_after (ok := (fun _ => True)) (by (with_reducible repeat (first | apply Kd.R_alloc | apply Kd.R_drewN | apply Kd.R_drew)); exact HO_7.out) hg hat); have n1_ := Aside0.mk (blk_grown (g := gb241) (o := .cells #[.int .i64 a0_0, .int .i64 a0_1, .int .u64 a0_2, .slice A0_3 l0_3.length c0_3] 30 (0, 0)) (by (with_reducible repeat (first | refine blk_drewN ?_ _ | refine blk_drew ?_ | refine blk_alloc ?_ _)); exact BK241.out) hg (Kd.R_ne HO260.out BK241.out (by decide))); have n2_ := Aside0.mk (hb); have n3_ := Aside0.mk (ho); clear HO_7; clear BK241; clear HB; clear HO260; have HO_7 := n0_; have BK241 := n1_; have HB := n2_; have HO263 := n3_; clear n0_ n1_ n2_ n3_; clear ho hb hg hat; obtain ⟨Ao92, co92, eo92⟩ := Kd.R_slice HO263.out; subst eo92) | ((with_reducible refine gate_callee (f := 8) rfl ?_); refine goesL_ (some 42) rfl rfl Try.func8 (by kernel_rfl) rfl #[.slice Ao92 y261.length co92] rfl (by (try simp only [List.map_toArray, List.map_cons, List.map_nil]); first | done | rfl | (simp only [List.length_drop, List.length_take]; rfl)) ?_; (with_reducible refine (wire_Take.calls kj17 _ _ y261 t264 t265 t266 t267 t270 t271 _ ?side1 ?side2 A28.out).mono ?_); (case side1 => repeat (first | exact (Kd.R_reads' HO263.out).2.2 | (with_reducible refine Kd.C_alloc ?_ _) | (with_reducible refine Kd.C_drewN ?_ _) | (with_reducible refine Kd.C_drew ?_))); (case side2 => exact (Kd.R_reads' HO263.out).2.1); rintro e w93 ⟨v268, rfl, ho0, hb⟩; refine ⟨_, rfl, ?_⟩; have n0_ := Aside0.mk (Kd.R_elder' (by (with_reducible repeat (first | apply Kd.R_alloc | apply Kd.R_drewN | apply Kd.R_drew)); exact HO_7.out) (Kd.R_base ho0) hb); have n1_ := Aside0.mk (Kd.R_elder' (by (with_reducible repeat (first | apply Kd.R_alloc | apply Kd.R_drewN | apply Kd.R_drew)); exact HO263.out) (Kd.R_base ho0) hb); have n2_ := Aside0.mk (Kd.R_lower (Kd.R_new' (Kd.R_new' ho0 (Kd.R_lt (by (with_reducible repeat (first | apply Kd.R_alloc | apply Kd.R_drewN | apply Kd.R_drew)); exact HO_7.out))) (Kd.R_lt (by (with_reducible repeat (first | apply Kd.R_alloc | apply Kd.R_drewN | apply Kd.R_drew)); exact HO263.out))) (below_size (by repeat (first | (with_reducible first | exact HB.out | apply below_alloc | apply pw_below_drewN | apply below_drew1 | refine below_set ?_ GE241.out) | exact HB.out)))); have n3_ := Aside0.mk (blk_below (g := gb241) (o := .cells #[.int .i64 a0_0, .int .i64 a0_1, .int .u64 a0_2, .slice A0_3 l0_3.length c0_3] 30 (0, 0)) (by (with_reducible repeat (first | refine blk_drewN ?_ _ | refine blk_drew ?_ | refine blk_alloc ?_ _)); exact BK241.out) hb); have n4_ := Aside0.mk (below_step (by repeat (first | (with_reducible first | exact HB.out | apply below_alloc | apply pw_below_drewN | apply below_drew1 | refine below_set ?_ GE241.out) | exact HB.out)) hb); clear HO_7; clear HO263; clear BK241; clear HB; have HO_7 := n0_; have HO263 := n1_; have HO269 := n2_; have BK241 := n3_; have HB := n4_; clear n0_ n1_ n2_ n3_ n4_; (try clear hb); (try clear hb2); (try clear hk); (try clear hi); (try clear ho0)) | ((with_reducible refine gate_dst (N := 9) rfl ?_); (try (refine gate_guard (by rfl) ?_; dsimp only)); refine box_event ?hg (N := 9) ?hd (cs := #[.int .i64 0, .int .i64 0, .int .u64 0, .slice none 0 0]) (t := 26) ?hr ?_; (case hd => rfl); (case hg => rfl); (case hr => first | (go_simp; done) | (go_simp; rfl)); intro gb272 hg w94 hbox hb; have n0_ := Aside0.mk (Kd.R_below (by (with_reducible repeat (first | apply Kd.R_alloc | apply Kd.R_drewN | apply Kd.R_drew)); exact HO_7.out) hb); have n1_ := Aside0.mk (Kd.R_below (by (with_reducible repeat (first | apply Kd.R_alloc | apply Kd.R_drewN | apply Kd.R_drew)); exact HO263.out) hb); have n2_ := Aside0.mk (Kd.R_below (by (with_reducible repeat (first | apply Kd.R_alloc | apply Kd.R_drewN | apply Kd.R_drew)); exact HO269.out) hb); have n3_ := Aside0.mk (blk_below (g := gb241) (o := .cells #[.int .i64 a0_0, .int .i64 a0_1, .int .u64 a0_2, .slice A0_3 l0_3.length c0_3] 30 (0, 0)) (by (with_reducible repeat (first | refine blk_drewN ?_ _ | refine blk_drew ?_ | refine blk_alloc ?_ _)); exact BK241.out) hb); have n4_ := Aside0.mk (below_step (by repeat (first | (with_reducible first | exact HB.out | apply below_alloc | apply pw_below_drewN | apply below_drew1 | refine below_set ?_ GE241.out) | exact HB.out)) hb); have n5_ := Aside0.mk (hbox); have n6_ := Aside0.mk ((by rw [hg]; exact (below_size (by repeat (first | (with_reducible first | exact HB.out | apply below_alloc | apply pw_below_drewN | apply below_drew1 | refine below_set ?_ GE241.out) | exact HB.out))) : w.heap.size ≤ gb272)); have n7_ := Aside0.mk ((by rw [hg]; exact (below_size (by repeat (first | (with_reducible first | exact HB.out | apply below_alloc | apply pw_below_drewN | apply below_drew1 | refine below_set ?_ GE241.out) | exact HB.out))) : w.heap.size ≤ gb272)); have n8_ := Aside0.mk ((by rw [hg]; exact Nat.ne_of_lt (blk_lt (g := gb241) (o := .cells #[.int .i64 a0_0, .int .i64 a0_1, .int .u64 a0_2, .slice A0_3 l0_3.length c0_3] 30 (0, 0)) (by (with_reducible repeat (first | refine blk_drewN ?_ _ | refine blk_drew ?_ | refine blk_alloc ?_ _)); exact BK241.out)) : gb241 ≠ gb272)); have n9_ := Aside0.mk ((by rw [hg]; exact Nat.ne_of_gt (blk_lt (g := gb241) (o := .cells #[.int .i64 a0_0, .int .i64 a0_1, .int .u64 a0_2, .slice A0_3 l0_3.length c0_3] 30 (0, 0)) (by (with_reducible repeat (first | refine blk_drewN ?_ _ | refine blk_drew ?_ | refine blk_alloc ?_ _)); exact BK241.out)) : gb272 ≠ gb241)); clear HO_7; clear HO263; clear HO269; clear BK241; clear HB; have HO_7 := n0_; have HO263 := n1_; have HO269 := n2_; have BK241 := n3_; have HB := n4_; have BK272 := n5_; have GW272 := n6_; have GE272 := n7_; have NB241_272 := n8_; have NB272_241 := n9_; clear n0_ n1_ n2_ n3_ n4_ n5_ n6_ n7_ n8_ n9_; clear hb hbox hg; have hnb95 := NB272_241.out; have hnc95 := NB241_272.out; have hcz96_0 : w94.cell? ⟨gb272, 0, none⟩ = some (.int .i64 0) := (blk_cell BK272.out 0).trans rfl; have hcz96_1 : w94.cell? ⟨gb272, 1, none⟩ = some (.int .i64 0) := (blk_cell BK272.out 1).trans rfl; have hcz96_2 : w94.cell? ⟨gb272, 2, none⟩ = some (.int .u64 0) := (blk_cell BK272.out 2).trans rfl; have hcz96_3 : w94.cell? ⟨gb272, 3, none⟩ = some (.slice none 0 0) := (blk_cell BK272.out 3).trans rfl; have hfz96_0 := blk_frozen BK272.out 0; have hfz96_1 := blk_frozen BK272.out 1; have hfz96_2 := blk_frozen BK272.out 2; have hfz96_3 := blk_frozen BK272.out 3; obtain ⟨Ao97, co97, eo97⟩ := Kd.R_slice HO269.out; subst eo97) | ((with_reducible refine gate_store (t := 26) (p := 9) rfl ?_); refine store_event (t := 26) (p := 9) (v := ?vo_w98) (w1 := ((((w94.setCell ⟨gb272, 0, none⟩ (.int .i64 t264)).setCell ⟨gb272, 1, none⟩ (.int .i64 t265)).setCell ⟨gb272, 2, none⟩ (.int .u64 t266)).setCell ⟨gb272, 3, none⟩ (.slice Ao97 t267.length co97))) ?hg ?ho ?hn ?hr ?_; (case ho => rfl); (case hg => rfl); (case hn => rfl); (case hr => first | (go_simp; done) | (go_simp; rfl)); intro w98 hw; have n0_ : Aside0 (Kd.R (Kd.int .u8) 5 w98 w.heap.size (fun k_ => some k_ ≠ (.slice Ao92 y261.length co92 : Value).ownBlock ∧ some k_ ≠ (.slice Ao97 t267.length co97 : Value).ownBlock) (.slice Ao90 t251.length co90) t251) := ⟨(by rw [hw]; exact (by (with_reducible repeat (first | apply Kd.R_alloc | apply Kd.R_drewN | apply Kd.R_drew)); exact Kd.R_mono (Kd.R_far (p := ⟨gb272, 3, none⟩) (Kd.R_far (p := ⟨gb272, 2, none⟩) (Kd.R_far (p := ⟨gb272, 1, none⟩) (Kd.R_far (p := ⟨gb272, 0, none⟩) (Kd.R_types HO_7.out BK272.out (by decide)) (fun _ hk => hk.2) (.int .i64 t264)) (fun _ hk => hk.2) (.int .i64 t265)) (fun _ hk => hk.2) (.int .u64 t266)) (fun _ hk => hk.2) (.slice Ao97 t267.length co97)) (fun _ hk => ⟨hk.1.1.2, hk.1.2⟩)))⟩; have n1_ : Aside0 (Kd.R (Kd.int .u8) 5 w98 w.heap.size (fun k_ => some k_ ≠ (.slice Ao90 t251.length co90 : Value).ownBlock ∧ some k_ ≠ (.slice Ao97 t267.length co97 : Value).ownBlock) (.slice Ao92 y261.length co92) y261) := ⟨(by rw [hw]; exact (by (with_reducible repeat (first | apply Kd.R_alloc | apply Kd.R_drewN | apply Kd.R_drew)); exact Kd.R_mono (Kd.R_far (p := ⟨gb272, 3, none⟩) (Kd.R_far (p := ⟨gb272, 2, none⟩) (Kd.R_far (p := ⟨gb272, 1, none⟩) (Kd.R_far (p := ⟨gb272, 0, none⟩) (Kd.R_types HO263.out BK272.out (by decide)) (fun _ hk => hk.2) (.int .i64 t264)) (fun _ hk => hk.2) (.int .i64 t265)) (fun _ hk => hk.2) (.int .u64 t266)) (fun _ hk => hk.2) (.slice Ao97 t267.length co97)) (fun _ hk => ⟨hk.1.1, hk.1.2⟩)))⟩; have n2_ : Aside0 (Kd.R (Kd.int .u8) 5 w98 w.heap.size (fun k_ => some k_ ≠ (.slice Ao90 t251.length co90 : Value).ownBlock ∧ some k_ ≠ (.slice Ao92 y261.length co92 : Value).ownBlock) (.slice Ao97 t267.length co97) t267) := ⟨(by rw [hw]; exact (by (with_reducible repeat (first | apply Kd.R_alloc | apply Kd.R_drewN | apply Kd.R_drew)); exact Kd.R_mono (Kd.R_far (p := ⟨gb272, 3, none⟩) (Kd.R_far (p := ⟨gb272, 2, none⟩) (Kd.R_far (p := ⟨gb272, 1, none⟩) (Kd.R_far (p := ⟨gb272, 0, none⟩) (Kd.R_types HO269.out BK272.out (by decide)) (fun _ hk => hk.2) (.int .i64 t264)) (fun _ hk => hk.2) (.int .i64 t265)) (fun _ hk => hk.2) (.int .u64 t266)) (fun _ hk => hk.2) (.slice Ao97 t267.length co97)) (fun _ hk => ⟨hk.1.1.2, hk.1.2⟩)))⟩; have n3_ : Aside0 (w98.heap[gb241]? = some (.cells #[.int .i64 a0_0, .int .i64 a0_1, .int .u64 a0_2, .slice A0_3 l0_3.length c0_3] 30 (0, 0))) := ⟨(by rw [hw]; exact (by (with_reducible repeat (first | refine blk_drewN ?_ _ | refine blk_drew ?_ | refine blk_alloc ?_ _)); refine blk_far ?_ NB241_272.out _; (with_reducible repeat (first | refine blk_drewN ?_ _ | refine blk_drew ?_ | refine blk_alloc ?_ _)); refine blk_far ?_ NB241_272.out _; (with_reducible repeat (first | refine blk_drewN ?_ _ | refine blk_drew ?_ | refine blk_alloc ?_ _)); refine blk_far ?_ NB241_272.out _; (with_reducible repeat (first | refine blk_drewN ?_ _ | refine blk_drew ?_ | refine blk_alloc ?_ _)); refine blk_far ?_ NB241_272.out _; (with_reducible repeat (first | refine blk_drewN ?_ _ | refine blk_drew ?_ | refine blk_alloc ?_ _)); exact BK241.out))⟩; have n4_ : Aside0 (w98.heap[gb272]? = some (.cells #[.int .i64 t264, .int .i64 t265, .int .u64 t266, .slice Ao97 t267.length co97] 26 (0, 0))) := ⟨(by rw [hw]; exact (by (with_reducible repeat (first | refine blk_drewN ?_ _ | refine blk_drew ?_ | refine blk_alloc ?_ _)); refine blk_put (cs := #[.int .i64 t264, .int .i64 t265, .int .u64 t266, .slice none 0 0]) ?_ 3 _ rfl; (with_reducible repeat (first | refine blk_drewN ?_ _ | refine blk_drew ?_ | refine blk_alloc ?_ _)); refine blk_put (cs := #[.int .i64 t264, .int .i64 t265, .int .u64 0, .slice none 0 0]) ?_ 2 _ rfl; (with_reducible repeat (first | refine blk_drewN ?_ _ | refine blk_drew ?_ | refine blk_alloc ?_ _)); refine blk_put (cs := #[.int .i64 t264, .int .i64 0, .int .u64 0, .slice none 0 0]) ?_ 1 _ rfl; (with_reducible repeat (first | refine blk_drewN ?_ _ | refine blk_drew ?_ | refine blk_alloc ?_ _)); refine blk_put (cs := #[.int .i64 0, .int .i64 0, .int .u64 0, .slice none 0 0]) ?_ 0 _ rfl; (with_reducible repeat (first | refine blk_drewN ?_ _ | refine blk_drew ?_ | refine blk_alloc ?_ _)); exact BK272.out))⟩; have n5_ : Aside0 (Below w.heap.size w w98) := ⟨(by rw [hw]; exact (by repeat (first | (with_reducible first | exact HB.out | apply below_alloc | apply pw_below_drewN | apply below_drew1 | refine below_set ?_ GE241.out | refine below_set ?_ GE272.out) | exact HB.out)))⟩; clear hw; clear HO_7; clear HO263; clear HO269; clear BK241; clear BK272; clear HB; have HO_7 := n0_; have HO263 := n1_; have HO269 := n2_; have BK241 := n3_; have BK272 := n4_; have HB := n5_; clear n0_ n1_ n2_ n3_ n4_ n5_; have q99 : ((ji30) : Int) ≤ ((t251.length : Int) : Int) := of_decide_eq_true (by first | (with_reducible assumption) | assumption); obtain ⟨i099, hi099, _, hsz99, _⟩ := info_parts info5; have hroom99 : t251.length ≤ co90 := (Kd.R_reads' HO_7.out).2.1; have hC99 : Kd.C (Kd.int .u8) _ Ao90 t251.length t251 := (Kd.R_reads' HO_7.out).2.2; have hcut99 := cut_to (P := Try.prog) 22 5 .u64 Try.underlying22 hi099 Ao90 t251.length co90 (ji30) (of_decide_eq_true (by first | (with_reducible assumption) | assumption)) q99 hroom99; have hr99 := Kd.C_take (m := ((ji30) : Int).toNat) hC99 (by omega); have hy99 : y273.length = ((ji30) : Int).toNat := (by rw [Ny273.out, List.length_take]; omega); rw [← Ny273.out] at hr99; rw [← hy99] at hcut99; have HR276 := Aside0.mk hr99; have HC276 := Aside0.mk (show y273.length ≤ co90 from by omega); clear hr99 hC99 hroom99 hi099 hsz99; have KY99 := Aside0.mk hy99; clear hy99; have KL99 := Aside0.mk (show ((ji30) : Int).toNat ≤ t251.length from by omega); replace q99 := eq_true q99) | ((with_reducible refine gate_callee (f := 8) rfl ?_); refine goesL_ (some 54) rfl rfl Try.func8 (by kernel_rfl) rfl #[.slice Ao90 y273.length co90] rfl (by (try simp only [List.map_toArray, List.map_cons, List.map_nil]); first | done | rfl | (simp only [List.length_drop, List.length_take]; rfl)) ?_; (with_reducible refine (wire_Take.calls kj17 _ _ y273 t277 t278 t279 t280 t283 t284 _ ?side1 ?side2 A33.out).mono ?_); (case side1 => repeat (first | exact (by repeat (first | (with_reducible exact HR276.out) | (with_reducible refine Kd.C_alloc ?_ _) | (with_reducible refine Kd.C_drewN ?_ _) | (with_reducible refine Kd.C_drew ?_) | exact HR276.out)) | (with_reducible refine Kd.C_alloc ?_ _) | (with_reducible refine Kd.C_drewN ?_ _) | (with_reducible refine Kd.C_drew ?_))); (case side2 => exact HC276.out); rintro e w100 ⟨v281, rfl, ho0, hb⟩; refine ⟨_, rfl, ?_⟩; have n0_ := Aside0.mk (Kd.R_elder' (by (with_reducible repeat (first | apply Kd.R_alloc | apply Kd.R_drewN | apply Kd.R_drew)); exact HO_7.out) (Kd.R_base ho0) hb); have n1_ := Aside0.mk (Kd.R_elder' (by (with_reducible repeat (first | apply Kd.R_alloc | apply Kd.R_drewN | apply Kd.R_drew)); exact HO263.out) (Kd.R_base ho0) hb); have n2_ := Aside0.mk (Kd.R_elder' (by (with_reducible repeat (first | apply Kd.R_alloc | apply Kd.R_drewN | apply Kd.R_drew)); exact HO269.out) (Kd.R_base ho0) hb); have n3_ := Aside0.mk (Kd.R_lower (Kd.R_new' (Kd.R_new' (Kd.R_new' ho0 (Kd.R_lt (by (with_reducible repeat (first | apply Kd.R_alloc | apply Kd.R_drewN | apply Kd.R_drew)); exact HO_7.out))) (Kd.R_lt (by (with_reducible repeat (first | apply Kd.R_alloc | apply Kd.R_drewN | apply Kd.R_drew)); exact HO263.out))) (Kd.R_lt (by (with_reducible repeat (first | apply Kd.R_alloc | apply Kd.R_drewN | apply Kd.R_drew)); exact HO269.out))) (below_size (by repeat (first | (with_reducible first | exact HB.out | apply below_alloc | apply pw_below_drewN | apply below_drew1 | refine below_set ?_ GE241.out | refine below_set ?_ GE272.out) | exact HB.out)))); have n4_ := Aside0.mk (blk_below (g := gb241) (o := .cells #[.int .i64 a0_0, .int .i64 a0_1, .int .u64 a0_2, .slice A0_3 l0_3.length c0_3] 30 (0, 0)) (by (with_reducible repeat (first | refine blk_drewN ?_ _ | refine blk_drew ?_ | refine blk_alloc ?_ _)); exact BK241.out) hb); have n5_ := Aside0.mk (blk_below (g := gb272) (o := .cells #[.int .i64 t264, .int .i64 t265, .int .u64 t266, .slice Ao97 t267.length co97] 26 (0, 0)) (by (with_reducible repeat (first | refine blk_drewN ?_ _ | refine blk_drew ?_ | refine blk_alloc ?_ _)); exact BK272.out) hb); have n6_ := Aside0.mk (Kd.C_below (by repeat (first | (with_reducible exact HR276.out) | (with_reducible refine Kd.C_alloc ?_ _) | (with_reducible refine Kd.C_drewN ?_ _) | (with_reducible refine Kd.C_drew ?_) | exact HR276.out)) hb); have n7_ := Aside0.mk (below_step (by repeat (first | (with_reducible first | exact HB.out | apply below_alloc | apply pw_below_drewN | apply below_drew1 | refine below_set ?_ GE241.out | refine below_set ?_ GE272.out) | exact HB.out)) hb); clear HO_7; clear HO263; clear HO269; clear BK241; clear BK272; clear HR276; clear HB; have HO_7 := n0_; have HO263 := n1_; have HO269 := n2_; have HO282 := n3_; have BK241 := n4_; have BK272 := n5_; have HR276 := n6_; have HB := n7_; clear n0_ n1_ n2_ n3_ n4_ n5_ n6_ n7_; (try clear hb); (try clear hb2); (try clear hk); (try clear hi); (try clear ho0)) | ((with_reducible refine gate_dst (N := 12) rfl ?_); (try (refine gate_guard (by rfl) ?_; dsimp only)); refine box_event ?hg (N := 12) ?hd (cs := #[.int .i64 0, .int .i64 0, .int .u64 0, .slice none 0 0]) (t := 26) ?hr ?_; (case hd => rfl); (case hg => rfl); (case hr => first | (go_simp; done) | (go_simp; rfl)); intro gb285 hg w101 hbox hb; have n0_ := Aside0.mk (Kd.R_below (by (with_reducible repeat (first | apply Kd.R_alloc | apply Kd.R_drewN | apply Kd.R_drew)); exact HO_7.out) hb); have n1_ := Aside0.mk (Kd.R_below (by (with_reducible repeat (first | apply Kd.R_alloc | apply Kd.R_drewN | apply Kd.R_drew)); exact HO263.out) hb); have n2_ := Aside0.mk (Kd.R_below (by (with_reducible repeat (first | apply Kd.R_alloc | apply Kd.R_drewN | apply Kd.R_drew)); exact HO269.out) hb); have n3_ := Aside0.mk (Kd.R_below (by (with_reducible repeat (first | apply Kd.R_alloc | apply Kd.R_drewN | apply Kd.R_drew)); exact HO282.out) hb); have n4_ := Aside0.mk (blk_below (g := gb241) (o := .cells #[.int .i64 a0_0, .int .i64 a0_1, .int .u64 a0_2, .slice A0_3 l0_3.length c0_3] 30 (0, 0)) (by (with_reducible repeat (first | refine blk_drewN ?_ _ | refine blk_drew ?_ | refine blk_alloc ?_ _)); exact BK241.out) hb); have n5_ := Aside0.mk (blk_below (g := gb272) (o := .cells #[.int .i64 t264, .int .i64 t265, .int .u64 t266, .slice Ao97 t267.length co97] 26 (0, 0)) (by (with_reducible repeat (first | refine blk_drewN ?_ _ | refine blk_drew ?_ | refine blk_alloc ?_ _)); exact BK272.out) hb); have n6_ := Aside0.mk (Kd.C_below (by repeat (first | (with_reducible exact HR276.out) | (with_reducible refine Kd.C_alloc ?_ _) | (with_reducible refine Kd.C_drewN ?_ _) | (with_reducible refine Kd.C_drew ?_) | exact HR276.out)) hb); have n7_ := Aside0.mk (below_step (by repeat (first | (with_reducible first | exact HB.out | apply below_alloc | apply pw_below_drewN | apply below_drew1 | refine below_set ?_ GE241.out | refine below_set ?_ GE272.out) | exact HB.out)) hb); have n8_ := Aside0.mk (hbox); have n9_ := Aside0.mk ((by rw [hg]; exact (below_size (by repeat (first | (with_reducible first | exact HB.out | apply below_alloc | apply pw_below_drewN | apply below_drew1 | refine below_set ?_ GE241.out | refine below_set ?_ GE272.out) | exact HB.out))) : w.heap.size ≤ gb285)); have n10_ := Aside0.mk ((by rw [hg]; exact (below_size (by repeat (first | (with_reducible first | exact HB.out | apply below_alloc | apply pw_below_drewN | apply below_drew1 | refine below_set ?_ GE241.out | refine below_set ?_ GE272.out) | exact HB.out))) : w.heap.size ≤ gb285)); have n11_ := Aside0.mk ((by rw [hg]; exact Nat.ne_of_lt (blk_lt (g := gb241) (o := .cells #[.int .i64 a0_0, .int .i64 a0_1, .int .u64 a0_2, .slice A0_3 l0_3.length c0_3] 30 (0, 0)) (by (with_reducible repeat (first | refine blk_drewN ?_ _ | refine blk_drew ?_ | refine blk_alloc ?_ _)); exact BK241.out)) : gb241 ≠ gb285)); have n12_ := Aside0.mk ((by rw [hg]; exact Nat.ne_of_gt (blk_lt (g := gb241) (o := .cells #[.int .i64 a0_0, .int .i64 a0_1, .int .u64 a0_2, .slice A0_3 l0_3.length c0_3] 30 (0, 0)) (by (with_reducible repeat (first | refine blk_drewN ?_ _ | refine blk_drew ?_ | refine blk_alloc ?_ _)); exact BK241.out)) : gb285 ≠ gb241)); have n13_ := Aside0.mk ((by rw [hg]; exact Nat.ne_of_lt (blk_lt (g := gb272) (o := .cells #[.int .i64 t264, .int .i64 t265, .int .u64 t266, .slice Ao97 t267.length co97] 26 (0, 0)) (by (with_reducible repeat (first | refine blk_drewN ?_ _ | refine blk_drew ?_ | refine blk_alloc ?_ _)); exact BK272.out)) : gb272 ≠ gb285)); have n14_ := Aside0.mk ((by rw [hg]; exact Nat.ne_of_gt (blk_lt (g := gb272) (o := .cells #[.int .i64 t264, .int .i64 t265, .int .u64 t266, .slice Ao97 t267.length co97] 26 (0, 0)) (by (with_reducible repeat (first | refine blk_drewN ?_ _ | refine blk_drew ?_ | refine blk_alloc ?_ _)); exact BK272.out)) : gb285 ≠ gb272)); clear HO_7; clear HO263; clear HO269; clear HO282; clear BK241; clear BK272; clear HR276; clear HB; have HO_7 := n0_; have HO263 := n1_; have HO269 := n2_; have HO282 := n3_; have BK241 := n4_; have BK272 := n5_; have HR276 := n6_; have HB := n7_; have BK285 := n8_; have GW285 := n9_; have GE285 := n10_; have NB241_285 := n11_; have NB285_241 := n12_; have NB272_285 := n13_; have NB285_272 := n14_; clear n0_ n1_ n2_ n3_ n4_ n5_ n6_ n7_ n8_ n9_ n10_ n11_ n12_ n13_ n14_; clear hb hbox hg; have hnb102 := NB285_241.out; have hnc102 := NB241_285.out; have hnb103 := NB285_272.out; have hnc103 := NB272_285.out; have hcz104_0 : w101.cell? ⟨gb285, 0, none⟩ = some (.int .i64 0) := (blk_cell BK285.out 0).trans rfl; have hcz104_1 : w101.cell? ⟨gb285, 1, none⟩ = some (.int .i64 0) := (blk_cell BK285.out 1).trans rfl; have hcz104_2 : w101.cell? ⟨gb285, 2, none⟩ = some (.int .u64 0) := (blk_cell BK285.out 2).trans rfl; have hcz104_3 : w101.cell? ⟨gb285, 3, none⟩ = some (.slice none 0 0) := (blk_cell BK285.out 3).trans rfl; have hfz104_0 := blk_frozen BK285.out 0; have hfz104_1 := blk_frozen BK285.out 1; have hfz104_2 := blk_frozen BK285.out 2; have hfz104_3 := blk_frozen BK285.out 3; obtain ⟨Ao105, co105, eo105⟩ := Kd.R_slice HO282.out; subst eo105))
                            have n0_ : Aside0 (Kd.R (Kd.int .u8) 5 ((((w101.setCell ⟨gb285, 0, none⟩ (.int .i64 t277)).setCell ⟨gb285, 1, none⟩ (.int .i64 t278)).setCell ⟨gb285, 2, none⟩ (.int .u64 t279)).setCell ⟨gb285, 3, none⟩ (.slice Ao105 t280.length co105)) w.heap.size (fun k_ => some k_ ≠ (.slice Ao92 y261.length co92 : Value).ownBlock ∧ some k_ ≠ (.slice Ao97 t267.length co97 : Value).ownBlock ∧ some k_ ≠ (.slice Ao105 t280.length co105 : Value).ownBlock) (.slice Ao90 t251.length co90) t251) := ⟨by (with_reducible repeat (first | apply Kd.R_alloc | apply Kd.R_drewN | apply Kd.R_drew)); exact Kd.R_mono (Kd.R_far (p := ⟨gb285, 3, none⟩) (Kd.R_far (p := ⟨gb285, 2, none⟩) (Kd.R_far (p := ⟨gb285, 1, none⟩) (Kd.R_far (p := ⟨gb285, 0, none⟩) (Kd.R_types HO_7.out BK285.out (by decide)) (fun _ hk => hk.2) (.int .i64 t277)) (fun _ hk => hk.2) (.int .i64 t278)) (fun _ hk => hk.2) (.int .u64 t279)) (fun _ hk => hk.2) (.slice Ao105 t280.length co105)) (fun _ hk => ⟨hk.1.1.1, ⟨hk.1.1.2, hk.1.2⟩⟩)⟩
                            have n1_ : Aside0 (Kd.R (Kd.int .u8) 5 ((((w101.setCell ⟨gb285, 0, none⟩ (.int .i64 t277)).setCell ⟨gb285, 1, none⟩ (.int .i64 t278)).setCell ⟨gb285, 2, none⟩ (.int .u64 t279)).setCell ⟨gb285, 3, none⟩ (.slice Ao105 t280.length co105)) w.heap.size (fun k_ => some k_ ≠ (.slice Ao90 t251.length co90 : Value).ownBlock ∧ some k_ ≠ (.slice Ao97 t267.length co97 : Value).ownBlock ∧ some k_ ≠ (.slice Ao105 t280.length co105 : Value).ownBlock) (.slice Ao92 y261.length co92) y261) := ⟨by (with_reducible repeat (first | apply Kd.R_alloc | apply Kd.R_drewN | apply Kd.R_drew)); exact Kd.R_mono (Kd.R_far (p := ⟨gb285, 3, none⟩) (Kd.R_far (p := ⟨gb285, 2, none⟩) (Kd.R_far (p := ⟨gb285, 1, none⟩) (Kd.R_far (p := ⟨gb285, 0, none⟩) (Kd.R_types HO263.out BK285.out (by decide)) (fun _ hk => hk.2) (.int .i64 t277)) (fun _ hk => hk.2) (.int .i64 t278)) (fun _ hk => hk.2) (.int .u64 t279)) (fun _ hk => hk.2) (.slice Ao105 t280.length co105)) (fun _ hk => ⟨hk.1.1.1, ⟨hk.1.1.2, hk.1.2⟩⟩)⟩
                            have n2_ : Aside0 (Kd.R (Kd.int .u8) 5 ((((w101.setCell ⟨gb285, 0, none⟩ (.int .i64 t277)).setCell ⟨gb285, 1, none⟩ (.int .i64 t278)).setCell ⟨gb285, 2, none⟩ (.int .u64 t279)).setCell ⟨gb285, 3, none⟩ (.slice Ao105 t280.length co105)) w.heap.size (fun k_ => some k_ ≠ (.slice Ao90 t251.length co90 : Value).ownBlock ∧ some k_ ≠ (.slice Ao92 y261.length co92 : Value).ownBlock ∧ some k_ ≠ (.slice Ao105 t280.length co105 : Value).ownBlock) (.slice Ao97 t267.length co97) t267) := ⟨by (with_reducible repeat (first | apply Kd.R_alloc | apply Kd.R_drewN | apply Kd.R_drew)); exact Kd.R_mono (Kd.R_far (p := ⟨gb285, 3, none⟩) (Kd.R_far (p := ⟨gb285, 2, none⟩) (Kd.R_far (p := ⟨gb285, 1, none⟩) (Kd.R_far (p := ⟨gb285, 0, none⟩) (Kd.R_types HO269.out BK285.out (by decide)) (fun _ hk => hk.2) (.int .i64 t277)) (fun _ hk => hk.2) (.int .i64 t278)) (fun _ hk => hk.2) (.int .u64 t279)) (fun _ hk => hk.2) (.slice Ao105 t280.length co105)) (fun _ hk => ⟨hk.1.1.1, ⟨hk.1.1.2, hk.1.2⟩⟩)⟩
                            have n3_ : Aside0 (Kd.R (Kd.int .u8) 5 ((((w101.setCell ⟨gb285, 0, none⟩ (.int .i64 t277)).setCell ⟨gb285, 1, none⟩ (.int .i64 t278)).setCell ⟨gb285, 2, none⟩ (.int .u64 t279)).setCell ⟨gb285, 3, none⟩ (.slice Ao105 t280.length co105)) w.heap.size (fun k_ => some k_ ≠ (.slice Ao90 t251.length co90 : Value).ownBlock ∧ some k_ ≠ (.slice Ao92 y261.length co92 : Value).ownBlock ∧ some k_ ≠ (.slice Ao97 t267.length co97 : Value).ownBlock) (.slice Ao105 t280.length co105) t280) := ⟨by (with_reducible repeat (first | apply Kd.R_alloc | apply Kd.R_drewN | apply Kd.R_drew)); exact Kd.R_mono (Kd.R_far (p := ⟨gb285, 3, none⟩) (Kd.R_far (p := ⟨gb285, 2, none⟩) (Kd.R_far (p := ⟨gb285, 1, none⟩) (Kd.R_far (p := ⟨gb285, 0, none⟩) (Kd.R_types HO282.out BK285.out (by decide)) (fun _ hk => hk.2) (.int .i64 t277)) (fun _ hk => hk.2) (.int .i64 t278)) (fun _ hk => hk.2) (.int .u64 t279)) (fun _ hk => hk.2) (.slice Ao105 t280.length co105)) (fun _ hk => ⟨hk.1.1.1.2, ⟨hk.1.1.2, hk.1.2⟩⟩)⟩
                            have n4_ : Aside0 (((((w101.setCell ⟨gb285, 0, none⟩ (.int .i64 t277)).setCell ⟨gb285, 1, none⟩ (.int .i64 t278)).setCell ⟨gb285, 2, none⟩ (.int .u64 t279)).setCell ⟨gb285, 3, none⟩ (.slice Ao105 t280.length co105)).heap[gb241]? = some (.cells #[.int .i64 a0_0, .int .i64 a0_1, .int .u64 a0_2, .slice A0_3 l0_3.length c0_3] 30 (0, 0))) := ⟨by (with_reducible repeat (first | refine blk_drewN ?_ _ | refine blk_drew ?_ | refine blk_alloc ?_ _)); refine blk_far ?_ NB241_285.out _; (with_reducible repeat (first | refine blk_drewN ?_ _ | refine blk_drew ?_ | refine blk_alloc ?_ _)); refine blk_far ?_ NB241_285.out _; (with_reducible repeat (first | refine blk_drewN ?_ _ | refine blk_drew ?_ | refine blk_alloc ?_ _)); refine blk_far ?_ NB241_285.out _; (with_reducible repeat (first | refine blk_drewN ?_ _ | refine blk_drew ?_ | refine blk_alloc ?_ _)); refine blk_far ?_ NB241_285.out _; (with_reducible repeat (first | refine blk_drewN ?_ _ | refine blk_drew ?_ | refine blk_alloc ?_ _)); exact BK241.out⟩
                            have n5_ : Aside0 (((((w101.setCell ⟨gb285, 0, none⟩ (.int .i64 t277)).setCell ⟨gb285, 1, none⟩ (.int .i64 t278)).setCell ⟨gb285, 2, none⟩ (.int .u64 t279)).setCell ⟨gb285, 3, none⟩ (.slice Ao105 t280.length co105)).heap[gb272]? = some (.cells #[.int .i64 t264, .int .i64 t265, .int .u64 t266, .slice Ao97 t267.length co97] 26 (0, 0))) := ⟨by (with_reducible repeat (first | refine blk_drewN ?_ _ | refine blk_drew ?_ | refine blk_alloc ?_ _)); refine blk_far ?_ NB272_285.out _; (with_reducible repeat (first | refine blk_drewN ?_ _ | refine blk_drew ?_ | refine blk_alloc ?_ _)); refine blk_far ?_ NB272_285.out _; (with_reducible repeat (first | refine blk_drewN ?_ _ | refine blk_drew ?_ | refine blk_alloc ?_ _)); refine blk_far ?_ NB272_285.out _; (with_reducible repeat (first | refine blk_drewN ?_ _ | refine blk_drew ?_ | refine blk_alloc ?_ _)); refine blk_far ?_ NB272_285.out _; (with_reducible repeat (first | refine blk_drewN ?_ _ | refine blk_drew ?_ | refine blk_alloc ?_ _)); exact BK272.out⟩
                            have n6_ : Aside0 (((((w101.setCell ⟨gb285, 0, none⟩ (.int .i64 t277)).setCell ⟨gb285, 1, none⟩ (.int .i64 t278)).setCell ⟨gb285, 2, none⟩ (.int .u64 t279)).setCell ⟨gb285, 3, none⟩ (.slice Ao105 t280.length co105)).heap[gb285]? = some (.cells #[.int .i64 t277, .int .i64 t278, .int .u64 t279, .slice Ao105 t280.length co105] 26 (0, 0))) := ⟨by (with_reducible repeat (first | refine blk_drewN ?_ _ | refine blk_drew ?_ | refine blk_alloc ?_ _)); refine blk_put (cs := #[.int .i64 t277, .int .i64 t278, .int .u64 t279, .slice none 0 0]) ?_ 3 _ rfl; (with_reducible repeat (first | refine blk_drewN ?_ _ | refine blk_drew ?_ | refine blk_alloc ?_ _)); refine blk_put (cs := #[.int .i64 t277, .int .i64 t278, .int .u64 0, .slice none 0 0]) ?_ 2 _ rfl; (with_reducible repeat (first | refine blk_drewN ?_ _ | refine blk_drew ?_ | refine blk_alloc ?_ _)); refine blk_put (cs := #[.int .i64 t277, .int .i64 0, .int .u64 0, .slice none 0 0]) ?_ 1 _ rfl; (with_reducible repeat (first | refine blk_drewN ?_ _ | refine blk_drew ?_ | refine blk_alloc ?_ _)); refine blk_put (cs := #[.int .i64 0, .int .i64 0, .int .u64 0, .slice none 0 0]) ?_ 0 _ rfl; (with_reducible repeat (first | refine blk_drewN ?_ _ | refine blk_drew ?_ | refine blk_alloc ?_ _)); exact BK285.out⟩
                            have n7_ : Aside0 (Below w.heap.size w ((((w101.setCell ⟨gb285, 0, none⟩ (.int .i64 t277)).setCell ⟨gb285, 1, none⟩ (.int .i64 t278)).setCell ⟨gb285, 2, none⟩ (.int .u64 t279)).setCell ⟨gb285, 3, none⟩ (.slice Ao105 t280.length co105))) := ⟨by repeat (first | (with_reducible first | exact HB.out | apply below_alloc | apply pw_below_drewN | apply below_drew1 | refine below_set ?_ GE241.out | refine below_set ?_ GE272.out | refine below_set ?_ GE285.out) | exact HB.out)⟩
                            (try clear HO_7)
                            (try clear HO263)
                            (try clear HO269)
                            (try clear HO282)
                            (try clear BK241)
                            (try clear BK272)
                            (try clear BK285)
                            (try clear HB)
                            generalize ((((w101.setCell ⟨gb285, 0, none⟩ (.int .i64 t277)).setCell ⟨gb285, 1, none⟩ (.int .i64 t278)).setCell ⟨gb285, 2, none⟩ (.int .u64 t279)).setCell ⟨gb285, 3, none⟩ (.slice Ao105 t280.length co105)) = w106 at n0_ n1_ n2_ n3_ n4_ n5_ n6_ n7_ ⊢
                            have HO_7 := n0_
                            have HO263 := n1_
                            have HO269 := n2_
                            have HO282 := n3_
                            have BK241 := n4_
                            have BK272 := n5_
                            have BK285 := n6_
                            have HB := n7_
                            clear n0_ n1_ n2_ n3_ n4_ n5_ n6_ n7_
                            have n0_ := Aside0.mk (Kd.R_drew HO_7.out)
                            have n1_ := Aside0.mk (Kd.R_drew HO263.out)
                            have n2_ := Aside0.mk (Kd.R_drew HO269.out)
                            have n3_ := Aside0.mk (Kd.R_drew HO282.out)
                            have n4_ := Aside0.mk (blk_drew BK241.out)
                            have n5_ := Aside0.mk (blk_drew BK272.out)
                            have n6_ := Aside0.mk (blk_drew BK285.out)
                            have n7_ := Aside0.mk (below_drew1 HB.out)
                            clear HO_7
                            clear HO263
                            clear HO269
                            clear HO282
                            clear BK241
                            clear BK272
                            clear BK285
                            clear HB
                            have HO_7 := n0_
                            have HO263 := n1_
                            have HO269 := n2_
                            have HO282 := n3_
                            have BK241 := n4_
                            have BK272 := n5_
                            have BK285 := n6_
                            have HB := n7_
                            clear n0_ n1_ n2_ n3_ n4_ n5_ n6_ n7_
                            refine start_ (n := 19) (S := fun w' => w'.cell? ⟨gb272, 0, none⟩ = some (.int .i64 t264) ∧ w'.cell? ⟨gb272, 1, none⟩ = some (.int .i64 t265) ∧ w'.cell? ⟨gb272, 2, none⟩ = some (.int .u64 t266) ∧ w'.cell? ⟨gb272, 3, none⟩ = some (.slice Ao97 t267.length co97) ∧ w'.cell? ⟨gb241, 0, none⟩ = some (.int .i64 a0_0) ∧ w'.cell? ⟨gb241, 1, none⟩ = some (.int .i64 a0_1) ∧ w'.cell? ⟨gb241, 2, none⟩ = some (.int .u64 a0_2) ∧ w'.cell? ⟨gb241, 3, none⟩ = some (.slice A0_3 l0_3.length c0_3)) (ds := []) #[false, false, false, false, false, false, false, false, false, false, false, false, false, false, false, false, false, false, false] (by kernel_rfl) rfl rfl ⟨(blk_cell BK272.out 0).trans rfl, (blk_cell BK272.out 1).trans rfl, (blk_cell BK272.out 2).trans rfl, (blk_cell BK272.out 3).trans rfl, (blk_cell BK241.out 0).trans rfl, (blk_cell BK241.out 1).trans rfl, (blk_cell BK241.out 2).trans rfl, (blk_cell BK241.out 3).trans rfl⟩ (fun hHeld => ?_); refine with_tabW courierlaw02_WireBack.tab8 courierlaw02_WireBack.bits8 (fun HT_ HW_ => ?_)
                            generalize w106.drew = w107 at HO_7 HO263 HO269 HO282 BK241 BK272 BK285 HB hHeld ⊢
                            refine take_ (i := 0) (N := some 58) (v := ?_) (a' := ?_) #[true, false, false, false, false, false, false, false, false, false, false, false, false, false, false, false, false, false, false] rfl rfl (take_ofW HT_.out HW_.out (by kernel_rfl)) (fun _ _ _ h => h) (Or.inl ⟨by rfl, ?_⟩) hHeld ?_ ?_
                            rotate_left
                            · rintro w' ⟨s0, s1, s2, s3, s4, s5, s6, s7⟩
                              go_simp
                              with_reducible rfl
                            rotate_left
                            · simp only [Act.put, List.setIfInBounds_toArray, List.set_cons_zero, List.set_cons_succ, i64_w, i32_w]
                              rfl
                            refine take_ (i := 2) (N := some 60) (v := ?_) (a' := ?_) #[true, false, true, false, false, false, false, false, false, false, false, false, false, false, false, false, false, false, false] rfl rfl (take_ofW HT_.out HW_.out (by kernel_rfl)) (fun _ _ _ h => h) (Or.inl ⟨by rfl, ?_⟩) hHeld ?_ ?_
                            rotate_left
                            · rintro w' ⟨s0, s1, s2, s3, s4, s5, s6, s7⟩
                              go_simp
                              with_reducible rfl
                            rotate_left
                            · simp only [Act.put, List.setIfInBounds_toArray, List.set_cons_zero, List.set_cons_succ, i64_w, i32_w]
                              rfl
                            refine one_ (i := 1) (N := some 59) #[true, true, true, false, false, false, false, false, false, false, false, false, false, false, false, false, false, false, false] rfl rfl (one_of HT_.out (by kernel_rfl)) (by decide) (fun K hK => ?_)
                            refine goes_ Try.func11 (by kernel_rfl) rfl #[.agg #[.int .i64 t264, .int .i64 t265, .int .u64 t266, .slice Ao97 t267.length co97]] (by rfl) rfl rfl (by (try simp only [List.map_toArray, List.map_cons, List.map_nil]); first | done | rfl | (simp only [List.length_drop, List.length_take]; rfl)) ?_
                            with_reducible refine (courierlaw02_ours.calls t264 t265 t266 (fun k_ => some k_ = (.slice Ao97 t267.length co97 : Value).ownBlock) _ _ t267 t286 t287 t288 t289 _ ?side1 A34.out).mono ?_
                            (case side1 => exact Kd.R_V (Kd.R_tight rfl (Kd.R_types (Kd.R_types (Kd.R_types (HO269.out) BK241.out (by decide)) BK272.out (by decide)) BK285.out (by decide))))
                            rintro e w108 ⟨v290, rfl, ho0, hb⟩
                            (try (have nt_ := Aside0.mk (Kd.C_below HR0_3.out hb); clear HR0_3; have HR0_3 := nt_; clear nt_))
                            refine ⟨_, rfl, ?_⟩
                            have n0_ := Aside0.mk (Kd.R_below (by (with_reducible repeat (first | apply Kd.R_alloc | apply Kd.R_drewN | apply Kd.R_drew)); exact HO_7.out) hb)
                            have n1_ := Aside0.mk (Kd.R_below (by (with_reducible repeat (first | apply Kd.R_alloc | apply Kd.R_drewN | apply Kd.R_drew)); exact HO263.out) hb)
                            have n2_ := Aside0.mk (Kd.R_below (by (with_reducible repeat (first | apply Kd.R_alloc | apply Kd.R_drewN | apply Kd.R_drew)); exact HO269.out) hb)
                            have n3_ := Aside0.mk (Kd.R_below (by (with_reducible repeat (first | apply Kd.R_alloc | apply Kd.R_drewN | apply Kd.R_drew)); exact HO282.out) hb)
                            have n4_ := Aside0.mk (Kd.V_lower (Kd.V_mono (ok' := fun k_ => some k_ ≠ (.slice Ao90 t251.length co90 : Value).ownBlock ∧ some k_ ≠ (.slice Ao92 y261.length co92 : Value).ownBlock ∧ some k_ ≠ (.slice Ao105 t280.length co105 : Value).ownBlock ∧ k_ ≠ gb241 ∧ k_ ≠ gb272 ∧ k_ ≠ gb285) ho0 (fun k_ hk_ => ⟨Or.elim hk_ (fun hs_ => ((Kd.R_types (Kd.R_types (Kd.R_types (HO269.out) BK241.out (by decide)) BK272.out (by decide)) BK285.out (by decide)).1 k_ hs_.symm).1.1.1.1) (fun hn_ => (Kd.fresh' (Kd.R_lt (by (with_reducible repeat (first | apply Kd.R_alloc | apply Kd.R_drewN | apply Kd.R_drew)); exact HO_7.out)) k_ hn_)), Or.elim hk_ (fun hs_ => ((Kd.R_types (Kd.R_types (Kd.R_types (HO269.out) BK241.out (by decide)) BK272.out (by decide)) BK285.out (by decide)).1 k_ hs_.symm).1.1.1.2.1) (fun hn_ => (Kd.fresh' (Kd.R_lt (by (with_reducible repeat (first | apply Kd.R_alloc | apply Kd.R_drewN | apply Kd.R_drew)); exact HO263.out)) k_ hn_)), Or.elim hk_ (fun hs_ => ((Kd.R_types (Kd.R_types (Kd.R_types (HO269.out) BK241.out (by decide)) BK272.out (by decide)) BK285.out (by decide)).1 k_ hs_.symm).1.1.1.2.2) (fun hn_ => (Kd.fresh' (Kd.R_lt (by (with_reducible repeat (first | apply Kd.R_alloc | apply Kd.R_drewN | apply Kd.R_drew)); exact HO282.out)) k_ hn_)), Or.elim hk_ (fun hs_ => ((Kd.R_types (Kd.R_types (Kd.R_types (HO269.out) BK241.out (by decide)) BK272.out (by decide)) BK285.out (by decide)).1 k_ hs_.symm).1.1.2) (fun hn_ => (Kd.freshB (g := gb241) (o := .cells #[.int .i64 a0_0, .int .i64 a0_1, .int .u64 a0_2, .slice A0_3 l0_3.length c0_3] 30 (0, 0)) (by (with_reducible repeat (first | refine blk_drewN ?_ _ | refine blk_drew ?_ | refine blk_alloc ?_ _)); exact BK241.out) k_ hn_)), Or.elim hk_ (fun hs_ => ((Kd.R_types (Kd.R_types (Kd.R_types (HO269.out) BK241.out (by decide)) BK272.out (by decide)) BK285.out (by decide)).1 k_ hs_.symm).1.2) (fun hn_ => (Kd.freshB (g := gb272) (o := .cells #[.int .i64 t264, .int .i64 t265, .int .u64 t266, .slice Ao97 t267.length co97] 26 (0, 0)) (by (with_reducible repeat (first | refine blk_drewN ?_ _ | refine blk_drew ?_ | refine blk_alloc ?_ _)); exact BK272.out) k_ hn_)), Or.elim hk_ (fun hs_ => ((Kd.R_types (Kd.R_types (Kd.R_types (HO269.out) BK241.out (by decide)) BK272.out (by decide)) BK285.out (by decide)).1 k_ hs_.symm).2) (fun hn_ => (Kd.freshB (g := gb285) (o := .cells #[.int .i64 t277, .int .i64 t278, .int .u64 t279, .slice Ao105 t280.length co105] 26 (0, 0)) (by (with_reducible repeat (first | refine blk_drewN ?_ _ | refine blk_drew ?_ | refine blk_alloc ?_ _)); exact BK285.out) k_ hn_))⟩)) (below_size (by repeat (first | (with_reducible first | exact HB.out | apply below_alloc | apply pw_below_drewN | apply below_drew1 | refine below_set ?_ GE241.out | refine below_set ?_ GE272.out | refine below_set ?_ GE285.out) | exact HB.out))))
                            have n5_ := Aside0.mk (blk_below (g := gb241) (o := .cells #[.int .i64 a0_0, .int .i64 a0_1, .int .u64 a0_2, .slice A0_3 l0_3.length c0_3] 30 (0, 0)) (by (with_reducible repeat (first | refine blk_drewN ?_ _ | refine blk_drew ?_ | refine blk_alloc ?_ _)); exact BK241.out) hb)
                            have n6_ := Aside0.mk (blk_below (g := gb272) (o := .cells #[.int .i64 t264, .int .i64 t265, .int .u64 t266, .slice Ao97 t267.length co97] 26 (0, 0)) (by (with_reducible repeat (first | refine blk_drewN ?_ _ | refine blk_drew ?_ | refine blk_alloc ?_ _)); exact BK272.out) hb)
                            have n7_ := Aside0.mk (blk_below (g := gb285) (o := .cells #[.int .i64 t277, .int .i64 t278, .int .u64 t279, .slice Ao105 t280.length co105] 26 (0, 0)) (by (with_reducible repeat (first | refine blk_drewN ?_ _ | refine blk_drew ?_ | refine blk_alloc ?_ _)); exact BK285.out) hb)
                            have n8_ := Aside0.mk (below_step (by repeat (first | (with_reducible first | exact HB.out | apply below_alloc | apply pw_below_drewN | apply below_drew1 | refine below_set ?_ GE241.out | refine below_set ?_ GE272.out | refine below_set ?_ GE285.out) | exact HB.out)) hb)
                            clear HO_7
                            clear HO263
                            clear HO269
                            clear HO282
                            clear BK241
                            clear BK272
                            clear BK285
                            clear HB
                            have HO_7 := n0_
                            have HO263 := n1_
                            have HO269 := n2_
                            have HO282 := n3_
                            have HO291 := n4_
                            have BK241 := n5_
                            have BK272 := n6_
                            have BK285 := n7_
                            have HB := n8_
                            clear n0_ n1_ n2_ n3_ n4_ n5_ n6_ n7_ n8_
                            (try clear hb)
                            (try clear hb2)
                            (try clear hk)
                            (try clear hi)
                            (try clear ho0)
                            obtain ⟨Ao109, co109, eo109⟩ := Kd.V_slice HO291.out
                            (first | subst eo109 | (injection eo109 with f1_ f2_ f3_; have f4_ := f1_.symm; have f5_ := f3_.symm; clear f1_ f2_ f3_; subst f4_; subst f5_))
                            refine hK.out _ _ ⟨(blk_cell BK272.out 0).trans rfl, (blk_cell BK272.out 1).trans rfl, (blk_cell BK272.out 2).trans rfl, (blk_cell BK272.out 3).trans rfl, (blk_cell BK241.out 0).trans rfl, (blk_cell BK241.out 1).trans rfl, (blk_cell BK241.out 2).trans rfl, (blk_cell BK241.out 3).trans rfl⟩ (fun hHeld => ?_)
                            clear hK K
                            refine norm_ (a' := ?_) ?_ ?_
                            rotate_left
                            · show Act.put _ (some 59) _ = _
                              simp only [Act.put, List.setIfInBounds_toArray, List.set_cons_zero, List.set_cons_succ, i64_w, i32_w]
                              rfl
                            refine one_ (i := 3) (N := some 61) #[true, true, true, true, false, false, false, false, false, false, false, false, false, false, false, false, false, false, false] rfl rfl (one_of HT_.out (by kernel_rfl)) (by decide) (fun K hK => ?_)
                            refine goes_ Try.func10 (by kernel_rfl) rfl #[.agg #[.int .i64 t286, .int .i64 t287, .int .u64 t288, .slice Ao109 t289.length co109], .agg #[.int .i64 a0_0, .int .i64 a0_1, .int .u64 a0_2, .slice A0_3 l0_3.length c0_3]] (by rfl) rfl rfl (by (try simp only [List.map_toArray, List.map_cons, List.map_nil]); first | done | rfl | (simp only [List.length_drop, List.length_take]; rfl)) ?_
                            with_reducible refine (courierref01_Same.calls t286 t287 t288 _ _ t289 a0_0 a0_1 a0_2 _ _ l0_3 true _ ?side1 ?side2 ?side3 ?side4 A35.out).mono ?_
                            (case side1 => repeat (first | exact (Kd.V_reads' HO291.out).2.2 | (with_reducible refine Kd.C_alloc ?_ _) | (with_reducible refine Kd.C_drewN ?_ _) | (with_reducible refine Kd.C_drew ?_)))
                            (case side2 => exact (Kd.V_reads' HO291.out).2.1)
                            (case side3 => repeat (first | exact (Kd.C_below HR0_3.out HB.out) | (with_reducible refine Kd.C_alloc ?_ _) | (with_reducible refine Kd.C_drewN ?_ _) | (with_reducible refine Kd.C_drew ?_)))
                            (case side4 => exact HC0_3.out)
                            rintro e w110 ⟨rfl, hb⟩
                            (try (have nt_ := Aside0.mk (Kd.C_below HR0_3.out hb); clear HR0_3; have HR0_3 := nt_; clear nt_))
                            refine ⟨_, rfl, ?_⟩
                            have n0_ := Aside0.mk (Kd.R_below (by (with_reducible repeat (first | apply Kd.R_alloc | apply Kd.R_drewN | apply Kd.R_drew)); exact HO_7.out) hb)
                            have n1_ := Aside0.mk (Kd.R_below (by (with_reducible repeat (first | apply Kd.R_alloc | apply Kd.R_drewN | apply Kd.R_drew)); exact HO263.out) hb)
                            have n2_ := Aside0.mk (Kd.R_below (by (with_reducible repeat (first | apply Kd.R_alloc | apply Kd.R_drewN | apply Kd.R_drew)); exact HO269.out) hb)
                            have n3_ := Aside0.mk (Kd.R_below (by (with_reducible repeat (first | apply Kd.R_alloc | apply Kd.R_drewN | apply Kd.R_drew)); exact HO282.out) hb)
                            have n4_ := Aside0.mk (Kd.V_below (by (with_reducible repeat (first | apply Kd.V_alloc | apply Kd.V_drewN | apply Kd.V_drew)); exact HO291.out) hb)
                            have n5_ := Aside0.mk (blk_below (g := gb241) (o := .cells #[.int .i64 a0_0, .int .i64 a0_1, .int .u64 a0_2, .slice A0_3 l0_3.length c0_3] 30 (0, 0)) (by (with_reducible repeat (first | refine blk_drewN ?_ _ | refine blk_drew ?_ | refine blk_alloc ?_ _)); exact BK241.out) hb)
                            have n6_ := Aside0.mk (blk_below (g := gb272) (o := .cells #[.int .i64 t264, .int .i64 t265, .int .u64 t266, .slice Ao97 t267.length co97] 26 (0, 0)) (by (with_reducible repeat (first | refine blk_drewN ?_ _ | refine blk_drew ?_ | refine blk_alloc ?_ _)); exact BK272.out) hb)
                            have n7_ := Aside0.mk (blk_below (g := gb285) (o := .cells #[.int .i64 t277, .int .i64 t278, .int .u64 t279, .slice Ao105 t280.length co105] 26 (0, 0)) (by (with_reducible repeat (first | refine blk_drewN ?_ _ | refine blk_drew ?_ | refine blk_alloc ?_ _)); exact BK285.out) hb)
                            have n8_ := Aside0.mk (below_step (by repeat (first | (with_reducible first | exact HB.out | apply below_alloc | apply pw_below_drewN | apply below_drew1 | refine below_set ?_ GE241.out | refine below_set ?_ GE272.out | refine below_set ?_ GE285.out) | exact HB.out)) hb)
                            clear HO_7
                            clear HO263
                            clear HO269
                            clear HO282
                            clear HO291
                            clear BK241
                            clear BK272
                            clear BK285
                            clear HB
                            have HO_7 := n0_
                            have HO263 := n1_
                            have HO269 := n2_
                            have HO282 := n3_
                            have HO291 := n4_
                            have BK241 := n5_
                            have BK272 := n6_
                            have BK285 := n7_
                            have HB := n8_
                            clear n0_ n1_ n2_ n3_ n4_ n5_ n6_ n7_ n8_
                            (try clear hb)
                            (try clear hb2)
                            (try clear hk)
                            (try clear hi)
                            refine hK.out _ _ ⟨(blk_cell BK272.out 0).trans rfl, (blk_cell BK272.out 1).trans rfl, (blk_cell BK272.out 2).trans rfl, (blk_cell BK272.out 3).trans rfl, (blk_cell BK241.out 0).trans rfl, (blk_cell BK241.out 1).trans rfl, (blk_cell BK241.out 2).trans rfl, (blk_cell BK241.out 3).trans rfl⟩ (fun hHeld => ?_)
                            clear hK K
                            refine norm_ (a' := ?_) ?_ ?_
                            rotate_left
                            · show Act.put _ (some 61) _ = _
                              simp only [Act.put, List.setIfInBounds_toArray, List.set_cons_zero, List.set_cons_succ, i64_w, i32_w]
                              rfl
                            refine pure_ (i := 4) (N := some 62) (v := ?_) (a' := ?_) #[true, true, true, true, true, false, false, false, false, false, false, false, false, false, false, false, false, false, false] rfl rfl (any_of HT_.out (by kernel_rfl)) (fun _ _ _ h => h) (Or.inl ⟨by rfl, ?_⟩) ?_ ?_
                            rotate_left
                            · intro w'
                              go_simp
                              with_reducible rfl
                            rotate_left
                            · simp only [Act.put, List.setIfInBounds_toArray, List.set_cons_zero, List.set_cons_succ, i64_w, i32_w]
                              rfl
                            refine pure_ (i := 5) (N := some 63) (v := ?_) (a' := ?_) #[true, true, true, true, true, true, false, false, false, false, false, false, false, false, false, false, false, false, false] rfl rfl (any_of HT_.out (by kernel_rfl)) (fun _ _ _ h => h) (Or.inl ⟨by rfl, ?_⟩) ?_ ?_
                            rotate_left
                            · intro w'
                              go_simp
                              with_reducible rfl
                            rotate_left
                            · simp only [Act.put, List.setIfInBounds_toArray, List.set_cons_zero, List.set_cons_succ, i64_w, i32_w]
                              rfl
                            refine pure_ (i := 6) (N := some 64) (v := ?_) (a' := ?_) #[true, true, true, true, true, true, true, false, false, false, false, false, false, false, false, false, false, false, false] rfl rfl (any_of HT_.out (by kernel_rfl)) (fun _ _ _ h => h) (Or.inl ⟨by rfl, ?_⟩) ?_ ?_
                            rotate_left
                            · intro w'
                              go_simp
                              with_reducible rfl
                            rotate_left
                            · simp only [Act.put, List.setIfInBounds_toArray, List.set_cons_zero, List.set_cons_succ, i64_w, i32_w]
                              rfl
                            refine pure_ (i := 7) (N := some 65) (v := ?_) (a' := ?_) #[true, true, true, true, true, true, true, true, false, false, false, false, false, false, false, false, false, false, false] rfl rfl (any_of HT_.out (by kernel_rfl)) (fun _ _ _ h => h) (Or.inl ⟨by rfl, ?_⟩) ?_ ?_
                            rotate_left
                            · intro w'
                              go_simp
                              with_reducible rfl
                            rotate_left
                            · simp only [Act.put, List.setIfInBounds_toArray, List.set_cons_zero, List.set_cons_succ, i64_w, i32_w]
                              rfl
                            refine pure_ (i := 8) (N := some 66) (v := ?_) (a' := ?_) #[true, true, true, true, true, true, true, true, true, false, false, false, false, false, false, false, false, false, false] rfl rfl (any_of HT_.out (by kernel_rfl)) (fun _ _ _ h => h) (Or.inl ⟨by rfl, ?_⟩) ?_ ?_
                            rotate_left
                            · intro w'
                              go_simp
                              with_reducible rfl
                            rotate_left
                            · simp only [Act.put, List.setIfInBounds_toArray, List.set_cons_zero, List.set_cons_succ, i64_w, i32_w]
                              rfl
                            refine pure_ (i := 9) (N := some 67) (v := ?_) (a' := ?_) #[true, true, true, true, true, true, true, true, true, true, false, false, false, false, false, false, false, false, false] rfl rfl (any_of HT_.out (by kernel_rfl)) (fun _ _ _ h => h) (Or.inl ⟨by rfl, ?_⟩) ?_ ?_
                            rotate_left
                            · intro w'
                              go_simp
                              with_reducible rfl
                            rotate_left
                            · simp only [Act.put, List.setIfInBounds_toArray, List.set_cons_zero, List.set_cons_succ, i64_w, i32_w]
                              rfl
                            refine pure_ (i := 10) (N := some 68) (v := ?_) (a' := ?_) #[true, true, true, true, true, true, true, true, true, true, true, false, false, false, false, false, false, false, false] rfl rfl (any_of HT_.out (by kernel_rfl)) (fun _ _ _ h => h) (Or.inl ⟨by rfl, ?_⟩) ?_ ?_
                            rotate_left
                            · intro w'
                              go_simp
                              with_reducible rfl
                            rotate_left
                            · simp only [Act.put, List.setIfInBounds_toArray, List.set_cons_zero, List.set_cons_succ, i64_w, i32_w]
                              rfl
                            refine pure_ (i := 11) (N := some 69) (v := undef) (a' := ?_) #[true, true, true, true, true, true, true, true, true, true, true, true, false, false, false, false, false, false, false] rfl rfl (any_of HT_.out (by kernel_rfl)) (fun _ _ _ h => h) (Or.inr ⟨by rfl, rfl⟩) ?_ ?_
                            rotate_left
                            · simp only [Act.put, List.setIfInBounds_toArray, List.set_cons_zero, List.set_cons_succ, i64_w, i32_w]
                              rfl
                            refine pure_ (i := 12) (N := some 70) (v := undef) (a' := ?_) #[true, true, true, true, true, true, true, true, true, true, true, true, true, false, false, false, false, false, false] rfl rfl (any_of HT_.out (by kernel_rfl)) (fun _ _ _ h => h) (Or.inr ⟨by rfl, rfl⟩) ?_ ?_
                            rotate_left
                            · simp only [Act.put, List.setIfInBounds_toArray, List.set_cons_zero, List.set_cons_succ, i64_w, i32_w]
                              rfl
                            refine pure_ (i := 13) (N := some 71) (v := ?_) (a' := ?_) #[true, true, true, true, true, true, true, true, true, true, true, true, true, true, false, false, false, false, false] rfl rfl (any_of HT_.out (by kernel_rfl)) (fun _ _ _ h => h) (Or.inl ⟨by rfl, ?_⟩) ?_ ?_
                            rotate_left
                            · intro w'
                              go_simp
                              with_reducible rfl
                            rotate_left
                            · simp only [Act.put, List.setIfInBounds_toArray, List.set_cons_zero, List.set_cons_succ, i64_w, i32_w]
                              rfl
                            refine pure_ (i := 14) (N := some 72) (v := ?_) (a' := ?_) #[true, true, true, true, true, true, true, true, true, true, true, true, true, true, true, false, false, false, false] rfl rfl (any_of HT_.out (by kernel_rfl)) (fun _ _ _ h => h) (Or.inl ⟨by rfl, ?_⟩) ?_ ?_
                            rotate_left
                            · intro w'
                              go_simp
                              with_reducible rfl
                            rotate_left
                            · simp only [Act.put, List.setIfInBounds_toArray, List.set_cons_zero, List.set_cons_succ, i64_w, i32_w]
                              rfl
                            refine pure_ (i := 15) (N := some 73) (v := undef) (a' := ?_) #[true, true, true, true, true, true, true, true, true, true, true, true, true, true, true, true, false, false, false] rfl rfl (any_of HT_.out (by kernel_rfl)) (fun _ _ _ h => h) (Or.inr ⟨by rfl, rfl⟩) ?_ ?_
                            rotate_left
                            · simp only [Act.put, List.setIfInBounds_toArray, List.set_cons_zero, List.set_cons_succ, i64_w, i32_w]
                              rfl
                            refine pure_ (i := 16) (N := some 74) (v := undef) (a' := ?_) #[true, true, true, true, true, true, true, true, true, true, true, true, true, true, true, true, true, false, false] rfl rfl (any_of HT_.out (by kernel_rfl)) (fun _ _ _ h => h) (Or.inr ⟨by rfl, rfl⟩) ?_ ?_
                            rotate_left
                            · simp only [Act.put, List.setIfInBounds_toArray, List.set_cons_zero, List.set_cons_succ, i64_w, i32_w]
                              rfl
                            refine pure_ (i := 17) (N := some 75) (v := ?_) (a' := ?_) #[true, true, true, true, true, true, true, true, true, true, true, true, true, true, true, true, true, true, false] rfl rfl (any_of HT_.out (by kernel_rfl)) (fun _ _ _ h => h) (Or.inl ⟨by rfl, ?_⟩) ?_ ?_
                            rotate_left
                            · intro w'
                              go_simp
                              with_reducible rfl
                            rotate_left
                            · simp only [Act.put, List.setIfInBounds_toArray, List.set_cons_zero, List.set_cons_succ, i64_w, i32_w]
                              rfl
                            refine pure_ (i := 18) (N := some 6) (v := ?_) (a' := ?_) #[true, true, true, true, true, true, true, true, true, true, true, true, true, true, true, true, true, true, true] rfl rfl (any_of HT_.out (by kernel_rfl)) (fun _ _ _ h => h) (Or.inl ⟨by rfl, ?_⟩) ?_ ?_
                            rotate_left
                            · intro w'
                              go_simp
                              with_reducible rfl
                            rotate_left
                            · simp only [Act.put, List.setIfInBounds_toArray, List.set_cons_zero, List.set_cons_succ, i64_w, i32_w]
                              rfl
                            refine done_ (done_of HT_.out (by kernel_rfl)) ?_
                            try go_wp2
                            go_ret
                            exact ⟨by first | rfl | (simp [errW_none, errW_some] <;> rfl) | (simp only [← hji30]; first | rfl | (simp [errW_none, errW_some] <;> rfl)) | (simp [*, errW_none, errW_some] <;> rfl), by repeat (first | (with_reducible first | exact HB.out | apply below_alloc | apply pw_below_drewN | apply below_drew1 | refine below_set ?_ GE241.out | refine below_set ?_ GE272.out | refine below_set ?_ GE285.out) | exact HB.out)⟩
                        · replace c36 := Bool.eq_false_iff.mpr c36
                          subst c36
                          have H1 : (some false) = some r := by rw [if_neg (show ¬ (false = true) by decide)] at H; exact H
                          clear H
                          have H := H1
                          clear H1
                          obtain rfl := Option.some.inj H
                          try go_wp2_with (first | ((with_reducible refine gate_dst (N := 37) rfl ?_); (try (refine gate_guard (by rfl) ?_; dsimp only)); refine Kd.R_lit (Kd.int .u8) _ 5 ?hg (N := 37) ?hd (xs := ([] : List Int)) (inner := []) (ok := fun _ => True) (okp := fun _ => True) ?hr ?hp (fun _ hk => hk) trivial (Below.refl _ _) (Nat.le_refl _) (by simp) ?_; (case hd => rfl); (case hg => rfl); (case hr => first | (go_simp; done) | (go_simp; rfl)); (case hp => exact (Reps.none _ _)); intro v256 w111 ho112 hb hg_ hnew_; clear hg_ hnew_; (first | rw [← Ny255.out] at ho112 | (simp only [Int.reduceToNat] at ho112; rw [← Ny255.out] at ho112)); have n0_ := Aside0.mk (Kd.R_elder' (by (with_reducible repeat (first | apply Kd.R_alloc | apply Kd.R_drewN | apply Kd.R_drew)); exact HO_7.out) (Kd.R_base ho112) hb); have n1_ := Aside0.mk (Kd.R_lower (Kd.R_new' ho112 (Kd.R_lt (by (with_reducible repeat (first | apply Kd.R_alloc | apply Kd.R_drewN | apply Kd.R_drew)); exact HO_7.out))) (below_size (by repeat (first | (with_reducible first | exact HB.out | apply below_alloc | apply pw_below_drewN | apply below_drew1 | refine below_set ?_ GE241.out) | exact HB.out)))); have n2_ := Aside0.mk (blk_below (g := gb241) (o := .cells #[.int .i64 a0_0, .int .i64 a0_1, .int .u64 a0_2, .slice A0_3 l0_3.length c0_3] 30 (0, 0)) (by (with_reducible repeat (first | refine blk_drewN ?_ _ | refine blk_drew ?_ | refine blk_alloc ?_ _)); exact BK241.out) hb); have n3_ := Aside0.mk (below_step (by repeat (first | (with_reducible first | exact HB.out | apply below_alloc | apply pw_below_drewN | apply below_drew1 | refine below_set ?_ GE241.out) | exact HB.out)) hb); clear HO_7; clear BK241; clear HB; have HO_7 := n0_; have HO257 := n1_; have BK241 := n2_; have HB := n3_; clear n0_ n1_ n2_ n3_; clear hb ho112; obtain ⟨Ao114, co114, eo114⟩ := Kd.R_slice HO_7.out; subst eo114) | ((with_reducible refine gate_builtin (b := .append) (xs := #[.tmp 37, .tmp 38]) rfl ?_); (try (refine gate_guard (by rfl) ?_; dsimp only)); at_builtin; refine Kd.R_append_rows (Kd.int .u8) (w0 := w) w.heap.size rfl (.tmp 37) (.tmp 38) 22 5 (.int .u8 0) 1 rfl Try.underlying22 info5 rfl (by decide) (by omega) v256 y255 t251 _ _ _ (fun k_ => some k_ ≠ (.slice Ao114 t251.length co114 : Value).ownBlock) (fun _ => False) rfl rfl ?aO ?aR (fun _ _ h => h) (fun _ h => h.elim) ?aF ?aB ?aS ?aL ?_; (case aR => repeat (first | exact (Kd.R_reads' HO_7.out).2.2 | (with_reducible refine Kd.C_alloc ?_ _) | (with_reducible refine Kd.C_drewN ?_ _) | (with_reducible refine Kd.C_drew ?_))); (case aB => exact (by repeat (first | (with_reducible first | exact HB.out | apply below_alloc | apply pw_below_drewN | apply below_drew1 | refine below_set ?_ GE241.out) | exact HB.out))); (case aF => exact (fun k_ hk => Kd.fresh' (Kd.R_lt (by (with_reducible repeat (first | apply Kd.R_alloc | apply Kd.R_drewN | apply Kd.R_drew)); exact HO_7.out)) k_ hk)); (case aO => exact (by (with_reducible repeat (first | apply Kd.R_alloc | apply Kd.R_drewN | apply Kd.R_drew)); exact Kd.R_mono HO257.out (fun _ hk => hk.2))); (case aS => exact (below_size (by repeat (first | (with_reducible first | exact HB.out | apply below_alloc | apply pw_below_drewN | apply below_drew1 | refine below_set ?_ GE241.out) | exact HB.out)))); (case aL => have := LMc26.out; omega); intro v259 w113 ho hb hg hat; rw [← Ny258.out] at ho; have n0_ := Aside0.mk (Kd.R_after (ok := (fun _ => True)) (by (with_reducible repeat (first | apply Kd.R_alloc | apply Kd.R_drewN | apply Kd.R_drew)); exact HO_7.out) hg hat); have n1_ := Aside0.mk (blk_grown (g := gb241) (o := .cells #[.int .i64 a0_0, .int .i64 a0_1, .int .u64 a0_2, .slice A0_3 l0_3.length c0_3] 30 (0, 0)) (by (with_reducible repeat (first | refine blk_drewN ?_ _ | refine blk_drew ?_ | refine blk_alloc ?_ _)); exact BK241.out) hg (Kd.R_ne HO257.out BK241.out (by decide))); have n2_ := Aside0.mk (hb); have n3_ := Aside0.mk (ho); clear HO_7; clear BK241; clear HB; clear HO257; have HO_7 := n0_; have BK241 := n1_; have HB := n2_; have HO260 := n3_; clear n0_ n1_ n2_ n3_; clear ho hb hg hat) | ((with_reducible refine gate_builtin (b := .append) (xs := #[.tmp 39, .tmp 40]) rfl ?_); (try (refine gate_guard (by rfl) ?_; dsimp only)); at_builtin; refine Kd.R_append_rows (Kd.int .u8) (w0 := w) w.heap.size rfl (.tmp 39) (.tmp 40) 22 5 (.int .u8 0) 1 rfl Try.underlying22 info5 rfl (by decide) (by omega) v259 y258 l1 _ _ _ (fun k_ => some k_ ≠ (.slice Ao114 t251.length co114 : Value).ownBlock) (fun _ => False) rfl rfl ?aO ?aR (fun _ _ h => h) (fun _ h => h.elim) ?aF ?aB ?aS ?aL ?_; (case aR => repeat (first | exact (Kd.C_below HR1.out HB.out) | (with_reducible refine Kd.C_alloc ?_ _) | (with_reducible refine Kd.C_drewN ?_ _) | (with_reducible refine Kd.C_drew ?_))); (case aB => exact (by repeat (first | (with_reducible first | exact HB.out | apply below_alloc | apply pw_below_drewN | apply below_drew1 | refine below_set ?_ GE241.out) | exact HB.out))); (case aF => exact (fun k_ hk => Kd.fresh' (Kd.R_lt (by (with_reducible repeat (first | apply Kd.R_alloc | apply Kd.R_drewN | apply Kd.R_drew)); exact HO_7.out)) k_ hk)); (case aO => exact (by (with_reducible repeat (first | apply Kd.R_alloc | apply Kd.R_drewN | apply Kd.R_drew)); exact HO260.out)); (case aS => exact (below_size (by repeat (first | (with_reducible first | exact HB.out | apply below_alloc | apply pw_below_drewN | apply below_drew1 | refine below_set ?_ GE241.out) | exact HB.out)))); (case aL => have := LMc27.out; omega); intro v262 w115 ho hb hg hat; rw [← Ny261.out] at ho; have n0_ := Aside0.mk (Kd.R_after (ok := (fun _ => True)) (by (with_reducible repeat (first | apply Kd.R_alloc | apply Kd.R_drewN | apply Kd.R_drew)); exact HO_7.out) hg hat); have n1_ := Aside0.mk (blk_grown (g := gb241) (o := .cells #[.int .i64 a0_0, .int .i64 a0_1, .int .u64 a0_2, .slice A0_3 l0_3.length c0_3] 30 (0, 0)) (by (with_reducible repeat (first | refine blk_drewN ?_ _ | refine blk_drew ?_ | refine blk_alloc ?_ _)); exact BK241.out) hg (Kd.R_ne HO260.out BK241.out (by decide))); have n2_ := Aside0.mk (hb); have n3_ := Aside0.mk (ho); clear HO_7; clear BK241; clear HB; clear HO260; have HO_7 := n0_; have BK241 := n1_; have HB := n2_; have HO263 := n3_; clear n0_ n1_ n2_ n3_; clear ho hb hg hat; obtain ⟨Ao116, co116, eo116⟩ := Kd.R_slice HO263.out; subst eo116) | ((with_reducible refine gate_callee (f := 8) rfl ?_); refine goesL_ (some 42) rfl rfl Try.func8 (by kernel_rfl) rfl #[.slice Ao116 y261.length co116] rfl (by (try simp only [List.map_toArray, List.map_cons, List.map_nil]); first | done | rfl | (simp only [List.length_drop, List.length_take]; rfl)) ?_; (with_reducible refine (wire_Take.calls kj17 _ _ y261 t264 t265 t266 t267 t270 t271 _ ?side1 ?side2 A28.out).mono ?_); (case side1 => repeat (first | exact (Kd.R_reads' HO263.out).2.2 | (with_reducible refine Kd.C_alloc ?_ _) | (with_reducible refine Kd.C_drewN ?_ _) | (with_reducible refine Kd.C_drew ?_))); (case side2 => exact (Kd.R_reads' HO263.out).2.1); rintro e w117 ⟨v268, rfl, ho0, hb⟩; refine ⟨_, rfl, ?_⟩; have n0_ := Aside0.mk (Kd.R_elder' (by (with_reducible repeat (first | apply Kd.R_alloc | apply Kd.R_drewN | apply Kd.R_drew)); exact HO_7.out) (Kd.R_base ho0) hb); have n1_ := Aside0.mk (Kd.R_elder' (by (with_reducible repeat (first | apply Kd.R_alloc | apply Kd.R_drewN | apply Kd.R_drew)); exact HO263.out) (Kd.R_base ho0) hb); have n2_ := Aside0.mk (Kd.R_lower (Kd.R_new' (Kd.R_new' ho0 (Kd.R_lt (by (with_reducible repeat (first | apply Kd.R_alloc | apply Kd.R_drewN | apply Kd.R_drew)); exact HO_7.out))) (Kd.R_lt (by (with_reducible repeat (first | apply Kd.R_alloc | apply Kd.R_drewN | apply Kd.R_drew)); exact HO263.out))) (below_size (by repeat (first | (with_reducible first | exact HB.out | apply below_alloc | apply pw_below_drewN | apply below_drew1 | refine below_set ?_ GE241.out) | exact HB.out)))); have n3_ := Aside0.mk (blk_below (g := gb241) (o := .cells #[.int .i64 a0_0, .int .i64 a0_1, .int .u64 a0_2, .slice A0_3 l0_3.length c0_3] 30 (0, 0)) (by (with_reducible repeat (first | refine blk_drewN ?_ _ | refine blk_drew ?_ | refine blk_alloc ?_ _)); exact BK241.out) hb); have n4_ := Aside0.mk (below_step (by repeat (first | (with_reducible first | exact HB.out | apply below_alloc | apply pw_below_drewN | apply below_drew1 | refine below_set ?_ GE241.out) | exact HB.out)) hb); clear HO_7; clear HO263; clear BK241; clear HB; have HO_7 := n0_; have HO263 := n1_; have HO269 := n2_; have BK241 := n3_; have HB := n4_; clear n0_ n1_ n2_ n3_ n4_; (try clear hb); (try clear hb2); (try clear hk); (try clear hi); (try clear ho0)) | ((with_reducible refine gate_dst (N := 9) rfl ?_); (try (refine gate_guard (by rfl) ?_; dsimp only)); refine box_event ?hg (N := 9) ?hd (cs := #[.int .i64 0, .int .i64 0, .int .u64 0, .slice none 0 0]) (t := 26) ?hr ?_; (case hd => rfl); (case hg => rfl); (case hr => first | (go_simp; done) | (go_simp; rfl)); intro gb272 hg w118 hbox hb; have n0_ := Aside0.mk (Kd.R_below (by (with_reducible repeat (first | apply Kd.R_alloc | apply Kd.R_drewN | apply Kd.R_drew)); exact HO_7.out) hb); have n1_ := Aside0.mk (Kd.R_below (by (with_reducible repeat (first | apply Kd.R_alloc | apply Kd.R_drewN | apply Kd.R_drew)); exact HO263.out) hb); have n2_ := Aside0.mk (Kd.R_below (by (with_reducible repeat (first | apply Kd.R_alloc | apply Kd.R_drewN | apply Kd.R_drew)); exact HO269.out) hb); have n3_ := Aside0.mk (blk_below (g := gb241) (o := .cells #[.int .i64 a0_0, .int .i64 a0_1, .int .u64 a0_2, .slice A0_3 l0_3.length c0_3] 30 (0, 0)) (by (with_reducible repeat (first | refine blk_drewN ?_ _ | refine blk_drew ?_ | refine blk_alloc ?_ _)); exact BK241.out) hb); have n4_ := Aside0.mk (below_step (by repeat (first | (with_reducible first | exact HB.out | apply below_alloc | apply pw_below_drewN | apply below_drew1 | refine below_set ?_ GE241.out) | exact HB.out)) hb); have n5_ := Aside0.mk (hbox); have n6_ := Aside0.mk ((by rw [hg]; exact (below_size (by repeat (first | (with_reducible first | exact HB.out | apply below_alloc | apply pw_below_drewN | apply below_drew1 | refine below_set ?_ GE241.out) | exact HB.out))) : w.heap.size ≤ gb272)); have n7_ := Aside0.mk ((by rw [hg]; exact (below_size (by repeat (first | (with_reducible first | exact HB.out | apply below_alloc | apply pw_below_drewN | apply below_drew1 | refine below_set ?_ GE241.out) | exact HB.out))) : w.heap.size ≤ gb272)); have n8_ := Aside0.mk ((by rw [hg]; exact Nat.ne_of_lt (blk_lt (g := gb241) (o := .cells #[.int .i64 a0_0, .int .i64 a0_1, .int .u64 a0_2, .slice A0_3 l0_3.length c0_3] 30 (0, 0)) (by (with_reducible repeat (first | refine blk_drewN ?_ _ | refine blk_drew ?_ | refine blk_alloc ?_ _)); exact BK241.out)) : gb241 ≠ gb272)); have n9_ := Aside0.mk ((by rw [hg]; exact Nat.ne_of_gt (blk_lt (g := gb241) (o := .cells #[.int .i64 a0_0, .int .i64 a0_1, .int .u64 a0_2, .slice A0_3 l0_3.length c0_3] 30 (0, 0)) (by (with_reducible repeat (first | refine blk_drewN ?_ _ | refine blk_drew ?_ | refine blk_alloc ?_ _)); exact BK241.out)) : gb272 ≠ gb241)); clear HO_7; clear HO263; clear HO269; clear BK241; clear HB; have HO_7 := n0_; have HO263 := n1_; have HO269 := n2_; have BK241 := n3_; have HB := n4_; have BK272 := n5_; have GW272 := n6_; have GE272 := n7_; have NB241_272 := n8_; have NB272_241 := n9_; clear n0_ n1_ n2_ n3_ n4_ n5_ n6_ n7_ n8_ n9_; clear hb hbox hg; have hnb119 := NB272_241.out; have hnc119 := NB241_272.out; have hcz120_0 : w118.cell? ⟨gb272, 0, none⟩ = some (.int .i64 0) := (blk_cell BK272.out 0).trans rfl; have hcz120_1 : w118.cell? ⟨gb272, 1, none⟩ = some (.int .i64 0) := (blk_cell BK272.out 1).trans rfl; have hcz120_2 : w118.cell? ⟨gb272, 2, none⟩ = some (.int .u64 0) := (blk_cell BK272.out 2).trans rfl; have hcz120_3 : w118.cell? ⟨gb272, 3, none⟩ = some (.slice none 0 0) := (blk_cell BK272.out 3).trans rfl; have hfz120_0 := blk_frozen BK272.out 0; have hfz120_1 := blk_frozen BK272.out 1; have hfz120_2 := blk_frozen BK272.out 2; have hfz120_3 := blk_frozen BK272.out 3; obtain ⟨Ao121, co121, eo121⟩ := Kd.R_slice HO269.out; subst eo121) | ((with_reducible refine gate_store (t := 26) (p := 9) rfl ?_); refine store_event (t := 26) (p := 9) (v := ?vo_w122) (w1 := ((((w118.setCell ⟨gb272, 0, none⟩ (.int .i64 t264)).setCell ⟨gb272, 1, none⟩ (.int .i64 t265)).setCell ⟨gb272, 2, none⟩ (.int .u64 t266)).setCell ⟨gb272, 3, none⟩ (.slice Ao121 t267.length co121))) ?hg ?ho ?hn ?hr ?_; (case ho => rfl); (case hg => rfl); (case hn => rfl); (case hr => first | (go_simp; done) | (go_simp; rfl)); intro w122 hw; have n0_ : Aside0 (Kd.R (Kd.int .u8) 5 w122 w.heap.size (fun k_ => some k_ ≠ (.slice Ao116 y261.length co116 : Value).ownBlock ∧ some k_ ≠ (.slice Ao121 t267.length co121 : Value).ownBlock) (.slice Ao114 t251.length co114) t251) := ⟨(by rw [hw]; exact (by (with_reducible repeat (first | apply Kd.R_alloc | apply Kd.R_drewN | apply Kd.R_drew)); exact Kd.R_mono (Kd.R_far (p := ⟨gb272, 3, none⟩) (Kd.R_far (p := ⟨gb272, 2, none⟩) (Kd.R_far (p := ⟨gb272, 1, none⟩) (Kd.R_far (p := ⟨gb272, 0, none⟩) (Kd.R_types HO_7.out BK272.out (by decide)) (fun _ hk => hk.2) (.int .i64 t264)) (fun _ hk => hk.2) (.int .i64 t265)) (fun _ hk => hk.2) (.int .u64 t266)) (fun _ hk => hk.2) (.slice Ao121 t267.length co121)) (fun _ hk => ⟨hk.1.1.2, hk.1.2⟩)))⟩; have n1_ : Aside0 (Kd.R (Kd.int .u8) 5 w122 w.heap.size (fun k_ => some k_ ≠ (.slice Ao114 t251.length co114 : Value).ownBlock ∧ some k_ ≠ (.slice Ao121 t267.length co121 : Value).ownBlock) (.slice Ao116 y261.length co116) y261) := ⟨(by rw [hw]; exact (by (with_reducible repeat (first | apply Kd.R_alloc | apply Kd.R_drewN | apply Kd.R_drew)); exact Kd.R_mono (Kd.R_far (p := ⟨gb272, 3, none⟩) (Kd.R_far (p := ⟨gb272, 2, none⟩) (Kd.R_far (p := ⟨gb272, 1, none⟩) (Kd.R_far (p := ⟨gb272, 0, none⟩) (Kd.R_types HO263.out BK272.out (by decide)) (fun _ hk => hk.2) (.int .i64 t264)) (fun _ hk => hk.2) (.int .i64 t265)) (fun _ hk => hk.2) (.int .u64 t266)) (fun _ hk => hk.2) (.slice Ao121 t267.length co121)) (fun _ hk => ⟨hk.1.1, hk.1.2⟩)))⟩; have n2_ : Aside0 (Kd.R (Kd.int .u8) 5 w122 w.heap.size (fun k_ => some k_ ≠ (.slice Ao114 t251.length co114 : Value).ownBlock ∧ some k_ ≠ (.slice Ao116 y261.length co116 : Value).ownBlock) (.slice Ao121 t267.length co121) t267) := ⟨(by rw [hw]; exact (by (with_reducible repeat (first | apply Kd.R_alloc | apply Kd.R_drewN | apply Kd.R_drew)); exact Kd.R_mono (Kd.R_far (p := ⟨gb272, 3, none⟩) (Kd.R_far (p := ⟨gb272, 2, none⟩) (Kd.R_far (p := ⟨gb272, 1, none⟩) (Kd.R_far (p := ⟨gb272, 0, none⟩) (Kd.R_types HO269.out BK272.out (by decide)) (fun _ hk => hk.2) (.int .i64 t264)) (fun _ hk => hk.2) (.int .i64 t265)) (fun _ hk => hk.2) (.int .u64 t266)) (fun _ hk => hk.2) (.slice Ao121 t267.length co121)) (fun _ hk => ⟨hk.1.1.2, hk.1.2⟩)))⟩; have n3_ : Aside0 (w122.heap[gb241]? = some (.cells #[.int .i64 a0_0, .int .i64 a0_1, .int .u64 a0_2, .slice A0_3 l0_3.length c0_3] 30 (0, 0))) := ⟨(by rw [hw]; exact (by (with_reducible repeat (first | refine blk_drewN ?_ _ | refine blk_drew ?_ | refine blk_alloc ?_ _)); refine blk_far ?_ NB241_272.out _; (with_reducible repeat (first | refine blk_drewN ?_ _ | refine blk_drew ?_ | refine blk_alloc ?_ _)); refine blk_far ?_ NB241_272.out _; (with_reducible repeat (first | refine blk_drewN ?_ _ | refine blk_drew ?_ | refine blk_alloc ?_ _)); refine blk_far ?_ NB241_272.out _; (with_reducible repeat (first | refine blk_drewN ?_ _ | refine blk_drew ?_ | refine blk_alloc ?_ _)); refine blk_far ?_ NB241_272.out _; (with_reducible repeat (first | refine blk_drewN ?_ _ | refine blk_drew ?_ | refine blk_alloc ?_ _)); exact BK241.out))⟩; have n4_ : Aside0 (w122.heap[gb272]? = some (.cells #[.int .i64 t264, .int .i64 t265, .int .u64 t266, .slice Ao121 t267.length co121] 26 (0, 0))) := ⟨(by rw [hw]; exact (by (with_reducible repeat (first | refine blk_drewN ?_ _ | refine blk_drew ?_ | refine blk_alloc ?_ _)); refine blk_put (cs := #[.int .i64 t264, .int .i64 t265, .int .u64 t266, .slice none 0 0]) ?_ 3 _ rfl; (with_reducible repeat (first | refine blk_drewN ?_ _ | refine blk_drew ?_ | refine blk_alloc ?_ _)); refine blk_put (cs := #[.int .i64 t264, .int .i64 t265, .int .u64 0, .slice none 0 0]) ?_ 2 _ rfl; (with_reducible repeat (first | refine blk_drewN ?_ _ | refine blk_drew ?_ | refine blk_alloc ?_ _)); refine blk_put (cs := #[.int .i64 t264, .int .i64 0, .int .u64 0, .slice none 0 0]) ?_ 1 _ rfl; (with_reducible repeat (first | refine blk_drewN ?_ _ | refine blk_drew ?_ | refine blk_alloc ?_ _)); refine blk_put (cs := #[.int .i64 0, .int .i64 0, .int .u64 0, .slice none 0 0]) ?_ 0 _ rfl; (with_reducible repeat (first | refine blk_drewN ?_ _ | refine blk_drew ?_ | refine blk_alloc ?_ _)); exact BK272.out))⟩; have n5_ : Aside0 (Below w.heap.size w w122) := ⟨(by rw [hw]; exact (by repeat (first | (with_reducible first | exact HB.out | apply below_alloc | apply pw_below_drewN | apply below_drew1 | refine below_set ?_ GE241.out | refine below_set ?_ GE272.out) | exact HB.out)))⟩; clear hw; clear HO_7; clear HO263; clear HO269; clear BK241; clear BK272; clear HB; have HO_7 := n0_; have HO263 := n1_; have HO269 := n2_; have BK241 := n3_; have BK272 := n4_; have HB := n5_; clear n0_ n1_ n2_ n3_ n4_ n5_; have q123 : ((ji30) : Int) ≤ ((t251.length : Int) : Int) := of_decide_eq_true (by first | (with_reducible assumption) | assumption); obtain ⟨i0123, hi0123, _, hsz123, _⟩ := info_parts info5; have hroom123 : t251.length ≤ co114 := (Kd.R_reads' HO_7.out).2.1; have hC123 : Kd.C (Kd.int .u8) _ Ao114 t251.length t251 := (Kd.R_reads' HO_7.out).2.2; have hcut123 := cut_to (P := Try.prog) 22 5 .u64 Try.underlying22 hi0123 Ao114 t251.length co114 (ji30) (of_decide_eq_true (by first | (with_reducible assumption) | assumption)) q123 hroom123; have hr123 := Kd.C_take (m := ((ji30) : Int).toNat) hC123 (by omega); have hy123 : y273.length = ((ji30) : Int).toNat := (by rw [Ny273.out, List.length_take]; omega); rw [← Ny273.out] at hr123; rw [← hy123] at hcut123; have HR276 := Aside0.mk hr123; have HC276 := Aside0.mk (show y273.length ≤ co114 from by omega); clear hr123 hC123 hroom123 hi0123 hsz123; have KY123 := Aside0.mk hy123; clear hy123; have KL123 := Aside0.mk (show ((ji30) : Int).toNat ≤ t251.length from by omega); replace q123 := eq_true q123) | ((with_reducible refine gate_callee (f := 8) rfl ?_); refine goesL_ (some 54) rfl rfl Try.func8 (by kernel_rfl) rfl #[.slice Ao114 y273.length co114] rfl (by (try simp only [List.map_toArray, List.map_cons, List.map_nil]); first | done | rfl | (simp only [List.length_drop, List.length_take]; rfl)) ?_; (with_reducible refine (wire_Take.calls kj17 _ _ y273 t277 t278 t279 t280 t283 t284 _ ?side1 ?side2 A33.out).mono ?_); (case side1 => repeat (first | exact (by repeat (first | (with_reducible exact HR276.out) | (with_reducible refine Kd.C_alloc ?_ _) | (with_reducible refine Kd.C_drewN ?_ _) | (with_reducible refine Kd.C_drew ?_) | exact HR276.out)) | (with_reducible refine Kd.C_alloc ?_ _) | (with_reducible refine Kd.C_drewN ?_ _) | (with_reducible refine Kd.C_drew ?_))); (case side2 => exact HC276.out); rintro e w124 ⟨v281, rfl, ho0, hb⟩; refine ⟨_, rfl, ?_⟩; have n0_ := Aside0.mk (Kd.R_elder' (by (with_reducible repeat (first | apply Kd.R_alloc | apply Kd.R_drewN | apply Kd.R_drew)); exact HO_7.out) (Kd.R_base ho0) hb); have n1_ := Aside0.mk (Kd.R_elder' (by (with_reducible repeat (first | apply Kd.R_alloc | apply Kd.R_drewN | apply Kd.R_drew)); exact HO263.out) (Kd.R_base ho0) hb); have n2_ := Aside0.mk (Kd.R_elder' (by (with_reducible repeat (first | apply Kd.R_alloc | apply Kd.R_drewN | apply Kd.R_drew)); exact HO269.out) (Kd.R_base ho0) hb); have n3_ := Aside0.mk (Kd.R_lower (Kd.R_new' (Kd.R_new' (Kd.R_new' ho0 (Kd.R_lt (by (with_reducible repeat (first | apply Kd.R_alloc | apply Kd.R_drewN | apply Kd.R_drew)); exact HO_7.out))) (Kd.R_lt (by (with_reducible repeat (first | apply Kd.R_alloc | apply Kd.R_drewN | apply Kd.R_drew)); exact HO263.out))) (Kd.R_lt (by (with_reducible repeat (first | apply Kd.R_alloc | apply Kd.R_drewN | apply Kd.R_drew)); exact HO269.out))) (below_size (by repeat (first | (with_reducible first | exact HB.out | apply below_alloc | apply pw_below_drewN | apply below_drew1 | refine below_set ?_ GE241.out | refine below_set ?_ GE272.out) | exact HB.out)))); have n4_ := Aside0.mk (blk_below (g := gb241) (o := .cells #[.int .i64 a0_0, .int .i64 a0_1, .int .u64 a0_2, .slice A0_3 l0_3.length c0_3] 30 (0, 0)) (by (with_reducible repeat (first | refine blk_drewN ?_ _ | refine blk_drew ?_ | refine blk_alloc ?_ _)); exact BK241.out) hb); have n5_ := Aside0.mk (blk_below (g := gb272) (o := .cells #[.int .i64 t264, .int .i64 t265, .int .u64 t266, .slice Ao121 t267.length co121] 26 (0, 0)) (by (with_reducible repeat (first | refine blk_drewN ?_ _ | refine blk_drew ?_ | refine blk_alloc ?_ _)); exact BK272.out) hb); have n6_ := Aside0.mk (Kd.C_below (by repeat (first | (with_reducible exact HR276.out) | (with_reducible refine Kd.C_alloc ?_ _) | (with_reducible refine Kd.C_drewN ?_ _) | (with_reducible refine Kd.C_drew ?_) | exact HR276.out)) hb); have n7_ := Aside0.mk (below_step (by repeat (first | (with_reducible first | exact HB.out | apply below_alloc | apply pw_below_drewN | apply below_drew1 | refine below_set ?_ GE241.out | refine below_set ?_ GE272.out) | exact HB.out)) hb); clear HO_7; clear HO263; clear HO269; clear BK241; clear BK272; clear HR276; clear HB; have HO_7 := n0_; have HO263 := n1_; have HO269 := n2_; have HO282 := n3_; have BK241 := n4_; have BK272 := n5_; have HR276 := n6_; have HB := n7_; clear n0_ n1_ n2_ n3_ n4_ n5_ n6_ n7_; (try clear hb); (try clear hb2); (try clear hk); (try clear hi); (try clear ho0)) | ((with_reducible refine gate_dst (N := 12) rfl ?_); (try (refine gate_guard (by rfl) ?_; dsimp only)); refine box_event ?hg (N := 12) ?hd (cs := #[.int .i64 0, .int .i64 0, .int .u64 0, .slice none 0 0]) (t := 26) ?hr ?_; (case hd => rfl); (case hg => rfl); (case hr => first | (go_simp; done) | (go_simp; rfl)); intro gb285 hg w125 hbox hb; have n0_ := Aside0.mk (Kd.R_below (by (with_reducible repeat (first | apply Kd.R_alloc | apply Kd.R_drewN | apply Kd.R_drew)); exact HO_7.out) hb); have n1_ := Aside0.mk (Kd.R_below (by (with_reducible repeat (first | apply Kd.R_alloc | apply Kd.R_drewN | apply Kd.R_drew)); exact HO263.out) hb); have n2_ := Aside0.mk (Kd.R_below (by (with_reducible repeat (first | apply Kd.R_alloc | apply Kd.R_drewN | apply Kd.R_drew)); exact HO269.out) hb); have n3_ := Aside0.mk (Kd.R_below (by (with_reducible repeat (first | apply Kd.R_alloc | apply Kd.R_drewN | apply Kd.R_drew)); exact HO282.out) hb); have n4_ := Aside0.mk (blk_below (g := gb241) (o := .cells #[.int .i64 a0_0, .int .i64 a0_1, .int .u64 a0_2, .slice A0_3 l0_3.length c0_3] 30 (0, 0)) (by (with_reducible repeat (first | refine blk_drewN ?_ _ | refine blk_drew ?_ | refine blk_alloc ?_ _)); exact BK241.out) hb); have n5_ := Aside0.mk (blk_below (g := gb272) (o := .cells #[.int .i64 t264, .int .i64 t265, .int .u64 t266, .slice Ao121 t267.length co121] 26 (0, 0)) (by (with_reducible repeat (first | refine blk_drewN ?_ _ | refine blk_drew ?_ | refine blk_alloc ?_ _)); exact BK272.out) hb); have n6_ := Aside0.mk (Kd.C_below (by repeat (first | (with_reducible exact HR276.out) | (with_reducible refine Kd.C_alloc ?_ _) | (with_reducible refine Kd.C_drewN ?_ _) | (with_reducible refine Kd.C_drew ?_) | exact HR276.out)) hb); have n7_ := Aside0.mk (below_step (by repeat (first | (with_reducible first | exact HB.out | apply below_alloc | apply pw_below_drewN | apply below_drew1 | refine below_set ?_ GE241.out | refine below_set ?_ GE272.out) | exact HB.out)) hb); have n8_ := Aside0.mk (hbox); have n9_ := Aside0.mk ((by rw [hg]; exact (below_size (by repeat (first | (with_reducible first | exact HB.out | apply below_alloc | apply pw_below_drewN | apply below_drew1 | refine below_set ?_ GE241.out | refine below_set ?_ GE272.out) | exact HB.out))) : w.heap.size ≤ gb285)); have n10_ := Aside0.mk ((by rw [hg]; exact (below_size (by repeat (first | (with_reducible first | exact HB.out | apply below_alloc | apply pw_below_drewN | apply below_drew1 | refine below_set ?_ GE241.out | refine below_set ?_ GE272.out) | exact HB.out))) : w.heap.size ≤ gb285)); have n11_ := Aside0.mk ((by rw [hg]; exact Nat.ne_of_lt (blk_lt (g := gb241) (o := .cells #[.int .i64 a0_0, .int .i64 a0_1, .int .u64 a0_2, .slice A0_3 l0_3.length c0_3] 30 (0, 0)) (by (with_reducible repeat (first | refine blk_drewN ?_ _ | refine blk_drew ?_ | refine blk_alloc ?_ _)); exact BK241.out)) : gb241 ≠ gb285)); have n12_ := Aside0.mk ((by rw [hg]; exact Nat.ne_of_gt (blk_lt (g := gb241) (o := .cells #[.int .i64 a0_0, .int .i64 a0_1, .int .u64 a0_2, .slice A0_3 l0_3.length c0_3] 30 (0, 0)) (by (with_reducible repeat (first | refine blk_drewN ?_ _ | refine blk_drew ?_ | refine blk_alloc ?_ _)); exact BK241.out)) : gb285 ≠ gb241)); have n13_ := Aside0.mk ((by rw [hg]; exact Nat.ne_of_lt (blk_lt (g := gb272) (o := .cells #[.int .i64 t264, .int .i64 t265, .int .u64 t266, .slice Ao121 t267.length co121] 26 (0, 0)) (by (with_reducible repeat (first | refine blk_drewN ?_ _ | refine blk_drew ?_ | refine blk_alloc ?_ _)); exact BK272.out)) : gb272 ≠ gb285)); have n14_ := Aside0.mk ((by rw [hg]; exact Nat.ne_of_gt (blk_lt (g := gb272) (o := .cells #[.int .i64 t264, .int .i64 t265, .int .u64 t266, .slice Ao121 t267.length co121] 26 (0, 0)) (by (with_reducible repeat (first | refine blk_drewN ?_ _ | refine blk_drew ?_ | refine blk_alloc ?_ _)); exact BK272.out)) : gb285 ≠ gb272)); clear HO_7; clear HO263; clear HO269; clear HO282; clear BK241; clear BK272; clear HR276; clear HB; have HO_7 := n0_; have HO263 := n1_; have HO269 := n2_; have HO282 := n3_; have BK241 := n4_; have BK272 := n5_; have HR276 := n6_; have HB := n7_; have BK285 := n8_; have GW285 := n9_; have GE285 := n10_; have NB241_285 := n11_; have NB285_241 := n12_; have NB272_285 := n13_; have NB285_272 := n14_; clear n0_ n1_ n2_ n3_ n4_ n5_ n6_ n7_ n8_ n9_ n10_ n11_ n12_ n13_ n14_; clear hb hbox hg; have hnb126 := NB285_241.out; have hnc126 := NB241_285.out; have hnb127 := NB285_272.out; have hnc127 := NB272_285.out; have hcz128_0 : w125.cell? ⟨gb285, 0, none⟩ = some (.int .i64 0) := (blk_cell BK285.out 0).trans rfl; have hcz128_1 : w125.cell? ⟨gb285, 1, none⟩ = some (.int .i64 0) := (blk_cell BK285.out 1).trans rfl; have hcz128_2 : w125.cell? ⟨gb285, 2, none⟩ = some (.int .u64 0) := (blk_cell BK285.out 2).trans rfl; have hcz128_3 : w125.cell? ⟨gb285, 3, none⟩ = some (.slice none 0 0) := (blk_cell BK285.out 3).trans rfl; have hfz128_0 := blk_frozen BK285.out 0; have hfz128_1 := blk_frozen BK285.out 1; have hfz128_2 := blk_frozen BK285.out 2; have hfz128_3 := blk_frozen BK285.out 3; obtain ⟨Ao129, co129, eo129⟩ := Kd.R_slice HO282.out; subst eo129))
                          have n0_ : Aside0 (Kd.R (Kd.int .u8) 5 ((((w125.setCell ⟨gb285, 0, none⟩ (.int .i64 t277)).setCell ⟨gb285, 1, none⟩ (.int .i64 t278)).setCell ⟨gb285, 2, none⟩ (.int .u64 t279)).setCell ⟨gb285, 3, none⟩ (.slice Ao129 t280.length co129)) w.heap.size (fun k_ => some k_ ≠ (.slice Ao116 y261.length co116 : Value).ownBlock ∧ some k_ ≠ (.slice Ao121 t267.length co121 : Value).ownBlock ∧ some k_ ≠ (.slice Ao129 t280.length co129 : Value).ownBlock) (.slice Ao114 t251.length co114) t251) := ⟨by (with_reducible repeat (first | apply Kd.R_alloc | apply Kd.R_drewN | apply Kd.R_drew)); exact Kd.R_mono (Kd.R_far (p := ⟨gb285, 3, none⟩) (Kd.R_far (p := ⟨gb285, 2, none⟩) (Kd.R_far (p := ⟨gb285, 1, none⟩) (Kd.R_far (p := ⟨gb285, 0, none⟩) (Kd.R_types HO_7.out BK285.out (by decide)) (fun _ hk => hk.2) (.int .i64 t277)) (fun _ hk => hk.2) (.int .i64 t278)) (fun _ hk => hk.2) (.int .u64 t279)) (fun _ hk => hk.2) (.slice Ao129 t280.length co129)) (fun _ hk => ⟨hk.1.1.1, ⟨hk.1.1.2, hk.1.2⟩⟩)⟩
                          have n1_ : Aside0 (Kd.R (Kd.int .u8) 5 ((((w125.setCell ⟨gb285, 0, none⟩ (.int .i64 t277)).setCell ⟨gb285, 1, none⟩ (.int .i64 t278)).setCell ⟨gb285, 2, none⟩ (.int .u64 t279)).setCell ⟨gb285, 3, none⟩ (.slice Ao129 t280.length co129)) w.heap.size (fun k_ => some k_ ≠ (.slice Ao114 t251.length co114 : Value).ownBlock ∧ some k_ ≠ (.slice Ao121 t267.length co121 : Value).ownBlock ∧ some k_ ≠ (.slice Ao129 t280.length co129 : Value).ownBlock) (.slice Ao116 y261.length co116) y261) := ⟨by (with_reducible repeat (first | apply Kd.R_alloc | apply Kd.R_drewN | apply Kd.R_drew)); exact Kd.R_mono (Kd.R_far (p := ⟨gb285, 3, none⟩) (Kd.R_far (p := ⟨gb285, 2, none⟩) (Kd.R_far (p := ⟨gb285, 1, none⟩) (Kd.R_far (p := ⟨gb285, 0, none⟩) (Kd.R_types HO263.out BK285.out (by decide)) (fun _ hk => hk.2) (.int .i64 t277)) (fun _ hk => hk.2) (.int .i64 t278)) (fun _ hk => hk.2) (.int .u64 t279)) (fun _ hk => hk.2) (.slice Ao129 t280.length co129)) (fun _ hk => ⟨hk.1.1.1, ⟨hk.1.1.2, hk.1.2⟩⟩)⟩
                          have n2_ : Aside0 (Kd.R (Kd.int .u8) 5 ((((w125.setCell ⟨gb285, 0, none⟩ (.int .i64 t277)).setCell ⟨gb285, 1, none⟩ (.int .i64 t278)).setCell ⟨gb285, 2, none⟩ (.int .u64 t279)).setCell ⟨gb285, 3, none⟩ (.slice Ao129 t280.length co129)) w.heap.size (fun k_ => some k_ ≠ (.slice Ao114 t251.length co114 : Value).ownBlock ∧ some k_ ≠ (.slice Ao116 y261.length co116 : Value).ownBlock ∧ some k_ ≠ (.slice Ao129 t280.length co129 : Value).ownBlock) (.slice Ao121 t267.length co121) t267) := ⟨by (with_reducible repeat (first | apply Kd.R_alloc | apply Kd.R_drewN | apply Kd.R_drew)); exact Kd.R_mono (Kd.R_far (p := ⟨gb285, 3, none⟩) (Kd.R_far (p := ⟨gb285, 2, none⟩) (Kd.R_far (p := ⟨gb285, 1, none⟩) (Kd.R_far (p := ⟨gb285, 0, none⟩) (Kd.R_types HO269.out BK285.out (by decide)) (fun _ hk => hk.2) (.int .i64 t277)) (fun _ hk => hk.2) (.int .i64 t278)) (fun _ hk => hk.2) (.int .u64 t279)) (fun _ hk => hk.2) (.slice Ao129 t280.length co129)) (fun _ hk => ⟨hk.1.1.1, ⟨hk.1.1.2, hk.1.2⟩⟩)⟩
                          have n3_ : Aside0 (Kd.R (Kd.int .u8) 5 ((((w125.setCell ⟨gb285, 0, none⟩ (.int .i64 t277)).setCell ⟨gb285, 1, none⟩ (.int .i64 t278)).setCell ⟨gb285, 2, none⟩ (.int .u64 t279)).setCell ⟨gb285, 3, none⟩ (.slice Ao129 t280.length co129)) w.heap.size (fun k_ => some k_ ≠ (.slice Ao114 t251.length co114 : Value).ownBlock ∧ some k_ ≠ (.slice Ao116 y261.length co116 : Value).ownBlock ∧ some k_ ≠ (.slice Ao121 t267.length co121 : Value).ownBlock) (.slice Ao129 t280.length co129) t280) := ⟨by (with_reducible repeat (first | apply Kd.R_alloc | apply Kd.R_drewN | apply Kd.R_drew)); exact Kd.R_mono (Kd.R_far (p := ⟨gb285, 3, none⟩) (Kd.R_far (p := ⟨gb285, 2, none⟩) (Kd.R_far (p := ⟨gb285, 1, none⟩) (Kd.R_far (p := ⟨gb285, 0, none⟩) (Kd.R_types HO282.out BK285.out (by decide)) (fun _ hk => hk.2) (.int .i64 t277)) (fun _ hk => hk.2) (.int .i64 t278)) (fun _ hk => hk.2) (.int .u64 t279)) (fun _ hk => hk.2) (.slice Ao129 t280.length co129)) (fun _ hk => ⟨hk.1.1.1.2, ⟨hk.1.1.2, hk.1.2⟩⟩)⟩
                          have n4_ : Aside0 (((((w125.setCell ⟨gb285, 0, none⟩ (.int .i64 t277)).setCell ⟨gb285, 1, none⟩ (.int .i64 t278)).setCell ⟨gb285, 2, none⟩ (.int .u64 t279)).setCell ⟨gb285, 3, none⟩ (.slice Ao129 t280.length co129)).heap[gb241]? = some (.cells #[.int .i64 a0_0, .int .i64 a0_1, .int .u64 a0_2, .slice A0_3 l0_3.length c0_3] 30 (0, 0))) := ⟨by (with_reducible repeat (first | refine blk_drewN ?_ _ | refine blk_drew ?_ | refine blk_alloc ?_ _)); refine blk_far ?_ NB241_285.out _; (with_reducible repeat (first | refine blk_drewN ?_ _ | refine blk_drew ?_ | refine blk_alloc ?_ _)); refine blk_far ?_ NB241_285.out _; (with_reducible repeat (first | refine blk_drewN ?_ _ | refine blk_drew ?_ | refine blk_alloc ?_ _)); refine blk_far ?_ NB241_285.out _; (with_reducible repeat (first | refine blk_drewN ?_ _ | refine blk_drew ?_ | refine blk_alloc ?_ _)); refine blk_far ?_ NB241_285.out _; (with_reducible repeat (first | refine blk_drewN ?_ _ | refine blk_drew ?_ | refine blk_alloc ?_ _)); exact BK241.out⟩
                          have n5_ : Aside0 (((((w125.setCell ⟨gb285, 0, none⟩ (.int .i64 t277)).setCell ⟨gb285, 1, none⟩ (.int .i64 t278)).setCell ⟨gb285, 2, none⟩ (.int .u64 t279)).setCell ⟨gb285, 3, none⟩ (.slice Ao129 t280.length co129)).heap[gb272]? = some (.cells #[.int .i64 t264, .int .i64 t265, .int .u64 t266, .slice Ao121 t267.length co121] 26 (0, 0))) := ⟨by (with_reducible repeat (first | refine blk_drewN ?_ _ | refine blk_drew ?_ | refine blk_alloc ?_ _)); refine blk_far ?_ NB272_285.out _; (with_reducible repeat (first | refine blk_drewN ?_ _ | refine blk_drew ?_ | refine blk_alloc ?_ _)); refine blk_far ?_ NB272_285.out _; (with_reducible repeat (first | refine blk_drewN ?_ _ | refine blk_drew ?_ | refine blk_alloc ?_ _)); refine blk_far ?_ NB272_285.out _; (with_reducible repeat (first | refine blk_drewN ?_ _ | refine blk_drew ?_ | refine blk_alloc ?_ _)); refine blk_far ?_ NB272_285.out _; (with_reducible repeat (first | refine blk_drewN ?_ _ | refine blk_drew ?_ | refine blk_alloc ?_ _)); exact BK272.out⟩
                          have n6_ : Aside0 (((((w125.setCell ⟨gb285, 0, none⟩ (.int .i64 t277)).setCell ⟨gb285, 1, none⟩ (.int .i64 t278)).setCell ⟨gb285, 2, none⟩ (.int .u64 t279)).setCell ⟨gb285, 3, none⟩ (.slice Ao129 t280.length co129)).heap[gb285]? = some (.cells #[.int .i64 t277, .int .i64 t278, .int .u64 t279, .slice Ao129 t280.length co129] 26 (0, 0))) := ⟨by (with_reducible repeat (first | refine blk_drewN ?_ _ | refine blk_drew ?_ | refine blk_alloc ?_ _)); refine blk_put (cs := #[.int .i64 t277, .int .i64 t278, .int .u64 t279, .slice none 0 0]) ?_ 3 _ rfl; (with_reducible repeat (first | refine blk_drewN ?_ _ | refine blk_drew ?_ | refine blk_alloc ?_ _)); refine blk_put (cs := #[.int .i64 t277, .int .i64 t278, .int .u64 0, .slice none 0 0]) ?_ 2 _ rfl; (with_reducible repeat (first | refine blk_drewN ?_ _ | refine blk_drew ?_ | refine blk_alloc ?_ _)); refine blk_put (cs := #[.int .i64 t277, .int .i64 0, .int .u64 0, .slice none 0 0]) ?_ 1 _ rfl; (with_reducible repeat (first | refine blk_drewN ?_ _ | refine blk_drew ?_ | refine blk_alloc ?_ _)); refine blk_put (cs := #[.int .i64 0, .int .i64 0, .int .u64 0, .slice none 0 0]) ?_ 0 _ rfl; (with_reducible repeat (first | refine blk_drewN ?_ _ | refine blk_drew ?_ | refine blk_alloc ?_ _)); exact BK285.out⟩
                          have n7_ : Aside0 (Below w.heap.size w ((((w125.setCell ⟨gb285, 0, none⟩ (.int .i64 t277)).setCell ⟨gb285, 1, none⟩ (.int .i64 t278)).setCell ⟨gb285, 2, none⟩ (.int .u64 t279)).setCell ⟨gb285, 3, none⟩ (.slice Ao129 t280.length co129))) := ⟨by repeat (first | (with_reducible first | exact HB.out | apply below_alloc | apply pw_below_drewN | apply below_drew1 | refine below_set ?_ GE241.out | refine below_set ?_ GE272.out | refine below_set ?_ GE285.out) | exact HB.out)⟩
                          (try clear HO_7)
                          (try clear HO263)
                          (try clear HO269)
                          (try clear HO282)
                          (try clear BK241)
                          (try clear BK272)
                          (try clear BK285)
                          (try clear HB)
                          generalize ((((w125.setCell ⟨gb285, 0, none⟩ (.int .i64 t277)).setCell ⟨gb285, 1, none⟩ (.int .i64 t278)).setCell ⟨gb285, 2, none⟩ (.int .u64 t279)).setCell ⟨gb285, 3, none⟩ (.slice Ao129 t280.length co129)) = w130 at n0_ n1_ n2_ n3_ n4_ n5_ n6_ n7_ ⊢
                          have HO_7 := n0_
                          have HO263 := n1_
                          have HO269 := n2_
                          have HO282 := n3_
                          have BK241 := n4_
                          have BK272 := n5_
                          have BK285 := n6_
                          have HB := n7_
                          clear n0_ n1_ n2_ n3_ n4_ n5_ n6_ n7_
                          have n0_ := Aside0.mk (Kd.R_drew HO_7.out)
                          have n1_ := Aside0.mk (Kd.R_drew HO263.out)
                          have n2_ := Aside0.mk (Kd.R_drew HO269.out)
                          have n3_ := Aside0.mk (Kd.R_drew HO282.out)
                          have n4_ := Aside0.mk (blk_drew BK241.out)
                          have n5_ := Aside0.mk (blk_drew BK272.out)
                          have n6_ := Aside0.mk (blk_drew BK285.out)
                          have n7_ := Aside0.mk (below_drew1 HB.out)
                          clear HO_7
                          clear HO263
                          clear HO269
                          clear HO282
                          clear BK241
                          clear BK272
                          clear BK285
                          clear HB
                          have HO_7 := n0_
                          have HO263 := n1_
                          have HO269 := n2_
                          have HO282 := n3_
                          have BK241 := n4_
                          have BK272 := n5_
                          have BK285 := n6_
                          have HB := n7_
                          clear n0_ n1_ n2_ n3_ n4_ n5_ n6_ n7_
                          refine start_ (n := 19) (S := fun w' => w'.cell? ⟨gb272, 0, none⟩ = some (.int .i64 t264) ∧ w'.cell? ⟨gb272, 1, none⟩ = some (.int .i64 t265) ∧ w'.cell? ⟨gb272, 2, none⟩ = some (.int .u64 t266) ∧ w'.cell? ⟨gb272, 3, none⟩ = some (.slice Ao121 t267.length co121) ∧ w'.cell? ⟨gb241, 0, none⟩ = some (.int .i64 a0_0) ∧ w'.cell? ⟨gb241, 1, none⟩ = some (.int .i64 a0_1) ∧ w'.cell? ⟨gb241, 2, none⟩ = some (.int .u64 a0_2) ∧ w'.cell? ⟨gb241, 3, none⟩ = some (.slice A0_3 l0_3.length c0_3)) (ds := []) #[false, false, false, false, false, false, false, false, false, false, false, false, false, false, false, false, false, false, false] (by kernel_rfl) rfl rfl ⟨(blk_cell BK272.out 0).trans rfl, (blk_cell BK272.out 1).trans rfl, (blk_cell BK272.out 2).trans rfl, (blk_cell BK272.out 3).trans rfl, (blk_cell BK241.out 0).trans rfl, (blk_cell BK241.out 1).trans rfl, (blk_cell BK241.out 2).trans rfl, (blk_cell BK241.out 3).trans rfl⟩ (fun hHeld => ?_); refine with_tabW courierlaw02_WireBack.tab8 courierlaw02_WireBack.bits8 (fun HT_ HW_ => ?_)
                          generalize w130.drew = w131 at HO_7 HO263 HO269 HO282 BK241 BK272 BK285 HB hHeld ⊢
                          refine take_ (i := 0) (N := some 58) (v := ?_) (a' := ?_) #[true, false, false, false, false, false, false, false, false, false, false, false, false, false, false, false, false, false, false] rfl rfl (take_ofW HT_.out HW_.out (by kernel_rfl)) (fun _ _ _ h => h) (Or.inl ⟨by rfl, ?_⟩) hHeld ?_ ?_
                          rotate_left
                          · rintro w' ⟨s0, s1, s2, s3, s4, s5, s6, s7⟩
                            go_simp
                            with_reducible rfl
                          rotate_left
                          · simp only [Act.put, List.setIfInBounds_toArray, List.set_cons_zero, List.set_cons_succ, i64_w, i32_w]
                            rfl
                          refine take_ (i := 2) (N := some 60) (v := ?_) (a' := ?_) #[true, false, true, false, false, false, false, false, false, false, false, false, false, false, false, false, false, false, false] rfl rfl (take_ofW HT_.out HW_.out (by kernel_rfl)) (fun _ _ _ h => h) (Or.inl ⟨by rfl, ?_⟩) hHeld ?_ ?_
                          rotate_left
                          · rintro w' ⟨s0, s1, s2, s3, s4, s5, s6, s7⟩
                            go_simp
                            with_reducible rfl
                          rotate_left
                          · simp only [Act.put, List.setIfInBounds_toArray, List.set_cons_zero, List.set_cons_succ, i64_w, i32_w]
                            rfl
                          refine one_ (i := 1) (N := some 59) #[true, true, true, false, false, false, false, false, false, false, false, false, false, false, false, false, false, false, false] rfl rfl (one_of HT_.out (by kernel_rfl)) (by decide) (fun K hK => ?_)
                          refine goes_ Try.func11 (by kernel_rfl) rfl #[.agg #[.int .i64 t264, .int .i64 t265, .int .u64 t266, .slice Ao121 t267.length co121]] (by rfl) rfl rfl (by (try simp only [List.map_toArray, List.map_cons, List.map_nil]); first | done | rfl | (simp only [List.length_drop, List.length_take]; rfl)) ?_
                          with_reducible refine (courierlaw02_ours.calls t264 t265 t266 (fun k_ => some k_ = (.slice Ao121 t267.length co121 : Value).ownBlock) _ _ t267 t286 t287 t288 t289 _ ?side1 A34.out).mono ?_
                          (case side1 => exact Kd.R_V (Kd.R_tight rfl (Kd.R_types (Kd.R_types (Kd.R_types (HO269.out) BK241.out (by decide)) BK272.out (by decide)) BK285.out (by decide))))
                          rintro e w132 ⟨v290, rfl, ho0, hb⟩
                          (try (have nt_ := Aside0.mk (Kd.C_below HR0_3.out hb); clear HR0_3; have HR0_3 := nt_; clear nt_))
                          refine ⟨_, rfl, ?_⟩
                          have n0_ := Aside0.mk (Kd.R_below (by (with_reducible repeat (first | apply Kd.R_alloc | apply Kd.R_drewN | apply Kd.R_drew)); exact HO_7.out) hb)
                          have n1_ := Aside0.mk (Kd.R_below (by (with_reducible repeat (first | apply Kd.R_alloc | apply Kd.R_drewN | apply Kd.R_drew)); exact HO263.out) hb)
                          have n2_ := Aside0.mk (Kd.R_below (by (with_reducible repeat (first | apply Kd.R_alloc | apply Kd.R_drewN | apply Kd.R_drew)); exact HO269.out) hb)
                          have n3_ := Aside0.mk (Kd.R_below (by (with_reducible repeat (first | apply Kd.R_alloc | apply Kd.R_drewN | apply Kd.R_drew)); exact HO282.out) hb)
                          have n4_ := Aside0.mk (Kd.V_lower (Kd.V_mono (ok' := fun k_ => some k_ ≠ (.slice Ao114 t251.length co114 : Value).ownBlock ∧ some k_ ≠ (.slice Ao116 y261.length co116 : Value).ownBlock ∧ some k_ ≠ (.slice Ao129 t280.length co129 : Value).ownBlock ∧ k_ ≠ gb241 ∧ k_ ≠ gb272 ∧ k_ ≠ gb285) ho0 (fun k_ hk_ => ⟨Or.elim hk_ (fun hs_ => ((Kd.R_types (Kd.R_types (Kd.R_types (HO269.out) BK241.out (by decide)) BK272.out (by decide)) BK285.out (by decide)).1 k_ hs_.symm).1.1.1.1) (fun hn_ => (Kd.fresh' (Kd.R_lt (by (with_reducible repeat (first | apply Kd.R_alloc | apply Kd.R_drewN | apply Kd.R_drew)); exact HO_7.out)) k_ hn_)), Or.elim hk_ (fun hs_ => ((Kd.R_types (Kd.R_types (Kd.R_types (HO269.out) BK241.out (by decide)) BK272.out (by decide)) BK285.out (by decide)).1 k_ hs_.symm).1.1.1.2.1) (fun hn_ => (Kd.fresh' (Kd.R_lt (by (with_reducible repeat (first | apply Kd.R_alloc | apply Kd.R_drewN | apply Kd.R_drew)); exact HO263.out)) k_ hn_)), Or.elim hk_ (fun hs_ => ((Kd.R_types (Kd.R_types (Kd.R_types (HO269.out) BK241.out (by decide)) BK272.out (by decide)) BK285.out (by decide)).1 k_ hs_.symm).1.1.1.2.2) (fun hn_ => (Kd.fresh' (Kd.R_lt (by (with_reducible repeat (first | apply Kd.R_alloc | apply Kd.R_drewN | apply Kd.R_drew)); exact HO282.out)) k_ hn_)), Or.elim hk_ (fun hs_ => ((Kd.R_types (Kd.R_types (Kd.R_types (HO269.out) BK241.out (by decide)) BK272.out (by decide)) BK285.out (by decide)).1 k_ hs_.symm).1.1.2) (fun hn_ => (Kd.freshB (g := gb241) (o := .cells #[.int .i64 a0_0, .int .i64 a0_1, .int .u64 a0_2, .slice A0_3 l0_3.length c0_3] 30 (0, 0)) (by (with_reducible repeat (first | refine blk_drewN ?_ _ | refine blk_drew ?_ | refine blk_alloc ?_ _)); exact BK241.out) k_ hn_)), Or.elim hk_ (fun hs_ => ((Kd.R_types (Kd.R_types (Kd.R_types (HO269.out) BK241.out (by decide)) BK272.out (by decide)) BK285.out (by decide)).1 k_ hs_.symm).1.2) (fun hn_ => (Kd.freshB (g := gb272) (o := .cells #[.int .i64 t264, .int .i64 t265, .int .u64 t266, .slice Ao121 t267.length co121] 26 (0, 0)) (by (with_reducible repeat (first | refine blk_drewN ?_ _ | refine blk_drew ?_ | refine blk_alloc ?_ _)); exact BK272.out) k_ hn_)), Or.elim hk_ (fun hs_ => ((Kd.R_types (Kd.R_types (Kd.R_types (HO269.out) BK241.out (by decide)) BK272.out (by decide)) BK285.out (by decide)).1 k_ hs_.symm).2) (fun hn_ => (Kd.freshB (g := gb285) (o := .cells #[.int .i64 t277, .int .i64 t278, .int .u64 t279, .slice Ao129 t280.length co129] 26 (0, 0)) (by (with_reducible repeat (first | refine blk_drewN ?_ _ | refine blk_drew ?_ | refine blk_alloc ?_ _)); exact BK285.out) k_ hn_))⟩)) (below_size (by repeat (first | (with_reducible first | exact HB.out | apply below_alloc | apply pw_below_drewN | apply below_drew1 | refine below_set ?_ GE241.out | refine below_set ?_ GE272.out | refine below_set ?_ GE285.out) | exact HB.out))))
                          have n5_ := Aside0.mk (blk_below (g := gb241) (o := .cells #[.int .i64 a0_0, .int .i64 a0_1, .int .u64 a0_2, .slice A0_3 l0_3.length c0_3] 30 (0, 0)) (by (with_reducible repeat (first | refine blk_drewN ?_ _ | refine blk_drew ?_ | refine blk_alloc ?_ _)); exact BK241.out) hb)
                          have n6_ := Aside0.mk (blk_below (g := gb272) (o := .cells #[.int .i64 t264, .int .i64 t265, .int .u64 t266, .slice Ao121 t267.length co121] 26 (0, 0)) (by (with_reducible repeat (first | refine blk_drewN ?_ _ | refine blk_drew ?_ | refine blk_alloc ?_ _)); exact BK272.out) hb)
                          have n7_ := Aside0.mk (blk_below (g := gb285) (o := .cells #[.int .i64 t277, .int .i64 t278, .int .u64 t279, .slice Ao129 t280.length co129] 26 (0, 0)) (by (with_reducible repeat (first | refine blk_drewN ?_ _ | refine blk_drew ?_ | refine blk_alloc ?_ _)); exact BK285.out) hb)
                          have n8_ := Aside0.mk (below_step (by repeat (first | (with_reducible first | exact HB.out | apply below_alloc | apply pw_below_drewN | apply below_drew1 | refine below_set ?_ GE241.out | refine below_set ?_ GE272.out | refine below_set ?_ GE285.out) | exact HB.out)) hb)
                          clear HO_7
                          clear HO263
                          clear HO269
                          clear HO282
                          clear BK241
                          clear BK272
                          clear BK285
                          clear HB
                          have HO_7 := n0_
                          have HO263 := n1_
                          have HO269 := n2_
                          have HO282 := n3_
                          have HO291 := n4_
                          have BK241 := n5_
                          have BK272 := n6_
                          have BK285 := n7_
                          have HB := n8_
                          clear n0_ n1_ n2_ n3_ n4_ n5_ n6_ n7_ n8_
                          (try clear hb)
                          (try clear hb2)
                          (try clear hk)
                          (try clear hi)
                          (try clear ho0)
                          obtain ⟨Ao133, co133, eo133⟩ := Kd.V_slice HO291.out
                          (first | subst eo133 | (injection eo133 with f1_ f2_ f3_; have f4_ := f1_.symm; have f5_ := f3_.symm; clear f1_ f2_ f3_; subst f4_; subst f5_))
                          refine hK.out _ _ ⟨(blk_cell BK272.out 0).trans rfl, (blk_cell BK272.out 1).trans rfl, (blk_cell BK272.out 2).trans rfl, (blk_cell BK272.out 3).trans rfl, (blk_cell BK241.out 0).trans rfl, (blk_cell BK241.out 1).trans rfl, (blk_cell BK241.out 2).trans rfl, (blk_cell BK241.out 3).trans rfl⟩ (fun hHeld => ?_)
                          clear hK K
                          refine norm_ (a' := ?_) ?_ ?_
                          rotate_left
                          · show Act.put _ (some 59) _ = _
                            simp only [Act.put, List.setIfInBounds_toArray, List.set_cons_zero, List.set_cons_succ, i64_w, i32_w]
                            rfl
                          refine one_ (i := 3) (N := some 61) #[true, true, true, true, false, false, false, false, false, false, false, false, false, false, false, false, false, false, false] rfl rfl (one_of HT_.out (by kernel_rfl)) (by decide) (fun K hK => ?_)
                          refine goes_ Try.func10 (by kernel_rfl) rfl #[.agg #[.int .i64 t286, .int .i64 t287, .int .u64 t288, .slice Ao133 t289.length co133], .agg #[.int .i64 a0_0, .int .i64 a0_1, .int .u64 a0_2, .slice A0_3 l0_3.length c0_3]] (by rfl) rfl rfl (by (try simp only [List.map_toArray, List.map_cons, List.map_nil]); first | done | rfl | (simp only [List.length_drop, List.length_take]; rfl)) ?_
                          with_reducible refine (courierref01_Same.calls t286 t287 t288 _ _ t289 a0_0 a0_1 a0_2 _ _ l0_3 false _ ?side1 ?side2 ?side3 ?side4 A35.out).mono ?_
                          (case side1 => repeat (first | exact (Kd.V_reads' HO291.out).2.2 | (with_reducible refine Kd.C_alloc ?_ _) | (with_reducible refine Kd.C_drewN ?_ _) | (with_reducible refine Kd.C_drew ?_)))
                          (case side2 => exact (Kd.V_reads' HO291.out).2.1)
                          (case side3 => repeat (first | exact (Kd.C_below HR0_3.out HB.out) | (with_reducible refine Kd.C_alloc ?_ _) | (with_reducible refine Kd.C_drewN ?_ _) | (with_reducible refine Kd.C_drew ?_)))
                          (case side4 => exact HC0_3.out)
                          rintro e w134 ⟨rfl, hb⟩
                          (try (have nt_ := Aside0.mk (Kd.C_below HR0_3.out hb); clear HR0_3; have HR0_3 := nt_; clear nt_))
                          refine ⟨_, rfl, ?_⟩
                          have n0_ := Aside0.mk (Kd.R_below (by (with_reducible repeat (first | apply Kd.R_alloc | apply Kd.R_drewN | apply Kd.R_drew)); exact HO_7.out) hb)
                          have n1_ := Aside0.mk (Kd.R_below (by (with_reducible repeat (first | apply Kd.R_alloc | apply Kd.R_drewN | apply Kd.R_drew)); exact HO263.out) hb)
                          have n2_ := Aside0.mk (Kd.R_below (by (with_reducible repeat (first | apply Kd.R_alloc | apply Kd.R_drewN | apply Kd.R_drew)); exact HO269.out) hb)
                          have n3_ := Aside0.mk (Kd.R_below (by (with_reducible repeat (first | apply Kd.R_alloc | apply Kd.R_drewN | apply Kd.R_drew)); exact HO282.out) hb)
                          have n4_ := Aside0.mk (Kd.V_below (by (with_reducible repeat (first | apply Kd.V_alloc | apply Kd.V_drewN | apply Kd.V_drew)); exact HO291.out) hb)
                          have n5_ := Aside0.mk (blk_below (g := gb241) (o := .cells #[.int .i64 a0_0, .int .i64 a0_1, .int .u64 a0_2, .slice A0_3 l0_3.length c0_3] 30 (0, 0)) (by (with_reducible repeat (first | refine blk_drewN ?_ _ | refine blk_drew ?_ | refine blk_alloc ?_ _)); exact BK241.out) hb)
                          have n6_ := Aside0.mk (blk_below (g := gb272) (o := .cells #[.int .i64 t264, .int .i64 t265, .int .u64 t266, .slice Ao121 t267.length co121] 26 (0, 0)) (by (with_reducible repeat (first | refine blk_drewN ?_ _ | refine blk_drew ?_ | refine blk_alloc ?_ _)); exact BK272.out) hb)
                          have n7_ := Aside0.mk (blk_below (g := gb285) (o := .cells #[.int .i64 t277, .int .i64 t278, .int .u64 t279, .slice Ao129 t280.length co129] 26 (0, 0)) (by (with_reducible repeat (first | refine blk_drewN ?_ _ | refine blk_drew ?_ | refine blk_alloc ?_ _)); exact BK285.out) hb)
                          have n8_ := Aside0.mk (below_step (by repeat (first | (with_reducible first | exact HB.out | apply below_alloc | apply pw_below_drewN | apply below_drew1 | refine below_set ?_ GE241.out | refine below_set ?_ GE272.out | refine below_set ?_ GE285.out) | exact HB.out)) hb)
                          clear HO_7
                          clear HO263
                          clear HO269
                          clear HO282
                          clear HO291
                          clear BK241
                          clear BK272
                          clear BK285
                          clear HB
                          have HO_7 := n0_
                          have HO263 := n1_
                          have HO269 := n2_
                          have HO282 := n3_
                          have HO291 := n4_
                          have BK241 := n5_
                          have BK272 := n6_
                          have BK285 := n7_
                          have HB := n8_
                          clear n0_ n1_ n2_ n3_ n4_ n5_ n6_ n7_ n8_
                          (try clear hb)
                          (try clear hb2)
                          (try clear hk)
                          (try clear hi)
                          refine hK.out _ _ ⟨(blk_cell BK272.out 0).trans rfl, (blk_cell BK272.out 1).trans rfl, (blk_cell BK272.out 2).trans rfl, (blk_cell BK272.out 3).trans rfl, (blk_cell BK241.out 0).trans rfl, (blk_cell BK241.out 1).trans rfl, (blk_cell BK241.out 2).trans rfl, (blk_cell BK241.out 3).trans rfl⟩ (fun hHeld => ?_)
                          clear hK K
                          refine norm_ (a' := ?_) ?_ ?_
                          rotate_left
                          · show Act.put _ (some 61) _ = _
                            simp only [Act.put, List.setIfInBounds_toArray, List.set_cons_zero, List.set_cons_succ, i64_w, i32_w]
                            rfl
                          refine pure_ (i := 4) (N := some 62) (v := ?_) (a' := ?_) #[true, true, true, true, true, false, false, false, false, false, false, false, false, false, false, false, false, false, false] rfl rfl (any_of HT_.out (by kernel_rfl)) (fun _ _ _ h => h) (Or.inl ⟨by rfl, ?_⟩) ?_ ?_
                          rotate_left
                          · intro w'
                            go_simp
                            with_reducible rfl
                          rotate_left
                          · simp only [Act.put, List.setIfInBounds_toArray, List.set_cons_zero, List.set_cons_succ, i64_w, i32_w]
                            rfl
                          refine pure_ (i := 5) (N := some 63) (v := undef) (a' := ?_) #[true, true, true, true, true, true, false, false, false, false, false, false, false, false, false, false, false, false, false] rfl rfl (any_of HT_.out (by kernel_rfl)) (fun _ _ _ h => h) (Or.inr ⟨by rfl, rfl⟩) ?_ ?_
                          rotate_left
                          · simp only [Act.put, List.setIfInBounds_toArray, List.set_cons_zero, List.set_cons_succ, i64_w, i32_w]
                            rfl
                          refine pure_ (i := 6) (N := some 64) (v := undef) (a' := ?_) #[true, true, true, true, true, true, true, false, false, false, false, false, false, false, false, false, false, false, false] rfl rfl (any_of HT_.out (by kernel_rfl)) (fun _ _ _ h => h) (Or.inr ⟨by rfl, rfl⟩) ?_ ?_
                          rotate_left
                          · simp only [Act.put, List.setIfInBounds_toArray, List.set_cons_zero, List.set_cons_succ, i64_w, i32_w]
                            rfl
                          refine pure_ (i := 7) (N := some 65) (v := undef) (a' := ?_) #[true, true, true, true, true, true, true, true, false, false, false, false, false, false, false, false, false, false, false] rfl rfl (any_of HT_.out (by kernel_rfl)) (fun _ _ _ h => h) (Or.inr ⟨by rfl, rfl⟩) ?_ ?_
                          rotate_left
                          · simp only [Act.put, List.setIfInBounds_toArray, List.set_cons_zero, List.set_cons_succ, i64_w, i32_w]
                            rfl
                          refine pure_ (i := 8) (N := some 66) (v := undef) (a' := ?_) #[true, true, true, true, true, true, true, true, true, false, false, false, false, false, false, false, false, false, false] rfl rfl (any_of HT_.out (by kernel_rfl)) (fun _ _ _ h => h) (Or.inr ⟨by rfl, rfl⟩) ?_ ?_
                          rotate_left
                          · simp only [Act.put, List.setIfInBounds_toArray, List.set_cons_zero, List.set_cons_succ, i64_w, i32_w]
                            rfl
                          refine pure_ (i := 9) (N := some 67) (v := ?_) (a' := ?_) #[true, true, true, true, true, true, true, true, true, true, false, false, false, false, false, false, false, false, false] rfl rfl (any_of HT_.out (by kernel_rfl)) (fun _ _ _ h => h) (Or.inl ⟨by rfl, ?_⟩) ?_ ?_
                          rotate_left
                          · intro w'
                            go_simp
                            with_reducible rfl
                          rotate_left
                          · simp only [Act.put, List.setIfInBounds_toArray, List.set_cons_zero, List.set_cons_succ, i64_w, i32_w]
                            rfl
                          refine pure_ (i := 10) (N := some 68) (v := ?_) (a' := ?_) #[true, true, true, true, true, true, true, true, true, true, true, false, false, false, false, false, false, false, false] rfl rfl (any_of HT_.out (by kernel_rfl)) (fun _ _ _ h => h) (Or.inl ⟨by rfl, ?_⟩) ?_ ?_
                          rotate_left
                          · intro w'
                            go_simp
                            with_reducible rfl
                          rotate_left
                          · simp only [Act.put, List.setIfInBounds_toArray, List.set_cons_zero, List.set_cons_succ, i64_w, i32_w]
                            rfl
                          refine pure_ (i := 11) (N := some 69) (v := undef) (a' := ?_) #[true, true, true, true, true, true, true, true, true, true, true, true, false, false, false, false, false, false, false] rfl rfl (any_of HT_.out (by kernel_rfl)) (fun _ _ _ h => h) (Or.inr ⟨by rfl, rfl⟩) ?_ ?_
                          rotate_left
                          · simp only [Act.put, List.setIfInBounds_toArray, List.set_cons_zero, List.set_cons_succ, i64_w, i32_w]
                            rfl
                          refine pure_ (i := 12) (N := some 70) (v := undef) (a' := ?_) #[true, true, true, true, true, true, true, true, true, true, true, true, true, false, false, false, false, false, false] rfl rfl (any_of HT_.out (by kernel_rfl)) (fun _ _ _ h => h) (Or.inr ⟨by rfl, rfl⟩) ?_ ?_
                          rotate_left
                          · simp only [Act.put, List.setIfInBounds_toArray, List.set_cons_zero, List.set_cons_succ, i64_w, i32_w]
                            rfl
                          refine pure_ (i := 13) (N := some 71) (v := ?_) (a' := ?_) #[true, true, true, true, true, true, true, true, true, true, true, true, true, true, false, false, false, false, false] rfl rfl (any_of HT_.out (by kernel_rfl)) (fun _ _ _ h => h) (Or.inl ⟨by rfl, ?_⟩) ?_ ?_
                          rotate_left
                          · intro w'
                            go_simp
                            with_reducible rfl
                          rotate_left
                          · simp only [Act.put, List.setIfInBounds_toArray, List.set_cons_zero, List.set_cons_succ, i64_w, i32_w]
                            rfl
                          refine pure_ (i := 14) (N := some 72) (v := ?_) (a' := ?_) #[true, true, true, true, true, true, true, true, true, true, true, true, true, true, true, false, false, false, false] rfl rfl (any_of HT_.out (by kernel_rfl)) (fun _ _ _ h => h) (Or.inl ⟨by rfl, ?_⟩) ?_ ?_
                          rotate_left
                          · intro w'
                            go_simp
                            with_reducible rfl
                          rotate_left
                          · simp only [Act.put, List.setIfInBounds_toArray, List.set_cons_zero, List.set_cons_succ, i64_w, i32_w]
                            rfl
                          refine pure_ (i := 15) (N := some 73) (v := undef) (a' := ?_) #[true, true, true, true, true, true, true, true, true, true, true, true, true, true, true, true, false, false, false] rfl rfl (any_of HT_.out (by kernel_rfl)) (fun _ _ _ h => h) (Or.inr ⟨by rfl, rfl⟩) ?_ ?_
                          rotate_left
                          · simp only [Act.put, List.setIfInBounds_toArray, List.set_cons_zero, List.set_cons_succ, i64_w, i32_w]
                            rfl
                          refine pure_ (i := 16) (N := some 74) (v := undef) (a' := ?_) #[true, true, true, true, true, true, true, true, true, true, true, true, true, true, true, true, true, false, false] rfl rfl (any_of HT_.out (by kernel_rfl)) (fun _ _ _ h => h) (Or.inr ⟨by rfl, rfl⟩) ?_ ?_
                          rotate_left
                          · simp only [Act.put, List.setIfInBounds_toArray, List.set_cons_zero, List.set_cons_succ, i64_w, i32_w]
                            rfl
                          refine pure_ (i := 17) (N := some 75) (v := ?_) (a' := ?_) #[true, true, true, true, true, true, true, true, true, true, true, true, true, true, true, true, true, true, false] rfl rfl (any_of HT_.out (by kernel_rfl)) (fun _ _ _ h => h) (Or.inl ⟨by rfl, ?_⟩) ?_ ?_
                          rotate_left
                          · intro w'
                            go_simp
                            with_reducible rfl
                          rotate_left
                          · simp only [Act.put, List.setIfInBounds_toArray, List.set_cons_zero, List.set_cons_succ, i64_w, i32_w]
                            rfl
                          refine pure_ (i := 18) (N := some 6) (v := ?_) (a' := ?_) #[true, true, true, true, true, true, true, true, true, true, true, true, true, true, true, true, true, true, true] rfl rfl (any_of HT_.out (by kernel_rfl)) (fun _ _ _ h => h) (Or.inl ⟨by rfl, ?_⟩) ?_ ?_
                          rotate_left
                          · intro w'
                            go_simp
                            with_reducible rfl
                          rotate_left
                          · simp only [Act.put, List.setIfInBounds_toArray, List.set_cons_zero, List.set_cons_succ, i64_w, i32_w]
                            rfl
                          refine done_ (done_of HT_.out (by kernel_rfl)) ?_
                          try go_wp2
                          go_ret
                          exact ⟨by first | rfl | (simp [errW_none, errW_some] <;> rfl) | (simp only [← hji30]; first | rfl | (simp [errW_none, errW_some] <;> rfl)) | (simp [*, errW_none, errW_some] <;> rfl), by repeat (first | (with_reducible first | exact HB.out | apply below_alloc | apply pw_below_drewN | apply below_drew1 | refine below_set ?_ GE241.out | refine below_set ?_ GE272.out | refine below_set ?_ GE285.out) | exact HB.out)⟩
                      · rw [if_neg c32] at H
                        exact absurd H (by simp)
                    · rw [if_neg c31] at H
                      exact absurd H (by simp)
                · rw [if_neg c27] at H
                  exact absurd H (by simp)
              · rw [if_neg c26] at H
                exact absurd H (by simp)

end Go.Proofs.Ytopmelffmakklaa.X
