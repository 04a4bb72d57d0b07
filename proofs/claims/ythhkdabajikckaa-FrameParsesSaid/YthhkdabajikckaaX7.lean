/- Plain functions for Go's own, out of the translation's print, and a proof that each call comes to what they tell; no condition but the functions' own answers. -/
import Derived.Test.YthhkdabajikckaaX0
namespace Go.Proofs.Ythhkdabajikckaa.X
open Go.RowKit Go.Proofs.YthhkdabajikckaaW.PrintWords Go.Proofs.YthhkdabajikckaaW.PrintLast Go.Proofs.YthhkdabajikckaaW.PrintMore
attribute [local go_sem] max2_int min2_int max_two min_two max_three min_three max_four min_four Go.Proofs.Ythhkdabajikckaa.MyWords.put_isSome Go.Proofs.Ythhkdabajikckaa.MyWords.drewN_put   -- for this text's walks alone
set_option linter.unusedVariables false
set_option linter.unusedSimpArgs false

/-! ### courierref15_Formed: function 13 -/
def courierref15_Formed.j0 : Nat → Bool → Int → Int → Int → Int → Int → Int → Int → Int → List Int → Option (Bool)
  | 0, _, _, _, _, _, _, _, _, _, _ => none
  | k + 1, x47, x146000, x146001, x146002, x146003, x146004, x146005, x146006, x146007, x146008 => if x47 = true then (some false) else (if x146005 < 0 then (some false) else (if x146005 > 2147483647 then (some false) else (if x146006 < 0 then (some false) else (if x146006 > 1099511627776 then (some false) else (if x146007 < 0 then (some false) else (if x146007 > 255 then (some false) else (if (x146008.length : Int) > 4096 then (some false) else (if x146000 = 3 then (if (x146008.length : Int) = 0 then (if x146000 = 2 then (some true) else (some (x146007 == 0))) else (some false)) else (if x146000 = 2 then (some true) else (some (x146007 == 0)))))))))))
def courierref15_Formed.f (k : Nat) (a0_0 : Int) (a0_1 : Int) (a0_2 : Int) (a0_3 : Int) (a0_4 : Int) (a0_5 : Int) (a0_6 : Int) (a0_7 : Int) (l0_8 : List Int) : Option (Bool) := if a0_0 < 1 then (courierref15_Formed.j0 k true a0_0 a0_1 a0_2 a0_3 a0_4 a0_5 a0_6 a0_7 l0_8) else (if a0_0 > 3 then (courierref15_Formed.j0 k true a0_0 a0_1 a0_2 a0_3 a0_4 a0_5 a0_6 a0_7 l0_8) else (if a0_1 < 1 then (courierref15_Formed.j0 k true a0_0 a0_1 a0_2 a0_3 a0_4 a0_5 a0_6 a0_7 l0_8) else (if a0_1 > 2147483647 then (courierref15_Formed.j0 k true a0_0 a0_1 a0_2 a0_3 a0_4 a0_5 a0_6 a0_7 l0_8) else (if a0_2 < 1 then (courierref15_Formed.j0 k true a0_0 a0_1 a0_2 a0_3 a0_4 a0_5 a0_6 a0_7 l0_8) else (if a0_3 < 0 then (courierref15_Formed.j0 k true a0_0 a0_1 a0_2 a0_3 a0_4 a0_5 a0_6 a0_7 l0_8) else (if a0_3 > 5 then (courierref15_Formed.j0 k true a0_0 a0_1 a0_2 a0_3 a0_4 a0_5 a0_6 a0_7 l0_8) else (if a0_4 < 1 then (courierref15_Formed.j0 k true a0_0 a0_1 a0_2 a0_3 a0_4 a0_5 a0_6 a0_7 l0_8) else (courierref15_Formed.j0 k (decide (a0_4 > a0_2)) a0_0 a0_1 a0_2 a0_3 a0_4 a0_5 a0_6 a0_7 l0_8))))))))
theorem courierref15_Formed.mono_l : ∀ k, (∀ y0 y1 y2 y3 y4 y5 y6 y7 y8 y9, LeO (courierref15_Formed.j0 k y0 y1 y2 y3 y4 y5 y6 y7 y8 y9) (courierref15_Formed.j0 (k + 1) y0 y1 y2 y3 y4 y5 y6 y7 y8 y9))
  | 0 => fun _ _ _ _ _ _ _ _ _ _ r h => by simp [courierref15_Formed.j0] at h
  | k + 1 => by
    have ih0 := courierref15_Formed.mono_l k
    · intro y0 y1 y2 y3 y4 y5 y6 y7 y8 y9
      unfold courierref15_Formed.j0
      repeat' first
      | (with_reducible exact ih0 _ _ _ _ _ _ _ _ _ _)
      | (with_reducible exact LeO.refl _)
      | (with_reducible exact LeO.none _)
      | (with_reducible refine LeO.ite ?_ ?_)
      | (with_reducible refine LeO.bind ?_ (fun _ => ?_))
      | exact ih0 _ _ _ _ _ _ _ _ _ _
      | exact LeO.none _
      | refine LeO.ite ?_ ?_
      | refine LeO.bind ?_ (fun _ => ?_)
theorem courierref15_Formed.mono : ∀ a0 a1 a2 a3 a4 a5 a6 a7 a8 k, LeO (courierref15_Formed.f k a0 a1 a2 a3 a4 a5 a6 a7 a8) (courierref15_Formed.f (k + 1) a0 a1 a2 a3 a4 a5 a6 a7 a8) := by
  intro a0 a1 a2 a3 a4 a5 a6 a7 a8 k
  have ih0 := courierref15_Formed.mono_l k
  unfold courierref15_Formed.f
  repeat' first
      | (with_reducible exact ih0 _ _ _ _ _ _ _ _ _ _)
      | (with_reducible exact LeO.refl _)
      | (with_reducible exact LeO.none _)
      | (with_reducible refine LeO.ite ?_ ?_)
      | (with_reducible refine LeO.bind ?_ (fun _ => ?_))
      | exact ih0 _ _ _ _ _ _ _ _ _ _
      | exact LeO.none _
      | refine LeO.ite ?_ ?_
      | refine LeO.bind ?_ (fun _ => ?_)
set_option maxHeartbeats 8000000 in
set_option maxRecDepth 100000 in
theorem courierref15_Formed.calls (k : Nat) (a0_0 : Int) (a0_1 : Int) (a0_2 : Int) (a0_3 : Int) (a0_4 : Int) (a0_5 : Int) (a0_6 : Int) (a0_7 : Int) (A0_8 : Option Addr) (c0_8 : Nat) (l0_8 : List Int) (r : Bool) (w : World) (hr0_8 : Kd.C (Kd.int .u8) w A0_8 l0_8.length l0_8) (hc0_8 : l0_8.length ≤ c0_8) (h : courierref15_Formed.f k a0_0 a0_1 a0_2 a0_3 a0_4 a0_5 a0_6 a0_7 l0_8 = some r) :
    Calls Try.prog 13 #[.agg #[.int .i64 a0_0, .int .i64 a0_1, .int .u64 a0_2, .int .i64 a0_3, .int .u64 a0_4, .int .i64 a0_5, .int .i64 a0_6, .int .i64 a0_7, .slice A0_8 l0_8.length c0_8]] w fun e w' => e = .returned (.bool r) ∧ Below w.heap.size w w' := by
  have hu25 := Try.underlying25
  have HR0_8 := Aside0.mk hr0_8
  have HC0_8 := Aside0.mk hc0_8
  clear hr0_8 hc0_8
  have HB := Aside0.mk (Below.refl w.heap.size w)
  have H : (if a0_0 < 1 then (courierref15_Formed.j0 k true a0_0 a0_1 a0_2 a0_3 a0_4 a0_5 a0_6 a0_7 l0_8) else (if a0_0 > 3 then (courierref15_Formed.j0 k true a0_0 a0_1 a0_2 a0_3 a0_4 a0_5 a0_6 a0_7 l0_8) else (if a0_1 < 1 then (courierref15_Formed.j0 k true a0_0 a0_1 a0_2 a0_3 a0_4 a0_5 a0_6 a0_7 l0_8) else (if a0_1 > 2147483647 then (courierref15_Formed.j0 k true a0_0 a0_1 a0_2 a0_3 a0_4 a0_5 a0_6 a0_7 l0_8) else (if a0_2 < 1 then (courierref15_Formed.j0 k true a0_0 a0_1 a0_2 a0_3 a0_4 a0_5 a0_6 a0_7 l0_8) else (if a0_3 < 0 then (courierref15_Formed.j0 k true a0_0 a0_1 a0_2 a0_3 a0_4 a0_5 a0_6 a0_7 l0_8) else (if a0_3 > 5 then (courierref15_Formed.j0 k true a0_0 a0_1 a0_2 a0_3 a0_4 a0_5 a0_6 a0_7 l0_8) else (if a0_4 < 1 then (courierref15_Formed.j0 k true a0_0 a0_1 a0_2 a0_3 a0_4 a0_5 a0_6 a0_7 l0_8) else (courierref15_Formed.j0 k (decide (a0_4 > a0_2)) a0_0 a0_1 a0_2 a0_3 a0_4 a0_5 a0_6 a0_7 l0_8))))))))) = some r := h
  clear h
  have HC2 := Aside0.mk H
  clear H
  go_enter Try.func13, Try.ntmps13
  go_upto_region 1 with (first | ((with_reducible refine gate_dst (N := 1) rfl ?_); (try (refine gate_guard (by rfl) ?_; dsimp only)); refine box_event ?hg (N := 1) ?hd (cs := #[.int .i64 a0_0, .int .i64 a0_1, .int .u64 a0_2, .int .i64 a0_3, .int .u64 a0_4, .int .i64 a0_5, .int .i64 a0_6, .int .i64 a0_7, .slice A0_8 l0_8.length c0_8]) (t := 25) ?hr ?_; (case hd => rfl); (case hg => rfl); (case hr => first | (go_simp; done) | (go_simp; rfl)); intro gb145 hg w3 hbox hb; have n0_ := Aside0.mk (below_step (by repeat (first | (with_reducible first | exact HB.out | apply below_alloc | apply pw_below_drewN | apply below_drew1) | exact HB.out)) hb); have n1_ := Aside0.mk (hbox); have n2_ := Aside0.mk ((by rw [hg]; exact (below_size (by repeat (first | (with_reducible first | exact HB.out | apply below_alloc | apply pw_below_drewN | apply below_drew1) | exact HB.out))) : w.heap.size ≤ gb145)); have n3_ := Aside0.mk ((by rw [hg]; exact (below_size (by repeat (first | (with_reducible first | exact HB.out | apply below_alloc | apply pw_below_drewN | apply below_drew1) | exact HB.out))) : w.heap.size ≤ gb145)); clear HB; have HB := n0_; have BK145 := n1_; have GW145 := n2_; have GE145 := n3_; clear n0_ n1_ n2_ n3_; clear hb hbox hg))
  (try simp only [Act.put, List.setIfInBounds_toArray, List.set_cons_zero, List.set_cons_succ])
  go_cut [47] (fun v47 wc => ∃ (kq : Nat) (x47_1 : Bool), v47 = .bool x47_1 ∧ Aside0 (courierref15_Formed.j0 kq x47_1 a0_0 a0_1 a0_2 a0_3 a0_4 a0_5 a0_6 a0_7 l0_8 = some r) ∧ Aside0 (kq ≤ k) ∧ Aside0 (wc.heap[gb145]? = some (.cells #[.int .i64 a0_0, .int .i64 a0_1, .int .u64 a0_2, .int .i64 a0_3, .int .u64 a0_4, .int .i64 a0_5, .int .i64 a0_6, .int .i64 a0_7, (.slice A0_8 l0_8.length c0_8)] 25 (0, 0))) ∧ Aside0 (Below w.heap.size w wc))
  case first =>
    have H := HC2.out
    clear HC2
    by_cases c4 : a0_0 < 1
    · rw [if_pos c4] at H
      have c4b0 : decide (a0_0 < 1) = true := decide_eq_true c4
      clear c4
      (first | rw [c4b0] | (simp only [i64_w, i32_w]; rw [c4b0]) | skip)
      have H' := Aside0.mk H
      clear H
      have hcz5_0 : w3.cell? ⟨gb145, 0, none⟩ = some (.int .i64 a0_0) := (blk_cell BK145.out 0).trans rfl
      have hcz5_1 : w3.cell? ⟨gb145, 1, none⟩ = some (.int .i64 a0_1) := (blk_cell BK145.out 1).trans rfl
      have hcz5_2 : w3.cell? ⟨gb145, 2, none⟩ = some (.int .u64 a0_2) := (blk_cell BK145.out 2).trans rfl
      have hcz5_3 : w3.cell? ⟨gb145, 3, none⟩ = some (.int .i64 a0_3) := (blk_cell BK145.out 3).trans rfl
      have hcz5_4 : w3.cell? ⟨gb145, 4, none⟩ = some (.int .u64 a0_4) := (blk_cell BK145.out 4).trans rfl
      have hcz5_5 : w3.cell? ⟨gb145, 5, none⟩ = some (.int .i64 a0_5) := (blk_cell BK145.out 5).trans rfl
      have hcz5_6 : w3.cell? ⟨gb145, 6, none⟩ = some (.int .i64 a0_6) := (blk_cell BK145.out 6).trans rfl
      have hcz5_7 : w3.cell? ⟨gb145, 7, none⟩ = some (.int .i64 a0_7) := (blk_cell BK145.out 7).trans rfl
      have hcz5_8 : w3.cell? ⟨gb145, 8, none⟩ = some (.slice A0_8 l0_8.length c0_8) := (blk_cell BK145.out 8).trans rfl
      have hfz5_0 := blk_frozen BK145.out 0
      have hfz5_1 := blk_frozen BK145.out 1
      have hfz5_2 := blk_frozen BK145.out 2
      have hfz5_3 := blk_frozen BK145.out 3
      have hfz5_4 := blk_frozen BK145.out 4
      have hfz5_5 := blk_frozen BK145.out 5
      have hfz5_6 := blk_frozen BK145.out 6
      have hfz5_7 := blk_frozen BK145.out 7
      have hfz5_8 := blk_frozen BK145.out 8
      go_wp2
      go_meet
      case rel => exact ⟨_, (true), (by first | rfl | (simp; done) | (simp [*]; done)), H', ⟨by first | omega | exact Nat.le_refl _⟩, ⟨by (with_reducible repeat (first | refine blk_drewN ?_ _ | refine blk_drew ?_ | refine blk_alloc ?_ _)); exact BK145.out⟩, ⟨by repeat (first | (with_reducible first | exact HB.out | apply below_alloc | apply pw_below_drewN | apply below_drew1 | refine below_set ?_ GE145.out) | exact HB.out)⟩⟩
    · rw [if_neg c4] at H
      have c4b0 : decide (a0_0 < 1) = false := decide_eq_false c4
      clear c4
      (first | rw [c4b0] | (simp only [i64_w, i32_w]; rw [c4b0]) | skip)
      by_cases c6 : a0_0 > 3
      · rw [if_pos c6] at H
        have c6b0 : decide (3 < a0_0) = true := decide_eq_true c6
        clear c6
        have H' := Aside0.mk H
        clear H
        have hcz7_0 : w3.cell? ⟨gb145, 0, none⟩ = some (.int .i64 a0_0) := (blk_cell BK145.out 0).trans rfl
        have hcz7_1 : w3.cell? ⟨gb145, 1, none⟩ = some (.int .i64 a0_1) := (blk_cell BK145.out 1).trans rfl
        have hcz7_2 : w3.cell? ⟨gb145, 2, none⟩ = some (.int .u64 a0_2) := (blk_cell BK145.out 2).trans rfl
        have hcz7_3 : w3.cell? ⟨gb145, 3, none⟩ = some (.int .i64 a0_3) := (blk_cell BK145.out 3).trans rfl
        have hcz7_4 : w3.cell? ⟨gb145, 4, none⟩ = some (.int .u64 a0_4) := (blk_cell BK145.out 4).trans rfl
        have hcz7_5 : w3.cell? ⟨gb145, 5, none⟩ = some (.int .i64 a0_5) := (blk_cell BK145.out 5).trans rfl
        have hcz7_6 : w3.cell? ⟨gb145, 6, none⟩ = some (.int .i64 a0_6) := (blk_cell BK145.out 6).trans rfl
        have hcz7_7 : w3.cell? ⟨gb145, 7, none⟩ = some (.int .i64 a0_7) := (blk_cell BK145.out 7).trans rfl
        have hcz7_8 : w3.cell? ⟨gb145, 8, none⟩ = some (.slice A0_8 l0_8.length c0_8) := (blk_cell BK145.out 8).trans rfl
        have hfz7_0 := blk_frozen BK145.out 0
        have hfz7_1 := blk_frozen BK145.out 1
        have hfz7_2 := blk_frozen BK145.out 2
        have hfz7_3 := blk_frozen BK145.out 3
        have hfz7_4 := blk_frozen BK145.out 4
        have hfz7_5 := blk_frozen BK145.out 5
        have hfz7_6 := blk_frozen BK145.out 6
        have hfz7_7 := blk_frozen BK145.out 7
        have hfz7_8 := blk_frozen BK145.out 8
        go_wp2
        go_meet
        case rel => exact ⟨_, (true), (by first | rfl | (simp; done) | (simp [*]; done)), H', ⟨by first | omega | exact Nat.le_refl _⟩, ⟨by (with_reducible repeat (first | refine blk_drewN ?_ _ | refine blk_drew ?_ | refine blk_alloc ?_ _)); exact BK145.out⟩, ⟨by repeat (first | (with_reducible first | exact HB.out | apply below_alloc | apply pw_below_drewN | apply below_drew1 | refine below_set ?_ GE145.out) | exact HB.out)⟩⟩
      · rw [if_neg c6] at H
        have c6b0 : decide (3 < a0_0) = false := decide_eq_false c6
        clear c6
        by_cases c8 : a0_1 < 1
        · rw [if_pos c8] at H
          have c8b0 : decide (a0_1 < 1) = true := decide_eq_true c8
          clear c8
          have H' := Aside0.mk H
          clear H
          have hcz9_0 : w3.cell? ⟨gb145, 0, none⟩ = some (.int .i64 a0_0) := (blk_cell BK145.out 0).trans rfl
          have hcz9_1 : w3.cell? ⟨gb145, 1, none⟩ = some (.int .i64 a0_1) := (blk_cell BK145.out 1).trans rfl
          have hcz9_2 : w3.cell? ⟨gb145, 2, none⟩ = some (.int .u64 a0_2) := (blk_cell BK145.out 2).trans rfl
          have hcz9_3 : w3.cell? ⟨gb145, 3, none⟩ = some (.int .i64 a0_3) := (blk_cell BK145.out 3).trans rfl
          have hcz9_4 : w3.cell? ⟨gb145, 4, none⟩ = some (.int .u64 a0_4) := (blk_cell BK145.out 4).trans rfl
          have hcz9_5 : w3.cell? ⟨gb145, 5, none⟩ = some (.int .i64 a0_5) := (blk_cell BK145.out 5).trans rfl
          have hcz9_6 : w3.cell? ⟨gb145, 6, none⟩ = some (.int .i64 a0_6) := (blk_cell BK145.out 6).trans rfl
          have hcz9_7 : w3.cell? ⟨gb145, 7, none⟩ = some (.int .i64 a0_7) := (blk_cell BK145.out 7).trans rfl
          have hcz9_8 : w3.cell? ⟨gb145, 8, none⟩ = some (.slice A0_8 l0_8.length c0_8) := (blk_cell BK145.out 8).trans rfl
          have hfz9_0 := blk_frozen BK145.out 0
          have hfz9_1 := blk_frozen BK145.out 1
          have hfz9_2 := blk_frozen BK145.out 2
          have hfz9_3 := blk_frozen BK145.out 3
          have hfz9_4 := blk_frozen BK145.out 4
          have hfz9_5 := blk_frozen BK145.out 5
          have hfz9_6 := blk_frozen BK145.out 6
          have hfz9_7 := blk_frozen BK145.out 7
          have hfz9_8 := blk_frozen BK145.out 8
          go_wp2
          go_meet
          case rel => exact ⟨_, (true), (by first | rfl | (simp; done) | (simp [*]; done)), H', ⟨by first | omega | exact Nat.le_refl _⟩, ⟨by (with_reducible repeat (first | refine blk_drewN ?_ _ | refine blk_drew ?_ | refine blk_alloc ?_ _)); exact BK145.out⟩, ⟨by repeat (first | (with_reducible first | exact HB.out | apply below_alloc | apply pw_below_drewN | apply below_drew1 | refine below_set ?_ GE145.out) | exact HB.out)⟩⟩
        · rw [if_neg c8] at H
          have c8b0 : decide (a0_1 < 1) = false := decide_eq_false c8
          clear c8
          by_cases c10 : a0_1 > 2147483647
          · rw [if_pos c10] at H
            have c10b0 : decide (2147483647 < a0_1) = true := decide_eq_true c10
            clear c10
            have H' := Aside0.mk H
            clear H
            have hcz11_0 : w3.cell? ⟨gb145, 0, none⟩ = some (.int .i64 a0_0) := (blk_cell BK145.out 0).trans rfl
            have hcz11_1 : w3.cell? ⟨gb145, 1, none⟩ = some (.int .i64 a0_1) := (blk_cell BK145.out 1).trans rfl
            have hcz11_2 : w3.cell? ⟨gb145, 2, none⟩ = some (.int .u64 a0_2) := (blk_cell BK145.out 2).trans rfl
            have hcz11_3 : w3.cell? ⟨gb145, 3, none⟩ = some (.int .i64 a0_3) := (blk_cell BK145.out 3).trans rfl
            have hcz11_4 : w3.cell? ⟨gb145, 4, none⟩ = some (.int .u64 a0_4) := (blk_cell BK145.out 4).trans rfl
            have hcz11_5 : w3.cell? ⟨gb145, 5, none⟩ = some (.int .i64 a0_5) := (blk_cell BK145.out 5).trans rfl
            have hcz11_6 : w3.cell? ⟨gb145, 6, none⟩ = some (.int .i64 a0_6) := (blk_cell BK145.out 6).trans rfl
            have hcz11_7 : w3.cell? ⟨gb145, 7, none⟩ = some (.int .i64 a0_7) := (blk_cell BK145.out 7).trans rfl
            have hcz11_8 : w3.cell? ⟨gb145, 8, none⟩ = some (.slice A0_8 l0_8.length c0_8) := (blk_cell BK145.out 8).trans rfl
            have hfz11_0 := blk_frozen BK145.out 0
            have hfz11_1 := blk_frozen BK145.out 1
            have hfz11_2 := blk_frozen BK145.out 2
            have hfz11_3 := blk_frozen BK145.out 3
            have hfz11_4 := blk_frozen BK145.out 4
            have hfz11_5 := blk_frozen BK145.out 5
            have hfz11_6 := blk_frozen BK145.out 6
            have hfz11_7 := blk_frozen BK145.out 7
            have hfz11_8 := blk_frozen BK145.out 8
            go_wp2
            go_meet
            case rel => exact ⟨_, (true), (by first | rfl | (simp; done) | (simp [*]; done)), H', ⟨by first | omega | exact Nat.le_refl _⟩, ⟨by (with_reducible repeat (first | refine blk_drewN ?_ _ | refine blk_drew ?_ | refine blk_alloc ?_ _)); exact BK145.out⟩, ⟨by repeat (first | (with_reducible first | exact HB.out | apply below_alloc | apply pw_below_drewN | apply below_drew1 | refine below_set ?_ GE145.out) | exact HB.out)⟩⟩
          · rw [if_neg c10] at H
            have c10b0 : decide (2147483647 < a0_1) = false := decide_eq_false c10
            clear c10
            by_cases c12 : a0_2 < 1
            · rw [if_pos c12] at H
              have c12b0 : decide (a0_2 < 1) = true := decide_eq_true c12
              clear c12
              have H' := Aside0.mk H
              clear H
              have hcz13_0 : w3.cell? ⟨gb145, 0, none⟩ = some (.int .i64 a0_0) := (blk_cell BK145.out 0).trans rfl
              have hcz13_1 : w3.cell? ⟨gb145, 1, none⟩ = some (.int .i64 a0_1) := (blk_cell BK145.out 1).trans rfl
              have hcz13_2 : w3.cell? ⟨gb145, 2, none⟩ = some (.int .u64 a0_2) := (blk_cell BK145.out 2).trans rfl
              have hcz13_3 : w3.cell? ⟨gb145, 3, none⟩ = some (.int .i64 a0_3) := (blk_cell BK145.out 3).trans rfl
              have hcz13_4 : w3.cell? ⟨gb145, 4, none⟩ = some (.int .u64 a0_4) := (blk_cell BK145.out 4).trans rfl
              have hcz13_5 : w3.cell? ⟨gb145, 5, none⟩ = some (.int .i64 a0_5) := (blk_cell BK145.out 5).trans rfl
              have hcz13_6 : w3.cell? ⟨gb145, 6, none⟩ = some (.int .i64 a0_6) := (blk_cell BK145.out 6).trans rfl
              have hcz13_7 : w3.cell? ⟨gb145, 7, none⟩ = some (.int .i64 a0_7) := (blk_cell BK145.out 7).trans rfl
              have hcz13_8 : w3.cell? ⟨gb145, 8, none⟩ = some (.slice A0_8 l0_8.length c0_8) := (blk_cell BK145.out 8).trans rfl
              have hfz13_0 := blk_frozen BK145.out 0
              have hfz13_1 := blk_frozen BK145.out 1
              have hfz13_2 := blk_frozen BK145.out 2
              have hfz13_3 := blk_frozen BK145.out 3
              have hfz13_4 := blk_frozen BK145.out 4
              have hfz13_5 := blk_frozen BK145.out 5
              have hfz13_6 := blk_frozen BK145.out 6
              have hfz13_7 := blk_frozen BK145.out 7
              have hfz13_8 := blk_frozen BK145.out 8
              go_wp2
              go_meet
              case rel => exact ⟨_, (true), (by first | rfl | (simp; done) | (simp [*]; done)), H', ⟨by first | omega | exact Nat.le_refl _⟩, ⟨by (with_reducible repeat (first | refine blk_drewN ?_ _ | refine blk_drew ?_ | refine blk_alloc ?_ _)); exact BK145.out⟩, ⟨by repeat (first | (with_reducible first | exact HB.out | apply below_alloc | apply pw_below_drewN | apply below_drew1 | refine below_set ?_ GE145.out) | exact HB.out)⟩⟩
            · rw [if_neg c12] at H
              have c12b0 : decide (a0_2 < 1) = false := decide_eq_false c12
              clear c12
              by_cases c14 : a0_3 < 0
              · rw [if_pos c14] at H
                have c14b0 : decide (a0_3 < 0) = true := decide_eq_true c14
                clear c14
                have H' := Aside0.mk H
                clear H
                have hcz15_0 : w3.cell? ⟨gb145, 0, none⟩ = some (.int .i64 a0_0) := (blk_cell BK145.out 0).trans rfl
                have hcz15_1 : w3.cell? ⟨gb145, 1, none⟩ = some (.int .i64 a0_1) := (blk_cell BK145.out 1).trans rfl
                have hcz15_2 : w3.cell? ⟨gb145, 2, none⟩ = some (.int .u64 a0_2) := (blk_cell BK145.out 2).trans rfl
                have hcz15_3 : w3.cell? ⟨gb145, 3, none⟩ = some (.int .i64 a0_3) := (blk_cell BK145.out 3).trans rfl
                have hcz15_4 : w3.cell? ⟨gb145, 4, none⟩ = some (.int .u64 a0_4) := (blk_cell BK145.out 4).trans rfl
                have hcz15_5 : w3.cell? ⟨gb145, 5, none⟩ = some (.int .i64 a0_5) := (blk_cell BK145.out 5).trans rfl
                have hcz15_6 : w3.cell? ⟨gb145, 6, none⟩ = some (.int .i64 a0_6) := (blk_cell BK145.out 6).trans rfl
                have hcz15_7 : w3.cell? ⟨gb145, 7, none⟩ = some (.int .i64 a0_7) := (blk_cell BK145.out 7).trans rfl
                have hcz15_8 : w3.cell? ⟨gb145, 8, none⟩ = some (.slice A0_8 l0_8.length c0_8) := (blk_cell BK145.out 8).trans rfl
                have hfz15_0 := blk_frozen BK145.out 0
                have hfz15_1 := blk_frozen BK145.out 1
                have hfz15_2 := blk_frozen BK145.out 2
                have hfz15_3 := blk_frozen BK145.out 3
                have hfz15_4 := blk_frozen BK145.out 4
                have hfz15_5 := blk_frozen BK145.out 5
                have hfz15_6 := blk_frozen BK145.out 6
                have hfz15_7 := blk_frozen BK145.out 7
                have hfz15_8 := blk_frozen BK145.out 8
                go_wp2
                go_meet
                case rel => exact ⟨_, (true), (by first | rfl | (simp; done) | (simp [*]; done)), H', ⟨by first | omega | exact Nat.le_refl _⟩, ⟨by (with_reducible repeat (first | refine blk_drewN ?_ _ | refine blk_drew ?_ | refine blk_alloc ?_ _)); exact BK145.out⟩, ⟨by repeat (first | (with_reducible first | exact HB.out | apply below_alloc | apply pw_below_drewN | apply below_drew1 | refine below_set ?_ GE145.out) | exact HB.out)⟩⟩
              · rw [if_neg c14] at H
                have c14b0 : decide (a0_3 < 0) = false := decide_eq_false c14
                clear c14
                by_cases c16 : a0_3 > 5
                · rw [if_pos c16] at H
                  have c16b0 : decide (5 < a0_3) = true := decide_eq_true c16
                  clear c16
                  have H' := Aside0.mk H
                  clear H
                  have hcz17_0 : w3.cell? ⟨gb145, 0, none⟩ = some (.int .i64 a0_0) := (blk_cell BK145.out 0).trans rfl
                  have hcz17_1 : w3.cell? ⟨gb145, 1, none⟩ = some (.int .i64 a0_1) := (blk_cell BK145.out 1).trans rfl
                  have hcz17_2 : w3.cell? ⟨gb145, 2, none⟩ = some (.int .u64 a0_2) := (blk_cell BK145.out 2).trans rfl
                  have hcz17_3 : w3.cell? ⟨gb145, 3, none⟩ = some (.int .i64 a0_3) := (blk_cell BK145.out 3).trans rfl
                  have hcz17_4 : w3.cell? ⟨gb145, 4, none⟩ = some (.int .u64 a0_4) := (blk_cell BK145.out 4).trans rfl
                  have hcz17_5 : w3.cell? ⟨gb145, 5, none⟩ = some (.int .i64 a0_5) := (blk_cell BK145.out 5).trans rfl
                  have hcz17_6 : w3.cell? ⟨gb145, 6, none⟩ = some (.int .i64 a0_6) := (blk_cell BK145.out 6).trans rfl
                  have hcz17_7 : w3.cell? ⟨gb145, 7, none⟩ = some (.int .i64 a0_7) := (blk_cell BK145.out 7).trans rfl
                  have hcz17_8 : w3.cell? ⟨gb145, 8, none⟩ = some (.slice A0_8 l0_8.length c0_8) := (blk_cell BK145.out 8).trans rfl
                  have hfz17_0 := blk_frozen BK145.out 0
                  have hfz17_1 := blk_frozen BK145.out 1
                  have hfz17_2 := blk_frozen BK145.out 2
                  have hfz17_3 := blk_frozen BK145.out 3
                  have hfz17_4 := blk_frozen BK145.out 4
                  have hfz17_5 := blk_frozen BK145.out 5
                  have hfz17_6 := blk_frozen BK145.out 6
                  have hfz17_7 := blk_frozen BK145.out 7
                  have hfz17_8 := blk_frozen BK145.out 8
                  go_wp2
                  go_meet
                  case rel => exact ⟨_, (true), (by first | rfl | (simp; done) | (simp [*]; done)), H', ⟨by first | omega | exact Nat.le_refl _⟩, ⟨by (with_reducible repeat (first | refine blk_drewN ?_ _ | refine blk_drew ?_ | refine blk_alloc ?_ _)); exact BK145.out⟩, ⟨by repeat (first | (with_reducible first | exact HB.out | apply below_alloc | apply pw_below_drewN | apply below_drew1 | refine below_set ?_ GE145.out) | exact HB.out)⟩⟩
                · rw [if_neg c16] at H
                  have c16b0 : decide (5 < a0_3) = false := decide_eq_false c16
                  clear c16
                  by_cases c18 : a0_4 < 1
                  · rw [if_pos c18] at H
                    have c18b0 : decide (a0_4 < 1) = true := decide_eq_true c18
                    clear c18
                    have H' := Aside0.mk H
                    clear H
                    have hcz19_0 : w3.cell? ⟨gb145, 0, none⟩ = some (.int .i64 a0_0) := (blk_cell BK145.out 0).trans rfl
                    have hcz19_1 : w3.cell? ⟨gb145, 1, none⟩ = some (.int .i64 a0_1) := (blk_cell BK145.out 1).trans rfl
                    have hcz19_2 : w3.cell? ⟨gb145, 2, none⟩ = some (.int .u64 a0_2) := (blk_cell BK145.out 2).trans rfl
                    have hcz19_3 : w3.cell? ⟨gb145, 3, none⟩ = some (.int .i64 a0_3) := (blk_cell BK145.out 3).trans rfl
                    have hcz19_4 : w3.cell? ⟨gb145, 4, none⟩ = some (.int .u64 a0_4) := (blk_cell BK145.out 4).trans rfl
                    have hcz19_5 : w3.cell? ⟨gb145, 5, none⟩ = some (.int .i64 a0_5) := (blk_cell BK145.out 5).trans rfl
                    have hcz19_6 : w3.cell? ⟨gb145, 6, none⟩ = some (.int .i64 a0_6) := (blk_cell BK145.out 6).trans rfl
                    have hcz19_7 : w3.cell? ⟨gb145, 7, none⟩ = some (.int .i64 a0_7) := (blk_cell BK145.out 7).trans rfl
                    have hcz19_8 : w3.cell? ⟨gb145, 8, none⟩ = some (.slice A0_8 l0_8.length c0_8) := (blk_cell BK145.out 8).trans rfl
                    have hfz19_0 := blk_frozen BK145.out 0
                    have hfz19_1 := blk_frozen BK145.out 1
                    have hfz19_2 := blk_frozen BK145.out 2
                    have hfz19_3 := blk_frozen BK145.out 3
                    have hfz19_4 := blk_frozen BK145.out 4
                    have hfz19_5 := blk_frozen BK145.out 5
                    have hfz19_6 := blk_frozen BK145.out 6
                    have hfz19_7 := blk_frozen BK145.out 7
                    have hfz19_8 := blk_frozen BK145.out 8
                    go_wp2
                    go_meet
                    case rel => exact ⟨_, (true), (by first | rfl | (simp; done) | (simp [*]; done)), H', ⟨by first | omega | exact Nat.le_refl _⟩, ⟨by (with_reducible repeat (first | refine blk_drewN ?_ _ | refine blk_drew ?_ | refine blk_alloc ?_ _)); exact BK145.out⟩, ⟨by repeat (first | (with_reducible first | exact HB.out | apply below_alloc | apply pw_below_drewN | apply below_drew1 | refine below_set ?_ GE145.out) | exact HB.out)⟩⟩
                  · rw [if_neg c18] at H
                    have c18b0 : decide (a0_4 < 1) = false := decide_eq_false c18
                    clear c18
                    have H' := Aside0.mk H
                    clear H
                    have hcz20_0 : w3.cell? ⟨gb145, 0, none⟩ = some (.int .i64 a0_0) := (blk_cell BK145.out 0).trans rfl
                    have hcz20_1 : w3.cell? ⟨gb145, 1, none⟩ = some (.int .i64 a0_1) := (blk_cell BK145.out 1).trans rfl
                    have hcz20_2 : w3.cell? ⟨gb145, 2, none⟩ = some (.int .u64 a0_2) := (blk_cell BK145.out 2).trans rfl
                    have hcz20_3 : w3.cell? ⟨gb145, 3, none⟩ = some (.int .i64 a0_3) := (blk_cell BK145.out 3).trans rfl
                    have hcz20_4 : w3.cell? ⟨gb145, 4, none⟩ = some (.int .u64 a0_4) := (blk_cell BK145.out 4).trans rfl
                    have hcz20_5 : w3.cell? ⟨gb145, 5, none⟩ = some (.int .i64 a0_5) := (blk_cell BK145.out 5).trans rfl
                    have hcz20_6 : w3.cell? ⟨gb145, 6, none⟩ = some (.int .i64 a0_6) := (blk_cell BK145.out 6).trans rfl
                    have hcz20_7 : w3.cell? ⟨gb145, 7, none⟩ = some (.int .i64 a0_7) := (blk_cell BK145.out 7).trans rfl
                    have hcz20_8 : w3.cell? ⟨gb145, 8, none⟩ = some (.slice A0_8 l0_8.length c0_8) := (blk_cell BK145.out 8).trans rfl
                    have hfz20_0 := blk_frozen BK145.out 0
                    have hfz20_1 := blk_frozen BK145.out 1
                    have hfz20_2 := blk_frozen BK145.out 2
                    have hfz20_3 := blk_frozen BK145.out 3
                    have hfz20_4 := blk_frozen BK145.out 4
                    have hfz20_5 := blk_frozen BK145.out 5
                    have hfz20_6 := blk_frozen BK145.out 6
                    have hfz20_7 := blk_frozen BK145.out 7
                    have hfz20_8 := blk_frozen BK145.out 8
                    go_wp2
                    go_meet
                    case rel => exact ⟨_, (decide (a0_4 > a0_2)), (by first | rfl | (simp; done) | (simp [*]; done)), H', ⟨by first | omega | exact Nat.le_refl _⟩, ⟨by (with_reducible repeat (first | refine blk_drewN ?_ _ | refine blk_drew ?_ | refine blk_alloc ?_ _)); exact BK145.out⟩, ⟨by repeat (first | (with_reducible first | exact HB.out | apply below_alloc | apply pw_below_drewN | apply below_drew1 | refine below_set ?_ GE145.out) | exact HB.out)⟩⟩
  case rest =>
    clear HC2
    try clear c1
    try clear p2
    try clear c4
    try clear c4b0
    try clear c6
    try clear c6b0
    try clear c8
    try clear c8b0
    try clear c10
    try clear c10b0
    try clear c12
    try clear c12b0
    try clear c13
    try clear c14
    try clear c14b0
    try clear c16
    try clear c16b0
    try clear c18
    try clear c18b0
    try clear hcz11_0
    try clear hcz11_1
    try clear hcz11_2
    try clear hcz11_3
    try clear hcz11_4
    try clear hcz11_5
    try clear hcz11_6
    try clear hcz11_7
    try clear hcz11_8
    try clear hcz13_0
    try clear hcz13_1
    try clear hcz13_2
    try clear hcz13_3
    try clear hcz13_4
    try clear hcz13_5
    try clear hcz13_6
    try clear hcz13_7
    try clear hcz13_8
    try clear hcz15_0
    try clear hcz15_1
    try clear hcz15_2
    try clear hcz15_3
    try clear hcz15_4
    try clear hcz15_5
    try clear hcz15_6
    try clear hcz15_7
    try clear hcz15_8
    try clear hcz17_0
    try clear hcz17_1
    try clear hcz17_2
    try clear hcz17_3
    try clear hcz17_4
    try clear hcz17_5
    try clear hcz17_6
    try clear hcz17_7
    try clear hcz17_8
    try clear hcz19_0
    try clear hcz19_1
    try clear hcz19_2
    try clear hcz19_3
    try clear hcz19_4
    try clear hcz19_5
    try clear hcz19_6
    try clear hcz19_7
    try clear hcz19_8
    try clear hcz20_0
    try clear hcz20_1
    try clear hcz20_2
    try clear hcz20_3
    try clear hcz20_4
    try clear hcz20_5
    try clear hcz20_6
    try clear hcz20_7
    try clear hcz20_8
    try clear hcz5_0
    try clear hcz5_1
    try clear hcz5_2
    try clear hcz5_3
    try clear hcz5_4
    try clear hcz5_5
    try clear hcz5_6
    try clear hcz5_7
    try clear hcz5_8
    try clear hcz7_0
    try clear hcz7_1
    try clear hcz7_2
    try clear hcz7_3
    try clear hcz7_4
    try clear hcz7_5
    try clear hcz7_6
    try clear hcz7_7
    try clear hcz7_8
    try clear hcz9_0
    try clear hcz9_1
    try clear hcz9_2
    try clear hcz9_3
    try clear hcz9_4
    try clear hcz9_5
    try clear hcz9_6
    try clear hcz9_7
    try clear hcz9_8
    try clear hfz11_0
    try clear hfz11_1
    try clear hfz11_2
    try clear hfz11_3
    try clear hfz11_4
    try clear hfz11_5
    try clear hfz11_6
    try clear hfz11_7
    try clear hfz11_8
    try clear hfz13_0
    try clear hfz13_1
    try clear hfz13_2
    try clear hfz13_3
    try clear hfz13_4
    try clear hfz13_5
    try clear hfz13_6
    try clear hfz13_7
    try clear hfz13_8
    try clear hfz15_0
    try clear hfz15_1
    try clear hfz15_2
    try clear hfz15_3
    try clear hfz15_4
    try clear hfz15_5
    try clear hfz15_6
    try clear hfz15_7
    try clear hfz15_8
    try clear hfz17_0
    try clear hfz17_1
    try clear hfz17_2
    try clear hfz17_3
    try clear hfz17_4
    try clear hfz17_5
    try clear hfz17_6
    try clear hfz17_7
    try clear hfz17_8
    try clear hfz19_0
    try clear hfz19_1
    try clear hfz19_2
    try clear hfz19_3
    try clear hfz19_4
    try clear hfz19_5
    try clear hfz19_6
    try clear hfz19_7
    try clear hfz19_8
    try clear hfz20_0
    try clear hfz20_1
    try clear hfz20_2
    try clear hfz20_3
    try clear hfz20_4
    try clear hfz20_5
    try clear hfz20_6
    try clear hfz20_7
    try clear hfz20_8
    try clear hfz5_0
    try clear hfz5_1
    try clear hfz5_2
    try clear hfz5_3
    try clear hfz5_4
    try clear hfz5_5
    try clear hfz5_6
    try clear hfz5_7
    try clear hfz5_8
    try clear hfz7_0
    try clear hfz7_1
    try clear hfz7_2
    try clear hfz7_3
    try clear hfz7_4
    try clear hfz7_5
    try clear hfz7_6
    try clear hfz7_7
    try clear hfz7_8
    try clear hfz9_0
    try clear hfz9_1
    try clear hfz9_2
    try clear hfz9_3
    try clear hfz9_4
    try clear hfz9_5
    try clear hfz9_6
    try clear hfz9_7
    try clear hfz9_8
    obtain ⟨kq, x47_1, rfl, HA, HJ1, BK145, HB⟩ := hcut
    cases kq with
    | zero => exact absurd HA.out (by simp [courierref15_Formed.j0])
    | succ kj1 =>
      have H := HA.out
      clear HA
      simp only [courierref15_Formed.j0] at H
      by_cases c21 : x47_1 = true
      · subst c21
        have H1 : (some false) = some r := by rw [if_pos rfl] at H; exact H
        clear H
        have H := H1
        clear H1
        obtain rfl := Option.some.inj H
        go_wp2
        go_ret
        exact ⟨by first | rfl | (simp [errW_none, errW_some] <;> rfl) | (simp [*, errW_none, errW_some] <;> rfl), by repeat (first | (with_reducible first | exact HB.out | apply below_alloc | apply pw_below_drewN | apply below_drew1 | refine below_set ?_ GE145.out) | exact HB.out)⟩
      · replace c21 := Bool.eq_false_iff.mpr c21
        subst c21
        have H1 : (if a0_5 < 0 then (some false) else (if a0_5 > 2147483647 then (some false) else (if a0_6 < 0 then (some false) else (if a0_6 > 1099511627776 then (some false) else (if a0_7 < 0 then (some false) else (if a0_7 > 255 then (some false) else (if (l0_8.length : Int) > 4096 then (some false) else (if a0_0 = 3 then (if (l0_8.length : Int) = 0 then (if a0_0 = 2 then (some true) else (some (a0_7 == 0))) else (some false)) else (if a0_0 = 2 then (some true) else (some (a0_7 == 0))))))))))) = some r := by rw [if_neg (show ¬ (false = true) by decide)] at H; exact H
        clear H
        have H := H1
        clear H1
        by_cases c22 : a0_5 < 0
        · rw [if_pos c22] at H
          have c22b0 : decide (a0_5 < 0) = true := decide_eq_true c22
          clear c22
          obtain rfl := Option.some.inj H
          have hcz23_0 : wc.cell? ⟨gb145, 0, none⟩ = some (.int .i64 a0_0) := (blk_cell BK145.out 0).trans rfl
          have hcz23_1 : wc.cell? ⟨gb145, 1, none⟩ = some (.int .i64 a0_1) := (blk_cell BK145.out 1).trans rfl
          have hcz23_2 : wc.cell? ⟨gb145, 2, none⟩ = some (.int .u64 a0_2) := (blk_cell BK145.out 2).trans rfl
          have hcz23_3 : wc.cell? ⟨gb145, 3, none⟩ = some (.int .i64 a0_3) := (blk_cell BK145.out 3).trans rfl
          have hcz23_4 : wc.cell? ⟨gb145, 4, none⟩ = some (.int .u64 a0_4) := (blk_cell BK145.out 4).trans rfl
          have hcz23_5 : wc.cell? ⟨gb145, 5, none⟩ = some (.int .i64 a0_5) := (blk_cell BK145.out 5).trans rfl
          have hcz23_6 : wc.cell? ⟨gb145, 6, none⟩ = some (.int .i64 a0_6) := (blk_cell BK145.out 6).trans rfl
          have hcz23_7 : wc.cell? ⟨gb145, 7, none⟩ = some (.int .i64 a0_7) := (blk_cell BK145.out 7).trans rfl
          have hcz23_8 : wc.cell? ⟨gb145, 8, none⟩ = some (.slice A0_8 l0_8.length c0_8) := (blk_cell BK145.out 8).trans rfl
          have hfz23_0 := blk_frozen BK145.out 0
          have hfz23_1 := blk_frozen BK145.out 1
          have hfz23_2 := blk_frozen BK145.out 2
          have hfz23_3 := blk_frozen BK145.out 3
          have hfz23_4 := blk_frozen BK145.out 4
          have hfz23_5 := blk_frozen BK145.out 5
          have hfz23_6 := blk_frozen BK145.out 6
          have hfz23_7 := blk_frozen BK145.out 7
          have hfz23_8 := blk_frozen BK145.out 8
          go_wp2
          go_ret
          exact ⟨by first | rfl | (simp [errW_none, errW_some] <;> rfl) | (simp [*, errW_none, errW_some] <;> rfl), by repeat (first | (with_reducible first | exact HB.out | apply below_alloc | apply pw_below_drewN | apply below_drew1 | refine below_set ?_ GE145.out) | exact HB.out)⟩
        · rw [if_neg c22] at H
          have c22b0 : decide (a0_5 < 0) = false := decide_eq_false c22
          clear c22
          by_cases c24 : a0_5 > 2147483647
          · rw [if_pos c24] at H
            have c24b0 : decide (2147483647 < a0_5) = true := decide_eq_true c24
            clear c24
            obtain rfl := Option.some.inj H
            have hcz25_0 : wc.cell? ⟨gb145, 0, none⟩ = some (.int .i64 a0_0) := (blk_cell BK145.out 0).trans rfl
            have hcz25_1 : wc.cell? ⟨gb145, 1, none⟩ = some (.int .i64 a0_1) := (blk_cell BK145.out 1).trans rfl
            have hcz25_2 : wc.cell? ⟨gb145, 2, none⟩ = some (.int .u64 a0_2) := (blk_cell BK145.out 2).trans rfl
            have hcz25_3 : wc.cell? ⟨gb145, 3, none⟩ = some (.int .i64 a0_3) := (blk_cell BK145.out 3).trans rfl
            have hcz25_4 : wc.cell? ⟨gb145, 4, none⟩ = some (.int .u64 a0_4) := (blk_cell BK145.out 4).trans rfl
            have hcz25_5 : wc.cell? ⟨gb145, 5, none⟩ = some (.int .i64 a0_5) := (blk_cell BK145.out 5).trans rfl
            have hcz25_6 : wc.cell? ⟨gb145, 6, none⟩ = some (.int .i64 a0_6) := (blk_cell BK145.out 6).trans rfl
            have hcz25_7 : wc.cell? ⟨gb145, 7, none⟩ = some (.int .i64 a0_7) := (blk_cell BK145.out 7).trans rfl
            have hcz25_8 : wc.cell? ⟨gb145, 8, none⟩ = some (.slice A0_8 l0_8.length c0_8) := (blk_cell BK145.out 8).trans rfl
            have hfz25_0 := blk_frozen BK145.out 0
            have hfz25_1 := blk_frozen BK145.out 1
            have hfz25_2 := blk_frozen BK145.out 2
            have hfz25_3 := blk_frozen BK145.out 3
            have hfz25_4 := blk_frozen BK145.out 4
            have hfz25_5 := blk_frozen BK145.out 5
            have hfz25_6 := blk_frozen BK145.out 6
            have hfz25_7 := blk_frozen BK145.out 7
            have hfz25_8 := blk_frozen BK145.out 8
            go_wp2
            go_ret
            exact ⟨by first | rfl | (simp [errW_none, errW_some] <;> rfl) | (simp [*, errW_none, errW_some] <;> rfl), by repeat (first | (with_reducible first | exact HB.out | apply below_alloc | apply pw_below_drewN | apply below_drew1 | refine below_set ?_ GE145.out) | exact HB.out)⟩
          · rw [if_neg c24] at H
            have c24b0 : decide (2147483647 < a0_5) = false := decide_eq_false c24
            clear c24
            by_cases c26 : a0_6 < 0
            · rw [if_pos c26] at H
              have c26b0 : decide (a0_6 < 0) = true := decide_eq_true c26
              clear c26
              obtain rfl := Option.some.inj H
              have hcz27_0 : wc.cell? ⟨gb145, 0, none⟩ = some (.int .i64 a0_0) := (blk_cell BK145.out 0).trans rfl
              have hcz27_1 : wc.cell? ⟨gb145, 1, none⟩ = some (.int .i64 a0_1) := (blk_cell BK145.out 1).trans rfl
              have hcz27_2 : wc.cell? ⟨gb145, 2, none⟩ = some (.int .u64 a0_2) := (blk_cell BK145.out 2).trans rfl
              have hcz27_3 : wc.cell? ⟨gb145, 3, none⟩ = some (.int .i64 a0_3) := (blk_cell BK145.out 3).trans rfl
              have hcz27_4 : wc.cell? ⟨gb145, 4, none⟩ = some (.int .u64 a0_4) := (blk_cell BK145.out 4).trans rfl
              have hcz27_5 : wc.cell? ⟨gb145, 5, none⟩ = some (.int .i64 a0_5) := (blk_cell BK145.out 5).trans rfl
              have hcz27_6 : wc.cell? ⟨gb145, 6, none⟩ = some (.int .i64 a0_6) := (blk_cell BK145.out 6).trans rfl
              have hcz27_7 : wc.cell? ⟨gb145, 7, none⟩ = some (.int .i64 a0_7) := (blk_cell BK145.out 7).trans rfl
              have hcz27_8 : wc.cell? ⟨gb145, 8, none⟩ = some (.slice A0_8 l0_8.length c0_8) := (blk_cell BK145.out 8).trans rfl
              have hfz27_0 := blk_frozen BK145.out 0
              have hfz27_1 := blk_frozen BK145.out 1
              have hfz27_2 := blk_frozen BK145.out 2
              have hfz27_3 := blk_frozen BK145.out 3
              have hfz27_4 := blk_frozen BK145.out 4
              have hfz27_5 := blk_frozen BK145.out 5
              have hfz27_6 := blk_frozen BK145.out 6
              have hfz27_7 := blk_frozen BK145.out 7
              have hfz27_8 := blk_frozen BK145.out 8
              go_wp2
              go_ret
              exact ⟨by first | rfl | (simp [errW_none, errW_some] <;> rfl) | (simp [*, errW_none, errW_some] <;> rfl), by repeat (first | (with_reducible first | exact HB.out | apply below_alloc | apply pw_below_drewN | apply below_drew1 | refine below_set ?_ GE145.out) | exact HB.out)⟩
            · rw [if_neg c26] at H
              have c26b0 : decide (a0_6 < 0) = false := decide_eq_false c26
              clear c26
              by_cases c28 : a0_6 > 1099511627776
              · rw [if_pos c28] at H
                have c28b0 : decide (1099511627776 < a0_6) = true := decide_eq_true c28
                clear c28
                obtain rfl := Option.some.inj H
                have hcz29_0 : wc.cell? ⟨gb145, 0, none⟩ = some (.int .i64 a0_0) := (blk_cell BK145.out 0).trans rfl
                have hcz29_1 : wc.cell? ⟨gb145, 1, none⟩ = some (.int .i64 a0_1) := (blk_cell BK145.out 1).trans rfl
                have hcz29_2 : wc.cell? ⟨gb145, 2, none⟩ = some (.int .u64 a0_2) := (blk_cell BK145.out 2).trans rfl
                have hcz29_3 : wc.cell? ⟨gb145, 3, none⟩ = some (.int .i64 a0_3) := (blk_cell BK145.out 3).trans rfl
                have hcz29_4 : wc.cell? ⟨gb145, 4, none⟩ = some (.int .u64 a0_4) := (blk_cell BK145.out 4).trans rfl
                have hcz29_5 : wc.cell? ⟨gb145, 5, none⟩ = some (.int .i64 a0_5) := (blk_cell BK145.out 5).trans rfl
                have hcz29_6 : wc.cell? ⟨gb145, 6, none⟩ = some (.int .i64 a0_6) := (blk_cell BK145.out 6).trans rfl
                have hcz29_7 : wc.cell? ⟨gb145, 7, none⟩ = some (.int .i64 a0_7) := (blk_cell BK145.out 7).trans rfl
                have hcz29_8 : wc.cell? ⟨gb145, 8, none⟩ = some (.slice A0_8 l0_8.length c0_8) := (blk_cell BK145.out 8).trans rfl
                have hfz29_0 := blk_frozen BK145.out 0
                have hfz29_1 := blk_frozen BK145.out 1
                have hfz29_2 := blk_frozen BK145.out 2
                have hfz29_3 := blk_frozen BK145.out 3
                have hfz29_4 := blk_frozen BK145.out 4
                have hfz29_5 := blk_frozen BK145.out 5
                have hfz29_6 := blk_frozen BK145.out 6
                have hfz29_7 := blk_frozen BK145.out 7
                have hfz29_8 := blk_frozen BK145.out 8
                go_wp2
                go_ret
                exact ⟨by first | rfl | (simp [errW_none, errW_some] <;> rfl) | (simp [*, errW_none, errW_some] <;> rfl), by repeat (first | (with_reducible first | exact HB.out | apply below_alloc | apply pw_below_drewN | apply below_drew1 | refine below_set ?_ GE145.out) | exact HB.out)⟩
              · rw [if_neg c28] at H
                have c28b0 : decide (1099511627776 < a0_6) = false := decide_eq_false c28
                clear c28
                by_cases c30 : a0_7 < 0
                · rw [if_pos c30] at H
                  have c30b0 : decide (a0_7 < 0) = true := decide_eq_true c30
                  clear c30
                  obtain rfl := Option.some.inj H
                  have hcz31_0 : wc.cell? ⟨gb145, 0, none⟩ = some (.int .i64 a0_0) := (blk_cell BK145.out 0).trans rfl
                  have hcz31_1 : wc.cell? ⟨gb145, 1, none⟩ = some (.int .i64 a0_1) := (blk_cell BK145.out 1).trans rfl
                  have hcz31_2 : wc.cell? ⟨gb145, 2, none⟩ = some (.int .u64 a0_2) := (blk_cell BK145.out 2).trans rfl
                  have hcz31_3 : wc.cell? ⟨gb145, 3, none⟩ = some (.int .i64 a0_3) := (blk_cell BK145.out 3).trans rfl
                  have hcz31_4 : wc.cell? ⟨gb145, 4, none⟩ = some (.int .u64 a0_4) := (blk_cell BK145.out 4).trans rfl
                  have hcz31_5 : wc.cell? ⟨gb145, 5, none⟩ = some (.int .i64 a0_5) := (blk_cell BK145.out 5).trans rfl
                  have hcz31_6 : wc.cell? ⟨gb145, 6, none⟩ = some (.int .i64 a0_6) := (blk_cell BK145.out 6).trans rfl
                  have hcz31_7 : wc.cell? ⟨gb145, 7, none⟩ = some (.int .i64 a0_7) := (blk_cell BK145.out 7).trans rfl
                  have hcz31_8 : wc.cell? ⟨gb145, 8, none⟩ = some (.slice A0_8 l0_8.length c0_8) := (blk_cell BK145.out 8).trans rfl
                  have hfz31_0 := blk_frozen BK145.out 0
                  have hfz31_1 := blk_frozen BK145.out 1
                  have hfz31_2 := blk_frozen BK145.out 2
                  have hfz31_3 := blk_frozen BK145.out 3
                  have hfz31_4 := blk_frozen BK145.out 4
                  have hfz31_5 := blk_frozen BK145.out 5
                  have hfz31_6 := blk_frozen BK145.out 6
                  have hfz31_7 := blk_frozen BK145.out 7
                  have hfz31_8 := blk_frozen BK145.out 8
                  go_wp2
                  go_ret
                  exact ⟨by first | rfl | (simp [errW_none, errW_some] <;> rfl) | (simp [*, errW_none, errW_some] <;> rfl), by repeat (first | (with_reducible first | exact HB.out | apply below_alloc | apply pw_below_drewN | apply below_drew1 | refine below_set ?_ GE145.out) | exact HB.out)⟩
                · rw [if_neg c30] at H
                  have c30b0 : decide (a0_7 < 0) = false := decide_eq_false c30
                  clear c30
                  by_cases c32 : a0_7 > 255
                  · rw [if_pos c32] at H
                    have c32b0 : decide (255 < a0_7) = true := decide_eq_true c32
                    clear c32
                    obtain rfl := Option.some.inj H
                    have hcz33_0 : wc.cell? ⟨gb145, 0, none⟩ = some (.int .i64 a0_0) := (blk_cell BK145.out 0).trans rfl
                    have hcz33_1 : wc.cell? ⟨gb145, 1, none⟩ = some (.int .i64 a0_1) := (blk_cell BK145.out 1).trans rfl
                    have hcz33_2 : wc.cell? ⟨gb145, 2, none⟩ = some (.int .u64 a0_2) := (blk_cell BK145.out 2).trans rfl
                    have hcz33_3 : wc.cell? ⟨gb145, 3, none⟩ = some (.int .i64 a0_3) := (blk_cell BK145.out 3).trans rfl
                    have hcz33_4 : wc.cell? ⟨gb145, 4, none⟩ = some (.int .u64 a0_4) := (blk_cell BK145.out 4).trans rfl
                    have hcz33_5 : wc.cell? ⟨gb145, 5, none⟩ = some (.int .i64 a0_5) := (blk_cell BK145.out 5).trans rfl
                    have hcz33_6 : wc.cell? ⟨gb145, 6, none⟩ = some (.int .i64 a0_6) := (blk_cell BK145.out 6).trans rfl
                    have hcz33_7 : wc.cell? ⟨gb145, 7, none⟩ = some (.int .i64 a0_7) := (blk_cell BK145.out 7).trans rfl
                    have hcz33_8 : wc.cell? ⟨gb145, 8, none⟩ = some (.slice A0_8 l0_8.length c0_8) := (blk_cell BK145.out 8).trans rfl
                    have hfz33_0 := blk_frozen BK145.out 0
                    have hfz33_1 := blk_frozen BK145.out 1
                    have hfz33_2 := blk_frozen BK145.out 2
                    have hfz33_3 := blk_frozen BK145.out 3
                    have hfz33_4 := blk_frozen BK145.out 4
                    have hfz33_5 := blk_frozen BK145.out 5
                    have hfz33_6 := blk_frozen BK145.out 6
                    have hfz33_7 := blk_frozen BK145.out 7
                    have hfz33_8 := blk_frozen BK145.out 8
                    go_wp2
                    go_ret
                    exact ⟨by first | rfl | (simp [errW_none, errW_some] <;> rfl) | (simp [*, errW_none, errW_some] <;> rfl), by repeat (first | (with_reducible first | exact HB.out | apply below_alloc | apply pw_below_drewN | apply below_drew1 | refine below_set ?_ GE145.out) | exact HB.out)⟩
                  · rw [if_neg c32] at H
                    have c32b0 : decide (255 < a0_7) = false := decide_eq_false c32
                    clear c32
                    by_cases c34 : (l0_8.length : Int) > 4096
                    · rw [if_pos c34] at H
                      have c34b0 : decide (4096 < (l0_8.length : Int)) = true := decide_eq_true c34
                      have c34b1 : decide (4096 < l0_8.length) = true := decide_eq_true (by omega)
                      clear c34
                      obtain rfl := Option.some.inj H
                      have hcz35_0 : wc.cell? ⟨gb145, 0, none⟩ = some (.int .i64 a0_0) := (blk_cell BK145.out 0).trans rfl
                      have hcz35_1 : wc.cell? ⟨gb145, 1, none⟩ = some (.int .i64 a0_1) := (blk_cell BK145.out 1).trans rfl
                      have hcz35_2 : wc.cell? ⟨gb145, 2, none⟩ = some (.int .u64 a0_2) := (blk_cell BK145.out 2).trans rfl
                      have hcz35_3 : wc.cell? ⟨gb145, 3, none⟩ = some (.int .i64 a0_3) := (blk_cell BK145.out 3).trans rfl
                      have hcz35_4 : wc.cell? ⟨gb145, 4, none⟩ = some (.int .u64 a0_4) := (blk_cell BK145.out 4).trans rfl
                      have hcz35_5 : wc.cell? ⟨gb145, 5, none⟩ = some (.int .i64 a0_5) := (blk_cell BK145.out 5).trans rfl
                      have hcz35_6 : wc.cell? ⟨gb145, 6, none⟩ = some (.int .i64 a0_6) := (blk_cell BK145.out 6).trans rfl
                      have hcz35_7 : wc.cell? ⟨gb145, 7, none⟩ = some (.int .i64 a0_7) := (blk_cell BK145.out 7).trans rfl
                      have hcz35_8 : wc.cell? ⟨gb145, 8, none⟩ = some (.slice A0_8 l0_8.length c0_8) := (blk_cell BK145.out 8).trans rfl
                      have hfz35_0 := blk_frozen BK145.out 0
                      have hfz35_1 := blk_frozen BK145.out 1
                      have hfz35_2 := blk_frozen BK145.out 2
                      have hfz35_3 := blk_frozen BK145.out 3
                      have hfz35_4 := blk_frozen BK145.out 4
                      have hfz35_5 := blk_frozen BK145.out 5
                      have hfz35_6 := blk_frozen BK145.out 6
                      have hfz35_7 := blk_frozen BK145.out 7
                      have hfz35_8 := blk_frozen BK145.out 8
                      go_wp2
                      go_ret
                      exact ⟨by first | rfl | (simp [errW_none, errW_some] <;> rfl) | (simp [*, errW_none, errW_some] <;> rfl), by repeat (first | (with_reducible first | exact HB.out | apply below_alloc | apply pw_below_drewN | apply below_drew1 | refine below_set ?_ GE145.out) | exact HB.out)⟩
                    · rw [if_neg c34] at H
                      have c34b0 : decide (4096 < (l0_8.length : Int)) = false := decide_eq_false c34
                      have c34b1 : decide (4096 < l0_8.length) = false := decide_eq_false (by omega)
                      clear c34
                      by_cases c36 : a0_0 = 3
                      · rw [if_pos c36] at H
                        have c36b0 : (a0_0 == 3) = true := beq_iff_eq.mpr c36
                        have c36b1 : (a0_0 != 3) = false := bne_eq_false_iff_eq.mpr c36
                        clear c36
                        by_cases c37 : (l0_8.length : Int) = 0
                        · rw [if_pos c37] at H
                          have c37b0 : ((l0_8.length : Int) == 0) = true := beq_iff_eq.mpr c37
                          have c37b1 : ((l0_8.length : Int) != 0) = false := bne_eq_false_iff_eq.mpr c37
                          clear c37
                          by_cases c38 : a0_0 = 2
                          · rw [if_pos c38] at H
                            have c38b0 : (a0_0 == 2) = true := beq_iff_eq.mpr c38
                            have c38b1 : (a0_0 != 2) = false := bne_eq_false_iff_eq.mpr c38
                            clear c38
                            obtain rfl := Option.some.inj H
                            have hcz39_0 : wc.cell? ⟨gb145, 0, none⟩ = some (.int .i64 a0_0) := (blk_cell BK145.out 0).trans rfl
                            have hcz39_1 : wc.cell? ⟨gb145, 1, none⟩ = some (.int .i64 a0_1) := (blk_cell BK145.out 1).trans rfl
                            have hcz39_2 : wc.cell? ⟨gb145, 2, none⟩ = some (.int .u64 a0_2) := (blk_cell BK145.out 2).trans rfl
                            have hcz39_3 : wc.cell? ⟨gb145, 3, none⟩ = some (.int .i64 a0_3) := (blk_cell BK145.out 3).trans rfl
                            have hcz39_4 : wc.cell? ⟨gb145, 4, none⟩ = some (.int .u64 a0_4) := (blk_cell BK145.out 4).trans rfl
                            have hcz39_5 : wc.cell? ⟨gb145, 5, none⟩ = some (.int .i64 a0_5) := (blk_cell BK145.out 5).trans rfl
                            have hcz39_6 : wc.cell? ⟨gb145, 6, none⟩ = some (.int .i64 a0_6) := (blk_cell BK145.out 6).trans rfl
                            have hcz39_7 : wc.cell? ⟨gb145, 7, none⟩ = some (.int .i64 a0_7) := (blk_cell BK145.out 7).trans rfl
                            have hcz39_8 : wc.cell? ⟨gb145, 8, none⟩ = some (.slice A0_8 l0_8.length c0_8) := (blk_cell BK145.out 8).trans rfl
                            have hfz39_0 := blk_frozen BK145.out 0
                            have hfz39_1 := blk_frozen BK145.out 1
                            have hfz39_2 := blk_frozen BK145.out 2
                            have hfz39_3 := blk_frozen BK145.out 3
                            have hfz39_4 := blk_frozen BK145.out 4
                            have hfz39_5 := blk_frozen BK145.out 5
                            have hfz39_6 := blk_frozen BK145.out 6
                            have hfz39_7 := blk_frozen BK145.out 7
                            have hfz39_8 := blk_frozen BK145.out 8
                            go_wp2
                            go_ret
                            exact ⟨by first | rfl | (simp [errW_none, errW_some] <;> rfl) | (simp [*, errW_none, errW_some] <;> rfl), by repeat (first | (with_reducible first | exact HB.out | apply below_alloc | apply pw_below_drewN | apply below_drew1 | refine below_set ?_ GE145.out) | exact HB.out)⟩
                          · rw [if_neg c38] at H
                            have c38b0 : (a0_0 == 2) = false := beq_eq_false_iff_ne.mpr c38
                            have c38b1 : (a0_0 != 2) = true := bne_iff_ne.mpr c38
                            obtain rfl := Option.some.inj H
                            have hcz40_0 : wc.cell? ⟨gb145, 0, none⟩ = some (.int .i64 a0_0) := (blk_cell BK145.out 0).trans rfl
                            have hcz40_1 : wc.cell? ⟨gb145, 1, none⟩ = some (.int .i64 a0_1) := (blk_cell BK145.out 1).trans rfl
                            have hcz40_2 : wc.cell? ⟨gb145, 2, none⟩ = some (.int .u64 a0_2) := (blk_cell BK145.out 2).trans rfl
                            have hcz40_3 : wc.cell? ⟨gb145, 3, none⟩ = some (.int .i64 a0_3) := (blk_cell BK145.out 3).trans rfl
                            have hcz40_4 : wc.cell? ⟨gb145, 4, none⟩ = some (.int .u64 a0_4) := (blk_cell BK145.out 4).trans rfl
                            have hcz40_5 : wc.cell? ⟨gb145, 5, none⟩ = some (.int .i64 a0_5) := (blk_cell BK145.out 5).trans rfl
                            have hcz40_6 : wc.cell? ⟨gb145, 6, none⟩ = some (.int .i64 a0_6) := (blk_cell BK145.out 6).trans rfl
                            have hcz40_7 : wc.cell? ⟨gb145, 7, none⟩ = some (.int .i64 a0_7) := (blk_cell BK145.out 7).trans rfl
                            have hcz40_8 : wc.cell? ⟨gb145, 8, none⟩ = some (.slice A0_8 l0_8.length c0_8) := (blk_cell BK145.out 8).trans rfl
                            have hfz40_0 := blk_frozen BK145.out 0
                            have hfz40_1 := blk_frozen BK145.out 1
                            have hfz40_2 := blk_frozen BK145.out 2
                            have hfz40_3 := blk_frozen BK145.out 3
                            have hfz40_4 := blk_frozen BK145.out 4
                            have hfz40_5 := blk_frozen BK145.out 5
                            have hfz40_6 := blk_frozen BK145.out 6
                            have hfz40_7 := blk_frozen BK145.out 7
                            have hfz40_8 := blk_frozen BK145.out 8
                            go_wp2
                            go_ret
                            exact ⟨by first | rfl | (simp [errW_none, errW_some] <;> rfl) | (simp [*, errW_none, errW_some] <;> rfl), by repeat (first | (with_reducible first | exact HB.out | apply below_alloc | apply pw_below_drewN | apply below_drew1 | refine below_set ?_ GE145.out) | exact HB.out)⟩
                        · rw [if_neg c37] at H
                          have c37b0 : ((l0_8.length : Int) == 0) = false := beq_eq_false_iff_ne.mpr c37
                          have c37b1 : ((l0_8.length : Int) != 0) = true := bne_iff_ne.mpr c37
                          have c37b2 : ¬ (l0_8 = []) := fun h_ => c37 (by rw [h_]; rfl)
                          obtain rfl := Option.some.inj H
                          have hcz41_0 : wc.cell? ⟨gb145, 0, none⟩ = some (.int .i64 a0_0) := (blk_cell BK145.out 0).trans rfl
                          have hcz41_1 : wc.cell? ⟨gb145, 1, none⟩ = some (.int .i64 a0_1) := (blk_cell BK145.out 1).trans rfl
                          have hcz41_2 : wc.cell? ⟨gb145, 2, none⟩ = some (.int .u64 a0_2) := (blk_cell BK145.out 2).trans rfl
                          have hcz41_3 : wc.cell? ⟨gb145, 3, none⟩ = some (.int .i64 a0_3) := (blk_cell BK145.out 3).trans rfl
                          have hcz41_4 : wc.cell? ⟨gb145, 4, none⟩ = some (.int .u64 a0_4) := (blk_cell BK145.out 4).trans rfl
                          have hcz41_5 : wc.cell? ⟨gb145, 5, none⟩ = some (.int .i64 a0_5) := (blk_cell BK145.out 5).trans rfl
                          have hcz41_6 : wc.cell? ⟨gb145, 6, none⟩ = some (.int .i64 a0_6) := (blk_cell BK145.out 6).trans rfl
                          have hcz41_7 : wc.cell? ⟨gb145, 7, none⟩ = some (.int .i64 a0_7) := (blk_cell BK145.out 7).trans rfl
                          have hcz41_8 : wc.cell? ⟨gb145, 8, none⟩ = some (.slice A0_8 l0_8.length c0_8) := (blk_cell BK145.out 8).trans rfl
                          have hfz41_0 := blk_frozen BK145.out 0
                          have hfz41_1 := blk_frozen BK145.out 1
                          have hfz41_2 := blk_frozen BK145.out 2
                          have hfz41_3 := blk_frozen BK145.out 3
                          have hfz41_4 := blk_frozen BK145.out 4
                          have hfz41_5 := blk_frozen BK145.out 5
                          have hfz41_6 := blk_frozen BK145.out 6
                          have hfz41_7 := blk_frozen BK145.out 7
                          have hfz41_8 := blk_frozen BK145.out 8
                          go_wp2
                          go_ret
                          exact ⟨by first | rfl | (simp [errW_none, errW_some] <;> rfl) | (simp [*, errW_none, errW_some] <;> rfl), by repeat (first | (with_reducible first | exact HB.out | apply below_alloc | apply pw_below_drewN | apply below_drew1 | refine below_set ?_ GE145.out) | exact HB.out)⟩
                      · rw [if_neg c36] at H
                        have c36b0 : (a0_0 == 3) = false := beq_eq_false_iff_ne.mpr c36
                        have c36b1 : (a0_0 != 3) = true := bne_iff_ne.mpr c36
                        by_cases c42 : a0_0 = 2
                        · rw [if_pos c42] at H
                          have c42b0 : (a0_0 == 2) = true := beq_iff_eq.mpr c42
                          have c42b1 : (a0_0 != 2) = false := bne_eq_false_iff_eq.mpr c42
                          clear c42
                          obtain rfl := Option.some.inj H
                          have hcz43_0 : wc.cell? ⟨gb145, 0, none⟩ = some (.int .i64 a0_0) := (blk_cell BK145.out 0).trans rfl
                          have hcz43_1 : wc.cell? ⟨gb145, 1, none⟩ = some (.int .i64 a0_1) := (blk_cell BK145.out 1).trans rfl
                          have hcz43_2 : wc.cell? ⟨gb145, 2, none⟩ = some (.int .u64 a0_2) := (blk_cell BK145.out 2).trans rfl
                          have hcz43_3 : wc.cell? ⟨gb145, 3, none⟩ = some (.int .i64 a0_3) := (blk_cell BK145.out 3).trans rfl
                          have hcz43_4 : wc.cell? ⟨gb145, 4, none⟩ = some (.int .u64 a0_4) := (blk_cell BK145.out 4).trans rfl
                          have hcz43_5 : wc.cell? ⟨gb145, 5, none⟩ = some (.int .i64 a0_5) := (blk_cell BK145.out 5).trans rfl
                          have hcz43_6 : wc.cell? ⟨gb145, 6, none⟩ = some (.int .i64 a0_6) := (blk_cell BK145.out 6).trans rfl
                          have hcz43_7 : wc.cell? ⟨gb145, 7, none⟩ = some (.int .i64 a0_7) := (blk_cell BK145.out 7).trans rfl
                          have hcz43_8 : wc.cell? ⟨gb145, 8, none⟩ = some (.slice A0_8 l0_8.length c0_8) := (blk_cell BK145.out 8).trans rfl
                          have hfz43_0 := blk_frozen BK145.out 0
                          have hfz43_1 := blk_frozen BK145.out 1
                          have hfz43_2 := blk_frozen BK145.out 2
                          have hfz43_3 := blk_frozen BK145.out 3
                          have hfz43_4 := blk_frozen BK145.out 4
                          have hfz43_5 := blk_frozen BK145.out 5
                          have hfz43_6 := blk_frozen BK145.out 6
                          have hfz43_7 := blk_frozen BK145.out 7
                          have hfz43_8 := blk_frozen BK145.out 8
                          go_wp2
                          go_ret
                          exact ⟨by first | rfl | (simp [errW_none, errW_some] <;> rfl) | (simp [*, errW_none, errW_some] <;> rfl), by repeat (first | (with_reducible first | exact HB.out | apply below_alloc | apply pw_below_drewN | apply below_drew1 | refine below_set ?_ GE145.out) | exact HB.out)⟩
                        · rw [if_neg c42] at H
                          have c42b0 : (a0_0 == 2) = false := beq_eq_false_iff_ne.mpr c42
                          have c42b1 : (a0_0 != 2) = true := bne_iff_ne.mpr c42
                          obtain rfl := Option.some.inj H
                          have hcz44_0 : wc.cell? ⟨gb145, 0, none⟩ = some (.int .i64 a0_0) := (blk_cell BK145.out 0).trans rfl
                          have hcz44_1 : wc.cell? ⟨gb145, 1, none⟩ = some (.int .i64 a0_1) := (blk_cell BK145.out 1).trans rfl
                          have hcz44_2 : wc.cell? ⟨gb145, 2, none⟩ = some (.int .u64 a0_2) := (blk_cell BK145.out 2).trans rfl
                          have hcz44_3 : wc.cell? ⟨gb145, 3, none⟩ = some (.int .i64 a0_3) := (blk_cell BK145.out 3).trans rfl
                          have hcz44_4 : wc.cell? ⟨gb145, 4, none⟩ = some (.int .u64 a0_4) := (blk_cell BK145.out 4).trans rfl
                          have hcz44_5 : wc.cell? ⟨gb145, 5, none⟩ = some (.int .i64 a0_5) := (blk_cell BK145.out 5).trans rfl
                          have hcz44_6 : wc.cell? ⟨gb145, 6, none⟩ = some (.int .i64 a0_6) := (blk_cell BK145.out 6).trans rfl
                          have hcz44_7 : wc.cell? ⟨gb145, 7, none⟩ = some (.int .i64 a0_7) := (blk_cell BK145.out 7).trans rfl
                          have hcz44_8 : wc.cell? ⟨gb145, 8, none⟩ = some (.slice A0_8 l0_8.length c0_8) := (blk_cell BK145.out 8).trans rfl
                          have hfz44_0 := blk_frozen BK145.out 0
                          have hfz44_1 := blk_frozen BK145.out 1
                          have hfz44_2 := blk_frozen BK145.out 2
                          have hfz44_3 := blk_frozen BK145.out 3
                          have hfz44_4 := blk_frozen BK145.out 4
                          have hfz44_5 := blk_frozen BK145.out 5
                          have hfz44_6 := blk_frozen BK145.out 6
                          have hfz44_7 := blk_frozen BK145.out 7
                          have hfz44_8 := blk_frozen BK145.out 8
                          go_wp2
                          go_ret
                          exact ⟨by first | rfl | (simp [errW_none, errW_some] <;> rfl) | (simp [*, errW_none, errW_some] <;> rfl), by repeat (first | (with_reducible first | exact HB.out | apply below_alloc | apply pw_below_drewN | apply below_drew1 | refine below_set ?_ GE145.out) | exact HB.out)⟩

end Go.Proofs.Ythhkdabajikckaa.X
