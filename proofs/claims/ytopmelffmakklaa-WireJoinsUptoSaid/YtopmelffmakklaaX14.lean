/- Plain functions for Go's own, out of the translation's print, and a proof that each call comes to what they tell; no condition but the functions' own answers. -/
import Derived.Test.YtopmelffmakklaaX0
namespace Go.Proofs.Ytopmelffmakklaa.X
open Go.RowKit Go.Proofs.YtopmelffmakklaaW.PrintWords Go.Proofs.YtopmelffmakklaaW.PrintLast Go.Proofs.YtopmelffmakklaaW.PrintMore
attribute [local go_sem] max2_int min2_int max_two min_two max_three min_three max_four min_four Go.Proofs.Ytopmelffmakklaa.MyWords.put_isSome Go.Proofs.Ytopmelffmakklaa.MyWords.drewN_put   -- for this text's walks alone
set_option linter.unusedVariables false
set_option linter.unusedSimpArgs false

/-! ### courierref01_Formed: function 12 -/
mutual
def courierref01_Formed.j0 : Nat → Bool → Int → Int → Int → List Int → Option (Bool)
  | 0, _, _, _, _, _ => none
  | k + 1, x10, x239000, x239001, x239002, x239003 => if x10 = true then (some false) else (if x239001 = 0 then (courierref01_Formed.j1 k x239001 (x239001 == 0) x239000 x239001 x239002 x239003) else (courierref01_Formed.j1 k x239001 (x239001 == 1) x239000 x239001 x239002 x239003))
def courierref01_Formed.j1 : Nat → Int → Bool → Int → Int → Int → List Int → Option (Bool)
  | 0, _, _, _, _, _, _ => none
  | k + 1, x12, x13, x239000, x239001, x239002, x239003 => if x13 = true then (some ((x239003.length : Int) == 0)) else (if x12 = 5 then (if (x239003.length : Int) = 0 then (some (decide (x239002 < 4294967296))) else (some false)) else (if x12 = 2 then (some (x239002 == 0)) else (some false)))
end
def courierref01_Formed.f (k : Nat) (a0_0 : Int) (a0_1 : Int) (a0_2 : Int) (l0_3 : List Int) : Option (Bool) := if a0_0 < 1 then (courierref01_Formed.j0 k true a0_0 a0_1 a0_2 l0_3) else (courierref01_Formed.j0 k (decide (a0_0 > 536870911)) a0_0 a0_1 a0_2 l0_3)
theorem courierref01_Formed.mono_l : ∀ k, (∀ y0 y1 y2 y3 y4, LeO (courierref01_Formed.j0 k y0 y1 y2 y3 y4) (courierref01_Formed.j0 (k + 1) y0 y1 y2 y3 y4)) ∧ (∀ y0 y1 y2 y3 y4 y5, LeO (courierref01_Formed.j1 k y0 y1 y2 y3 y4 y5) (courierref01_Formed.j1 (k + 1) y0 y1 y2 y3 y4 y5))
  | 0 => ⟨fun _ _ _ _ _ r h => by simp [courierref01_Formed.j0] at h, fun _ _ _ _ _ _ r h => by simp [courierref01_Formed.j1] at h⟩
  | k + 1 => by
    obtain ⟨ih0, ih1⟩ := courierref01_Formed.mono_l k
    refine ⟨?_, ?_⟩
    · intro y0 y1 y2 y3 y4
      unfold courierref01_Formed.j0
      repeat' first
      | (with_reducible exact ih0 _ _ _ _ _)
      | (with_reducible exact ih1 _ _ _ _ _ _)
      | (with_reducible exact LeO.refl _)
      | (with_reducible exact LeO.none _)
      | (with_reducible refine LeO.ite ?_ ?_)
      | (with_reducible refine LeO.bind ?_ (fun _ => ?_))
      | exact ih0 _ _ _ _ _
      | exact ih1 _ _ _ _ _ _
      | exact LeO.none _
      | refine LeO.ite ?_ ?_
      | refine LeO.bind ?_ (fun _ => ?_)
    · intro y0 y1 y2 y3 y4 y5
      unfold courierref01_Formed.j1
      repeat' first
      | (with_reducible exact ih0 _ _ _ _ _)
      | (with_reducible exact ih1 _ _ _ _ _ _)
      | (with_reducible exact LeO.refl _)
      | (with_reducible exact LeO.none _)
      | (with_reducible refine LeO.ite ?_ ?_)
      | (with_reducible refine LeO.bind ?_ (fun _ => ?_))
      | exact ih0 _ _ _ _ _
      | exact ih1 _ _ _ _ _ _
      | exact LeO.none _
      | refine LeO.ite ?_ ?_
      | refine LeO.bind ?_ (fun _ => ?_)
theorem courierref01_Formed.mono : ∀ a0 a1 a2 a3 k, LeO (courierref01_Formed.f k a0 a1 a2 a3) (courierref01_Formed.f (k + 1) a0 a1 a2 a3) := by
  intro a0 a1 a2 a3 k
  obtain ⟨ih0, ih1⟩ := courierref01_Formed.mono_l k
  unfold courierref01_Formed.f
  repeat' first
      | (with_reducible exact ih0 _ _ _ _ _)
      | (with_reducible exact ih1 _ _ _ _ _ _)
      | (with_reducible exact LeO.refl _)
      | (with_reducible exact LeO.none _)
      | (with_reducible refine LeO.ite ?_ ?_)
      | (with_reducible refine LeO.bind ?_ (fun _ => ?_))
      | exact ih0 _ _ _ _ _
      | exact ih1 _ _ _ _ _ _
      | exact LeO.none _
      | refine LeO.ite ?_ ?_
      | refine LeO.bind ?_ (fun _ => ?_)
set_option maxHeartbeats 8000000 in
set_option maxRecDepth 100000 in
theorem courierref01_Formed.calls (k : Nat) (a0_0 : Int) (a0_1 : Int) (a0_2 : Int) (A0_3 : Option Addr) (c0_3 : Nat) (l0_3 : List Int) (r : Bool) (w : World) (hr0_3 : Kd.C (Kd.int .u8) w A0_3 l0_3.length l0_3) (hc0_3 : l0_3.length ≤ c0_3) (h : courierref01_Formed.f k a0_0 a0_1 a0_2 l0_3 = some r) :
    Calls Try.prog 12 #[.agg #[.int .i64 a0_0, .int .i64 a0_1, .int .u64 a0_2, .slice A0_3 l0_3.length c0_3]] w fun e w' => e = .returned (.bool r) ∧ Below w.heap.size w w' := by
  have hu30 := Try.underlying30
  have HR0_3 := Aside0.mk hr0_3
  have HC0_3 := Aside0.mk hc0_3
  clear hr0_3 hc0_3
  have HB := Aside0.mk (Below.refl w.heap.size w)
  have H : (if a0_0 < 1 then (courierref01_Formed.j0 k true a0_0 a0_1 a0_2 l0_3) else (courierref01_Formed.j0 k (decide (a0_0 > 536870911)) a0_0 a0_1 a0_2 l0_3)) = some r := h
  clear h
  have HC2 := Aside0.mk H
  clear H
  go_enter Try.func12, Try.ntmps12
  go_upto_region 1 with (first | ((with_reducible refine gate_dst (N := 1) rfl ?_); refine box_event ?hg (N := 1) ?hd (cs := #[.int .i64 a0_0, .int .i64 a0_1, .int .u64 a0_2, .slice A0_3 l0_3.length c0_3]) (t := 30) ?hr ?_; (case hd => rfl); (case hg => rfl); (case hr => first | (go_simp; done) | (go_simp; rfl)); intro gb238 hg w3 hbox hb; have n0_ := Aside0.mk (below_step (by repeat (first | (with_reducible first | exact HB.out | apply below_alloc | apply pw_below_drewN | apply below_drew1) | exact HB.out)) hb); have n1_ := Aside0.mk (hbox); have n2_ := Aside0.mk ((by rw [hg]; exact (below_size (by repeat (first | (with_reducible first | exact HB.out | apply below_alloc | apply pw_below_drewN | apply below_drew1) | exact HB.out))) : w.heap.size ≤ gb238)); have n3_ := Aside0.mk ((by rw [hg]; exact (below_size (by repeat (first | (with_reducible first | exact HB.out | apply below_alloc | apply pw_below_drewN | apply below_drew1) | exact HB.out))) : w.heap.size ≤ gb238)); clear HB; have HB := n0_; have BK238 := n1_; have GW238 := n2_; have GE238 := n3_; clear n0_ n1_ n2_ n3_; clear hb hbox hg))
  (try simp only [Act.put, List.setIfInBounds_toArray, List.set_cons_zero, List.set_cons_succ])
  go_cut [10] (fun v10 wc => ∃ (kq : Nat) (x10_1 : Bool), v10 = .bool x10_1 ∧ Aside0 (courierref01_Formed.j0 kq x10_1 a0_0 a0_1 a0_2 l0_3 = some r) ∧ Aside0 (kq ≤ k) ∧ Aside0 (wc.heap[gb238]? = some (.cells #[.int .i64 a0_0, .int .i64 a0_1, .int .u64 a0_2, (.slice A0_3 l0_3.length c0_3)] 30 (0, 0))) ∧ Aside0 (Below w.heap.size w wc))
  case first =>
    have H := HC2.out
    clear HC2
    by_cases c4 : a0_0 < 1
    · rw [if_pos c4] at H
      have c4b0 : decide (a0_0 < 1) = true := decide_eq_true c4
      clear c4
      (first | rw [c4b0] | (simp only [i64_w, i32_w]; rw [c4b0]) | skip)
      have H' := Aside0.mk H
      clear H
      have hcz5_0 : w3.cell? ⟨gb238, 0, none⟩ = some (.int .i64 a0_0) := (blk_cell BK238.out 0).trans rfl
      have hcz5_1 : w3.cell? ⟨gb238, 1, none⟩ = some (.int .i64 a0_1) := (blk_cell BK238.out 1).trans rfl
      have hcz5_2 : w3.cell? ⟨gb238, 2, none⟩ = some (.int .u64 a0_2) := (blk_cell BK238.out 2).trans rfl
      have hcz5_3 : w3.cell? ⟨gb238, 3, none⟩ = some (.slice A0_3 l0_3.length c0_3) := (blk_cell BK238.out 3).trans rfl
      have hfz5_0 := blk_frozen BK238.out 0
      have hfz5_1 := blk_frozen BK238.out 1
      have hfz5_2 := blk_frozen BK238.out 2
      have hfz5_3 := blk_frozen BK238.out 3
      go_wp2
      go_meet
      case rel => exact ⟨_, (true), (by first | rfl | (simp; done) | (simp [*]; done)), H', ⟨by first | omega | exact Nat.le_refl _⟩, ⟨by (with_reducible repeat (first | refine blk_drewN ?_ _ | refine blk_drew ?_ | refine blk_alloc ?_ _)); exact BK238.out⟩, ⟨by repeat (first | (with_reducible first | exact HB.out | apply below_alloc | apply pw_below_drewN | apply below_drew1 | refine below_set ?_ GE238.out) | exact HB.out)⟩⟩
    · rw [if_neg c4] at H
      have c4b0 : decide (a0_0 < 1) = false := decide_eq_false c4
      clear c4
      (first | rw [c4b0] | (simp only [i64_w, i32_w]; rw [c4b0]) | skip)
      have H' := Aside0.mk H
      clear H
      have hcz6_0 : w3.cell? ⟨gb238, 0, none⟩ = some (.int .i64 a0_0) := (blk_cell BK238.out 0).trans rfl
      have hcz6_1 : w3.cell? ⟨gb238, 1, none⟩ = some (.int .i64 a0_1) := (blk_cell BK238.out 1).trans rfl
      have hcz6_2 : w3.cell? ⟨gb238, 2, none⟩ = some (.int .u64 a0_2) := (blk_cell BK238.out 2).trans rfl
      have hcz6_3 : w3.cell? ⟨gb238, 3, none⟩ = some (.slice A0_3 l0_3.length c0_3) := (blk_cell BK238.out 3).trans rfl
      have hfz6_0 := blk_frozen BK238.out 0
      have hfz6_1 := blk_frozen BK238.out 1
      have hfz6_2 := blk_frozen BK238.out 2
      have hfz6_3 := blk_frozen BK238.out 3
      go_wp2
      go_meet
      case rel => exact ⟨_, (decide (a0_0 > 536870911)), (by first | rfl | (simp; done) | (simp [*]; done)), H', ⟨by first | omega | exact Nat.le_refl _⟩, ⟨by (with_reducible repeat (first | refine blk_drewN ?_ _ | refine blk_drew ?_ | refine blk_alloc ?_ _)); exact BK238.out⟩, ⟨by repeat (first | (with_reducible first | exact HB.out | apply below_alloc | apply pw_below_drewN | apply below_drew1 | refine below_set ?_ GE238.out) | exact HB.out)⟩⟩
  case rest =>
    clear HC2
    try clear c1
    try clear p2
    try clear c4
    try clear c4b0
    try clear hcz5_0
    try clear hcz5_1
    try clear hcz5_2
    try clear hcz5_3
    try clear hcz6_0
    try clear hcz6_1
    try clear hcz6_2
    try clear hcz6_3
    try clear hfz5_0
    try clear hfz5_1
    try clear hfz5_2
    try clear hfz5_3
    try clear hfz6_0
    try clear hfz6_1
    try clear hfz6_2
    try clear hfz6_3
    obtain ⟨kq, x10_1, rfl, HA, HJ1, BK238, HB⟩ := hcut
    cases kq with
    | zero => exact absurd HA.out (by simp [courierref01_Formed.j0])
    | succ kj1 =>
      have H := HA.out
      clear HA
      simp only [courierref01_Formed.j0] at H
      by_cases c7 : x10_1 = true
      · subst c7
        have H1 : (some false) = some r := by rw [if_pos rfl] at H; exact H
        clear H
        have H := H1
        clear H1
        obtain rfl := Option.some.inj H
        go_wp2
        go_ret
        exact ⟨by first | rfl | (simp [errW_none, errW_some] <;> rfl) | (simp [*, errW_none, errW_some] <;> rfl), by repeat (first | (with_reducible first | exact HB.out | apply below_alloc | apply pw_below_drewN | apply below_drew1 | refine below_set ?_ GE238.out) | exact HB.out)⟩
      · replace c7 := Bool.eq_false_iff.mpr c7
        subst c7
        have H1 : (if a0_1 = 0 then (courierref01_Formed.j1 kj1 a0_1 (a0_1 == 0) a0_0 a0_1 a0_2 l0_3) else (courierref01_Formed.j1 kj1 a0_1 (a0_1 == 1) a0_0 a0_1 a0_2 l0_3)) = some r := by rw [if_neg (show ¬ (false = true) by decide)] at H; exact H
        clear H
        have H := H1
        clear H1
        have HC8 := Aside0.mk H
        clear H
        have hcz9_0 : wc.cell? ⟨gb238, 0, none⟩ = some (.int .i64 a0_0) := (blk_cell BK238.out 0).trans rfl
        have hcz9_1 : wc.cell? ⟨gb238, 1, none⟩ = some (.int .i64 a0_1) := (blk_cell BK238.out 1).trans rfl
        have hcz9_2 : wc.cell? ⟨gb238, 2, none⟩ = some (.int .u64 a0_2) := (blk_cell BK238.out 2).trans rfl
        have hcz9_3 : wc.cell? ⟨gb238, 3, none⟩ = some (.slice A0_3 l0_3.length c0_3) := (blk_cell BK238.out 3).trans rfl
        have hfz9_0 := blk_frozen BK238.out 0
        have hfz9_1 := blk_frozen BK238.out 1
        have hfz9_2 := blk_frozen BK238.out 2
        have hfz9_3 := blk_frozen BK238.out 3
        go_upto_if 13 with (fail)
        go_cut [13] (fun v13 wc => ∃ (kq : Nat) (x13_7 : Bool), v13 = .bool x13_7 ∧ Aside0 (courierref01_Formed.j1 kq a0_1 x13_7 a0_0 a0_1 a0_2 l0_3 = some r) ∧ Aside0 (kq ≤ kj1) ∧ Aside0 (wc.heap[gb238]? = some (.cells #[.int .i64 a0_0, .int .i64 a0_1, .int .u64 a0_2, (.slice A0_3 l0_3.length c0_3)] 30 (0, 0))) ∧ Aside0 (Below w.heap.size w wc))
        case first =>
          have H := HC8.out
          clear HC8
          by_cases c10 : a0_1 = 0
          · rw [if_pos c10] at H
            have c10b0 : (a0_1 == 0) = true := beq_iff_eq.mpr c10
            have c10b1 : (a0_1 != 0) = false := bne_eq_false_iff_eq.mpr c10
            clear c10
            (first | rw [c10b0] | (simp only [i64_w, i32_w]; rw [c10b0]) | skip)
            have H' := Aside0.mk H
            clear H
            go_wp2
            go_meet
            case rel => exact ⟨_, ((a0_1 == 0)), (by first | rfl | (simp; done) | (simp [*]; done)), H', ⟨by have := HJ1.out; first | omega | exact Nat.le_refl _⟩, ⟨by (with_reducible repeat (first | refine blk_drewN ?_ _ | refine blk_drew ?_ | refine blk_alloc ?_ _)); exact BK238.out⟩, ⟨by repeat (first | (with_reducible first | exact HB.out | apply below_alloc | apply pw_below_drewN | apply below_drew1 | refine below_set ?_ GE238.out) | exact HB.out)⟩⟩
          · rw [if_neg c10] at H
            have c10b0 : (a0_1 == 0) = false := beq_eq_false_iff_ne.mpr c10
            have c10b1 : (a0_1 != 0) = true := bne_iff_ne.mpr c10
            (first | rw [c10b0] | (simp only [i64_w, i32_w]; rw [c10b0]) | skip)
            have H' := Aside0.mk H
            clear H
            go_wp2
            go_meet
            case rel => exact ⟨_, ((a0_1 == 1)), (by first | rfl | (simp; done) | (simp [*]; done)), H', ⟨by have := HJ1.out; first | omega | exact Nat.le_refl _⟩, ⟨by (with_reducible repeat (first | refine blk_drewN ?_ _ | refine blk_drew ?_ | refine blk_alloc ?_ _)); exact BK238.out⟩, ⟨by repeat (first | (with_reducible first | exact HB.out | apply below_alloc | apply pw_below_drewN | apply below_drew1 | refine below_set ?_ GE238.out) | exact HB.out)⟩⟩
        case rest =>
          clear HC8
          try clear c1
          try clear p2
          try clear c4
          try clear c4b0
          try clear c7
          try clear c10
          try clear c10b0
          try clear c10b1
          try clear hcz5_0
          try clear hcz5_1
          try clear hcz5_2
          try clear hcz5_3
          try clear hcz6_0
          try clear hcz6_1
          try clear hcz6_2
          try clear hcz6_3
          try clear hcz9_0
          try clear hcz9_1
          try clear hcz9_2
          try clear hcz9_3
          try clear hfz5_0
          try clear hfz5_1
          try clear hfz5_2
          try clear hfz5_3
          try clear hfz6_0
          try clear hfz6_1
          try clear hfz6_2
          try clear hfz6_3
          try clear hfz9_0
          try clear hfz9_1
          try clear hfz9_2
          try clear hfz9_3
          try clear p2
          obtain ⟨kq, x13_7, rfl, HA, HJ7, BK238, HB⟩ := hcut
          cases kq with
          | zero => exact absurd HA.out (by simp [courierref01_Formed.j1])
          | succ kj7 =>
            have H := HA.out
            clear HA
            simp only [courierref01_Formed.j1] at H
            by_cases c11 : x13_7 = true
            · subst c11
              have H1 : (some ((l0_3.length : Int) == 0)) = some r := by rw [if_pos rfl] at H; exact H
              clear H
              have H := H1
              clear H1
              obtain rfl := Option.some.inj H
              have hcz12_0 : wc.cell? ⟨gb238, 0, none⟩ = some (.int .i64 a0_0) := (blk_cell BK238.out 0).trans rfl
              have hcz12_1 : wc.cell? ⟨gb238, 1, none⟩ = some (.int .i64 a0_1) := (blk_cell BK238.out 1).trans rfl
              have hcz12_2 : wc.cell? ⟨gb238, 2, none⟩ = some (.int .u64 a0_2) := (blk_cell BK238.out 2).trans rfl
              have hcz12_3 : wc.cell? ⟨gb238, 3, none⟩ = some (.slice A0_3 l0_3.length c0_3) := (blk_cell BK238.out 3).trans rfl
              have hfz12_0 := blk_frozen BK238.out 0
              have hfz12_1 := blk_frozen BK238.out 1
              have hfz12_2 := blk_frozen BK238.out 2
              have hfz12_3 := blk_frozen BK238.out 3
              go_wp2
              go_ret
              exact ⟨by first | rfl | (simp [errW_none, errW_some] <;> rfl) | (simp [*, errW_none, errW_some] <;> rfl), by repeat (first | (with_reducible first | exact HB.out | apply below_alloc | apply pw_below_drewN | apply below_drew1 | refine below_set ?_ GE238.out) | exact HB.out)⟩
            · replace c11 := Bool.eq_false_iff.mpr c11
              subst c11
              have H1 : (if a0_1 = 5 then (if (l0_3.length : Int) = 0 then (some (decide (a0_2 < 4294967296))) else (some false)) else (if a0_1 = 2 then (some (a0_2 == 0)) else (some false))) = some r := by rw [if_neg (show ¬ (false = true) by decide)] at H; exact H
              clear H
              have H := H1
              clear H1
              by_cases c13 : a0_1 = 5
              · rw [if_pos c13] at H
                have c13b0 : (a0_1 == 5) = true := beq_iff_eq.mpr c13
                have c13b1 : (a0_1 != 5) = false := bne_eq_false_iff_eq.mpr c13
                clear c13
                by_cases c14 : (l0_3.length : Int) = 0
                · rw [if_pos c14] at H
                  have c14b0 : ((l0_3.length : Int) == 0) = true := beq_iff_eq.mpr c14
                  have c14b1 : ((l0_3.length : Int) != 0) = false := bne_eq_false_iff_eq.mpr c14
                  clear c14
                  obtain rfl := Option.some.inj H
                  have hcz15_0 : wc.cell? ⟨gb238, 0, none⟩ = some (.int .i64 a0_0) := (blk_cell BK238.out 0).trans rfl
                  have hcz15_1 : wc.cell? ⟨gb238, 1, none⟩ = some (.int .i64 a0_1) := (blk_cell BK238.out 1).trans rfl
                  have hcz15_2 : wc.cell? ⟨gb238, 2, none⟩ = some (.int .u64 a0_2) := (blk_cell BK238.out 2).trans rfl
                  have hcz15_3 : wc.cell? ⟨gb238, 3, none⟩ = some (.slice A0_3 l0_3.length c0_3) := (blk_cell BK238.out 3).trans rfl
                  have hfz15_0 := blk_frozen BK238.out 0
                  have hfz15_1 := blk_frozen BK238.out 1
                  have hfz15_2 := blk_frozen BK238.out 2
                  have hfz15_3 := blk_frozen BK238.out 3
                  go_wp2
                  go_ret
                  exact ⟨by first | rfl | (simp [errW_none, errW_some] <;> rfl) | (simp [*, errW_none, errW_some] <;> rfl), by repeat (first | (with_reducible first | exact HB.out | apply below_alloc | apply pw_below_drewN | apply below_drew1 | refine below_set ?_ GE238.out) | exact HB.out)⟩
                · rw [if_neg c14] at H
                  have c14b0 : ((l0_3.length : Int) == 0) = false := beq_eq_false_iff_ne.mpr c14
                  have c14b1 : ((l0_3.length : Int) != 0) = true := bne_iff_ne.mpr c14
                  have c14b2 : ¬ (l0_3 = []) := fun h_ => c14 (by rw [h_]; rfl)
                  obtain rfl := Option.some.inj H
                  have hcz16_0 : wc.cell? ⟨gb238, 0, none⟩ = some (.int .i64 a0_0) := (blk_cell BK238.out 0).trans rfl
                  have hcz16_1 : wc.cell? ⟨gb238, 1, none⟩ = some (.int .i64 a0_1) := (blk_cell BK238.out 1).trans rfl
                  have hcz16_2 : wc.cell? ⟨gb238, 2, none⟩ = some (.int .u64 a0_2) := (blk_cell BK238.out 2).trans rfl
                  have hcz16_3 : wc.cell? ⟨gb238, 3, none⟩ = some (.slice A0_3 l0_3.length c0_3) := (blk_cell BK238.out 3).trans rfl
                  have hfz16_0 := blk_frozen BK238.out 0
                  have hfz16_1 := blk_frozen BK238.out 1
                  have hfz16_2 := blk_frozen BK238.out 2
                  have hfz16_3 := blk_frozen BK238.out 3
                  go_wp2
                  go_ret
                  exact ⟨by first | rfl | (simp [errW_none, errW_some] <;> rfl) | (simp [*, errW_none, errW_some] <;> rfl), by repeat (first | (with_reducible first | exact HB.out | apply below_alloc | apply pw_below_drewN | apply below_drew1 | refine below_set ?_ GE238.out) | exact HB.out)⟩
              · rw [if_neg c13] at H
                have c13b0 : (a0_1 == 5) = false := beq_eq_false_iff_ne.mpr c13
                have c13b1 : (a0_1 != 5) = true := bne_iff_ne.mpr c13
                by_cases c17 : a0_1 = 2
                · rw [if_pos c17] at H
                  have c17b0 : (a0_1 == 2) = true := beq_iff_eq.mpr c17
                  have c17b1 : (a0_1 != 2) = false := bne_eq_false_iff_eq.mpr c17
                  clear c17
                  obtain rfl := Option.some.inj H
                  have hcz18_0 : wc.cell? ⟨gb238, 0, none⟩ = some (.int .i64 a0_0) := (blk_cell BK238.out 0).trans rfl
                  have hcz18_1 : wc.cell? ⟨gb238, 1, none⟩ = some (.int .i64 a0_1) := (blk_cell BK238.out 1).trans rfl
                  have hcz18_2 : wc.cell? ⟨gb238, 2, none⟩ = some (.int .u64 a0_2) := (blk_cell BK238.out 2).trans rfl
                  have hcz18_3 : wc.cell? ⟨gb238, 3, none⟩ = some (.slice A0_3 l0_3.length c0_3) := (blk_cell BK238.out 3).trans rfl
                  have hfz18_0 := blk_frozen BK238.out 0
                  have hfz18_1 := blk_frozen BK238.out 1
                  have hfz18_2 := blk_frozen BK238.out 2
                  have hfz18_3 := blk_frozen BK238.out 3
                  go_wp2
                  go_ret
                  exact ⟨by first | rfl | (simp [errW_none, errW_some] <;> rfl) | (simp [*, errW_none, errW_some] <;> rfl), by repeat (first | (with_reducible first | exact HB.out | apply below_alloc | apply pw_below_drewN | apply below_drew1 | refine below_set ?_ GE238.out) | exact HB.out)⟩
                · rw [if_neg c17] at H
                  have c17b0 : (a0_1 == 2) = false := beq_eq_false_iff_ne.mpr c17
                  have c17b1 : (a0_1 != 2) = true := bne_iff_ne.mpr c17
                  obtain rfl := Option.some.inj H
                  go_wp2
                  go_ret
                  exact ⟨by first | rfl | (simp [errW_none, errW_some] <;> rfl) | (simp [*, errW_none, errW_some] <;> rfl), by repeat (first | (with_reducible first | exact HB.out | apply below_alloc | apply pw_below_drewN | apply below_drew1 | refine below_set ?_ GE238.out) | exact HB.out)⟩

end Go.Proofs.Ytopmelffmakklaa.X
