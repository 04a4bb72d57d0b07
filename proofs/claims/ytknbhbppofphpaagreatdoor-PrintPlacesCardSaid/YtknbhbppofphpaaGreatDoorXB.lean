/- Several texts of this claim in one: what each shows stands at its head. -/
import Derived.Test.YtknbhbppofphpaaGreatDoorX0
/-! Plain functions for Go's own, out of the translation's print, and a proof that each call comes to what they tell; no condition but the functions' own answers. -/
namespace Go.Proofs.YtknbhbppofphpaaGreatDoor.X
open Go.RowKit Go.Proofs.YtknbhbppofphpaaGreatDoorW.PrintWords Go.Proofs.YtknbhbppofphpaaGreatDoorW.PrintLast Go.Proofs.YtknbhbppofphpaaGreatDoorW.PrintMore
attribute [local go_sem] max2_int min2_int max_two min_two max_three min_three max_four min_four Go.Proofs.YtknbhbppofphpaaGreatDoor.MyWords.put_isSome Go.Proofs.YtknbhbppofphpaaGreatDoor.MyWords.drewN_put   -- for this text's walks alone
set_option linter.unusedVariables false
set_option linter.unusedSimpArgs false

/-! ### courierref05_small: function 13 -/
mutual
def courierref05_small.l0 : Nat → List (S60) → Int → Int → Int → Int → Option (Int)
  | 0, _, _, _, _, _ => none
  | k + 1, x0, x1, x2, x15, x16 => if x16 < x15 then (if 0 ≤ x16 then (if x16 < (x0.length : Int) then (if (wrap64 ((wrap64 ((wrap64 ((wrap64 ((wrap64 (x2 - 1)) - (((rd_T60 x0 x16).f3).length : Int))) - (((rd_T60 x0 x16).f4).length : Int))) - (((rd_T60 x0 x16).f5).length : Int))) - (wrap64 ((((rd_T60 x0 x16).f1).size : Int) / 100)))) < 0 then (some (-1)) else (courierref05_small.l1 k x0 x1 (wrap64 ((wrap64 ((wrap64 ((wrap64 ((wrap64 (x2 - 1)) - (((rd_T60 x0 x16).f3).length : Int))) - (((rd_T60 x0 x16).f4).length : Int))) - (((rd_T60 x0 x16).f5).length : Int))) - (wrap64 ((((rd_T60 x0 x16).f1).size : Int) / 100)))) x15 x16 (((rd_T60 x0 x16).f3).length : Int) 0 ((rd_T60 x0 x16).f0) ((rd_T60 x0 x16).f1) ((rd_T60 x0 x16).f2.f0) ((rd_T60 x0 x16).f2.f1) ((rd_T60 x0 x16).f3) ((rd_T60 x0 x16).f4) ((rd_T60 x0 x16).f5) ((rd_T60 x0 x16).f6))) else (none)) else (none)) else (some x2)
def courierref05_small.l1 : Nat → List (S60) → Int → Int → Int → Int → Int → Int → Int → ByteArray → Int → Int → List (S63) → List (S64) → List (S67) → List (S60) → Option (Int)
  | 0, _, _, _, _, _, _, _, _, _, _, _, _, _, _, _ => none
  | k + 1, x0, x1, x2, x15, x16, x46, x47, x155000, x155001, x155002, x155003, x155004, x155005, x155006, x155007 => if x47 < x46 then (if 0 ≤ x47 then (if x47 < (x155004.length : Int) then (courierref05_small.l1 k x0 x1 (wrap64 ((wrap64 (x2 - (wrap64 ((((rd_T63 x155004 x47).f2).size : Int) / 100)))) - (wrap64 ((((rd_T63 x155004 x47).f1).size : Int) / 100)))) x15 x16 x46 (wrap64 (x47 + 1)) x155000 x155001 x155002 x155003 x155004 x155005 x155006 x155007) else (none)) else (none)) else (courierref05_small.l2 k x0 x1 x2 x15 x16 (x155005.length : Int) 0 x155000 x155001 x155002 x155003 x155004 x155005 x155006 x155007)
def courierref05_small.l2 : Nat → List (S60) → Int → Int → Int → Int → Int → Int → Int → ByteArray → Int → Int → List (S63) → List (S64) → List (S67) → List (S60) → Option (Int)
  | 0, _, _, _, _, _, _, _, _, _, _, _, _, _, _, _ => none
  | k + 1, x0, x1, x2, x15, x16, x72, x73, x155000, x155001, x155002, x155003, x155004, x155005, x155006, x155007 => if x73 < x72 then (if 0 ≤ x73 then (if x73 < (x155005.length : Int) then (courierref05_small.l2 k x0 x1 (wrap64 (x2 - (wrap64 ((((rd_T64 x155005 x73).f0).size : Int) / 100)))) x15 x16 x72 (wrap64 (x73 + 1)) x155000 x155001 x155002 x155003 x155004 x155005 x155006 x155007) else (none)) else (none)) else (courierref05_small.l3 k x0 x1 x2 x15 x16 (x155006.length : Int) 0 x155000 x155001 x155002 x155003 x155004 x155005 x155006 x155007)
def courierref05_small.l3 : Nat → List (S60) → Int → Int → Int → Int → Int → Int → Int → ByteArray → Int → Int → List (S63) → List (S64) → List (S67) → List (S60) → Option (Int)
  | 0, _, _, _, _, _, _, _, _, _, _, _, _, _, _, _ => none
  | k + 1, x0, x1, x2, x15, x16, x89, x90, x155000, x155001, x155002, x155003, x155004, x155005, x155006, x155007 => if x90 < x89 then (if 0 ≤ x90 then (if x90 < (x155006.length : Int) then (courierref05_small.l3 k x0 x1 (wrap64 ((wrap64 ((wrap64 (x2 - (wrap64 ((((rd_T67 x155006 x90).f0).size : Int) / 100)))) - (wrap64 ((((rd_T67 x155006 x90).f1).size : Int) / 100)))) - (wrap64 ((((rd_T67 x155006 x90).f2).size : Int) / 100)))) x15 x16 x89 (wrap64 (x90 + 1)) x155000 x155001 x155002 x155003 x155004 x155005 x155006 x155007) else (none)) else (none)) else ((courierref05_small.f k x155007 (wrap64 (x1 + 1)) x2).bind fun t161 => (if t161 < 0 then (some (-1)) else (courierref05_small.l0 k x0 x1 t161 x15 (wrap64 (x16 + 1)))))
def courierref05_small.f : Nat → List (S60) → Int → Int → Option (Int)
  | 0, _, _, _ => none
  | k + 1, l0, a1, a2 => if a1 > 20 then (some (-1)) else (courierref05_small.l0 k l0 a1 a2 (l0.length : Int) 0)
end
theorem courierref05_small.mono_l : ∀ k, (∀ y0 y1 y2, LeO (courierref05_small.f k y0 y1 y2) (courierref05_small.f (k + 1) y0 y1 y2)) ∧ (∀ y0 y1 y2 y3 y4, LeO (courierref05_small.l0 k y0 y1 y2 y3 y4) (courierref05_small.l0 (k + 1) y0 y1 y2 y3 y4)) ∧ (∀ y0 y1 y2 y3 y4 y5 y6 y7 y8 y9 y10 y11 y12 y13 y14, LeO (courierref05_small.l1 k y0 y1 y2 y3 y4 y5 y6 y7 y8 y9 y10 y11 y12 y13 y14) (courierref05_small.l1 (k + 1) y0 y1 y2 y3 y4 y5 y6 y7 y8 y9 y10 y11 y12 y13 y14)) ∧ (∀ y0 y1 y2 y3 y4 y5 y6 y7 y8 y9 y10 y11 y12 y13 y14, LeO (courierref05_small.l2 k y0 y1 y2 y3 y4 y5 y6 y7 y8 y9 y10 y11 y12 y13 y14) (courierref05_small.l2 (k + 1) y0 y1 y2 y3 y4 y5 y6 y7 y8 y9 y10 y11 y12 y13 y14)) ∧ (∀ y0 y1 y2 y3 y4 y5 y6 y7 y8 y9 y10 y11 y12 y13 y14, LeO (courierref05_small.l3 k y0 y1 y2 y3 y4 y5 y6 y7 y8 y9 y10 y11 y12 y13 y14) (courierref05_small.l3 (k + 1) y0 y1 y2 y3 y4 y5 y6 y7 y8 y9 y10 y11 y12 y13 y14))
  | 0 => ⟨fun _ _ _ r h => by simp [courierref05_small.f] at h, fun _ _ _ _ _ r h => by simp [courierref05_small.l0] at h, fun _ _ _ _ _ _ _ _ _ _ _ _ _ _ _ r h => by simp [courierref05_small.l1] at h, fun _ _ _ _ _ _ _ _ _ _ _ _ _ _ _ r h => by simp [courierref05_small.l2] at h, fun _ _ _ _ _ _ _ _ _ _ _ _ _ _ _ r h => by simp [courierref05_small.l3] at h⟩
  | k + 1 => by
    obtain ⟨ih0, ih1, ih2, ih3, ih4⟩ := courierref05_small.mono_l k
    refine ⟨?_, ?_, ?_, ?_, ?_⟩
    · intro y0 y1 y2
      unfold courierref05_small.f
      repeat' first
      | (with_reducible exact ih0 _ _ _)
      | (with_reducible exact ih1 _ _ _ _ _)
      | (with_reducible exact ih2 _ _ _ _ _ _ _ _ _ _ _ _ _ _ _)
      | (with_reducible exact ih3 _ _ _ _ _ _ _ _ _ _ _ _ _ _ _)
      | (with_reducible exact ih4 _ _ _ _ _ _ _ _ _ _ _ _ _ _ _)
      | (with_reducible exact LeO.refl _)
      | (with_reducible exact LeO.none _)
      | (with_reducible refine LeO.ite ?_ ?_)
      | (with_reducible refine LeO.bind ?_ (fun _ => ?_))
      | exact ih0 _ _ _
      | exact ih1 _ _ _ _ _
      | exact ih2 _ _ _ _ _ _ _ _ _ _ _ _ _ _ _
      | exact ih3 _ _ _ _ _ _ _ _ _ _ _ _ _ _ _
      | exact ih4 _ _ _ _ _ _ _ _ _ _ _ _ _ _ _
      | exact LeO.none _
      | refine LeO.ite ?_ ?_
      | refine LeO.bind ?_ (fun _ => ?_)
    · intro y0 y1 y2 y3 y4
      unfold courierref05_small.l0
      repeat' first
      | (with_reducible exact ih0 _ _ _)
      | (with_reducible exact ih1 _ _ _ _ _)
      | (with_reducible exact ih2 _ _ _ _ _ _ _ _ _ _ _ _ _ _ _)
      | (with_reducible exact ih3 _ _ _ _ _ _ _ _ _ _ _ _ _ _ _)
      | (with_reducible exact ih4 _ _ _ _ _ _ _ _ _ _ _ _ _ _ _)
      | (with_reducible exact LeO.refl _)
      | (with_reducible exact LeO.none _)
      | (with_reducible refine LeO.ite ?_ ?_)
      | (with_reducible refine LeO.bind ?_ (fun _ => ?_))
      | exact ih0 _ _ _
      | exact ih1 _ _ _ _ _
      | exact ih2 _ _ _ _ _ _ _ _ _ _ _ _ _ _ _
      | exact ih3 _ _ _ _ _ _ _ _ _ _ _ _ _ _ _
      | exact ih4 _ _ _ _ _ _ _ _ _ _ _ _ _ _ _
      | exact LeO.none _
      | refine LeO.ite ?_ ?_
      | refine LeO.bind ?_ (fun _ => ?_)
    · intro y0 y1 y2 y3 y4 y5 y6 y7 y8 y9 y10 y11 y12 y13 y14
      unfold courierref05_small.l1
      repeat' first
      | (with_reducible exact ih0 _ _ _)
      | (with_reducible exact ih1 _ _ _ _ _)
      | (with_reducible exact ih2 _ _ _ _ _ _ _ _ _ _ _ _ _ _ _)
      | (with_reducible exact ih3 _ _ _ _ _ _ _ _ _ _ _ _ _ _ _)
      | (with_reducible exact ih4 _ _ _ _ _ _ _ _ _ _ _ _ _ _ _)
      | (with_reducible exact LeO.refl _)
      | (with_reducible exact LeO.none _)
      | (with_reducible refine LeO.ite ?_ ?_)
      | (with_reducible refine LeO.bind ?_ (fun _ => ?_))
      | exact ih0 _ _ _
      | exact ih1 _ _ _ _ _
      | exact ih2 _ _ _ _ _ _ _ _ _ _ _ _ _ _ _
      | exact ih3 _ _ _ _ _ _ _ _ _ _ _ _ _ _ _
      | exact ih4 _ _ _ _ _ _ _ _ _ _ _ _ _ _ _
      | exact LeO.none _
      | refine LeO.ite ?_ ?_
      | refine LeO.bind ?_ (fun _ => ?_)
    · intro y0 y1 y2 y3 y4 y5 y6 y7 y8 y9 y10 y11 y12 y13 y14
      unfold courierref05_small.l2
      repeat' first
      | (with_reducible exact ih0 _ _ _)
      | (with_reducible exact ih1 _ _ _ _ _)
      | (with_reducible exact ih2 _ _ _ _ _ _ _ _ _ _ _ _ _ _ _)
      | (with_reducible exact ih3 _ _ _ _ _ _ _ _ _ _ _ _ _ _ _)
      | (with_reducible exact ih4 _ _ _ _ _ _ _ _ _ _ _ _ _ _ _)
      | (with_reducible exact LeO.refl _)
      | (with_reducible exact LeO.none _)
      | (with_reducible refine LeO.ite ?_ ?_)
      | (with_reducible refine LeO.bind ?_ (fun _ => ?_))
      | exact ih0 _ _ _
      | exact ih1 _ _ _ _ _
      | exact ih2 _ _ _ _ _ _ _ _ _ _ _ _ _ _ _
      | exact ih3 _ _ _ _ _ _ _ _ _ _ _ _ _ _ _
      | exact ih4 _ _ _ _ _ _ _ _ _ _ _ _ _ _ _
      | exact LeO.none _
      | refine LeO.ite ?_ ?_
      | refine LeO.bind ?_ (fun _ => ?_)
    · intro y0 y1 y2 y3 y4 y5 y6 y7 y8 y9 y10 y11 y12 y13 y14
      unfold courierref05_small.l3
      repeat' first
      | (with_reducible exact ih0 _ _ _)
      | (with_reducible exact ih1 _ _ _ _ _)
      | (with_reducible exact ih2 _ _ _ _ _ _ _ _ _ _ _ _ _ _ _)
      | (with_reducible exact ih3 _ _ _ _ _ _ _ _ _ _ _ _ _ _ _)
      | (with_reducible exact ih4 _ _ _ _ _ _ _ _ _ _ _ _ _ _ _)
      | (with_reducible exact LeO.refl _)
      | (with_reducible exact LeO.none _)
      | (with_reducible refine LeO.ite ?_ ?_)
      | (with_reducible refine LeO.bind ?_ (fun _ => ?_))
      | exact ih0 _ _ _
      | exact ih1 _ _ _ _ _
      | exact ih2 _ _ _ _ _ _ _ _ _ _ _ _ _ _ _
      | exact ih3 _ _ _ _ _ _ _ _ _ _ _ _ _ _ _
      | exact ih4 _ _ _ _ _ _ _ _ _ _ _ _ _ _ _
      | exact LeO.none _
      | refine LeO.ite ?_ ?_
      | refine LeO.bind ?_ (fun _ => ?_)
theorem courierref05_small.mono : ∀ a0 a1 a2 k, LeO (courierref05_small.f k a0 a1 a2) (courierref05_small.f (k + 1) a0 a1 a2) := by
  intro a0 a1 a2 k
  obtain ⟨ih0, ih1, ih2, ih3, ih4⟩ := courierref05_small.mono_l k
  exact ih0 a0 a1 a2
set_option maxHeartbeats 8000000 in
set_option maxRecDepth 100000 in
theorem courierref05_small.calls (k : Nat) : ∀ (A0 : Option Addr) (c0 : Nat) (l0 : List (S60)) (a1 : Int) (a2 : Int) (r : Int) (w : World) (hr0 : Kd.C k60 w A0 l0.length l0) (hc0 : l0.length ≤ c0) (h : courierref05_small.f k l0 a1 a2 = some r),
    Calls Tryz.prog 13 #[.slice A0 l0.length c0, .int .i64 a1, .int .i64 a2] w fun e w' => e = .returned (.int .i64 r) ∧ Below w.heap.size w w' := by
  induction k using Nat.strongRecOn with
  | _ k ih =>
  intro A0 c0 l0 a1 a2 r w hr0 hc0 h
  cases k with
  | zero => exact absurd h (by simp [courierref05_small.f])
  | succ k =>
  simp only [courierref05_small.f] at h
  have hu60 := Tryz.underlying60
  have HR0 := Aside0.mk hr0
  have HC0 := Aside0.mk hc0
  clear hr0 hc0
  have HB := Aside0.mk (Below.refl w.heap.size w)
  have H : (if a1 > 20 then (some (-1)) else (courierref05_small.l0 k l0 a1 a2 (l0.length : Int) 0)) = some r := h
  clear h
  by_cases c4 : a1 > 20
  · rw [if_pos c4] at H
    have c4b0 : decide (20 < a1) = true := decide_eq_true c4
    clear c4
    obtain rfl := Option.some.inj H
    go_enter Tryz.func13, Tryz.ntmps13
    go_wp2
    repeat (go_quiet (fail); try go_wp2)
    go_ret
    exact ⟨by first | rfl | (simp [errW_none, errW_some] <;> rfl) | (simp [*, errW_none, errW_some] <;> rfl), by repeat (first | (with_reducible first | exact HB.out | apply below_alloc | apply pw_below_drewN | apply below_drew1) | exact HB.out)⟩
  · rw [if_neg c4] at H
    have c4b0 : decide (20 < a1) = false := decide_eq_false c4
    clear c4
    have H' := Aside0.mk H
    clear H
    go_enter Tryz.func13, Tryz.ntmps13
    go_wp2
    repeat (go_quiet (fail); try go_wp2)
    go_loopg [2, 16] k (fun kq v2 v16 w' => ∃ (x2_1 : Int) (x16_1 : Int), v2 = .int .i64 x2_1 ∧ v16 = .int .i64 x16_1 ∧ Aside0 (courierref05_small.l0 kq l0 a1 x2_1 (l0.length : Int) x16_1 = some r) ∧ Aside0 (kq ≤ k) ∧ Aside0 (Below w.heap.size w w'))
    case atStart => exact ⟨(a2), (0), (by first | rfl | (simp; done) | (simp [*]; done)), (by first | rfl | (simp; done) | (simp [*]; done)), H', ⟨Nat.le_refl _⟩, ⟨by repeat (first | (with_reducible first | exact HB.out | apply below_alloc | apply pw_below_drewN | apply below_drew1) | exact HB.out)⟩⟩
    case round =>
      clear H'
      try clear c1
      try clear p2
      try clear c4
      try clear c4b0
      obtain ⟨x2_1, x16_1, rfl, rfl, HA, HK1, HB⟩ := hrel
      cases gk with
      | zero => exact absurd HA.out (by simp [courierref05_small.l0])
      | succ k1 =>
        have H := HA.out
        clear HA
        simp only [courierref05_small.l0] at H
        by_cases c5 : x16_1 < (l0.length : Int)
        · rw [if_pos c5] at H
          have c5b0 : decide (x16_1 < (l0.length : Int)) = true := decide_eq_true c5
          clear c5
          by_cases c6 : 0 ≤ x16_1
          · rw [if_pos c6] at H
            have c6b0 : decide (0 ≤ x16_1) = true := decide_eq_true c6
            clear c6
            by_cases c7 : x16_1 < (l0.length : Int)
            · rw [if_pos c7] at H
              have c7b0 : decide (x16_1 < (l0.length : Int)) = true := decide_eq_true c7
              clear c7
              by_cases c8 : (wrap64 ((wrap64 ((wrap64 ((wrap64 ((wrap64 (x2_1 - 1)) - (((rd_T60 l0 x16_1).f3).length : Int))) - (((rd_T60 l0 x16_1).f4).length : Int))) - (((rd_T60 l0 x16_1).f5).length : Int))) - (wrap64 ((((rd_T60 l0 x16_1).f1).size : Int) / 100)))) < 0
              · rw [if_pos c8] at H
                have c8b0 : decide ((wrap64 ((wrap64 ((wrap64 ((wrap64 ((wrap64 (x2_1 - 1)) - (((rd_T60 l0 x16_1).f3).length : Int))) - (((rd_T60 l0 x16_1).f4).length : Int))) - (((rd_T60 l0 x16_1).f5).length : Int))) - (wrap64 ((((rd_T60 l0 x16_1).f1).size : Int) / 100)))) < 0) = true := decide_eq_true c8
                clear c8
                obtain rfl := Option.some.inj H
                have p153 : 0 ≤ (x16_1 : Int) := of_decide_eq_true (by first | (with_reducible assumption) | assumption)
                have q153 : x16_1 < (l0.length : Int) := of_decide_eq_true (by first | (with_reducible assumption) | assumption)
                obtain ⟨ad153, A153_4, c153_4, A153_5, c153_5, A153_6, c153_6, A153_7, c153_7, e153, hx153_0, hx153_1, hx153_2, hx153_3, hx153_4, hx153_5, hx153_6, hx153_7, hl153_4, hi153_4, hl153_5, hi153_5, hl153_6, hi153_6, hl153_7, hi153_7⟩ := at_T60 HR0.out x16_1 p153 q153
                cases e153
                replace hx153_0 := (HB.out.cell (World.block_lt_of_cell? w _ hx153_0)).trans hx153_0
                replace hx153_1 := (HB.out.cell (World.block_lt_of_cell? w _ hx153_1)).trans hx153_1
                replace hx153_2 := (HB.out.cell (World.block_lt_of_cell? w _ hx153_2)).trans hx153_2
                replace hx153_3 := (HB.out.cell (World.block_lt_of_cell? w _ hx153_3)).trans hx153_3
                replace hx153_4 := (HB.out.cell (World.block_lt_of_cell? w _ hx153_4)).trans hx153_4
                replace hx153_5 := (HB.out.cell (World.block_lt_of_cell? w _ hx153_5)).trans hx153_5
                replace hx153_6 := (HB.out.cell (World.block_lt_of_cell? w _ hx153_6)).trans hx153_6
                replace hx153_7 := (HB.out.cell (World.block_lt_of_cell? w _ hx153_7)).trans hx153_7
                have HR153_4 := Aside0.mk hi153_4
                have HC153_4 := Aside0.mk hl153_4
                clear hi153_4 hl153_4
                have HR153_5 := Aside0.mk hi153_5
                have HC153_5 := Aside0.mk hl153_5
                clear hi153_5 hl153_5
                have HR153_6 := Aside0.mk hi153_6
                have HC153_6 := Aside0.mk hl153_6
                clear hi153_6 hl153_6
                have HR153_7 := Aside0.mk hi153_7
                have HC153_7 := Aside0.mk hl153_7
                clear hi153_7 hl153_7
                replace p153 := eq_true p153
                replace q153 := eq_true q153
                go_wp2_with (first | ((with_reducible refine gate_dst (N := 8) rfl ?_); refine box_event ?hg (N := 8) ?hd (cs := #[.int .i64 0, .string (⟨#[]⟩ : ByteArray), .int .i64 0, .int .i64 0, .slice none 0 0, .slice none 0 0, .slice none 0 0, .slice none 0 0]) (t := 60) ?hr ?_; (case hd => rfl); (case hg => rfl); (case hr => first | (go_simp; done) | (go_simp; rfl)); intro gb154 hg w9 hbox hb; have n0_ := Aside0.mk (below_step (by repeat (first | (with_reducible first | exact HB.out | apply below_alloc | apply pw_below_drewN | apply below_drew1) | exact HB.out)) hb); have n1_ := Aside0.mk (hbox); have n2_ := Aside0.mk ((by rw [hg]; exact (below_size (by repeat (first | (with_reducible first | exact HB.out | apply below_alloc | apply pw_below_drewN | apply below_drew1) | exact HB.out))) : w.heap.size ≤ gb154)); have n3_ := Aside0.mk ((by rw [hg]; exact (below_size (by repeat (first | (with_reducible first | exact HB.out | apply below_alloc | apply pw_below_drewN | apply below_drew1) | exact HB.out))) : w.heap.size ≤ gb154)); clear HB; have HB := n0_; have BK154 := n1_; have GW154 := n2_; have GE154 := n3_; clear n0_ n1_ n2_ n3_; clear hb hbox hg; have hcz10_0 : w9.cell? ⟨gb154, 0, none⟩ = some (.int .i64 0) := (blk_cell BK154.out 0).trans rfl; have hcz10_1 : w9.cell? ⟨gb154, 1, none⟩ = some (.string (⟨#[]⟩ : ByteArray)) := (blk_cell BK154.out 1).trans rfl; have hcz10_2 : w9.cell? ⟨gb154, 2, none⟩ = some (.int .i64 0) := (blk_cell BK154.out 2).trans rfl; have hcz10_3 : w9.cell? ⟨gb154, 3, none⟩ = some (.int .i64 0) := (blk_cell BK154.out 3).trans rfl; have hcz10_4 : w9.cell? ⟨gb154, 4, none⟩ = some (.slice none 0 0) := (blk_cell BK154.out 4).trans rfl; have hcz10_5 : w9.cell? ⟨gb154, 5, none⟩ = some (.slice none 0 0) := (blk_cell BK154.out 5).trans rfl; have hcz10_6 : w9.cell? ⟨gb154, 6, none⟩ = some (.slice none 0 0) := (blk_cell BK154.out 6).trans rfl; have hcz10_7 : w9.cell? ⟨gb154, 7, none⟩ = some (.slice none 0 0) := (blk_cell BK154.out 7).trans rfl; have hfz10_0 := blk_frozen BK154.out 0; have hfz10_1 := blk_frozen BK154.out 1; have hfz10_2 := blk_frozen BK154.out 2; have hfz10_3 := blk_frozen BK154.out 3; have hfz10_4 := blk_frozen BK154.out 4; have hfz10_5 := blk_frozen BK154.out 5; have hfz10_6 := blk_frozen BK154.out 6; have hfz10_7 := blk_frozen BK154.out 7))
                repeat (go_quiet (first | ((with_reducible refine gate_dst (N := 8) rfl ?_); refine box_event ?hg (N := 8) ?hd (cs := #[.int .i64 0, .string (⟨#[]⟩ : ByteArray), .int .i64 0, .int .i64 0, .slice none 0 0, .slice none 0 0, .slice none 0 0, .slice none 0 0]) (t := 60) ?hr ?_; (case hd => rfl); (case hg => rfl); (case hr => first | (go_simp; done) | (go_simp; rfl)); intro gb154 hg w9 hbox hb; have n0_ := Aside0.mk (below_step (by repeat (first | (with_reducible first | exact HB.out | apply below_alloc | apply pw_below_drewN | apply below_drew1) | exact HB.out)) hb); have n1_ := Aside0.mk (hbox); have n2_ := Aside0.mk ((by rw [hg]; exact (below_size (by repeat (first | (with_reducible first | exact HB.out | apply below_alloc | apply pw_below_drewN | apply below_drew1) | exact HB.out))) : w.heap.size ≤ gb154)); have n3_ := Aside0.mk ((by rw [hg]; exact (below_size (by repeat (first | (with_reducible first | exact HB.out | apply below_alloc | apply pw_below_drewN | apply below_drew1) | exact HB.out))) : w.heap.size ≤ gb154)); clear HB; have HB := n0_; have BK154 := n1_; have GW154 := n2_; have GE154 := n3_; clear n0_ n1_ n2_ n3_; clear hb hbox hg; have hcz10_0 : w9.cell? ⟨gb154, 0, none⟩ = some (.int .i64 0) := (blk_cell BK154.out 0).trans rfl; have hcz10_1 : w9.cell? ⟨gb154, 1, none⟩ = some (.string (⟨#[]⟩ : ByteArray)) := (blk_cell BK154.out 1).trans rfl; have hcz10_2 : w9.cell? ⟨gb154, 2, none⟩ = some (.int .i64 0) := (blk_cell BK154.out 2).trans rfl; have hcz10_3 : w9.cell? ⟨gb154, 3, none⟩ = some (.int .i64 0) := (blk_cell BK154.out 3).trans rfl; have hcz10_4 : w9.cell? ⟨gb154, 4, none⟩ = some (.slice none 0 0) := (blk_cell BK154.out 4).trans rfl; have hcz10_5 : w9.cell? ⟨gb154, 5, none⟩ = some (.slice none 0 0) := (blk_cell BK154.out 5).trans rfl; have hcz10_6 : w9.cell? ⟨gb154, 6, none⟩ = some (.slice none 0 0) := (blk_cell BK154.out 6).trans rfl; have hcz10_7 : w9.cell? ⟨gb154, 7, none⟩ = some (.slice none 0 0) := (blk_cell BK154.out 7).trans rfl; have hfz10_0 := blk_frozen BK154.out 0; have hfz10_1 := blk_frozen BK154.out 1; have hfz10_2 := blk_frozen BK154.out 2; have hfz10_3 := blk_frozen BK154.out 3; have hfz10_4 := blk_frozen BK154.out 4; have hfz10_5 := blk_frozen BK154.out 5; have hfz10_6 := blk_frozen BK154.out 6; have hfz10_7 := blk_frozen BK154.out 7)); try go_wp2_with (first | ((with_reducible refine gate_dst (N := 8) rfl ?_); refine box_event ?hg (N := 8) ?hd (cs := #[.int .i64 0, .string (⟨#[]⟩ : ByteArray), .int .i64 0, .int .i64 0, .slice none 0 0, .slice none 0 0, .slice none 0 0, .slice none 0 0]) (t := 60) ?hr ?_; (case hd => rfl); (case hg => rfl); (case hr => first | (go_simp; done) | (go_simp; rfl)); intro gb154 hg w9 hbox hb; have n0_ := Aside0.mk (below_step (by repeat (first | (with_reducible first | exact HB.out | apply below_alloc | apply pw_below_drewN | apply below_drew1) | exact HB.out)) hb); have n1_ := Aside0.mk (hbox); have n2_ := Aside0.mk ((by rw [hg]; exact (below_size (by repeat (first | (with_reducible first | exact HB.out | apply below_alloc | apply pw_below_drewN | apply below_drew1) | exact HB.out))) : w.heap.size ≤ gb154)); have n3_ := Aside0.mk ((by rw [hg]; exact (below_size (by repeat (first | (with_reducible first | exact HB.out | apply below_alloc | apply pw_below_drewN | apply below_drew1) | exact HB.out))) : w.heap.size ≤ gb154)); clear HB; have HB := n0_; have BK154 := n1_; have GW154 := n2_; have GE154 := n3_; clear n0_ n1_ n2_ n3_; clear hb hbox hg; have hcz10_0 : w9.cell? ⟨gb154, 0, none⟩ = some (.int .i64 0) := (blk_cell BK154.out 0).trans rfl; have hcz10_1 : w9.cell? ⟨gb154, 1, none⟩ = some (.string (⟨#[]⟩ : ByteArray)) := (blk_cell BK154.out 1).trans rfl; have hcz10_2 : w9.cell? ⟨gb154, 2, none⟩ = some (.int .i64 0) := (blk_cell BK154.out 2).trans rfl; have hcz10_3 : w9.cell? ⟨gb154, 3, none⟩ = some (.int .i64 0) := (blk_cell BK154.out 3).trans rfl; have hcz10_4 : w9.cell? ⟨gb154, 4, none⟩ = some (.slice none 0 0) := (blk_cell BK154.out 4).trans rfl; have hcz10_5 : w9.cell? ⟨gb154, 5, none⟩ = some (.slice none 0 0) := (blk_cell BK154.out 5).trans rfl; have hcz10_6 : w9.cell? ⟨gb154, 6, none⟩ = some (.slice none 0 0) := (blk_cell BK154.out 6).trans rfl; have hcz10_7 : w9.cell? ⟨gb154, 7, none⟩ = some (.slice none 0 0) := (blk_cell BK154.out 7).trans rfl; have hfz10_0 := blk_frozen BK154.out 0; have hfz10_1 := blk_frozen BK154.out 1; have hfz10_2 := blk_frozen BK154.out 2; have hfz10_3 := blk_frozen BK154.out 3; have hfz10_4 := blk_frozen BK154.out 4; have hfz10_5 := blk_frozen BK154.out 5; have hfz10_6 := blk_frozen BK154.out 6; have hfz10_7 := blk_frozen BK154.out 7)))
                go_ret
                exact ⟨by first | rfl | (simp [errW_none, errW_some] <;> rfl) | (simp [*, errW_none, errW_some] <;> rfl), by repeat (first | (with_reducible first | exact HB.out | apply below_alloc | apply pw_below_drewN | apply below_drew1 | refine below_set ?_ GE154.out) | exact HB.out)⟩
              · rw [if_neg c8] at H
                have c8b0 : decide ((wrap64 ((wrap64 ((wrap64 ((wrap64 ((wrap64 (x2_1 - 1)) - (((rd_T60 l0 x16_1).f3).length : Int))) - (((rd_T60 l0 x16_1).f4).length : Int))) - (((rd_T60 l0 x16_1).f5).length : Int))) - (wrap64 ((((rd_T60 l0 x16_1).f1).size : Int) / 100)))) < 0) = false := decide_eq_false c8
                clear c8
                have H' := Aside0.mk H
                clear H
                have p153 : 0 ≤ (x16_1 : Int) := of_decide_eq_true (by first | (with_reducible assumption) | assumption)
                have q153 : x16_1 < (l0.length : Int) := of_decide_eq_true (by first | (with_reducible assumption) | assumption)
                obtain ⟨ad153, A153_4, c153_4, A153_5, c153_5, A153_6, c153_6, A153_7, c153_7, e153, hx153_0, hx153_1, hx153_2, hx153_3, hx153_4, hx153_5, hx153_6, hx153_7, hl153_4, hi153_4, hl153_5, hi153_5, hl153_6, hi153_6, hl153_7, hi153_7⟩ := at_T60 HR0.out x16_1 p153 q153
                cases e153
                replace hx153_0 := (HB.out.cell (World.block_lt_of_cell? w _ hx153_0)).trans hx153_0
                replace hx153_1 := (HB.out.cell (World.block_lt_of_cell? w _ hx153_1)).trans hx153_1
                replace hx153_2 := (HB.out.cell (World.block_lt_of_cell? w _ hx153_2)).trans hx153_2
                replace hx153_3 := (HB.out.cell (World.block_lt_of_cell? w _ hx153_3)).trans hx153_3
                replace hx153_4 := (HB.out.cell (World.block_lt_of_cell? w _ hx153_4)).trans hx153_4
                replace hx153_5 := (HB.out.cell (World.block_lt_of_cell? w _ hx153_5)).trans hx153_5
                replace hx153_6 := (HB.out.cell (World.block_lt_of_cell? w _ hx153_6)).trans hx153_6
                replace hx153_7 := (HB.out.cell (World.block_lt_of_cell? w _ hx153_7)).trans hx153_7
                have HR153_4 := Aside0.mk hi153_4
                have HC153_4 := Aside0.mk hl153_4
                clear hi153_4 hl153_4
                have HR153_5 := Aside0.mk hi153_5
                have HC153_5 := Aside0.mk hl153_5
                clear hi153_5 hl153_5
                have HR153_6 := Aside0.mk hi153_6
                have HC153_6 := Aside0.mk hl153_6
                clear hi153_6 hl153_6
                have HR153_7 := Aside0.mk hi153_7
                have HC153_7 := Aside0.mk hl153_7
                clear hi153_7 hl153_7
                replace p153 := eq_true p153
                replace q153 := eq_true q153
                go_wp2_with (first | ((with_reducible refine gate_dst (N := 8) rfl ?_); refine box_event ?hg (N := 8) ?hd (cs := #[.int .i64 0, .string (⟨#[]⟩ : ByteArray), .int .i64 0, .int .i64 0, .slice none 0 0, .slice none 0 0, .slice none 0 0, .slice none 0 0]) (t := 60) ?hr ?_; (case hd => rfl); (case hg => rfl); (case hr => first | (go_simp; done) | (go_simp; rfl)); intro gb154 hg w11 hbox hb; have n0_ := Aside0.mk (below_step (by repeat (first | (with_reducible first | exact HB.out | apply below_alloc | apply pw_below_drewN | apply below_drew1) | exact HB.out)) hb); have n1_ := Aside0.mk (hbox); have n2_ := Aside0.mk ((by rw [hg]; exact (below_size (by repeat (first | (with_reducible first | exact HB.out | apply below_alloc | apply pw_below_drewN | apply below_drew1) | exact HB.out))) : w.heap.size ≤ gb154)); have n3_ := Aside0.mk ((by rw [hg]; exact (below_size (by repeat (first | (with_reducible first | exact HB.out | apply below_alloc | apply pw_below_drewN | apply below_drew1) | exact HB.out))) : w.heap.size ≤ gb154)); clear HB; have HB := n0_; have BK154 := n1_; have GW154 := n2_; have GE154 := n3_; clear n0_ n1_ n2_ n3_; clear hb hbox hg; have hcz12_0 : w11.cell? ⟨gb154, 0, none⟩ = some (.int .i64 0) := (blk_cell BK154.out 0).trans rfl; have hcz12_1 : w11.cell? ⟨gb154, 1, none⟩ = some (.string (⟨#[]⟩ : ByteArray)) := (blk_cell BK154.out 1).trans rfl; have hcz12_2 : w11.cell? ⟨gb154, 2, none⟩ = some (.int .i64 0) := (blk_cell BK154.out 2).trans rfl; have hcz12_3 : w11.cell? ⟨gb154, 3, none⟩ = some (.int .i64 0) := (blk_cell BK154.out 3).trans rfl; have hcz12_4 : w11.cell? ⟨gb154, 4, none⟩ = some (.slice none 0 0) := (blk_cell BK154.out 4).trans rfl; have hcz12_5 : w11.cell? ⟨gb154, 5, none⟩ = some (.slice none 0 0) := (blk_cell BK154.out 5).trans rfl; have hcz12_6 : w11.cell? ⟨gb154, 6, none⟩ = some (.slice none 0 0) := (blk_cell BK154.out 6).trans rfl; have hcz12_7 : w11.cell? ⟨gb154, 7, none⟩ = some (.slice none 0 0) := (blk_cell BK154.out 7).trans rfl; have hfz12_0 := blk_frozen BK154.out 0; have hfz12_1 := blk_frozen BK154.out 1; have hfz12_2 := blk_frozen BK154.out 2; have hfz12_3 := blk_frozen BK154.out 3; have hfz12_4 := blk_frozen BK154.out 4; have hfz12_5 := blk_frozen BK154.out 5; have hfz12_6 := blk_frozen BK154.out 6; have hfz12_7 := blk_frozen BK154.out 7))
                repeat (go_quiet (first | ((with_reducible refine gate_dst (N := 8) rfl ?_); refine box_event ?hg (N := 8) ?hd (cs := #[.int .i64 0, .string (⟨#[]⟩ : ByteArray), .int .i64 0, .int .i64 0, .slice none 0 0, .slice none 0 0, .slice none 0 0, .slice none 0 0]) (t := 60) ?hr ?_; (case hd => rfl); (case hg => rfl); (case hr => first | (go_simp; done) | (go_simp; rfl)); intro gb154 hg w11 hbox hb; have n0_ := Aside0.mk (below_step (by repeat (first | (with_reducible first | exact HB.out | apply below_alloc | apply pw_below_drewN | apply below_drew1) | exact HB.out)) hb); have n1_ := Aside0.mk (hbox); have n2_ := Aside0.mk ((by rw [hg]; exact (below_size (by repeat (first | (with_reducible first | exact HB.out | apply below_alloc | apply pw_below_drewN | apply below_drew1) | exact HB.out))) : w.heap.size ≤ gb154)); have n3_ := Aside0.mk ((by rw [hg]; exact (below_size (by repeat (first | (with_reducible first | exact HB.out | apply below_alloc | apply pw_below_drewN | apply below_drew1) | exact HB.out))) : w.heap.size ≤ gb154)); clear HB; have HB := n0_; have BK154 := n1_; have GW154 := n2_; have GE154 := n3_; clear n0_ n1_ n2_ n3_; clear hb hbox hg; have hcz12_0 : w11.cell? ⟨gb154, 0, none⟩ = some (.int .i64 0) := (blk_cell BK154.out 0).trans rfl; have hcz12_1 : w11.cell? ⟨gb154, 1, none⟩ = some (.string (⟨#[]⟩ : ByteArray)) := (blk_cell BK154.out 1).trans rfl; have hcz12_2 : w11.cell? ⟨gb154, 2, none⟩ = some (.int .i64 0) := (blk_cell BK154.out 2).trans rfl; have hcz12_3 : w11.cell? ⟨gb154, 3, none⟩ = some (.int .i64 0) := (blk_cell BK154.out 3).trans rfl; have hcz12_4 : w11.cell? ⟨gb154, 4, none⟩ = some (.slice none 0 0) := (blk_cell BK154.out 4).trans rfl; have hcz12_5 : w11.cell? ⟨gb154, 5, none⟩ = some (.slice none 0 0) := (blk_cell BK154.out 5).trans rfl; have hcz12_6 : w11.cell? ⟨gb154, 6, none⟩ = some (.slice none 0 0) := (blk_cell BK154.out 6).trans rfl; have hcz12_7 : w11.cell? ⟨gb154, 7, none⟩ = some (.slice none 0 0) := (blk_cell BK154.out 7).trans rfl; have hfz12_0 := blk_frozen BK154.out 0; have hfz12_1 := blk_frozen BK154.out 1; have hfz12_2 := blk_frozen BK154.out 2; have hfz12_3 := blk_frozen BK154.out 3; have hfz12_4 := blk_frozen BK154.out 4; have hfz12_5 := blk_frozen BK154.out 5; have hfz12_6 := blk_frozen BK154.out 6; have hfz12_7 := blk_frozen BK154.out 7)); try go_wp2_with (first | ((with_reducible refine gate_dst (N := 8) rfl ?_); refine box_event ?hg (N := 8) ?hd (cs := #[.int .i64 0, .string (⟨#[]⟩ : ByteArray), .int .i64 0, .int .i64 0, .slice none 0 0, .slice none 0 0, .slice none 0 0, .slice none 0 0]) (t := 60) ?hr ?_; (case hd => rfl); (case hg => rfl); (case hr => first | (go_simp; done) | (go_simp; rfl)); intro gb154 hg w11 hbox hb; have n0_ := Aside0.mk (below_step (by repeat (first | (with_reducible first | exact HB.out | apply below_alloc | apply pw_below_drewN | apply below_drew1) | exact HB.out)) hb); have n1_ := Aside0.mk (hbox); have n2_ := Aside0.mk ((by rw [hg]; exact (below_size (by repeat (first | (with_reducible first | exact HB.out | apply below_alloc | apply pw_below_drewN | apply below_drew1) | exact HB.out))) : w.heap.size ≤ gb154)); have n3_ := Aside0.mk ((by rw [hg]; exact (below_size (by repeat (first | (with_reducible first | exact HB.out | apply below_alloc | apply pw_below_drewN | apply below_drew1) | exact HB.out))) : w.heap.size ≤ gb154)); clear HB; have HB := n0_; have BK154 := n1_; have GW154 := n2_; have GE154 := n3_; clear n0_ n1_ n2_ n3_; clear hb hbox hg; have hcz12_0 : w11.cell? ⟨gb154, 0, none⟩ = some (.int .i64 0) := (blk_cell BK154.out 0).trans rfl; have hcz12_1 : w11.cell? ⟨gb154, 1, none⟩ = some (.string (⟨#[]⟩ : ByteArray)) := (blk_cell BK154.out 1).trans rfl; have hcz12_2 : w11.cell? ⟨gb154, 2, none⟩ = some (.int .i64 0) := (blk_cell BK154.out 2).trans rfl; have hcz12_3 : w11.cell? ⟨gb154, 3, none⟩ = some (.int .i64 0) := (blk_cell BK154.out 3).trans rfl; have hcz12_4 : w11.cell? ⟨gb154, 4, none⟩ = some (.slice none 0 0) := (blk_cell BK154.out 4).trans rfl; have hcz12_5 : w11.cell? ⟨gb154, 5, none⟩ = some (.slice none 0 0) := (blk_cell BK154.out 5).trans rfl; have hcz12_6 : w11.cell? ⟨gb154, 6, none⟩ = some (.slice none 0 0) := (blk_cell BK154.out 6).trans rfl; have hcz12_7 : w11.cell? ⟨gb154, 7, none⟩ = some (.slice none 0 0) := (blk_cell BK154.out 7).trans rfl; have hfz12_0 := blk_frozen BK154.out 0; have hfz12_1 := blk_frozen BK154.out 1; have hfz12_2 := blk_frozen BK154.out 2; have hfz12_3 := blk_frozen BK154.out 3; have hfz12_4 := blk_frozen BK154.out 4; have hfz12_5 := blk_frozen BK154.out 5; have hfz12_6 := blk_frozen BK154.out 6; have hfz12_7 := blk_frozen BK154.out 7)))
                go_loopg [2, 47] k1 (fun kq v2 v47 w' => ∃ (x2_2 : Int) (x47_2 : Int), v2 = .int .i64 x2_2 ∧ v47 = .int .i64 x47_2 ∧ Aside0 (courierref05_small.l1 kq l0 a1 x2_2 (l0.length : Int) x16_1 (((rd_T60 l0 x16_1).f3).length : Int) x47_2 ((rd_T60 l0 x16_1).f0) ((rd_T60 l0 x16_1).f1) ((rd_T60 l0 x16_1).f2.f0) ((rd_T60 l0 x16_1).f2.f1) ((rd_T60 l0 x16_1).f3) ((rd_T60 l0 x16_1).f4) ((rd_T60 l0 x16_1).f5) ((rd_T60 l0 x16_1).f6) = some r) ∧ Aside0 (kq ≤ k1) ∧ Aside0 (w'.heap[gb154]? = some (.cells #[.int .i64 ((rd_T60 l0 x16_1).f0), .string ((rd_T60 l0 x16_1).f1), .int .i64 ((rd_T60 l0 x16_1).f2.f0), .int .i64 ((rd_T60 l0 x16_1).f2.f1), (.slice A153_4 ((rd_T60 l0 x16_1).f3).length c153_4), (.slice A153_5 ((rd_T60 l0 x16_1).f4).length c153_5), (.slice A153_6 ((rd_T60 l0 x16_1).f5).length c153_6), (.slice A153_7 ((rd_T60 l0 x16_1).f6).length c153_7)] 60 (0, 0))) ∧ Aside0 (Below w.heap.size w w'))
                case atStart => exact ⟨(wrap64 ((wrap64 ((wrap64 ((wrap64 ((wrap64 (x2_1 - 1)) - (((rd_T60 l0 x16_1).f3).length : Int))) - (((rd_T60 l0 x16_1).f4).length : Int))) - (((rd_T60 l0 x16_1).f5).length : Int))) - (wrap64 ((((rd_T60 l0 x16_1).f1).size : Int) / 100)))), (0), (by first | rfl | (simp; done) | (simp [*]; done)), (by first | rfl | (simp; done) | (simp [*]; done)), H', ⟨Nat.le_refl _⟩, ⟨by (with_reducible repeat (first | refine blk_drewN ?_ _ | refine blk_drew ?_ | refine blk_alloc ?_ _)); refine blk_put (cs := #[.int .i64 ((rd_T60 l0 x16_1).f0), .string ((rd_T60 l0 x16_1).f1), .int .i64 ((rd_T60 l0 x16_1).f2.f0), .int .i64 ((rd_T60 l0 x16_1).f2.f1), .slice A153_4 ((rd_T60 l0 x16_1).f3).length c153_4, .slice A153_5 ((rd_T60 l0 x16_1).f4).length c153_5, .slice A153_6 ((rd_T60 l0 x16_1).f5).length c153_6, .slice none 0 0]) ?_ 7 _ rfl; (with_reducible repeat (first | refine blk_drewN ?_ _ | refine blk_drew ?_ | refine blk_alloc ?_ _)); refine blk_put (cs := #[.int .i64 ((rd_T60 l0 x16_1).f0), .string ((rd_T60 l0 x16_1).f1), .int .i64 ((rd_T60 l0 x16_1).f2.f0), .int .i64 ((rd_T60 l0 x16_1).f2.f1), .slice A153_4 ((rd_T60 l0 x16_1).f3).length c153_4, .slice A153_5 ((rd_T60 l0 x16_1).f4).length c153_5, .slice none 0 0, .slice none 0 0]) ?_ 6 _ rfl; (with_reducible repeat (first | refine blk_drewN ?_ _ | refine blk_drew ?_ | refine blk_alloc ?_ _)); refine blk_put (cs := #[.int .i64 ((rd_T60 l0 x16_1).f0), .string ((rd_T60 l0 x16_1).f1), .int .i64 ((rd_T60 l0 x16_1).f2.f0), .int .i64 ((rd_T60 l0 x16_1).f2.f1), .slice A153_4 ((rd_T60 l0 x16_1).f3).length c153_4, .slice none 0 0, .slice none 0 0, .slice none 0 0]) ?_ 5 _ rfl; (with_reducible repeat (first | refine blk_drewN ?_ _ | refine blk_drew ?_ | refine blk_alloc ?_ _)); refine blk_put (cs := #[.int .i64 ((rd_T60 l0 x16_1).f0), .string ((rd_T60 l0 x16_1).f1), .int .i64 ((rd_T60 l0 x16_1).f2.f0), .int .i64 ((rd_T60 l0 x16_1).f2.f1), .slice none 0 0, .slice none 0 0, .slice none 0 0, .slice none 0 0]) ?_ 4 _ rfl; (with_reducible repeat (first | refine blk_drewN ?_ _ | refine blk_drew ?_ | refine blk_alloc ?_ _)); refine blk_put (cs := #[.int .i64 ((rd_T60 l0 x16_1).f0), .string ((rd_T60 l0 x16_1).f1), .int .i64 ((rd_T60 l0 x16_1).f2.f0), .int .i64 0, .slice none 0 0, .slice none 0 0, .slice none 0 0, .slice none 0 0]) ?_ 3 _ rfl; (with_reducible repeat (first | refine blk_drewN ?_ _ | refine blk_drew ?_ | refine blk_alloc ?_ _)); refine blk_put (cs := #[.int .i64 ((rd_T60 l0 x16_1).f0), .string ((rd_T60 l0 x16_1).f1), .int .i64 0, .int .i64 0, .slice none 0 0, .slice none 0 0, .slice none 0 0, .slice none 0 0]) ?_ 2 _ rfl; (with_reducible repeat (first | refine blk_drewN ?_ _ | refine blk_drew ?_ | refine blk_alloc ?_ _)); refine blk_put (cs := #[.int .i64 ((rd_T60 l0 x16_1).f0), .string (⟨#[]⟩ : ByteArray), .int .i64 0, .int .i64 0, .slice none 0 0, .slice none 0 0, .slice none 0 0, .slice none 0 0]) ?_ 1 _ rfl; (with_reducible repeat (first | refine blk_drewN ?_ _ | refine blk_drew ?_ | refine blk_alloc ?_ _)); refine blk_put (cs := #[.int .i64 0, .string (⟨#[]⟩ : ByteArray), .int .i64 0, .int .i64 0, .slice none 0 0, .slice none 0 0, .slice none 0 0, .slice none 0 0]) ?_ 0 _ rfl; (with_reducible repeat (first | refine blk_drewN ?_ _ | refine blk_drew ?_ | refine blk_alloc ?_ _)); exact BK154.out⟩, ⟨by repeat (first | (with_reducible first | exact HB.out | apply below_alloc | apply pw_below_drewN | apply below_drew1 | refine below_set ?_ GE154.out) | exact HB.out)⟩⟩
                case round =>
                  clear H'
                  try clear c1
                  try clear p1
                  try clear q1
                  try clear hx1
                  try clear p2
                  try clear c4
                  try clear c4b0
                  try clear c5
                  try clear c5b0
                  try clear c6
                  try clear c6b0
                  try clear p6
                  try clear c7
                  try clear c7b0
                  try clear c8
                  try clear c8b0
                  try clear hcz10_0
                  try clear hcz10_1
                  try clear hcz10_2
                  try clear hcz10_3
                  try clear hcz10_4
                  try clear hcz10_5
                  try clear hcz10_6
                  try clear hcz10_7
                  try clear hcz12_0
                  try clear hcz12_1
                  try clear hcz12_2
                  try clear hcz12_3
                  try clear hcz12_4
                  try clear hcz12_5
                  try clear hcz12_6
                  try clear hcz12_7
                  try clear hfz10_0
                  try clear hfz10_1
                  try clear hfz10_2
                  try clear hfz10_3
                  try clear hfz10_4
                  try clear hfz10_5
                  try clear hfz10_6
                  try clear hfz10_7
                  try clear hfz12_0
                  try clear hfz12_1
                  try clear hfz12_2
                  try clear hfz12_3
                  try clear hfz12_4
                  try clear hfz12_5
                  try clear hfz12_6
                  try clear hfz12_7
                  try clear hx153_0
                  try clear hx153_1
                  try clear hx153_2
                  try clear hx153_3
                  try clear hx153_4
                  try clear hx153_5
                  try clear hx153_6
                  try clear hx153_7
                  try clear p153
                  try clear p2
                  try clear q153
                  obtain ⟨x2_2, x47_2, rfl, rfl, HA, HK2, BK154, HB⟩ := hrel
                  cases gk with
                  | zero => exact absurd HA.out (by simp [courierref05_small.l1])
                  | succ k2 =>
                    have H := HA.out
                    clear HA
                    simp only [courierref05_small.l1] at H
                    by_cases c13 : x47_2 < (((rd_T60 l0 x16_1).f3).length : Int)
                    · rw [if_pos c13] at H
                      have c13b0 : decide (x47_2 < (((rd_T60 l0 x16_1).f3).length : Int)) = true := decide_eq_true c13
                      clear c13
                      by_cases c14 : 0 ≤ x47_2
                      · rw [if_pos c14] at H
                        have c14b0 : decide (0 ≤ x47_2) = true := decide_eq_true c14
                        clear c14
                        by_cases c15 : x47_2 < (((rd_T60 l0 x16_1).f3).length : Int)
                        · rw [if_pos c15] at H
                          have c15b0 : decide (x47_2 < (((rd_T60 l0 x16_1).f3).length : Int)) = true := decide_eq_true c15
                          clear c15
                          have H' := Aside0.mk H
                          clear H
                          have hcz16_0 : wr.cell? ⟨gb154, 0, none⟩ = some (.int .i64 ((rd_T60 l0 x16_1).f0)) := (blk_cell BK154.out 0).trans rfl
                          have hcz16_1 : wr.cell? ⟨gb154, 1, none⟩ = some (.string ((rd_T60 l0 x16_1).f1)) := (blk_cell BK154.out 1).trans rfl
                          have hcz16_2 : wr.cell? ⟨gb154, 2, none⟩ = some (.int .i64 ((rd_T60 l0 x16_1).f2.f0)) := (blk_cell BK154.out 2).trans rfl
                          have hcz16_3 : wr.cell? ⟨gb154, 3, none⟩ = some (.int .i64 ((rd_T60 l0 x16_1).f2.f1)) := (blk_cell BK154.out 3).trans rfl
                          have hcz16_4 : wr.cell? ⟨gb154, 4, none⟩ = some (.slice A153_4 ((rd_T60 l0 x16_1).f3).length c153_4) := (blk_cell BK154.out 4).trans rfl
                          have hcz16_5 : wr.cell? ⟨gb154, 5, none⟩ = some (.slice A153_5 ((rd_T60 l0 x16_1).f4).length c153_5) := (blk_cell BK154.out 5).trans rfl
                          have hcz16_6 : wr.cell? ⟨gb154, 6, none⟩ = some (.slice A153_6 ((rd_T60 l0 x16_1).f5).length c153_6) := (blk_cell BK154.out 6).trans rfl
                          have hcz16_7 : wr.cell? ⟨gb154, 7, none⟩ = some (.slice A153_7 ((rd_T60 l0 x16_1).f6).length c153_7) := (blk_cell BK154.out 7).trans rfl
                          have hfz16_0 := blk_frozen BK154.out 0
                          have hfz16_1 := blk_frozen BK154.out 1
                          have hfz16_2 := blk_frozen BK154.out 2
                          have hfz16_3 := blk_frozen BK154.out 3
                          have hfz16_4 := blk_frozen BK154.out 4
                          have hfz16_5 := blk_frozen BK154.out 5
                          have hfz16_6 := blk_frozen BK154.out 6
                          have hfz16_7 := blk_frozen BK154.out 7
                          have p155 : 0 ≤ (x47_2 : Int) := of_decide_eq_true (by first | (with_reducible assumption) | assumption)
                          have q155 : x47_2 < (((rd_T60 l0 x16_1).f3).length : Int) := of_decide_eq_true (by first | (with_reducible assumption) | assumption)
                          obtain ⟨ad155, e155, hx155_0, hx155_1, hx155_2, hx155_3, hx155_4, hx155_5⟩ := at_T63 HR153_4.out x47_2 p155 q155
                          cases e155
                          replace hx155_0 := (HB.out.cell (World.block_lt_of_cell? w _ hx155_0)).trans hx155_0
                          replace hx155_1 := (HB.out.cell (World.block_lt_of_cell? w _ hx155_1)).trans hx155_1
                          replace hx155_2 := (HB.out.cell (World.block_lt_of_cell? w _ hx155_2)).trans hx155_2
                          replace hx155_3 := (HB.out.cell (World.block_lt_of_cell? w _ hx155_3)).trans hx155_3
                          replace hx155_4 := (HB.out.cell (World.block_lt_of_cell? w _ hx155_4)).trans hx155_4
                          replace hx155_5 := (HB.out.cell (World.block_lt_of_cell? w _ hx155_5)).trans hx155_5
                          replace p155 := eq_true p155
                          replace q155 := eq_true q155
                          have p156 : 0 ≤ (x47_2 : Int) := of_decide_eq_true (by first | (with_reducible assumption) | assumption)
                          have q156 : x47_2 < (((rd_T60 l0 x16_1).f3).length : Int) := of_decide_eq_true (by first | (with_reducible assumption) | assumption)
                          obtain ⟨ad156, e156, hx156_0, hx156_1, hx156_2, hx156_3, hx156_4, hx156_5⟩ := at_T63 HR153_4.out x47_2 p156 q156
                          obtain rfl : ad155 = ad156 := (by injection e156)
                          replace hx156_0 := (HB.out.cell (World.block_lt_of_cell? w _ hx156_0)).trans hx156_0
                          replace hx156_1 := (HB.out.cell (World.block_lt_of_cell? w _ hx156_1)).trans hx156_1
                          replace hx156_2 := (HB.out.cell (World.block_lt_of_cell? w _ hx156_2)).trans hx156_2
                          replace hx156_3 := (HB.out.cell (World.block_lt_of_cell? w _ hx156_3)).trans hx156_3
                          replace hx156_4 := (HB.out.cell (World.block_lt_of_cell? w _ hx156_4)).trans hx156_4
                          replace hx156_5 := (HB.out.cell (World.block_lt_of_cell? w _ hx156_5)).trans hx156_5
                          replace p156 := eq_true p156
                          replace q156 := eq_true q156
                          go_wp2
                          repeat (go_quiet (fail); try go_wp2)
                          go_roundg k2
                          case measure => have := HK1.out; have := HK2.out; omega
                          case rel => exact ⟨(wrap64 ((wrap64 (x2_2 - (wrap64 ((((rd_T63 ((rd_T60 l0 x16_1).f3) x47_2).f2).size : Int) / 100)))) - (wrap64 ((((rd_T63 ((rd_T60 l0 x16_1).f3) x47_2).f1).size : Int) / 100)))), (wrap64 (x47_2 + 1)), (by first | rfl | (simp; done) | (simp [*]; done)), (by first | rfl | (simp; done) | (simp [*]; done)), H', ⟨by have := HK1.out; have := HK2.out; omega⟩, ⟨by (with_reducible repeat (first | refine blk_drewN ?_ _ | refine blk_drew ?_ | refine blk_alloc ?_ _)); exact BK154.out⟩, ⟨by repeat (first | (with_reducible first | exact HB.out | apply below_alloc | apply pw_below_drewN | apply below_drew1 | refine below_set ?_ GE154.out) | exact HB.out)⟩⟩
                        · rw [if_neg c15] at H
                          exact absurd H (by simp)
                      · rw [if_neg c14] at H
                        exact absurd H (by simp)
                    · rw [if_neg c13] at H
                      have c13b0 : decide (x47_2 < (((rd_T60 l0 x16_1).f3).length : Int)) = false := decide_eq_false c13
                      clear c13
                      have H' := Aside0.mk H
                      clear H
                      have hcz17_0 : wr.cell? ⟨gb154, 0, none⟩ = some (.int .i64 ((rd_T60 l0 x16_1).f0)) := (blk_cell BK154.out 0).trans rfl
                      have hcz17_1 : wr.cell? ⟨gb154, 1, none⟩ = some (.string ((rd_T60 l0 x16_1).f1)) := (blk_cell BK154.out 1).trans rfl
                      have hcz17_2 : wr.cell? ⟨gb154, 2, none⟩ = some (.int .i64 ((rd_T60 l0 x16_1).f2.f0)) := (blk_cell BK154.out 2).trans rfl
                      have hcz17_3 : wr.cell? ⟨gb154, 3, none⟩ = some (.int .i64 ((rd_T60 l0 x16_1).f2.f1)) := (blk_cell BK154.out 3).trans rfl
                      have hcz17_4 : wr.cell? ⟨gb154, 4, none⟩ = some (.slice A153_4 ((rd_T60 l0 x16_1).f3).length c153_4) := (blk_cell BK154.out 4).trans rfl
                      have hcz17_5 : wr.cell? ⟨gb154, 5, none⟩ = some (.slice A153_5 ((rd_T60 l0 x16_1).f4).length c153_5) := (blk_cell BK154.out 5).trans rfl
                      have hcz17_6 : wr.cell? ⟨gb154, 6, none⟩ = some (.slice A153_6 ((rd_T60 l0 x16_1).f5).length c153_6) := (blk_cell BK154.out 6).trans rfl
                      have hcz17_7 : wr.cell? ⟨gb154, 7, none⟩ = some (.slice A153_7 ((rd_T60 l0 x16_1).f6).length c153_7) := (blk_cell BK154.out 7).trans rfl
                      have hfz17_0 := blk_frozen BK154.out 0
                      have hfz17_1 := blk_frozen BK154.out 1
                      have hfz17_2 := blk_frozen BK154.out 2
                      have hfz17_3 := blk_frozen BK154.out 3
                      have hfz17_4 := blk_frozen BK154.out 4
                      have hfz17_5 := blk_frozen BK154.out 5
                      have hfz17_6 := blk_frozen BK154.out 6
                      have hfz17_7 := blk_frozen BK154.out 7
                      go_wp2
                      repeat (go_quiet (fail); try go_wp2)
                      go_loopg [2, 73] k2 (fun kq v2 v73 w' => ∃ (x2_3 : Int) (x73_3 : Int), v2 = .int .i64 x2_3 ∧ v73 = .int .i64 x73_3 ∧ Aside0 (courierref05_small.l2 kq l0 a1 x2_3 (l0.length : Int) x16_1 (((rd_T60 l0 x16_1).f4).length : Int) x73_3 ((rd_T60 l0 x16_1).f0) ((rd_T60 l0 x16_1).f1) ((rd_T60 l0 x16_1).f2.f0) ((rd_T60 l0 x16_1).f2.f1) ((rd_T60 l0 x16_1).f3) ((rd_T60 l0 x16_1).f4) ((rd_T60 l0 x16_1).f5) ((rd_T60 l0 x16_1).f6) = some r) ∧ Aside0 (kq ≤ k2) ∧ Aside0 (w'.heap[gb154]? = some (.cells #[.int .i64 ((rd_T60 l0 x16_1).f0), .string ((rd_T60 l0 x16_1).f1), .int .i64 ((rd_T60 l0 x16_1).f2.f0), .int .i64 ((rd_T60 l0 x16_1).f2.f1), (.slice A153_4 ((rd_T60 l0 x16_1).f3).length c153_4), (.slice A153_5 ((rd_T60 l0 x16_1).f4).length c153_5), (.slice A153_6 ((rd_T60 l0 x16_1).f5).length c153_6), (.slice A153_7 ((rd_T60 l0 x16_1).f6).length c153_7)] 60 (0, 0))) ∧ Aside0 (Below w.heap.size w w'))
                      case atStart => exact ⟨(x2_2), (0), (by first | rfl | (simp; done) | (simp [*]; done)), (by first | rfl | (simp; done) | (simp [*]; done)), H', ⟨Nat.le_refl _⟩, ⟨by (with_reducible repeat (first | refine blk_drewN ?_ _ | refine blk_drew ?_ | refine blk_alloc ?_ _)); exact BK154.out⟩, ⟨by repeat (first | (with_reducible first | exact HB.out | apply below_alloc | apply pw_below_drewN | apply below_drew1 | refine below_set ?_ GE154.out) | exact HB.out)⟩⟩
                      case round =>
                        clear H'
                        try clear c1
                        try clear p1
                        try clear q1
                        try clear hx1
                        try clear p2
                        try clear c4
                        try clear c4b0
                        try clear c5
                        try clear c5b0
                        try clear c6
                        try clear c6b0
                        try clear p6
                        try clear c7
                        try clear c7b0
                        try clear c8
                        try clear c8b0
                        try clear c13
                        try clear c13b0
                        try clear c14
                        try clear c14b0
                        try clear c15
                        try clear c15b0
                        try clear p15
                        try clear q15
                        try clear hx15
                        try clear hcz10_0
                        try clear hcz10_1
                        try clear hcz10_2
                        try clear hcz10_3
                        try clear hcz10_4
                        try clear hcz10_5
                        try clear hcz10_6
                        try clear hcz10_7
                        try clear hcz12_0
                        try clear hcz12_1
                        try clear hcz12_2
                        try clear hcz12_3
                        try clear hcz12_4
                        try clear hcz12_5
                        try clear hcz12_6
                        try clear hcz12_7
                        try clear hcz16_0
                        try clear hcz16_1
                        try clear hcz16_2
                        try clear hcz16_3
                        try clear hcz16_4
                        try clear hcz16_5
                        try clear hcz16_6
                        try clear hcz16_7
                        try clear hcz17_0
                        try clear hcz17_1
                        try clear hcz17_2
                        try clear hcz17_3
                        try clear hcz17_4
                        try clear hcz17_5
                        try clear hcz17_6
                        try clear hcz17_7
                        try clear hfz10_0
                        try clear hfz10_1
                        try clear hfz10_2
                        try clear hfz10_3
                        try clear hfz10_4
                        try clear hfz10_5
                        try clear hfz10_6
                        try clear hfz10_7
                        try clear hfz12_0
                        try clear hfz12_1
                        try clear hfz12_2
                        try clear hfz12_3
                        try clear hfz12_4
                        try clear hfz12_5
                        try clear hfz12_6
                        try clear hfz12_7
                        try clear hfz16_0
                        try clear hfz16_1
                        try clear hfz16_2
                        try clear hfz16_3
                        try clear hfz16_4
                        try clear hfz16_5
                        try clear hfz16_6
                        try clear hfz16_7
                        try clear hfz17_0
                        try clear hfz17_1
                        try clear hfz17_2
                        try clear hfz17_3
                        try clear hfz17_4
                        try clear hfz17_5
                        try clear hfz17_6
                        try clear hfz17_7
                        try clear hx153_0
                        try clear hx153_1
                        try clear hx153_2
                        try clear hx153_3
                        try clear hx153_4
                        try clear hx153_5
                        try clear hx153_6
                        try clear hx153_7
                        try clear hx155_0
                        try clear hx155_1
                        try clear hx155_2
                        try clear hx155_3
                        try clear hx155_4
                        try clear hx155_5
                        try clear hx156_0
                        try clear hx156_1
                        try clear hx156_2
                        try clear hx156_3
                        try clear hx156_4
                        try clear hx156_5
                        try clear p1
                        try clear p153
                        try clear p155
                        try clear p156
                        try clear p2
                        try clear p6
                        try clear q1
                        try clear q153
                        try clear q155
                        try clear q156
                        obtain ⟨x2_3, x73_3, rfl, rfl, HA, HK3, BK154, HB⟩ := hrel
                        cases gk with
                        | zero => exact absurd HA.out (by simp [courierref05_small.l2])
                        | succ k3 =>
                          have H := HA.out
                          clear HA
                          simp only [courierref05_small.l2] at H
                          by_cases c18 : x73_3 < (((rd_T60 l0 x16_1).f4).length : Int)
                          · rw [if_pos c18] at H
                            have c18b0 : decide (x73_3 < (((rd_T60 l0 x16_1).f4).length : Int)) = true := decide_eq_true c18
                            clear c18
                            by_cases c19 : 0 ≤ x73_3
                            · rw [if_pos c19] at H
                              have c19b0 : decide (0 ≤ x73_3) = true := decide_eq_true c19
                              clear c19
                              by_cases c20 : x73_3 < (((rd_T60 l0 x16_1).f4).length : Int)
                              · rw [if_pos c20] at H
                                have c20b0 : decide (x73_3 < (((rd_T60 l0 x16_1).f4).length : Int)) = true := decide_eq_true c20
                                clear c20
                                have H' := Aside0.mk H
                                clear H
                                have hcz21_0 : wr.cell? ⟨gb154, 0, none⟩ = some (.int .i64 ((rd_T60 l0 x16_1).f0)) := (blk_cell BK154.out 0).trans rfl
                                have hcz21_1 : wr.cell? ⟨gb154, 1, none⟩ = some (.string ((rd_T60 l0 x16_1).f1)) := (blk_cell BK154.out 1).trans rfl
                                have hcz21_2 : wr.cell? ⟨gb154, 2, none⟩ = some (.int .i64 ((rd_T60 l0 x16_1).f2.f0)) := (blk_cell BK154.out 2).trans rfl
                                have hcz21_3 : wr.cell? ⟨gb154, 3, none⟩ = some (.int .i64 ((rd_T60 l0 x16_1).f2.f1)) := (blk_cell BK154.out 3).trans rfl
                                have hcz21_4 : wr.cell? ⟨gb154, 4, none⟩ = some (.slice A153_4 ((rd_T60 l0 x16_1).f3).length c153_4) := (blk_cell BK154.out 4).trans rfl
                                have hcz21_5 : wr.cell? ⟨gb154, 5, none⟩ = some (.slice A153_5 ((rd_T60 l0 x16_1).f4).length c153_5) := (blk_cell BK154.out 5).trans rfl
                                have hcz21_6 : wr.cell? ⟨gb154, 6, none⟩ = some (.slice A153_6 ((rd_T60 l0 x16_1).f5).length c153_6) := (blk_cell BK154.out 6).trans rfl
                                have hcz21_7 : wr.cell? ⟨gb154, 7, none⟩ = some (.slice A153_7 ((rd_T60 l0 x16_1).f6).length c153_7) := (blk_cell BK154.out 7).trans rfl
                                have hfz21_0 := blk_frozen BK154.out 0
                                have hfz21_1 := blk_frozen BK154.out 1
                                have hfz21_2 := blk_frozen BK154.out 2
                                have hfz21_3 := blk_frozen BK154.out 3
                                have hfz21_4 := blk_frozen BK154.out 4
                                have hfz21_5 := blk_frozen BK154.out 5
                                have hfz21_6 := blk_frozen BK154.out 6
                                have hfz21_7 := blk_frozen BK154.out 7
                                have p157 : 0 ≤ (x73_3 : Int) := of_decide_eq_true (by first | (with_reducible assumption) | assumption)
                                have q157 : x73_3 < (((rd_T60 l0 x16_1).f4).length : Int) := of_decide_eq_true (by first | (with_reducible assumption) | assumption)
                                obtain ⟨ad157, e157, hx157_0, hx157_1, hx157_2, hx157_3⟩ := at_T64 HR153_5.out x73_3 p157 q157
                                cases e157
                                replace hx157_0 := (HB.out.cell (World.block_lt_of_cell? w _ hx157_0)).trans hx157_0
                                replace hx157_1 := (HB.out.cell (World.block_lt_of_cell? w _ hx157_1)).trans hx157_1
                                replace hx157_2 := (HB.out.cell (World.block_lt_of_cell? w _ hx157_2)).trans hx157_2
                                replace hx157_3 := (HB.out.cell (World.block_lt_of_cell? w _ hx157_3)).trans hx157_3
                                replace p157 := eq_true p157
                                replace q157 := eq_true q157
                                go_wp2
                                repeat (go_quiet (fail); try go_wp2)
                                go_roundg k3
                                case measure => have := HK1.out; have := HK2.out; have := HK3.out; omega
                                case rel => exact ⟨(wrap64 (x2_3 - (wrap64 ((((rd_T64 ((rd_T60 l0 x16_1).f4) x73_3).f0).size : Int) / 100)))), (wrap64 (x73_3 + 1)), (by first | rfl | (simp; done) | (simp [*]; done)), (by first | rfl | (simp; done) | (simp [*]; done)), H', ⟨by have := HK1.out; have := HK2.out; have := HK3.out; omega⟩, ⟨by (with_reducible repeat (first | refine blk_drewN ?_ _ | refine blk_drew ?_ | refine blk_alloc ?_ _)); exact BK154.out⟩, ⟨by repeat (first | (with_reducible first | exact HB.out | apply below_alloc | apply pw_below_drewN | apply below_drew1 | refine below_set ?_ GE154.out) | exact HB.out)⟩⟩
                              · rw [if_neg c20] at H
                                exact absurd H (by simp)
                            · rw [if_neg c19] at H
                              exact absurd H (by simp)
                          · rw [if_neg c18] at H
                            have c18b0 : decide (x73_3 < (((rd_T60 l0 x16_1).f4).length : Int)) = false := decide_eq_false c18
                            clear c18
                            have H' := Aside0.mk H
                            clear H
                            have hcz22_0 : wr.cell? ⟨gb154, 0, none⟩ = some (.int .i64 ((rd_T60 l0 x16_1).f0)) := (blk_cell BK154.out 0).trans rfl
                            have hcz22_1 : wr.cell? ⟨gb154, 1, none⟩ = some (.string ((rd_T60 l0 x16_1).f1)) := (blk_cell BK154.out 1).trans rfl
                            have hcz22_2 : wr.cell? ⟨gb154, 2, none⟩ = some (.int .i64 ((rd_T60 l0 x16_1).f2.f0)) := (blk_cell BK154.out 2).trans rfl
                            have hcz22_3 : wr.cell? ⟨gb154, 3, none⟩ = some (.int .i64 ((rd_T60 l0 x16_1).f2.f1)) := (blk_cell BK154.out 3).trans rfl
                            have hcz22_4 : wr.cell? ⟨gb154, 4, none⟩ = some (.slice A153_4 ((rd_T60 l0 x16_1).f3).length c153_4) := (blk_cell BK154.out 4).trans rfl
                            have hcz22_5 : wr.cell? ⟨gb154, 5, none⟩ = some (.slice A153_5 ((rd_T60 l0 x16_1).f4).length c153_5) := (blk_cell BK154.out 5).trans rfl
                            have hcz22_6 : wr.cell? ⟨gb154, 6, none⟩ = some (.slice A153_6 ((rd_T60 l0 x16_1).f5).length c153_6) := (blk_cell BK154.out 6).trans rfl
                            have hcz22_7 : wr.cell? ⟨gb154, 7, none⟩ = some (.slice A153_7 ((rd_T60 l0 x16_1).f6).length c153_7) := (blk_cell BK154.out 7).trans rfl
                            have hfz22_0 := blk_frozen BK154.out 0
                            have hfz22_1 := blk_frozen BK154.out 1
                            have hfz22_2 := blk_frozen BK154.out 2
                            have hfz22_3 := blk_frozen BK154.out 3
                            have hfz22_4 := blk_frozen BK154.out 4
                            have hfz22_5 := blk_frozen BK154.out 5
                            have hfz22_6 := blk_frozen BK154.out 6
                            have hfz22_7 := blk_frozen BK154.out 7
                            go_wp2
                            repeat (go_quiet (fail); try go_wp2)
                            go_loopg [2, 90] k3 (fun kq v2 v90 w' => ∃ (x2_4 : Int) (x90_4 : Int), v2 = .int .i64 x2_4 ∧ v90 = .int .i64 x90_4 ∧ Aside0 (courierref05_small.l3 kq l0 a1 x2_4 (l0.length : Int) x16_1 (((rd_T60 l0 x16_1).f5).length : Int) x90_4 ((rd_T60 l0 x16_1).f0) ((rd_T60 l0 x16_1).f1) ((rd_T60 l0 x16_1).f2.f0) ((rd_T60 l0 x16_1).f2.f1) ((rd_T60 l0 x16_1).f3) ((rd_T60 l0 x16_1).f4) ((rd_T60 l0 x16_1).f5) ((rd_T60 l0 x16_1).f6) = some r) ∧ Aside0 (kq ≤ k3) ∧ Aside0 (w'.heap[gb154]? = some (.cells #[.int .i64 ((rd_T60 l0 x16_1).f0), .string ((rd_T60 l0 x16_1).f1), .int .i64 ((rd_T60 l0 x16_1).f2.f0), .int .i64 ((rd_T60 l0 x16_1).f2.f1), (.slice A153_4 ((rd_T60 l0 x16_1).f3).length c153_4), (.slice A153_5 ((rd_T60 l0 x16_1).f4).length c153_5), (.slice A153_6 ((rd_T60 l0 x16_1).f5).length c153_6), (.slice A153_7 ((rd_T60 l0 x16_1).f6).length c153_7)] 60 (0, 0))) ∧ Aside0 (Below w.heap.size w w'))
                            case atStart => exact ⟨(x2_3), (0), (by first | rfl | (simp; done) | (simp [*]; done)), (by first | rfl | (simp; done) | (simp [*]; done)), H', ⟨Nat.le_refl _⟩, ⟨by (with_reducible repeat (first | refine blk_drewN ?_ _ | refine blk_drew ?_ | refine blk_alloc ?_ _)); exact BK154.out⟩, ⟨by repeat (first | (with_reducible first | exact HB.out | apply below_alloc | apply pw_below_drewN | apply below_drew1 | refine below_set ?_ GE154.out) | exact HB.out)⟩⟩
                            case round =>
                              clear H'
                              try clear c1
                              try clear p1
                              try clear q1
                              try clear hx1
                              try clear c2
                              try clear p2
                              try clear c4
                              try clear c4b0
                              try clear c5
                              try clear c5b0
                              try clear c6
                              try clear c6b0
                              try clear p6
                              try clear c7
                              try clear c7b0
                              try clear c8
                              try clear c8b0
                              try clear c13
                              try clear c13b0
                              try clear c14
                              try clear c14b0
                              try clear c15
                              try clear c15b0
                              try clear p15
                              try clear q15
                              try clear hx15
                              try clear c18
                              try clear c18b0
                              try clear c19
                              try clear c19b0
                              try clear c20
                              try clear c20b0
                              try clear hcz10_0
                              try clear hcz10_1
                              try clear hcz10_2
                              try clear hcz10_3
                              try clear hcz10_4
                              try clear hcz10_5
                              try clear hcz10_6
                              try clear hcz10_7
                              try clear hcz12_0
                              try clear hcz12_1
                              try clear hcz12_2
                              try clear hcz12_3
                              try clear hcz12_4
                              try clear hcz12_5
                              try clear hcz12_6
                              try clear hcz12_7
                              try clear hcz16_0
                              try clear hcz16_1
                              try clear hcz16_2
                              try clear hcz16_3
                              try clear hcz16_4
                              try clear hcz16_5
                              try clear hcz16_6
                              try clear hcz16_7
                              try clear hcz17_0
                              try clear hcz17_1
                              try clear hcz17_2
                              try clear hcz17_3
                              try clear hcz17_4
                              try clear hcz17_5
                              try clear hcz17_6
                              try clear hcz17_7
                              try clear hcz21_0
                              try clear hcz21_1
                              try clear hcz21_2
                              try clear hcz21_3
                              try clear hcz21_4
                              try clear hcz21_5
                              try clear hcz21_6
                              try clear hcz21_7
                              try clear hcz22_0
                              try clear hcz22_1
                              try clear hcz22_2
                              try clear hcz22_3
                              try clear hcz22_4
                              try clear hcz22_5
                              try clear hcz22_6
                              try clear hcz22_7
                              try clear hfz10_0
                              try clear hfz10_1
                              try clear hfz10_2
                              try clear hfz10_3
                              try clear hfz10_4
                              try clear hfz10_5
                              try clear hfz10_6
                              try clear hfz10_7
                              try clear hfz12_0
                              try clear hfz12_1
                              try clear hfz12_2
                              try clear hfz12_3
                              try clear hfz12_4
                              try clear hfz12_5
                              try clear hfz12_6
                              try clear hfz12_7
                              try clear hfz16_0
                              try clear hfz16_1
                              try clear hfz16_2
                              try clear hfz16_3
                              try clear hfz16_4
                              try clear hfz16_5
                              try clear hfz16_6
                              try clear hfz16_7
                              try clear hfz17_0
                              try clear hfz17_1
                              try clear hfz17_2
                              try clear hfz17_3
                              try clear hfz17_4
                              try clear hfz17_5
                              try clear hfz17_6
                              try clear hfz17_7
                              try clear hfz21_0
                              try clear hfz21_1
                              try clear hfz21_2
                              try clear hfz21_3
                              try clear hfz21_4
                              try clear hfz21_5
                              try clear hfz21_6
                              try clear hfz21_7
                              try clear hfz22_0
                              try clear hfz22_1
                              try clear hfz22_2
                              try clear hfz22_3
                              try clear hfz22_4
                              try clear hfz22_5
                              try clear hfz22_6
                              try clear hfz22_7
                              try clear hx153_0
                              try clear hx153_1
                              try clear hx153_2
                              try clear hx153_3
                              try clear hx153_4
                              try clear hx153_5
                              try clear hx153_6
                              try clear hx153_7
                              try clear hx155_0
                              try clear hx155_1
                              try clear hx155_2
                              try clear hx155_3
                              try clear hx155_4
                              try clear hx155_5
                              try clear hx156_0
                              try clear hx156_1
                              try clear hx156_2
                              try clear hx156_3
                              try clear hx156_4
                              try clear hx156_5
                              try clear hx157_0
                              try clear hx157_1
                              try clear hx157_2
                              try clear hx157_3
                              try clear p1
                              try clear p15
                              try clear p153
                              try clear p155
                              try clear p156
                              try clear p157
                              try clear p2
                              try clear p6
                              try clear q1
                              try clear q15
                              try clear q153
                              try clear q155
                              try clear q156
                              try clear q157
                              obtain ⟨x2_4, x90_4, rfl, rfl, HA, HK4, BK154, HB⟩ := hrel
                              cases gk with
                              | zero => exact absurd HA.out (by simp [courierref05_small.l3])
                              | succ k4 =>
                                have H := HA.out
                                clear HA
                                simp only [courierref05_small.l3] at H
                                by_cases c23 : x90_4 < (((rd_T60 l0 x16_1).f5).length : Int)
                                · rw [if_pos c23] at H
                                  have c23b0 : decide (x90_4 < (((rd_T60 l0 x16_1).f5).length : Int)) = true := decide_eq_true c23
                                  clear c23
                                  by_cases c24 : 0 ≤ x90_4
                                  · rw [if_pos c24] at H
                                    have c24b0 : decide (0 ≤ x90_4) = true := decide_eq_true c24
                                    clear c24
                                    by_cases c25 : x90_4 < (((rd_T60 l0 x16_1).f5).length : Int)
                                    · rw [if_pos c25] at H
                                      have c25b0 : decide (x90_4 < (((rd_T60 l0 x16_1).f5).length : Int)) = true := decide_eq_true c25
                                      clear c25
                                      have H' := Aside0.mk H
                                      clear H
                                      have hcz26_0 : wr.cell? ⟨gb154, 0, none⟩ = some (.int .i64 ((rd_T60 l0 x16_1).f0)) := (blk_cell BK154.out 0).trans rfl
                                      have hcz26_1 : wr.cell? ⟨gb154, 1, none⟩ = some (.string ((rd_T60 l0 x16_1).f1)) := (blk_cell BK154.out 1).trans rfl
                                      have hcz26_2 : wr.cell? ⟨gb154, 2, none⟩ = some (.int .i64 ((rd_T60 l0 x16_1).f2.f0)) := (blk_cell BK154.out 2).trans rfl
                                      have hcz26_3 : wr.cell? ⟨gb154, 3, none⟩ = some (.int .i64 ((rd_T60 l0 x16_1).f2.f1)) := (blk_cell BK154.out 3).trans rfl
                                      have hcz26_4 : wr.cell? ⟨gb154, 4, none⟩ = some (.slice A153_4 ((rd_T60 l0 x16_1).f3).length c153_4) := (blk_cell BK154.out 4).trans rfl
                                      have hcz26_5 : wr.cell? ⟨gb154, 5, none⟩ = some (.slice A153_5 ((rd_T60 l0 x16_1).f4).length c153_5) := (blk_cell BK154.out 5).trans rfl
                                      have hcz26_6 : wr.cell? ⟨gb154, 6, none⟩ = some (.slice A153_6 ((rd_T60 l0 x16_1).f5).length c153_6) := (blk_cell BK154.out 6).trans rfl
                                      have hcz26_7 : wr.cell? ⟨gb154, 7, none⟩ = some (.slice A153_7 ((rd_T60 l0 x16_1).f6).length c153_7) := (blk_cell BK154.out 7).trans rfl
                                      have hfz26_0 := blk_frozen BK154.out 0
                                      have hfz26_1 := blk_frozen BK154.out 1
                                      have hfz26_2 := blk_frozen BK154.out 2
                                      have hfz26_3 := blk_frozen BK154.out 3
                                      have hfz26_4 := blk_frozen BK154.out 4
                                      have hfz26_5 := blk_frozen BK154.out 5
                                      have hfz26_6 := blk_frozen BK154.out 6
                                      have hfz26_7 := blk_frozen BK154.out 7
                                      have p158 : 0 ≤ (x90_4 : Int) := of_decide_eq_true (by first | (with_reducible assumption) | assumption)
                                      have q158 : x90_4 < (((rd_T60 l0 x16_1).f5).length : Int) := of_decide_eq_true (by first | (with_reducible assumption) | assumption)
                                      obtain ⟨ad158, e158, hx158_0, hx158_1, hx158_2, hx158_3, hx158_4⟩ := at_T67 HR153_6.out x90_4 p158 q158
                                      cases e158
                                      replace hx158_0 := (HB.out.cell (World.block_lt_of_cell? w _ hx158_0)).trans hx158_0
                                      replace hx158_1 := (HB.out.cell (World.block_lt_of_cell? w _ hx158_1)).trans hx158_1
                                      replace hx158_2 := (HB.out.cell (World.block_lt_of_cell? w _ hx158_2)).trans hx158_2
                                      replace hx158_3 := (HB.out.cell (World.block_lt_of_cell? w _ hx158_3)).trans hx158_3
                                      replace hx158_4 := (HB.out.cell (World.block_lt_of_cell? w _ hx158_4)).trans hx158_4
                                      replace p158 := eq_true p158
                                      replace q158 := eq_true q158
                                      have p159 : 0 ≤ (x90_4 : Int) := of_decide_eq_true (by first | (with_reducible assumption) | assumption)
                                      have q159 : x90_4 < (((rd_T60 l0 x16_1).f5).length : Int) := of_decide_eq_true (by first | (with_reducible assumption) | assumption)
                                      obtain ⟨ad159, e159, hx159_0, hx159_1, hx159_2, hx159_3, hx159_4⟩ := at_T67 HR153_6.out x90_4 p159 q159
                                      obtain rfl : ad158 = ad159 := (by injection e159)
                                      replace hx159_0 := (HB.out.cell (World.block_lt_of_cell? w _ hx159_0)).trans hx159_0
                                      replace hx159_1 := (HB.out.cell (World.block_lt_of_cell? w _ hx159_1)).trans hx159_1
                                      replace hx159_2 := (HB.out.cell (World.block_lt_of_cell? w _ hx159_2)).trans hx159_2
                                      replace hx159_3 := (HB.out.cell (World.block_lt_of_cell? w _ hx159_3)).trans hx159_3
                                      replace hx159_4 := (HB.out.cell (World.block_lt_of_cell? w _ hx159_4)).trans hx159_4
                                      replace p159 := eq_true p159
                                      replace q159 := eq_true q159
                                      have p160 : 0 ≤ (x90_4 : Int) := of_decide_eq_true (by first | (with_reducible assumption) | assumption)
                                      have q160 : x90_4 < (((rd_T60 l0 x16_1).f5).length : Int) := of_decide_eq_true (by first | (with_reducible assumption) | assumption)
                                      obtain ⟨ad160, e160, hx160_0, hx160_1, hx160_2, hx160_3, hx160_4⟩ := at_T67 HR153_6.out x90_4 p160 q160
                                      obtain rfl : ad158 = ad160 := (by injection e160)
                                      replace hx160_0 := (HB.out.cell (World.block_lt_of_cell? w _ hx160_0)).trans hx160_0
                                      replace hx160_1 := (HB.out.cell (World.block_lt_of_cell? w _ hx160_1)).trans hx160_1
                                      replace hx160_2 := (HB.out.cell (World.block_lt_of_cell? w _ hx160_2)).trans hx160_2
                                      replace hx160_3 := (HB.out.cell (World.block_lt_of_cell? w _ hx160_3)).trans hx160_3
                                      replace hx160_4 := (HB.out.cell (World.block_lt_of_cell? w _ hx160_4)).trans hx160_4
                                      replace p160 := eq_true p160
                                      replace q160 := eq_true q160
                                      go_wp2
                                      repeat (go_quiet (fail); try go_wp2)
                                      go_roundg k4
                                      case measure => have := HK1.out; have := HK2.out; have := HK3.out; have := HK4.out; omega
                                      case rel => exact ⟨(wrap64 ((wrap64 ((wrap64 (x2_4 - (wrap64 ((((rd_T67 ((rd_T60 l0 x16_1).f5) x90_4).f0).size : Int) / 100)))) - (wrap64 ((((rd_T67 ((rd_T60 l0 x16_1).f5) x90_4).f1).size : Int) / 100)))) - (wrap64 ((((rd_T67 ((rd_T60 l0 x16_1).f5) x90_4).f2).size : Int) / 100)))), (wrap64 (x90_4 + 1)), (by first | rfl | (simp; done) | (simp [*]; done)), (by first | rfl | (simp; done) | (simp [*]; done)), H', ⟨by have := HK1.out; have := HK2.out; have := HK3.out; have := HK4.out; omega⟩, ⟨by (with_reducible repeat (first | refine blk_drewN ?_ _ | refine blk_drew ?_ | refine blk_alloc ?_ _)); exact BK154.out⟩, ⟨by repeat (first | (with_reducible first | exact HB.out | apply below_alloc | apply pw_below_drewN | apply below_drew1 | refine below_set ?_ GE154.out) | exact HB.out)⟩⟩
                                    · rw [if_neg c25] at H
                                      exact absurd H (by simp)
                                  · rw [if_neg c24] at H
                                    exact absurd H (by simp)
                                · rw [if_neg c23] at H
                                  have c23b0 : decide (x90_4 < (((rd_T60 l0 x16_1).f5).length : Int)) = false := decide_eq_false c23
                                  clear c23
                                  replace H := Option.bind_eq_some_iff.mp H
                                  obtain ⟨t161, A270, H⟩ := H
                                  replace H : (if t161 < 0 then (some (-1)) else (courierref05_small.l0 k4 l0 a1 t161 (l0.length : Int) (wrap64 (x16_1 + 1)))) = some r := H
                                  have A27 := Aside0.mk A270
                                  clear A270
                                  by_cases c28 : t161 < 0
                                  · rw [if_pos c28] at H
                                    have c28b0 : decide (t161 < 0) = true := decide_eq_true c28
                                    clear c28
                                    obtain rfl := Option.some.inj H
                                    have hcz29_0 : wr.cell? ⟨gb154, 0, none⟩ = some (.int .i64 ((rd_T60 l0 x16_1).f0)) := (blk_cell BK154.out 0).trans rfl
                                    have hcz29_1 : wr.cell? ⟨gb154, 1, none⟩ = some (.string ((rd_T60 l0 x16_1).f1)) := (blk_cell BK154.out 1).trans rfl
                                    have hcz29_2 : wr.cell? ⟨gb154, 2, none⟩ = some (.int .i64 ((rd_T60 l0 x16_1).f2.f0)) := (blk_cell BK154.out 2).trans rfl
                                    have hcz29_3 : wr.cell? ⟨gb154, 3, none⟩ = some (.int .i64 ((rd_T60 l0 x16_1).f2.f1)) := (blk_cell BK154.out 3).trans rfl
                                    have hcz29_4 : wr.cell? ⟨gb154, 4, none⟩ = some (.slice A153_4 ((rd_T60 l0 x16_1).f3).length c153_4) := (blk_cell BK154.out 4).trans rfl
                                    have hcz29_5 : wr.cell? ⟨gb154, 5, none⟩ = some (.slice A153_5 ((rd_T60 l0 x16_1).f4).length c153_5) := (blk_cell BK154.out 5).trans rfl
                                    have hcz29_6 : wr.cell? ⟨gb154, 6, none⟩ = some (.slice A153_6 ((rd_T60 l0 x16_1).f5).length c153_6) := (blk_cell BK154.out 6).trans rfl
                                    have hcz29_7 : wr.cell? ⟨gb154, 7, none⟩ = some (.slice A153_7 ((rd_T60 l0 x16_1).f6).length c153_7) := (blk_cell BK154.out 7).trans rfl
                                    have hfz29_0 := blk_frozen BK154.out 0
                                    have hfz29_1 := blk_frozen BK154.out 1
                                    have hfz29_2 := blk_frozen BK154.out 2
                                    have hfz29_3 := blk_frozen BK154.out 3
                                    have hfz29_4 := blk_frozen BK154.out 4
                                    have hfz29_5 := blk_frozen BK154.out 5
                                    have hfz29_6 := blk_frozen BK154.out 6
                                    have hfz29_7 := blk_frozen BK154.out 7
                                    go_wp2_with (first | (go_at_call 13; (with_reducible refine (ih k4 (by have := HK1.out; have := HK2.out; have := HK3.out; have := HK4.out; omega) _ _ ((rd_T60 l0 x16_1).f6) (wrap64 (a1 + 1)) x2_4 t161 _ ?side1 ?side2 A27.out).mono ?_); (case side1 => repeat (first | exact (Kd.C_below HR153_7.out HB.out) | (with_reducible refine Kd.C_alloc ?_ _) | (with_reducible refine Kd.C_drewN ?_ _) | (with_reducible refine Kd.C_drew ?_))); (case side2 => exact HC153_7.out); rintro e w30 ⟨rfl, hb⟩; have n0_ := Aside0.mk (blk_below (g := gb154) (o := .cells #[.int .i64 ((rd_T60 l0 x16_1).f0), .string ((rd_T60 l0 x16_1).f1), .int .i64 ((rd_T60 l0 x16_1).f2.f0), .int .i64 ((rd_T60 l0 x16_1).f2.f1), .slice A153_4 ((rd_T60 l0 x16_1).f3).length c153_4, .slice A153_5 ((rd_T60 l0 x16_1).f4).length c153_5, .slice A153_6 ((rd_T60 l0 x16_1).f5).length c153_6, .slice A153_7 ((rd_T60 l0 x16_1).f6).length c153_7] 60 (0, 0)) (by (with_reducible repeat (first | refine blk_drewN ?_ _ | refine blk_drew ?_ | refine blk_alloc ?_ _)); exact BK154.out) hb); have n1_ := Aside0.mk (below_step (by repeat (first | (with_reducible first | exact HB.out | apply below_alloc | apply pw_below_drewN | apply below_drew1 | refine below_set ?_ GE154.out) | exact HB.out)) hb); clear BK154; clear HB; have BK154 := n0_; have HB := n1_; clear n0_ n1_; (try clear hb); (try clear hb2); (try clear hk); (try clear hi)))
                                    repeat (go_quiet (first | (go_at_call 13; (with_reducible refine (ih k4 (by have := HK1.out; have := HK2.out; have := HK3.out; have := HK4.out; omega) _ _ ((rd_T60 l0 x16_1).f6) (wrap64 (a1 + 1)) x2_4 t161 _ ?side1 ?side2 A27.out).mono ?_); (case side1 => repeat (first | exact (Kd.C_below HR153_7.out HB.out) | (with_reducible refine Kd.C_alloc ?_ _) | (with_reducible refine Kd.C_drewN ?_ _) | (with_reducible refine Kd.C_drew ?_))); (case side2 => exact HC153_7.out); rintro e w30 ⟨rfl, hb⟩; have n0_ := Aside0.mk (blk_below (g := gb154) (o := .cells #[.int .i64 ((rd_T60 l0 x16_1).f0), .string ((rd_T60 l0 x16_1).f1), .int .i64 ((rd_T60 l0 x16_1).f2.f0), .int .i64 ((rd_T60 l0 x16_1).f2.f1), .slice A153_4 ((rd_T60 l0 x16_1).f3).length c153_4, .slice A153_5 ((rd_T60 l0 x16_1).f4).length c153_5, .slice A153_6 ((rd_T60 l0 x16_1).f5).length c153_6, .slice A153_7 ((rd_T60 l0 x16_1).f6).length c153_7] 60 (0, 0)) (by (with_reducible repeat (first | refine blk_drewN ?_ _ | refine blk_drew ?_ | refine blk_alloc ?_ _)); exact BK154.out) hb); have n1_ := Aside0.mk (below_step (by repeat (first | (with_reducible first | exact HB.out | apply below_alloc | apply pw_below_drewN | apply below_drew1 | refine below_set ?_ GE154.out) | exact HB.out)) hb); clear BK154; clear HB; have BK154 := n0_; have HB := n1_; clear n0_ n1_; (try clear hb); (try clear hb2); (try clear hk); (try clear hi))); try go_wp2_with (first | (go_at_call 13; (with_reducible refine (ih k4 (by have := HK1.out; have := HK2.out; have := HK3.out; have := HK4.out; omega) _ _ ((rd_T60 l0 x16_1).f6) (wrap64 (a1 + 1)) x2_4 t161 _ ?side1 ?side2 A27.out).mono ?_); (case side1 => repeat (first | exact (Kd.C_below HR153_7.out HB.out) | (with_reducible refine Kd.C_alloc ?_ _) | (with_reducible refine Kd.C_drewN ?_ _) | (with_reducible refine Kd.C_drew ?_))); (case side2 => exact HC153_7.out); rintro e w30 ⟨rfl, hb⟩; have n0_ := Aside0.mk (blk_below (g := gb154) (o := .cells #[.int .i64 ((rd_T60 l0 x16_1).f0), .string ((rd_T60 l0 x16_1).f1), .int .i64 ((rd_T60 l0 x16_1).f2.f0), .int .i64 ((rd_T60 l0 x16_1).f2.f1), .slice A153_4 ((rd_T60 l0 x16_1).f3).length c153_4, .slice A153_5 ((rd_T60 l0 x16_1).f4).length c153_5, .slice A153_6 ((rd_T60 l0 x16_1).f5).length c153_6, .slice A153_7 ((rd_T60 l0 x16_1).f6).length c153_7] 60 (0, 0)) (by (with_reducible repeat (first | refine blk_drewN ?_ _ | refine blk_drew ?_ | refine blk_alloc ?_ _)); exact BK154.out) hb); have n1_ := Aside0.mk (below_step (by repeat (first | (with_reducible first | exact HB.out | apply below_alloc | apply pw_below_drewN | apply below_drew1 | refine below_set ?_ GE154.out) | exact HB.out)) hb); clear BK154; clear HB; have BK154 := n0_; have HB := n1_; clear n0_ n1_; (try clear hb); (try clear hb2); (try clear hk); (try clear hi))))
                                    go_ret
                                    exact ⟨by first | rfl | (simp [errW_none, errW_some] <;> rfl) | (simp [*, errW_none, errW_some] <;> rfl), by repeat (first | (with_reducible first | exact HB.out | apply below_alloc | apply pw_below_drewN | apply below_drew1 | refine below_set ?_ GE154.out) | exact HB.out)⟩
                                  · rw [if_neg c28] at H
                                    have c28b0 : decide (t161 < 0) = false := decide_eq_false c28
                                    clear c28
                                    have H' := Aside0.mk H
                                    clear H
                                    have hcz31_0 : wr.cell? ⟨gb154, 0, none⟩ = some (.int .i64 ((rd_T60 l0 x16_1).f0)) := (blk_cell BK154.out 0).trans rfl
                                    have hcz31_1 : wr.cell? ⟨gb154, 1, none⟩ = some (.string ((rd_T60 l0 x16_1).f1)) := (blk_cell BK154.out 1).trans rfl
                                    have hcz31_2 : wr.cell? ⟨gb154, 2, none⟩ = some (.int .i64 ((rd_T60 l0 x16_1).f2.f0)) := (blk_cell BK154.out 2).trans rfl
                                    have hcz31_3 : wr.cell? ⟨gb154, 3, none⟩ = some (.int .i64 ((rd_T60 l0 x16_1).f2.f1)) := (blk_cell BK154.out 3).trans rfl
                                    have hcz31_4 : wr.cell? ⟨gb154, 4, none⟩ = some (.slice A153_4 ((rd_T60 l0 x16_1).f3).length c153_4) := (blk_cell BK154.out 4).trans rfl
                                    have hcz31_5 : wr.cell? ⟨gb154, 5, none⟩ = some (.slice A153_5 ((rd_T60 l0 x16_1).f4).length c153_5) := (blk_cell BK154.out 5).trans rfl
                                    have hcz31_6 : wr.cell? ⟨gb154, 6, none⟩ = some (.slice A153_6 ((rd_T60 l0 x16_1).f5).length c153_6) := (blk_cell BK154.out 6).trans rfl
                                    have hcz31_7 : wr.cell? ⟨gb154, 7, none⟩ = some (.slice A153_7 ((rd_T60 l0 x16_1).f6).length c153_7) := (blk_cell BK154.out 7).trans rfl
                                    have hfz31_0 := blk_frozen BK154.out 0
                                    have hfz31_1 := blk_frozen BK154.out 1
                                    have hfz31_2 := blk_frozen BK154.out 2
                                    have hfz31_3 := blk_frozen BK154.out 3
                                    have hfz31_4 := blk_frozen BK154.out 4
                                    have hfz31_5 := blk_frozen BK154.out 5
                                    have hfz31_6 := blk_frozen BK154.out 6
                                    have hfz31_7 := blk_frozen BK154.out 7
                                    go_wp2_with (first | (go_at_call 13; (with_reducible refine (ih k4 (by have := HK1.out; have := HK2.out; have := HK3.out; have := HK4.out; omega) _ _ ((rd_T60 l0 x16_1).f6) (wrap64 (a1 + 1)) x2_4 t161 _ ?side1 ?side2 A27.out).mono ?_); (case side1 => repeat (first | exact (Kd.C_below HR153_7.out HB.out) | (with_reducible refine Kd.C_alloc ?_ _) | (with_reducible refine Kd.C_drewN ?_ _) | (with_reducible refine Kd.C_drew ?_))); (case side2 => exact HC153_7.out); rintro e w32 ⟨rfl, hb⟩; have n0_ := Aside0.mk (blk_below (g := gb154) (o := .cells #[.int .i64 ((rd_T60 l0 x16_1).f0), .string ((rd_T60 l0 x16_1).f1), .int .i64 ((rd_T60 l0 x16_1).f2.f0), .int .i64 ((rd_T60 l0 x16_1).f2.f1), .slice A153_4 ((rd_T60 l0 x16_1).f3).length c153_4, .slice A153_5 ((rd_T60 l0 x16_1).f4).length c153_5, .slice A153_6 ((rd_T60 l0 x16_1).f5).length c153_6, .slice A153_7 ((rd_T60 l0 x16_1).f6).length c153_7] 60 (0, 0)) (by (with_reducible repeat (first | refine blk_drewN ?_ _ | refine blk_drew ?_ | refine blk_alloc ?_ _)); exact BK154.out) hb); have n1_ := Aside0.mk (below_step (by repeat (first | (with_reducible first | exact HB.out | apply below_alloc | apply pw_below_drewN | apply below_drew1 | refine below_set ?_ GE154.out) | exact HB.out)) hb); clear BK154; clear HB; have BK154 := n0_; have HB := n1_; clear n0_ n1_; (try clear hb); (try clear hb2); (try clear hk); (try clear hi)))
                                    repeat (go_quiet (first | (go_at_call 13; (with_reducible refine (ih k4 (by have := HK1.out; have := HK2.out; have := HK3.out; have := HK4.out; omega) _ _ ((rd_T60 l0 x16_1).f6) (wrap64 (a1 + 1)) x2_4 t161 _ ?side1 ?side2 A27.out).mono ?_); (case side1 => repeat (first | exact (Kd.C_below HR153_7.out HB.out) | (with_reducible refine Kd.C_alloc ?_ _) | (with_reducible refine Kd.C_drewN ?_ _) | (with_reducible refine Kd.C_drew ?_))); (case side2 => exact HC153_7.out); rintro e w32 ⟨rfl, hb⟩; have n0_ := Aside0.mk (blk_below (g := gb154) (o := .cells #[.int .i64 ((rd_T60 l0 x16_1).f0), .string ((rd_T60 l0 x16_1).f1), .int .i64 ((rd_T60 l0 x16_1).f2.f0), .int .i64 ((rd_T60 l0 x16_1).f2.f1), .slice A153_4 ((rd_T60 l0 x16_1).f3).length c153_4, .slice A153_5 ((rd_T60 l0 x16_1).f4).length c153_5, .slice A153_6 ((rd_T60 l0 x16_1).f5).length c153_6, .slice A153_7 ((rd_T60 l0 x16_1).f6).length c153_7] 60 (0, 0)) (by (with_reducible repeat (first | refine blk_drewN ?_ _ | refine blk_drew ?_ | refine blk_alloc ?_ _)); exact BK154.out) hb); have n1_ := Aside0.mk (below_step (by repeat (first | (with_reducible first | exact HB.out | apply below_alloc | apply pw_below_drewN | apply below_drew1 | refine below_set ?_ GE154.out) | exact HB.out)) hb); clear BK154; clear HB; have BK154 := n0_; have HB := n1_; clear n0_ n1_; (try clear hb); (try clear hb2); (try clear hk); (try clear hi))); try go_wp2_with (first | (go_at_call 13; (with_reducible refine (ih k4 (by have := HK1.out; have := HK2.out; have := HK3.out; have := HK4.out; omega) _ _ ((rd_T60 l0 x16_1).f6) (wrap64 (a1 + 1)) x2_4 t161 _ ?side1 ?side2 A27.out).mono ?_); (case side1 => repeat (first | exact (Kd.C_below HR153_7.out HB.out) | (with_reducible refine Kd.C_alloc ?_ _) | (with_reducible refine Kd.C_drewN ?_ _) | (with_reducible refine Kd.C_drew ?_))); (case side2 => exact HC153_7.out); rintro e w32 ⟨rfl, hb⟩; have n0_ := Aside0.mk (blk_below (g := gb154) (o := .cells #[.int .i64 ((rd_T60 l0 x16_1).f0), .string ((rd_T60 l0 x16_1).f1), .int .i64 ((rd_T60 l0 x16_1).f2.f0), .int .i64 ((rd_T60 l0 x16_1).f2.f1), .slice A153_4 ((rd_T60 l0 x16_1).f3).length c153_4, .slice A153_5 ((rd_T60 l0 x16_1).f4).length c153_5, .slice A153_6 ((rd_T60 l0 x16_1).f5).length c153_6, .slice A153_7 ((rd_T60 l0 x16_1).f6).length c153_7] 60 (0, 0)) (by (with_reducible repeat (first | refine blk_drewN ?_ _ | refine blk_drew ?_ | refine blk_alloc ?_ _)); exact BK154.out) hb); have n1_ := Aside0.mk (below_step (by repeat (first | (with_reducible first | exact HB.out | apply below_alloc | apply pw_below_drewN | apply below_drew1 | refine below_set ?_ GE154.out) | exact HB.out)) hb); clear BK154; clear HB; have BK154 := n0_; have HB := n1_; clear n0_ n1_; (try clear hb); (try clear hb2); (try clear hk); (try clear hi))))
                                    go_roundg k4
                                    case measure => have := HK1.out; have := HK2.out; have := HK3.out; have := HK4.out; omega
                                    case rel => exact ⟨(t161), (wrap64 (x16_1 + 1)), (by first | rfl | (simp; done) | (simp [*]; done)), (by first | rfl | (simp; done) | (simp [*]; done)), H', ⟨by have := HK1.out; have := HK2.out; have := HK3.out; have := HK4.out; omega⟩, ⟨by repeat (first | (with_reducible first | exact HB.out | apply below_alloc | apply pw_below_drewN | apply below_drew1 | refine below_set ?_ GE154.out) | exact HB.out)⟩⟩
            · rw [if_neg c7] at H
              exact absurd H (by simp)
          · rw [if_neg c6] at H
            exact absurd H (by simp)
        · rw [if_neg c5] at H
          have c5b0 : decide (x16_1 < (l0.length : Int)) = false := decide_eq_false c5
          clear c5
          obtain rfl := Option.some.inj H
          go_wp2
          repeat (go_quiet (fail); try go_wp2)
          go_ret
          exact ⟨by first | rfl | (simp [errW_none, errW_some] <;> rfl) | (simp [*, errW_none, errW_some] <;> rfl), by repeat (first | (with_reducible first | exact HB.out | apply below_alloc | apply pw_below_drewN | apply below_drew1) | exact HB.out)⟩

end Go.Proofs.YtknbhbppofphpaaGreatDoor.X

/-! Plain functions for Go's own, out of the translation's print, and a proof that each call comes to what they tell; no condition but the functions' own answers. -/
namespace Go.Proofs.YtknbhbppofphpaaGreatDoor.X
open Go.RowKit Go.Proofs.YtknbhbppofphpaaGreatDoorW.PrintWords Go.Proofs.YtknbhbppofphpaaGreatDoorW.PrintLast Go.Proofs.YtknbhbppofphpaaGreatDoorW.PrintMore
attribute [local go_sem] max2_int min2_int max_two min_two max_three min_three max_four min_four Go.Proofs.YtknbhbppofphpaaGreatDoor.MyWords.put_isSome Go.Proofs.YtknbhbppofphpaaGreatDoor.MyWords.drewN_put   -- for this text's walks alone
set_option linter.unusedVariables false
set_option linter.unusedSimpArgs false

/-! ### courierref05_Small: function 6 -/
def courierref05_Small.f (k : Nat) (l0 : List (S60)) : Option (Bool) := (courierref05_small.f k l0 0 800).bind fun t162 => (some (decide (t162 ≥ 0)))
theorem courierref05_Small.mono : ∀ a0 k, LeO (courierref05_Small.f k a0) (courierref05_Small.f (k + 1) a0) := by
  intro a0 k
  unfold courierref05_Small.f
  repeat' first
      | (with_reducible exact courierref05_small.mono _ _ _ _)
      | (with_reducible exact LeO.refl _)
      | (with_reducible exact LeO.none _)
      | (with_reducible refine LeO.ite ?_ ?_)
      | (with_reducible refine LeO.bind ?_ (fun _ => ?_))
      | exact courierref05_small.mono _ _ _ _
      | exact LeO.none _
      | refine LeO.ite ?_ ?_
      | refine LeO.bind ?_ (fun _ => ?_)
set_option maxHeartbeats 8000000 in
set_option maxRecDepth 100000 in
theorem courierref05_Small.calls (k : Nat) (A0 : Option Addr) (c0 : Nat) (l0 : List (S60)) (r : Bool) (w : World) (hr0 : Kd.C k60 w A0 l0.length l0) (hc0 : l0.length ≤ c0) (h : courierref05_Small.f k l0 = some r) :
    Calls Tryz.prog 6 #[.slice A0 l0.length c0] w fun e w' => e = .returned (.bool r) ∧ Below w.heap.size w w' := by
  have HR0 := Aside0.mk hr0
  have HC0 := Aside0.mk hc0
  clear hr0 hc0
  have HB := Aside0.mk (Below.refl w.heap.size w)
  have H : ((courierref05_small.f k l0 0 800).bind fun t162 => (some (decide (t162 ≥ 0)))) = some r := h
  clear h
  replace H := Option.bind_eq_some_iff.mp H
  obtain ⟨t162, A20, H⟩ := H
  replace H : (some (decide (t162 ≥ 0))) = some r := H
  have A2 := Aside0.mk A20
  clear A20
  obtain rfl := Option.some.inj H
  go_enter Tryz.func6, Tryz.ntmps6
  go_wp2_with (first | ((with_reducible refine gate_callee (f := 13) rfl ?_); refine goesL_ (some 4) rfl rfl Tryz.func13 (by kernel_rfl) rfl #[.slice A0 l0.length c0, .int .i64 0, .int .i64 800] rfl (by (try simp only [List.map_toArray, List.map_cons, List.map_nil]); first | done | rfl | (simp only [List.length_drop, List.length_take]; rfl)) ?_; (with_reducible refine (courierref05_small.calls k _ _ l0 0 800 t162 _ ?side1 ?side2 A2.out).mono ?_); (case side1 => repeat (first | exact HR0.out | (with_reducible refine Kd.C_alloc ?_ _) | (with_reducible refine Kd.C_drewN ?_ _) | (with_reducible refine Kd.C_drew ?_))); (case side2 => exact HC0.out); rintro e w3 ⟨rfl, hb⟩; refine ⟨_, rfl, ?_⟩; have n0_ := Aside0.mk (below_step (by repeat (first | (with_reducible first | exact HB.out | apply below_alloc | apply pw_below_drewN | apply below_drew1) | exact HB.out)) hb); clear HB; have HB := n0_; clear n0_; (try clear hb); (try clear hb2); (try clear hk); (try clear hi)))
  go_ret
  exact ⟨by first | rfl | (simp [errW_none, errW_some] <;> rfl) | (simp [*, errW_none, errW_some] <;> rfl), by repeat (first | (with_reducible first | exact HB.out | apply below_alloc | apply pw_below_drewN | apply below_drew1) | exact HB.out)⟩

end Go.Proofs.YtknbhbppofphpaaGreatDoor.X
