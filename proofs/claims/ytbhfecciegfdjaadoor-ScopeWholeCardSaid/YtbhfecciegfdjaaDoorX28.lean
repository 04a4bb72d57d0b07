/- Plain functions for Go's own, out of the translation's print, and a proof that each call comes to what they tell; no condition but the functions' own answers. -/
import Derived.Test.YtbhfecciegfdjaaDoorX0
namespace Go.Proofs.YtbhfecciegfdjaaDoor.X
open Go.RowKit Go.Proofs.YtbhfecciegfdjaaDoorW.PrintWords Go.Proofs.YtbhfecciegfdjaaDoorW.PrintLast Go.Proofs.YtbhfecciegfdjaaDoorW.PrintMore
attribute [local go_sem] max2_int min2_int max_two min_two max_three min_three max_four min_four Go.Proofs.YtbhfecciegfdjaaDoor.MyWords.put_isSome Go.Proofs.YtbhfecciegfdjaaDoor.MyWords.drewN_put   -- for this text's walks alone
set_option linter.unusedVariables false
set_option linter.unusedSimpArgs false

/-! ### courierref05_small: function 13 -/
mutual
def courierref05_small.l0 : Nat → List (S54) → Int → Int → Int → Int → Option (Int)
  | 0, _, _, _, _, _ => none
  | k + 1, x0, x1, x2, x15, x16 => if x16 < x15 then (if 0 ≤ x16 then (if x16 < (x0.length : Int) then (if (wrap64 ((wrap64 ((wrap64 ((wrap64 ((wrap64 (x2 - 1)) - (((rd_T54 x0 x16).f3).length : Int))) - (((rd_T54 x0 x16).f4).length : Int))) - (((rd_T54 x0 x16).f5).length : Int))) - (wrap64 ((((rd_T54 x0 x16).f1).size : Int) / 100)))) < 0 then (some (-1)) else (courierref05_small.l1 k x0 x1 (wrap64 ((wrap64 ((wrap64 ((wrap64 ((wrap64 (x2 - 1)) - (((rd_T54 x0 x16).f3).length : Int))) - (((rd_T54 x0 x16).f4).length : Int))) - (((rd_T54 x0 x16).f5).length : Int))) - (wrap64 ((((rd_T54 x0 x16).f1).size : Int) / 100)))) x15 x16 (((rd_T54 x0 x16).f3).length : Int) 0 ((rd_T54 x0 x16).f0) ((rd_T54 x0 x16).f1) ((rd_T54 x0 x16).f2.f0) ((rd_T54 x0 x16).f2.f1) ((rd_T54 x0 x16).f3) ((rd_T54 x0 x16).f4) ((rd_T54 x0 x16).f5) ((rd_T54 x0 x16).f6))) else (none)) else (none)) else (some x2)
def courierref05_small.l1 : Nat → List (S54) → Int → Int → Int → Int → Int → Int → Int → ByteArray → Int → Int → List (S57) → List (S60) → List (S63) → List (S54) → Option (Int)
  | 0, _, _, _, _, _, _, _, _, _, _, _, _, _, _, _ => none
  | k + 1, x0, x1, x2, x15, x16, x46, x47, x113000, x113001, x113002, x113003, x113004, x113005, x113006, x113007 => if x47 < x46 then (if 0 ≤ x47 then (if x47 < (x113004.length : Int) then (courierref05_small.l1 k x0 x1 (wrap64 ((wrap64 (x2 - (wrap64 ((((rd_T57 x113004 x47).f2).size : Int) / 100)))) - (wrap64 ((((rd_T57 x113004 x47).f1).size : Int) / 100)))) x15 x16 x46 (wrap64 (x47 + 1)) x113000 x113001 x113002 x113003 x113004 x113005 x113006 x113007) else (none)) else (none)) else (courierref05_small.l2 k x0 x1 x2 x15 x16 (x113005.length : Int) 0 x113000 x113001 x113002 x113003 x113004 x113005 x113006 x113007)
def courierref05_small.l2 : Nat → List (S54) → Int → Int → Int → Int → Int → Int → Int → ByteArray → Int → Int → List (S57) → List (S60) → List (S63) → List (S54) → Option (Int)
  | 0, _, _, _, _, _, _, _, _, _, _, _, _, _, _, _ => none
  | k + 1, x0, x1, x2, x15, x16, x72, x73, x113000, x113001, x113002, x113003, x113004, x113005, x113006, x113007 => if x73 < x72 then (if 0 ≤ x73 then (if x73 < (x113005.length : Int) then (courierref05_small.l2 k x0 x1 (wrap64 (x2 - (wrap64 ((((rd_T60 x113005 x73).f0).size : Int) / 100)))) x15 x16 x72 (wrap64 (x73 + 1)) x113000 x113001 x113002 x113003 x113004 x113005 x113006 x113007) else (none)) else (none)) else (courierref05_small.l3 k x0 x1 x2 x15 x16 (x113006.length : Int) 0 x113000 x113001 x113002 x113003 x113004 x113005 x113006 x113007)
def courierref05_small.l3 : Nat → List (S54) → Int → Int → Int → Int → Int → Int → Int → ByteArray → Int → Int → List (S57) → List (S60) → List (S63) → List (S54) → Option (Int)
  | 0, _, _, _, _, _, _, _, _, _, _, _, _, _, _, _ => none
  | k + 1, x0, x1, x2, x15, x16, x89, x90, x113000, x113001, x113002, x113003, x113004, x113005, x113006, x113007 => if x90 < x89 then (if 0 ≤ x90 then (if x90 < (x113006.length : Int) then (courierref05_small.l3 k x0 x1 (wrap64 ((wrap64 ((wrap64 (x2 - (wrap64 ((((rd_T63 x113006 x90).f0).size : Int) / 100)))) - (wrap64 ((((rd_T63 x113006 x90).f1).size : Int) / 100)))) - (wrap64 ((((rd_T63 x113006 x90).f2).size : Int) / 100)))) x15 x16 x89 (wrap64 (x90 + 1)) x113000 x113001 x113002 x113003 x113004 x113005 x113006 x113007) else (none)) else (none)) else ((courierref05_small.f k x113007 (wrap64 (x1 + 1)) x2).bind fun t119 => (if t119 < 0 then (some (-1)) else (courierref05_small.l0 k x0 x1 t119 x15 (wrap64 (x16 + 1)))))
def courierref05_small.f : Nat → List (S54) → Int → Int → Option (Int)
  | 0, _, _, _ => none
  | k + 1, l0, a1, a2 => if a1 > 20 then (some (-1)) else (courierref05_small.l0 k l0 a1 a2 (l0.length : Int) 0)
end
theorem courierref05_small.mono_l : ∀ k, (∀ y0 y1 y2, LeO (courierref05_small.f k y0 y1 y2) (courierref05_small.f (k + 1) y0 y1 y2)) ∧ (∀ y0 y1 y2 y3 y4, LeO (courierref05_small.l0 k y0 y1 y2 y3 y4) (courierref05_small.l0 (k + 1) y0 y1 y2 y3 y4)) ∧ (∀ y0 y1 y2 y3 y4 y5 y6 y7 y8 y9 y10 y11 y12 y13 y14, LeO (courierref05_small.l1 k y0 y1 y2 y3 y4 y5 y6 y7 y8 y9 y10 y11 y12 y13 y14) (courierref05_small.l1 (k + 1) y0 y1 y2 y3 y4 y5 y6 y7 y8 y9 y10 y11 y12 y13 y14)) ∧ (∀ y0 y1 y2 y3 y4 y5 y6 y7 y8 y9 y10 y11 y12 y13 y14, LeO (courierref05_small.l2 k y0 y1 y2 y3 y4 y5 y6 y7 y8 y9 y10 y11 y12 y13 y14) (courierref05_small.l2 (k + 1) y0 y1 y2 y3 y4 y5 y6 y7 y8 y9 y10 y11 y12 y13 y14)) ∧ (∀ y0 y1 y2 y3 y4 y5 y6 y7 y8 y9 y10 y11 y12 y13 y14, LeO (courierref05_small.l3 k y0 y1 y2 y3 y4 y5 y6 y7 y8 y9 y10 y11 y12 y13 y14) (courierref05_small.l3 (k + 1) y0 y1 y2 y3 y4 y5 y6 y7 y8 y9 y10 y11 y12 y13 y14))
  | 0 => ⟨fun _ _ _ r h => by simp [courierref05_small.f] at h, fun _ _ _ _ _ r h => by simp [courierref05_small.l0] at h, fun _ _ _ _ _ _ _ _ _ _ _ _ _ _ _ r h => by simp [courierref05_small.l1] at h, fun _ _ _ _ _ _ _ _ _ _ _ _ _ _ _ r h => by simp [courierref05_small.l2] at h, fun _ _ _ _ _ _ _ _ _ _ _ _ _ _ _ r h => by simp [courierref05_small.l3] at h⟩
  | k + 1 => by
    obtain ⟨ih0, ih1, ih2, ih3, ih4⟩ := courierref05_small.mono_l k
    refine ⟨?_, ?_, ?_, ?_, ?_⟩
    · intro y0 y1 y2
      unfold courierref05_small.f
      repeat' first
      | (with_reducible exact ih0 _ _ _)
      | (with_reducible exact ih1 _ _ _ _ _)
      | (with_reducible exact ih2 _ _ _ _ _ _ _ _ _ _ _ _ _ _ _)
      | (with_reducible exact ih3 _ _ _ _ _ _ _ _ _ _ _ _ _ _ _)
      | (with_reducible exact ih4 _ _ _ _ _ _ _ _ _ _ _ _ _ _ _)
      | (with_reducible exact LeO.refl _)
      | (with_reducible exact LeO.none _)
      | (with_reducible refine LeO.ite ?_ ?_)
      | (with_reducible refine LeO.bind ?_ (fun _ => ?_))
      | exact ih0 _ _ _
      | exact ih1 _ _ _ _ _
      | exact ih2 _ _ _ _ _ _ _ _ _ _ _ _ _ _ _
      | exact ih3 _ _ _ _ _ _ _ _ _ _ _ _ _ _ _
      | exact ih4 _ _ _ _ _ _ _ _ _ _ _ _ _ _ _
      | exact LeO.none _
      | refine LeO.ite ?_ ?_
      | refine LeO.bind ?_ (fun _ => ?_)
    · intro y0 y1 y2 y3 y4
      unfold courierref05_small.l0
      repeat' first
      | (with_reducible exact ih0 _ _ _)
      | (with_reducible exact ih1 _ _ _ _ _)
      | (with_reducible exact ih2 _ _ _ _ _ _ _ _ _ _ _ _ _ _ _)
      | (with_reducible exact ih3 _ _ _ _ _ _ _ _ _ _ _ _ _ _ _)
      | (with_reducible exact ih4 _ _ _ _ _ _ _ _ _ _ _ _ _ _ _)
      | (with_reducible exact LeO.refl _)
      | (with_reducible exact LeO.none _)
      | (with_reducible refine LeO.ite ?_ ?_)
      | (with_reducible refine LeO.bind ?_ (fun _ => ?_))
      | exact ih0 _ _ _
      | exact ih1 _ _ _ _ _
      | exact ih2 _ _ _ _ _ _ _ _ _ _ _ _ _ _ _
      | exact ih3 _ _ _ _ _ _ _ _ _ _ _ _ _ _ _
      | exact ih4 _ _ _ _ _ _ _ _ _ _ _ _ _ _ _
      | exact LeO.none _
      | refine LeO.ite ?_ ?_
      | refine LeO.bind ?_ (fun _ => ?_)
    · intro y0 y1 y2 y3 y4 y5 y6 y7 y8 y9 y10 y11 y12 y13 y14
      unfold courierref05_small.l1
      repeat' first
      | (with_reducible exact ih0 _ _ _)
      | (with_reducible exact ih1 _ _ _ _ _)
      | (with_reducible exact ih2 _ _ _ _ _ _ _ _ _ _ _ _ _ _ _)
      | (with_reducible exact ih3 _ _ _ _ _ _ _ _ _ _ _ _ _ _ _)
      | (with_reducible exact ih4 _ _ _ _ _ _ _ _ _ _ _ _ _ _ _)
      | (with_reducible exact LeO.refl _)
      | (with_reducible exact LeO.none _)
      | (with_reducible refine LeO.ite ?_ ?_)
      | (with_reducible refine LeO.bind ?_ (fun _ => ?_))
      | exact ih0 _ _ _
      | exact ih1 _ _ _ _ _
      | exact ih2 _ _ _ _ _ _ _ _ _ _ _ _ _ _ _
      | exact ih3 _ _ _ _ _ _ _ _ _ _ _ _ _ _ _
      | exact ih4 _ _ _ _ _ _ _ _ _ _ _ _ _ _ _
      | exact LeO.none _
      | refine LeO.ite ?_ ?_
      | refine LeO.bind ?_ (fun _ => ?_)
    · intro y0 y1 y2 y3 y4 y5 y6 y7 y8 y9 y10 y11 y12 y13 y14
      unfold courierref05_small.l2
      repeat' first
      | (with_reducible exact ih0 _ _ _)
      | (with_reducible exact ih1 _ _ _ _ _)
      | (with_reducible exact ih2 _ _ _ _ _ _ _ _ _ _ _ _ _ _ _)
      | (with_reducible exact ih3 _ _ _ _ _ _ _ _ _ _ _ _ _ _ _)
      | (with_reducible exact ih4 _ _ _ _ _ _ _ _ _ _ _ _ _ _ _)
      | (with_reducible exact LeO.refl _)
      | (with_reducible exact LeO.none _)
      | (with_reducible refine LeO.ite ?_ ?_)
      | (with_reducible refine LeO.bind ?_ (fun _ => ?_))
      | exact ih0 _ _ _
      | exact ih1 _ _ _ _ _
      | exact ih2 _ _ _ _ _ _ _ _ _ _ _ _ _ _ _
      | exact ih3 _ _ _ _ _ _ _ _ _ _ _ _ _ _ _
      | exact ih4 _ _ _ _ _ _ _ _ _ _ _ _ _ _ _
      | exact LeO.none _
      | refine LeO.ite ?_ ?_
      | refine LeO.bind ?_ (fun _ => ?_)
    · intro y0 y1 y2 y3 y4 y5 y6 y7 y8 y9 y10 y11 y12 y13 y14
      unfold courierref05_small.l3
      repeat' first
      | (with_reducible exact ih0 _ _ _)
      | (with_reducible exact ih1 _ _ _ _ _)
      | (with_reducible exact ih2 _ _ _ _ _ _ _ _ _ _ _ _ _ _ _)
      | (with_reducible exact ih3 _ _ _ _ _ _ _ _ _ _ _ _ _ _ _)
      | (with_reducible exact ih4 _ _ _ _ _ _ _ _ _ _ _ _ _ _ _)
      | (with_reducible exact LeO.refl _)
      | (with_reducible exact LeO.none _)
      | (with_reducible refine LeO.ite ?_ ?_)
      | (with_reducible refine LeO.bind ?_ (fun _ => ?_))
      | exact ih0 _ _ _
      | exact ih1 _ _ _ _ _
      | exact ih2 _ _ _ _ _ _ _ _ _ _ _ _ _ _ _
      | exact ih3 _ _ _ _ _ _ _ _ _ _ _ _ _ _ _
      | exact ih4 _ _ _ _ _ _ _ _ _ _ _ _ _ _ _
      | exact LeO.none _
      | refine LeO.ite ?_ ?_
      | refine LeO.bind ?_ (fun _ => ?_)
theorem courierref05_small.mono : ∀ a0 a1 a2 k, LeO (courierref05_small.f k a0 a1 a2) (courierref05_small.f (k + 1) a0 a1 a2) := by
  intro a0 a1 a2 k
  obtain ⟨ih0, ih1, ih2, ih3, ih4⟩ := courierref05_small.mono_l k
  exact ih0 a0 a1 a2
set_option maxHeartbeats 8000000 in
set_option maxRecDepth 100000 in
theorem courierref05_small.calls (k : Nat) : ∀ (A0 : Option Addr) (c0 : Nat) (l0 : List (S54)) (a1 : Int) (a2 : Int) (r : Int) (w : World) (hr0 : Kd.C k54 w A0 l0.length l0) (hc0 : l0.length ≤ c0) (h : courierref05_small.f k l0 a1 a2 = some r),
    Calls Tryd.prog 13 #[.slice A0 l0.length c0, .int .i64 a1, .int .i64 a2] w fun e w' => e = .returned (.int .i64 r) ∧ Below w.heap.size w w' := by
  induction k using Nat.strongRecOn with
  | _ k ih =>
  intro A0 c0 l0 a1 a2 r w hr0 hc0 h
  cases k with
  | zero => exact absurd h (by simp [courierref05_small.f])
  | succ k =>
  simp only [courierref05_small.f] at h
  have hu54 := Tryd.underlying54
  have HR0 := Aside0.mk hr0
  have HC0 := Aside0.mk hc0
  clear hr0 hc0
  have HB := Aside0.mk (Below.refl w.heap.size w)
  have H : (if a1 > 20 then (some (-1)) else (courierref05_small.l0 k l0 a1 a2 (l0.length : Int) 0)) = some r := h
  clear h
  by_cases c4 : a1 > 20
  · rw [if_pos c4] at H
    have c4b0 : decide (20 < a1) = true := decide_eq_true c4
    clear c4
    obtain rfl := Option.some.inj H
    go_enter Tryd.func13, Tryd.ntmps13
    go_wp2
    repeat (go_quiet (fail); try go_wp2)
    go_ret
    exact ⟨by first | rfl | (simp [errW_none, errW_some] <;> rfl) | (simp [*, errW_none, errW_some] <;> rfl), by repeat (first | (with_reducible first | exact HB.out | apply below_alloc | apply pw_below_drewN | apply below_drew1) | exact HB.out)⟩
  · rw [if_neg c4] at H
    have c4b0 : decide (20 < a1) = false := decide_eq_false c4
    clear c4
    have H' := Aside0.mk H
    clear H
    go_enter Tryd.func13, Tryd.ntmps13
    go_wp2
    repeat (go_quiet (fail); try go_wp2)
    go_loopg [2, 16] k (fun kq v2 v16 w' => ∃ (x2_1 : Int) (x16_1 : Int), v2 = .int .i64 x2_1 ∧ v16 = .int .i64 x16_1 ∧ Aside0 (courierref05_small.l0 kq l0 a1 x2_1 (l0.length : Int) x16_1 = some r) ∧ Aside0 (kq ≤ k) ∧ Aside0 (Below w.heap.size w w'))
    case atStart => exact ⟨(a2), (0), (by first | rfl | (simp; done) | (simp [*]; done)), (by first | rfl | (simp; done) | (simp [*]; done)), H', ⟨Nat.le_refl _⟩, ⟨by repeat (first | (with_reducible first | exact HB.out | apply below_alloc | apply pw_below_drewN | apply below_drew1) | exact HB.out)⟩⟩
    case round =>
      clear H'
      try clear c1
      try clear p2
      try clear c4
      try clear c4b0
      obtain ⟨x2_1, x16_1, rfl, rfl, HA, HK1, HB⟩ := hrel
      cases gk with
      | zero => exact absurd HA.out (by simp [courierref05_small.l0])
      | succ k1 =>
        have H := HA.out
        clear HA
        simp only [courierref05_small.l0] at H
        by_cases c5 : x16_1 < (l0.length : Int)
        · rw [if_pos c5] at H
          have c5b0 : decide (x16_1 < (l0.length : Int)) = true := decide_eq_true c5
          clear c5
          by_cases c6 : 0 ≤ x16_1
          · rw [if_pos c6] at H
            have c6b0 : decide (0 ≤ x16_1) = true := decide_eq_true c6
            clear c6
            by_cases c7 : x16_1 < (l0.length : Int)
            · rw [if_pos c7] at H
              have c7b0 : decide (x16_1 < (l0.length : Int)) = true := decide_eq_true c7
              clear c7
              by_cases c8 : (wrap64 ((wrap64 ((wrap64 ((wrap64 ((wrap64 (x2_1 - 1)) - (((rd_T54 l0 x16_1).f3).length : Int))) - (((rd_T54 l0 x16_1).f4).length : Int))) - (((rd_T54 l0 x16_1).f5).length : Int))) - (wrap64 ((((rd_T54 l0 x16_1).f1).size : Int) / 100)))) < 0
              · rw [if_pos c8] at H
                have c8b0 : decide ((wrap64 ((wrap64 ((wrap64 ((wrap64 ((wrap64 (x2_1 - 1)) - (((rd_T54 l0 x16_1).f3).length : Int))) - (((rd_T54 l0 x16_1).f4).length : Int))) - (((rd_T54 l0 x16_1).f5).length : Int))) - (wrap64 ((((rd_T54 l0 x16_1).f1).size : Int) / 100)))) < 0) = true := decide_eq_true c8
                clear c8
                obtain rfl := Option.some.inj H
                have p111 : 0 ≤ (x16_1 : Int) := of_decide_eq_true (by first | (with_reducible assumption) | assumption)
                have q111 : x16_1 < (l0.length : Int) := of_decide_eq_true (by first | (with_reducible assumption) | assumption)
                obtain ⟨ad111, A111_4, c111_4, A111_5, c111_5, A111_6, c111_6, A111_7, c111_7, e111, hx111_0, hx111_1, hx111_2, hx111_3, hx111_4, hx111_5, hx111_6, hx111_7, hl111_4, hi111_4, hl111_5, hi111_5, hl111_6, hi111_6, hl111_7, hi111_7⟩ := at_T54 HR0.out x16_1 p111 q111
                cases e111
                replace hx111_0 := (HB.out.cell (World.block_lt_of_cell? w _ hx111_0)).trans hx111_0
                replace hx111_1 := (HB.out.cell (World.block_lt_of_cell? w _ hx111_1)).trans hx111_1
                replace hx111_2 := (HB.out.cell (World.block_lt_of_cell? w _ hx111_2)).trans hx111_2
                replace hx111_3 := (HB.out.cell (World.block_lt_of_cell? w _ hx111_3)).trans hx111_3
                replace hx111_4 := (HB.out.cell (World.block_lt_of_cell? w _ hx111_4)).trans hx111_4
                replace hx111_5 := (HB.out.cell (World.block_lt_of_cell? w _ hx111_5)).trans hx111_5
                replace hx111_6 := (HB.out.cell (World.block_lt_of_cell? w _ hx111_6)).trans hx111_6
                replace hx111_7 := (HB.out.cell (World.block_lt_of_cell? w _ hx111_7)).trans hx111_7
                have HR111_4 := Aside0.mk hi111_4
                have HC111_4 := Aside0.mk hl111_4
                clear hi111_4 hl111_4
                have HR111_5 := Aside0.mk hi111_5
                have HC111_5 := Aside0.mk hl111_5
                clear hi111_5 hl111_5
                have HR111_6 := Aside0.mk hi111_6
                have HC111_6 := Aside0.mk hl111_6
                clear hi111_6 hl111_6
                have HR111_7 := Aside0.mk hi111_7
                have HC111_7 := Aside0.mk hl111_7
                clear hi111_7 hl111_7
                replace p111 := eq_true p111
                replace q111 := eq_true q111
                go_wp2_with (first | ((with_reducible refine gate_dst (N := 8) rfl ?_); refine box_event ?hg (N := 8) ?hd (cs := #[.int .i64 0, .string (⟨#[]⟩ : ByteArray), .int .i64 0, .int .i64 0, .slice none 0 0, .slice none 0 0, .slice none 0 0, .slice none 0 0]) (t := 54) ?hr ?_; (case hd => rfl); (case hg => rfl); (case hr => first | (go_simp; done) | (go_simp; rfl)); intro gb112 hg w9 hbox hb; have n0_ := Aside0.mk (below_step (by repeat (first | (with_reducible first | exact HB.out | apply below_alloc | apply pw_below_drewN | apply below_drew1) | exact HB.out)) hb); have n1_ := Aside0.mk (hbox); have n2_ := Aside0.mk ((by rw [hg]; exact (below_size (by repeat (first | (with_reducible first | exact HB.out | apply below_alloc | apply pw_below_drewN | apply below_drew1) | exact HB.out))) : w.heap.size ≤ gb112)); have n3_ := Aside0.mk ((by rw [hg]; exact (below_size (by repeat (first | (with_reducible first | exact HB.out | apply below_alloc | apply pw_below_drewN | apply below_drew1) | exact HB.out))) : w.heap.size ≤ gb112)); clear HB; have HB := n0_; have BK112 := n1_; have GW112 := n2_; have GE112 := n3_; clear n0_ n1_ n2_ n3_; clear hb hbox hg; have hcz10_0 : w9.cell? ⟨gb112, 0, none⟩ = some (.int .i64 0) := (blk_cell BK112.out 0).trans rfl; have hcz10_1 : w9.cell? ⟨gb112, 1, none⟩ = some (.string (⟨#[]⟩ : ByteArray)) := (blk_cell BK112.out 1).trans rfl; have hcz10_2 : w9.cell? ⟨gb112, 2, none⟩ = some (.int .i64 0) := (blk_cell BK112.out 2).trans rfl; have hcz10_3 : w9.cell? ⟨gb112, 3, none⟩ = some (.int .i64 0) := (blk_cell BK112.out 3).trans rfl; have hcz10_4 : w9.cell? ⟨gb112, 4, none⟩ = some (.slice none 0 0) := (blk_cell BK112.out 4).trans rfl; have hcz10_5 : w9.cell? ⟨gb112, 5, none⟩ = some (.slice none 0 0) := (blk_cell BK112.out 5).trans rfl; have hcz10_6 : w9.cell? ⟨gb112, 6, none⟩ = some (.slice none 0 0) := (blk_cell BK112.out 6).trans rfl; have hcz10_7 : w9.cell? ⟨gb112, 7, none⟩ = some (.slice none 0 0) := (blk_cell BK112.out 7).trans rfl; have hfz10_0 := blk_frozen BK112.out 0; have hfz10_1 := blk_frozen BK112.out 1; have hfz10_2 := blk_frozen BK112.out 2; have hfz10_3 := blk_frozen BK112.out 3; have hfz10_4 := blk_frozen BK112.out 4; have hfz10_5 := blk_frozen BK112.out 5; have hfz10_6 := blk_frozen BK112.out 6; have hfz10_7 := blk_frozen BK112.out 7))
                repeat (go_quiet (first | ((with_reducible refine gate_dst (N := 8) rfl ?_); refine box_event ?hg (N := 8) ?hd (cs := #[.int .i64 0, .string (⟨#[]⟩ : ByteArray), .int .i64 0, .int .i64 0, .slice none 0 0, .slice none 0 0, .slice none 0 0, .slice none 0 0]) (t := 54) ?hr ?_; (case hd => rfl); (case hg => rfl); (case hr => first | (go_simp; done) | (go_simp; rfl)); intro gb112 hg w9 hbox hb; have n0_ := Aside0.mk (below_step (by repeat (first | (with_reducible first | exact HB.out | apply below_alloc | apply pw_below_drewN | apply below_drew1) | exact HB.out)) hb); have n1_ := Aside0.mk (hbox); have n2_ := Aside0.mk ((by rw [hg]; exact (below_size (by repeat (first | (with_reducible first | exact HB.out | apply below_alloc | apply pw_below_drewN | apply below_drew1) | exact HB.out))) : w.heap.size ≤ gb112)); have n3_ := Aside0.mk ((by rw [hg]; exact (below_size (by repeat (first | (with_reducible first | exact HB.out | apply below_alloc | apply pw_below_drewN | apply below_drew1) | exact HB.out))) : w.heap.size ≤ gb112)); clear HB; have HB := n0_; have BK112 := n1_; have GW112 := n2_; have GE112 := n3_; clear n0_ n1_ n2_ n3_; clear hb hbox hg; have hcz10_0 : w9.cell? ⟨gb112, 0, none⟩ = some (.int .i64 0) := (blk_cell BK112.out 0).trans rfl; have hcz10_1 : w9.cell? ⟨gb112, 1, none⟩ = some (.string (⟨#[]⟩ : ByteArray)) := (blk_cell BK112.out 1).trans rfl; have hcz10_2 : w9.cell? ⟨gb112, 2, none⟩ = some (.int .i64 0) := (blk_cell BK112.out 2).trans rfl; have hcz10_3 : w9.cell? ⟨gb112, 3, none⟩ = some (.int .i64 0) := (blk_cell BK112.out 3).trans rfl; have hcz10_4 : w9.cell? ⟨gb112, 4, none⟩ = some (.slice none 0 0) := (blk_cell BK112.out 4).trans rfl; have hcz10_5 : w9.cell? ⟨gb112, 5, none⟩ = some (.slice none 0 0) := (blk_cell BK112.out 5).trans rfl; have hcz10_6 : w9.cell? ⟨gb112, 6, none⟩ = some (.slice none 0 0) := (blk_cell BK112.out 6).trans rfl; have hcz10_7 : w9.cell? ⟨gb112, 7, none⟩ = some (.slice none 0 0) := (blk_cell BK112.out 7).trans rfl; have hfz10_0 := blk_frozen BK112.out 0; have hfz10_1 := blk_frozen BK112.out 1; have hfz10_2 := blk_frozen BK112.out 2; have hfz10_3 := blk_frozen BK112.out 3; have hfz10_4 := blk_frozen BK112.out 4; have hfz10_5 := blk_frozen BK112.out 5; have hfz10_6 := blk_frozen BK112.out 6; have hfz10_7 := blk_frozen BK112.out 7)); try go_wp2_with (first | ((with_reducible refine gate_dst (N := 8) rfl ?_); refine box_event ?hg (N := 8) ?hd (cs := #[.int .i64 0, .string (⟨#[]⟩ : ByteArray), .int .i64 0, .int .i64 0, .slice none 0 0, .slice none 0 0, .slice none 0 0, .slice none 0 0]) (t := 54) ?hr ?_; (case hd => rfl); (case hg => rfl); (case hr => first | (go_simp; done) | (go_simp; rfl)); intro gb112 hg w9 hbox hb; have n0_ := Aside0.mk (below_step (by repeat (first | (with_reducible first | exact HB.out | apply below_alloc | apply pw_below_drewN | apply below_drew1) | exact HB.out)) hb); have n1_ := Aside0.mk (hbox); have n2_ := Aside0.mk ((by rw [hg]; exact (below_size (by repeat (first | (with_reducible first | exact HB.out | apply below_alloc | apply pw_below_drewN | apply below_drew1) | exact HB.out))) : w.heap.size ≤ gb112)); have n3_ := Aside0.mk ((by rw [hg]; exact (below_size (by repeat (first | (with_reducible first | exact HB.out | apply below_alloc | apply pw_below_drewN | apply below_drew1) | exact HB.out))) : w.heap.size ≤ gb112)); clear HB; have HB := n0_; have BK112 := n1_; have GW112 := n2_; have GE112 := n3_; clear n0_ n1_ n2_ n3_; clear hb hbox hg; have hcz10_0 : w9.cell? ⟨gb112, 0, none⟩ = some (.int .i64 0) := (blk_cell BK112.out 0).trans rfl; have hcz10_1 : w9.cell? ⟨gb112, 1, none⟩ = some (.string (⟨#[]⟩ : ByteArray)) := (blk_cell BK112.out 1).trans rfl; have hcz10_2 : w9.cell? ⟨gb112, 2, none⟩ = some (.int .i64 0) := (blk_cell BK112.out 2).trans rfl; have hcz10_3 : w9.cell? ⟨gb112, 3, none⟩ = some (.int .i64 0) := (blk_cell BK112.out 3).trans rfl; have hcz10_4 : w9.cell? ⟨gb112, 4, none⟩ = some (.slice none 0 0) := (blk_cell BK112.out 4).trans rfl; have hcz10_5 : w9.cell? ⟨gb112, 5, none⟩ = some (.slice none 0 0) := (blk_cell BK112.out 5).trans rfl; have hcz10_6 : w9.cell? ⟨gb112, 6, none⟩ = some (.slice none 0 0) := (blk_cell BK112.out 6).trans rfl; have hcz10_7 : w9.cell? ⟨gb112, 7, none⟩ = some (.slice none 0 0) := (blk_cell BK112.out 7).trans rfl; have hfz10_0 := blk_frozen BK112.out 0; have hfz10_1 := blk_frozen BK112.out 1; have hfz10_2 := blk_frozen BK112.out 2; have hfz10_3 := blk_frozen BK112.out 3; have hfz10_4 := blk_frozen BK112.out 4; have hfz10_5 := blk_frozen BK112.out 5; have hfz10_6 := blk_frozen BK112.out 6; have hfz10_7 := blk_frozen BK112.out 7)))
                go_ret
                exact ⟨by first | rfl | (simp [errW_none, errW_some] <;> rfl) | (simp [*, errW_none, errW_some] <;> rfl), by repeat (first | (with_reducible first | exact HB.out | apply below_alloc | apply pw_below_drewN | apply below_drew1 | refine below_set ?_ GE112.out) | exact HB.out)⟩
              · rw [if_neg c8] at H
                have c8b0 : decide ((wrap64 ((wrap64 ((wrap64 ((wrap64 ((wrap64 (x2_1 - 1)) - (((rd_T54 l0 x16_1).f3).length : Int))) - (((rd_T54 l0 x16_1).f4).length : Int))) - (((rd_T54 l0 x16_1).f5).length : Int))) - (wrap64 ((((rd_T54 l0 x16_1).f1).size : Int) / 100)))) < 0) = false := decide_eq_false c8
                clear c8
                have H' := Aside0.mk H
                clear H
                have p111 : 0 ≤ (x16_1 : Int) := of_decide_eq_true (by first | (with_reducible assumption) | assumption)
                have q111 : x16_1 < (l0.length : Int) := of_decide_eq_true (by first | (with_reducible assumption) | assumption)
                obtain ⟨ad111, A111_4, c111_4, A111_5, c111_5, A111_6, c111_6, A111_7, c111_7, e111, hx111_0, hx111_1, hx111_2, hx111_3, hx111_4, hx111_5, hx111_6, hx111_7, hl111_4, hi111_4, hl111_5, hi111_5, hl111_6, hi111_6, hl111_7, hi111_7⟩ := at_T54 HR0.out x16_1 p111 q111
                cases e111
                replace hx111_0 := (HB.out.cell (World.block_lt_of_cell? w _ hx111_0)).trans hx111_0
                replace hx111_1 := (HB.out.cell (World.block_lt_of_cell? w _ hx111_1)).trans hx111_1
                replace hx111_2 := (HB.out.cell (World.block_lt_of_cell? w _ hx111_2)).trans hx111_2
                replace hx111_3 := (HB.out.cell (World.block_lt_of_cell? w _ hx111_3)).trans hx111_3
                replace hx111_4 := (HB.out.cell (World.block_lt_of_cell? w _ hx111_4)).trans hx111_4
                replace hx111_5 := (HB.out.cell (World.block_lt_of_cell? w _ hx111_5)).trans hx111_5
                replace hx111_6 := (HB.out.cell (World.block_lt_of_cell? w _ hx111_6)).trans hx111_6
                replace hx111_7 := (HB.out.cell (World.block_lt_of_cell? w _ hx111_7)).trans hx111_7
                have HR111_4 := Aside0.mk hi111_4
                have HC111_4 := Aside0.mk hl111_4
                clear hi111_4 hl111_4
                have HR111_5 := Aside0.mk hi111_5
                have HC111_5 := Aside0.mk hl111_5
                clear hi111_5 hl111_5
                have HR111_6 := Aside0.mk hi111_6
                have HC111_6 := Aside0.mk hl111_6
                clear hi111_6 hl111_6
                have HR111_7 := Aside0.mk hi111_7
                have HC111_7 := Aside0.mk hl111_7
                clear hi111_7 hl111_7
                replace p111 := eq_true p111
                replace q111 := eq_true q111
                go_wp2_with (first | ((with_reducible refine gate_dst (N := 8) rfl ?_); refine box_event ?hg (N := 8) ?hd (cs := #[.int .i64 0, .string (⟨#[]⟩ : ByteArray), .int .i64 0, .int .i64 0, .slice none 0 0, .slice none 0 0, .slice none 0 0, .slice none 0 0]) (t := 54) ?hr ?_; (case hd => rfl); (case hg => rfl); (case hr => first | (go_simp; done) | (go_simp; rfl)); intro gb112 hg w11 hbox hb; have n0_ := Aside0.mk (below_step (by repeat (first | (with_reducible first | exact HB.out | apply below_alloc | apply pw_below_drewN | apply below_drew1) | exact HB.out)) hb); have n1_ := Aside0.mk (hbox); have n2_ := Aside0.mk ((by rw [hg]; exact (below_size (by repeat (first | (with_reducible first | exact HB.out | apply below_alloc | apply pw_below_drewN | apply below_drew1) | exact HB.out))) : w.heap.size ≤ gb112)); have n3_ := Aside0.mk ((by rw [hg]; exact (below_size (by repeat (first | (with_reducible first | exact HB.out | apply below_alloc | apply pw_below_drewN | apply below_drew1) | exact HB.out))) : w.heap.size ≤ gb112)); clear HB; have HB := n0_; have BK112 := n1_; have GW112 := n2_; have GE112 := n3_; clear n0_ n1_ n2_ n3_; clear hb hbox hg; have hcz12_0 : w11.cell? ⟨gb112, 0, none⟩ = some (.int .i64 0) := (blk_cell BK112.out 0).trans rfl; have hcz12_1 : w11.cell? ⟨gb112, 1, none⟩ = some (.string (⟨#[]⟩ : ByteArray)) := (blk_cell BK112.out 1).trans rfl; have hcz12_2 : w11.cell? ⟨gb112, 2, none⟩ = some (.int .i64 0) := (blk_cell BK112.out 2).trans rfl; have hcz12_3 : w11.cell? ⟨gb112, 3, none⟩ = some (.int .i64 0) := (blk_cell BK112.out 3).trans rfl; have hcz12_4 : w11.cell? ⟨gb112, 4, none⟩ = some (.slice none 0 0) := (blk_cell BK112.out 4).trans rfl; have hcz12_5 : w11.cell? ⟨gb112, 5, none⟩ = some (.slice none 0 0) := (blk_cell BK112.out 5).trans rfl; have hcz12_6 : w11.cell? ⟨gb112, 6, none⟩ = some (.slice none 0 0) := (blk_cell BK112.out 6).trans rfl; have hcz12_7 : w11.cell? ⟨gb112, 7, none⟩ = some (.slice none 0 0) := (blk_cell BK112.out 7).trans rfl; have hfz12_0 := blk_frozen BK112.out 0; have hfz12_1 := blk_frozen BK112.out 1; have hfz12_2 := blk_frozen BK112.out 2; have hfz12_3 := blk_frozen BK112.out 3; have hfz12_4 := blk_frozen BK112.out 4; have hfz12_5 := blk_frozen BK112.out 5; have hfz12_6 := blk_frozen BK112.out 6; have hfz12_7 := blk_frozen BK112.out 7))
                repeat (go_quiet (first | ((with_reducible refine gate_dst (N := 8) rfl ?_); refine box_event ?hg (N := 8) ?hd (cs := #[.int .i64 0, .string (⟨#[]⟩ : ByteArray), .int .i64 0, .int .i64 0, .slice none 0 0, .slice none 0 0, .slice none 0 0, .slice none 0 0]) (t := 54) ?hr ?_; (case hd => rfl); (case hg => rfl); (case hr => first | (go_simp; done) | (go_simp; rfl)); intro gb112 hg w11 hbox hb; have n0_ := Aside0.mk (below_step (by repeat (first | (with_reducible first | exact HB.out | apply below_alloc | apply pw_below_drewN | apply below_drew1) | exact HB.out)) hb); have n1_ := Aside0.mk (hbox); have n2_ := Aside0.mk ((by rw [hg]; exact (below_size (by repeat (first | (with_reducible first | exact HB.out | apply below_alloc | apply pw_below_drewN | apply below_drew1) | exact HB.out))) : w.heap.size ≤ gb112)); have n3_ := Aside0.mk ((by rw [hg]; exact (below_size (by repeat (first | (with_reducible first | exact HB.out | apply below_alloc | apply pw_below_drewN | apply below_drew1) | exact HB.out))) : w.heap.size ≤ gb112)); clear HB; have HB := n0_; have BK112 := n1_; have GW112 := n2_; have GE112 := n3_; clear n0_ n1_ n2_ n3_; clear hb hbox hg; have hcz12_0 : w11.cell? ⟨gb112, 0, none⟩ = some (.int .i64 0) := (blk_cell BK112.out 0).trans rfl; have hcz12_1 : w11.cell? ⟨gb112, 1, none⟩ = some (.string (⟨#[]⟩ : ByteArray)) := (blk_cell BK112.out 1).trans rfl; have hcz12_2 : w11.cell? ⟨gb112, 2, none⟩ = some (.int .i64 0) := (blk_cell BK112.out 2).trans rfl; have hcz12_3 : w11.cell? ⟨gb112, 3, none⟩ = some (.int .i64 0) := (blk_cell BK112.out 3).trans rfl; have hcz12_4 : w11.cell? ⟨gb112, 4, none⟩ = some (.slice none 0 0) := (blk_cell BK112.out 4).trans rfl; have hcz12_5 : w11.cell? ⟨gb112, 5, none⟩ = some (.slice none 0 0) := (blk_cell BK112.out 5).trans rfl; have hcz12_6 : w11.cell? ⟨gb112, 6, none⟩ = some (.slice none 0 0) := (blk_cell BK112.out 6).trans rfl; have hcz12_7 : w11.cell? ⟨gb112, 7, none⟩ = some (.slice none 0 0) := (blk_cell BK112.out 7).trans rfl; have hfz12_0 := blk_frozen BK112.out 0; have hfz12_1 := blk_frozen BK112.out 1; have hfz12_2 := blk_frozen BK112.out 2; have hfz12_3 := blk_frozen BK112.out 3; have hfz12_4 := blk_frozen BK112.out 4; have hfz12_5 := blk_frozen BK112.out 5; have hfz12_6 := blk_frozen BK112.out 6; have hfz12_7 := blk_frozen BK112.out 7)); try go_wp2_with (first | ((with_reducible refine gate_dst (N := 8) rfl ?_); refine box_event ?hg (N := 8) ?hd (cs := #[.int .i64 0, .string (⟨#[]⟩ : ByteArray), .int .i64 0, .int .i64 0, .slice none 0 0, .slice none 0 0, .slice none 0 0, .slice none 0 0]) (t := 54) ?hr ?_; (case hd => rfl); (case hg => rfl); (case hr => first | (go_simp; done) | (go_simp; rfl)); intro gb112 hg w11 hbox hb; have n0_ := Aside0.mk (below_step (by repeat (first | (with_reducible first | exact HB.out | apply below_alloc | apply pw_below_drewN | apply below_drew1) | exact HB.out)) hb); have n1_ := Aside0.mk (hbox); have n2_ := Aside0.mk ((by rw [hg]; exact (below_size (by repeat (first | (with_reducible first | exact HB.out | apply below_alloc | apply pw_below_drewN | apply below_drew1) | exact HB.out))) : w.heap.size ≤ gb112)); have n3_ := Aside0.mk ((by rw [hg]; exact (below_size (by repeat (first | (with_reducible first | exact HB.out | apply below_alloc | apply pw_below_drewN | apply below_drew1) | exact HB.out))) : w.heap.size ≤ gb112)); clear HB; have HB := n0_; have BK112 := n1_; have GW112 := n2_; have GE112 := n3_; clear n0_ n1_ n2_ n3_; clear hb hbox hg; have hcz12_0 : w11.cell? ⟨gb112, 0, none⟩ = some (.int .i64 0) := (blk_cell BK112.out 0).trans rfl; have hcz12_1 : w11.cell? ⟨gb112, 1, none⟩ = some (.string (⟨#[]⟩ : ByteArray)) := (blk_cell BK112.out 1).trans rfl; have hcz12_2 : w11.cell? ⟨gb112, 2, none⟩ = some (.int .i64 0) := (blk_cell BK112.out 2).trans rfl; have hcz12_3 : w11.cell? ⟨gb112, 3, none⟩ = some (.int .i64 0) := (blk_cell BK112.out 3).trans rfl; have hcz12_4 : w11.cell? ⟨gb112, 4, none⟩ = some (.slice none 0 0) := (blk_cell BK112.out 4).trans rfl; have hcz12_5 : w11.cell? ⟨gb112, 5, none⟩ = some (.slice none 0 0) := (blk_cell BK112.out 5).trans rfl; have hcz12_6 : w11.cell? ⟨gb112, 6, none⟩ = some (.slice none 0 0) := (blk_cell BK112.out 6).trans rfl; have hcz12_7 : w11.cell? ⟨gb112, 7, none⟩ = some (.slice none 0 0) := (blk_cell BK112.out 7).trans rfl; have hfz12_0 := blk_frozen BK112.out 0; have hfz12_1 := blk_frozen BK112.out 1; have hfz12_2 := blk_frozen BK112.out 2; have hfz12_3 := blk_frozen BK112.out 3; have hfz12_4 := blk_frozen BK112.out 4; have hfz12_5 := blk_frozen BK112.out 5; have hfz12_6 := blk_frozen BK112.out 6; have hfz12_7 := blk_frozen BK112.out 7)))
                go_loopg [2, 47] k1 (fun kq v2 v47 w' => ∃ (x2_2 : Int) (x47_2 : Int), v2 = .int .i64 x2_2 ∧ v47 = .int .i64 x47_2 ∧ Aside0 (courierref05_small.l1 kq l0 a1 x2_2 (l0.length : Int) x16_1 (((rd_T54 l0 x16_1).f3).length : Int) x47_2 ((rd_T54 l0 x16_1).f0) ((rd_T54 l0 x16_1).f1) ((rd_T54 l0 x16_1).f2.f0) ((rd_T54 l0 x16_1).f2.f1) ((rd_T54 l0 x16_1).f3) ((rd_T54 l0 x16_1).f4) ((rd_T54 l0 x16_1).f5) ((rd_T54 l0 x16_1).f6) = some r) ∧ Aside0 (kq ≤ k1) ∧ Aside0 (w'.heap[gb112]? = some (.cells #[.int .i64 ((rd_T54 l0 x16_1).f0), .string ((rd_T54 l0 x16_1).f1), .int .i64 ((rd_T54 l0 x16_1).f2.f0), .int .i64 ((rd_T54 l0 x16_1).f2.f1), (.slice A111_4 ((rd_T54 l0 x16_1).f3).length c111_4), (.slice A111_5 ((rd_T54 l0 x16_1).f4).length c111_5), (.slice A111_6 ((rd_T54 l0 x16_1).f5).length c111_6), (.slice A111_7 ((rd_T54 l0 x16_1).f6).length c111_7)] 54 (0, 0))) ∧ Aside0 (Below w.heap.size w w'))
                case atStart => exact ⟨(wrap64 ((wrap64 ((wrap64 ((wrap64 ((wrap64 (x2_1 - 1)) - (((rd_T54 l0 x16_1).f3).length : Int))) - (((rd_T54 l0 x16_1).f4).length : Int))) - (((rd_T54 l0 x16_1).f5).length : Int))) - (wrap64 ((((rd_T54 l0 x16_1).f1).size : Int) / 100)))), (0), (by first | rfl | (simp; done) | (simp [*]; done)), (by first | rfl | (simp; done) | (simp [*]; done)), H', ⟨Nat.le_refl _⟩, ⟨by (with_reducible repeat (first | refine blk_drewN ?_ _ | refine blk_drew ?_ | refine blk_alloc ?_ _)); refine blk_put (cs := #[.int .i64 ((rd_T54 l0 x16_1).f0), .string ((rd_T54 l0 x16_1).f1), .int .i64 ((rd_T54 l0 x16_1).f2.f0), .int .i64 ((rd_T54 l0 x16_1).f2.f1), .slice A111_4 ((rd_T54 l0 x16_1).f3).length c111_4, .slice A111_5 ((rd_T54 l0 x16_1).f4).length c111_5, .slice A111_6 ((rd_T54 l0 x16_1).f5).length c111_6, .slice none 0 0]) ?_ 7 _ rfl; (with_reducible repeat (first | refine blk_drewN ?_ _ | refine blk_drew ?_ | refine blk_alloc ?_ _)); refine blk_put (cs := #[.int .i64 ((rd_T54 l0 x16_1).f0), .string ((rd_T54 l0 x16_1).f1), .int .i64 ((rd_T54 l0 x16_1).f2.f0), .int .i64 ((rd_T54 l0 x16_1).f2.f1), .slice A111_4 ((rd_T54 l0 x16_1).f3).length c111_4, .slice A111_5 ((rd_T54 l0 x16_1).f4).length c111_5, .slice none 0 0, .slice none 0 0]) ?_ 6 _ rfl; (with_reducible repeat (first | refine blk_drewN ?_ _ | refine blk_drew ?_ | refine blk_alloc ?_ _)); refine blk_put (cs := #[.int .i64 ((rd_T54 l0 x16_1).f0), .string ((rd_T54 l0 x16_1).f1), .int .i64 ((rd_T54 l0 x16_1).f2.f0), .int .i64 ((rd_T54 l0 x16_1).f2.f1), .slice A111_4 ((rd_T54 l0 x16_1).f3).length c111_4, .slice none 0 0, .slice none 0 0, .slice none 0 0]) ?_ 5 _ rfl; (with_reducible repeat (first | refine blk_drewN ?_ _ | refine blk_drew ?_ | refine blk_alloc ?_ _)); refine blk_put (cs := #[.int .i64 ((rd_T54 l0 x16_1).f0), .string ((rd_T54 l0 x16_1).f1), .int .i64 ((rd_T54 l0 x16_1).f2.f0), .int .i64 ((rd_T54 l0 x16_1).f2.f1), .slice none 0 0, .slice none 0 0, .slice none 0 0, .slice none 0 0]) ?_ 4 _ rfl; (with_reducible repeat (first | refine blk_drewN ?_ _ | refine blk_drew ?_ | refine blk_alloc ?_ _)); refine blk_put (cs := #[.int .i64 ((rd_T54 l0 x16_1).f0), .string ((rd_T54 l0 x16_1).f1), .int .i64 ((rd_T54 l0 x16_1).f2.f0), .int .i64 0, .slice none 0 0, .slice none 0 0, .slice none 0 0, .slice none 0 0]) ?_ 3 _ rfl; (with_reducible repeat (first | refine blk_drewN ?_ _ | refine blk_drew ?_ | refine blk_alloc ?_ _)); refine blk_put (cs := #[.int .i64 ((rd_T54 l0 x16_1).f0), .string ((rd_T54 l0 x16_1).f1), .int .i64 0, .int .i64 0, .slice none 0 0, .slice none 0 0, .slice none 0 0, .slice none 0 0]) ?_ 2 _ rfl; (with_reducible repeat (first | refine blk_drewN ?_ _ | refine blk_drew ?_ | refine blk_alloc ?_ _)); refine blk_put (cs := #[.int .i64 ((rd_T54 l0 x16_1).f0), .string (⟨#[]⟩ : ByteArray), .int .i64 0, .int .i64 0, .slice none 0 0, .slice none 0 0, .slice none 0 0, .slice none 0 0]) ?_ 1 _ rfl; (with_reducible repeat (first | refine blk_drewN ?_ _ | refine blk_drew ?_ | refine blk_alloc ?_ _)); refine blk_put (cs := #[.int .i64 0, .string (⟨#[]⟩ : ByteArray), .int .i64 0, .int .i64 0, .slice none 0 0, .slice none 0 0, .slice none 0 0, .slice none 0 0]) ?_ 0 _ rfl; (with_reducible repeat (first | refine blk_drewN ?_ _ | refine blk_drew ?_ | refine blk_alloc ?_ _)); exact BK112.out⟩, ⟨by repeat (first | (with_reducible first | exact HB.out | apply below_alloc | apply pw_below_drewN | apply below_drew1 | refine below_set ?_ GE112.out) | exact HB.out)⟩⟩
                case round =>
                  clear H'
                  try clear c1
                  try clear p1
                  try clear q1
                  try clear hx1
                  try clear p2
                  try clear c4
                  try clear c4b0
                  try clear c5
                  try clear c5b0
                  try clear c6
                  try clear c6b0
                  try clear p6
                  try clear c7
                  try clear c7b0
                  try clear c8
                  try clear c8b0
                  try clear c11
                  try clear p11
                  try clear q11
                  try clear hx11
                  try clear hcz10_0
                  try clear hcz10_1
                  try clear hcz10_2
                  try clear hcz10_3
                  try clear hcz10_4
                  try clear hcz10_5
                  try clear hcz10_6
                  try clear hcz10_7
                  try clear hcz12_0
                  try clear hcz12_1
                  try clear hcz12_2
                  try clear hcz12_3
                  try clear hcz12_4
                  try clear hcz12_5
                  try clear hcz12_6
                  try clear hcz12_7
                  try clear hfz10_0
                  try clear hfz10_1
                  try clear hfz10_2
                  try clear hfz10_3
                  try clear hfz10_4
                  try clear hfz10_5
                  try clear hfz10_6
                  try clear hfz10_7
                  try clear hfz12_0
                  try clear hfz12_1
                  try clear hfz12_2
                  try clear hfz12_3
                  try clear hfz12_4
                  try clear hfz12_5
                  try clear hfz12_6
                  try clear hfz12_7
                  try clear hx111_0
                  try clear hx111_1
                  try clear hx111_2
                  try clear hx111_3
                  try clear hx111_4
                  try clear hx111_5
                  try clear hx111_6
                  try clear hx111_7
                  try clear p111
                  try clear p2
                  try clear q111
                  obtain ⟨x2_2, x47_2, rfl, rfl, HA, HK2, BK112, HB⟩ := hrel
                  cases gk with
                  | zero => exact absurd HA.out (by simp [courierref05_small.l1])
                  | succ k2 =>
                    have H := HA.out
                    clear HA
                    simp only [courierref05_small.l1] at H
                    by_cases c13 : x47_2 < (((rd_T54 l0 x16_1).f3).length : Int)
                    · rw [if_pos c13] at H
                      have c13b0 : decide (x47_2 < (((rd_T54 l0 x16_1).f3).length : Int)) = true := decide_eq_true c13
                      clear c13
                      by_cases c14 : 0 ≤ x47_2
                      · rw [if_pos c14] at H
                        have c14b0 : decide (0 ≤ x47_2) = true := decide_eq_true c14
                        clear c14
                        by_cases c15 : x47_2 < (((rd_T54 l0 x16_1).f3).length : Int)
                        · rw [if_pos c15] at H
                          have c15b0 : decide (x47_2 < (((rd_T54 l0 x16_1).f3).length : Int)) = true := decide_eq_true c15
                          clear c15
                          have H' := Aside0.mk H
                          clear H
                          have hcz16_0 : wr.cell? ⟨gb112, 0, none⟩ = some (.int .i64 ((rd_T54 l0 x16_1).f0)) := (blk_cell BK112.out 0).trans rfl
                          have hcz16_1 : wr.cell? ⟨gb112, 1, none⟩ = some (.string ((rd_T54 l0 x16_1).f1)) := (blk_cell BK112.out 1).trans rfl
                          have hcz16_2 : wr.cell? ⟨gb112, 2, none⟩ = some (.int .i64 ((rd_T54 l0 x16_1).f2.f0)) := (blk_cell BK112.out 2).trans rfl
                          have hcz16_3 : wr.cell? ⟨gb112, 3, none⟩ = some (.int .i64 ((rd_T54 l0 x16_1).f2.f1)) := (blk_cell BK112.out 3).trans rfl
                          have hcz16_4 : wr.cell? ⟨gb112, 4, none⟩ = some (.slice A111_4 ((rd_T54 l0 x16_1).f3).length c111_4) := (blk_cell BK112.out 4).trans rfl
                          have hcz16_5 : wr.cell? ⟨gb112, 5, none⟩ = some (.slice A111_5 ((rd_T54 l0 x16_1).f4).length c111_5) := (blk_cell BK112.out 5).trans rfl
                          have hcz16_6 : wr.cell? ⟨gb112, 6, none⟩ = some (.slice A111_6 ((rd_T54 l0 x16_1).f5).length c111_6) := (blk_cell BK112.out 6).trans rfl
                          have hcz16_7 : wr.cell? ⟨gb112, 7, none⟩ = some (.slice A111_7 ((rd_T54 l0 x16_1).f6).length c111_7) := (blk_cell BK112.out 7).trans rfl
                          have hfz16_0 := blk_frozen BK112.out 0
                          have hfz16_1 := blk_frozen BK112.out 1
                          have hfz16_2 := blk_frozen BK112.out 2
                          have hfz16_3 := blk_frozen BK112.out 3
                          have hfz16_4 := blk_frozen BK112.out 4
                          have hfz16_5 := blk_frozen BK112.out 5
                          have hfz16_6 := blk_frozen BK112.out 6
                          have hfz16_7 := blk_frozen BK112.out 7
                          have p113 : 0 ≤ (x47_2 : Int) := of_decide_eq_true (by first | (with_reducible assumption) | assumption)
                          have q113 : x47_2 < (((rd_T54 l0 x16_1).f3).length : Int) := of_decide_eq_true (by first | (with_reducible assumption) | assumption)
                          obtain ⟨ad113, e113, hx113_0, hx113_1, hx113_2, hx113_3, hx113_4, hx113_5⟩ := at_T57 HR111_4.out x47_2 p113 q113
                          cases e113
                          replace hx113_0 := (HB.out.cell (World.block_lt_of_cell? w _ hx113_0)).trans hx113_0
                          replace hx113_1 := (HB.out.cell (World.block_lt_of_cell? w _ hx113_1)).trans hx113_1
                          replace hx113_2 := (HB.out.cell (World.block_lt_of_cell? w _ hx113_2)).trans hx113_2
                          replace hx113_3 := (HB.out.cell (World.block_lt_of_cell? w _ hx113_3)).trans hx113_3
                          replace hx113_4 := (HB.out.cell (World.block_lt_of_cell? w _ hx113_4)).trans hx113_4
                          replace hx113_5 := (HB.out.cell (World.block_lt_of_cell? w _ hx113_5)).trans hx113_5
                          replace p113 := eq_true p113
                          replace q113 := eq_true q113
                          have p114 : 0 ≤ (x47_2 : Int) := of_decide_eq_true (by first | (with_reducible assumption) | assumption)
                          have q114 : x47_2 < (((rd_T54 l0 x16_1).f3).length : Int) := of_decide_eq_true (by first | (with_reducible assumption) | assumption)
                          obtain ⟨ad114, e114, hx114_0, hx114_1, hx114_2, hx114_3, hx114_4, hx114_5⟩ := at_T57 HR111_4.out x47_2 p114 q114
                          obtain rfl : ad113 = ad114 := (by injection e114)
                          replace hx114_0 := (HB.out.cell (World.block_lt_of_cell? w _ hx114_0)).trans hx114_0
                          replace hx114_1 := (HB.out.cell (World.block_lt_of_cell? w _ hx114_1)).trans hx114_1
                          replace hx114_2 := (HB.out.cell (World.block_lt_of_cell? w _ hx114_2)).trans hx114_2
                          replace hx114_3 := (HB.out.cell (World.block_lt_of_cell? w _ hx114_3)).trans hx114_3
                          replace hx114_4 := (HB.out.cell (World.block_lt_of_cell? w _ hx114_4)).trans hx114_4
                          replace hx114_5 := (HB.out.cell (World.block_lt_of_cell? w _ hx114_5)).trans hx114_5
                          replace p114 := eq_true p114
                          replace q114 := eq_true q114
                          go_wp2
                          repeat (go_quiet (fail); try go_wp2)
                          go_roundg k2
                          case measure => have := HK1.out; have := HK2.out; omega
                          case rel => exact ⟨(wrap64 ((wrap64 (x2_2 - (wrap64 ((((rd_T57 ((rd_T54 l0 x16_1).f3) x47_2).f2).size : Int) / 100)))) - (wrap64 ((((rd_T57 ((rd_T54 l0 x16_1).f3) x47_2).f1).size : Int) / 100)))), (wrap64 (x47_2 + 1)), (by first | rfl | (simp; done) | (simp [*]; done)), (by first | rfl | (simp; done) | (simp [*]; done)), H', ⟨by have := HK1.out; have := HK2.out; omega⟩, ⟨by (with_reducible repeat (first | refine blk_drewN ?_ _ | refine blk_drew ?_ | refine blk_alloc ?_ _)); exact BK112.out⟩, ⟨by repeat (first | (with_reducible first | exact HB.out | apply below_alloc | apply pw_below_drewN | apply below_drew1 | refine below_set ?_ GE112.out) | exact HB.out)⟩⟩
                        · rw [if_neg c15] at H
                          exact absurd H (by simp)
                      · rw [if_neg c14] at H
                        exact absurd H (by simp)
                    · rw [if_neg c13] at H
                      have c13b0 : decide (x47_2 < (((rd_T54 l0 x16_1).f3).length : Int)) = false := decide_eq_false c13
                      clear c13
                      have H' := Aside0.mk H
                      clear H
                      have hcz17_0 : wr.cell? ⟨gb112, 0, none⟩ = some (.int .i64 ((rd_T54 l0 x16_1).f0)) := (blk_cell BK112.out 0).trans rfl
                      have hcz17_1 : wr.cell? ⟨gb112, 1, none⟩ = some (.string ((rd_T54 l0 x16_1).f1)) := (blk_cell BK112.out 1).trans rfl
                      have hcz17_2 : wr.cell? ⟨gb112, 2, none⟩ = some (.int .i64 ((rd_T54 l0 x16_1).f2.f0)) := (blk_cell BK112.out 2).trans rfl
                      have hcz17_3 : wr.cell? ⟨gb112, 3, none⟩ = some (.int .i64 ((rd_T54 l0 x16_1).f2.f1)) := (blk_cell BK112.out 3).trans rfl
                      have hcz17_4 : wr.cell? ⟨gb112, 4, none⟩ = some (.slice A111_4 ((rd_T54 l0 x16_1).f3).length c111_4) := (blk_cell BK112.out 4).trans rfl
                      have hcz17_5 : wr.cell? ⟨gb112, 5, none⟩ = some (.slice A111_5 ((rd_T54 l0 x16_1).f4).length c111_5) := (blk_cell BK112.out 5).trans rfl
                      have hcz17_6 : wr.cell? ⟨gb112, 6, none⟩ = some (.slice A111_6 ((rd_T54 l0 x16_1).f5).length c111_6) := (blk_cell BK112.out 6).trans rfl
                      have hcz17_7 : wr.cell? ⟨gb112, 7, none⟩ = some (.slice A111_7 ((rd_T54 l0 x16_1).f6).length c111_7) := (blk_cell BK112.out 7).trans rfl
                      have hfz17_0 := blk_frozen BK112.out 0
                      have hfz17_1 := blk_frozen BK112.out 1
                      have hfz17_2 := blk_frozen BK112.out 2
                      have hfz17_3 := blk_frozen BK112.out 3
                      have hfz17_4 := blk_frozen BK112.out 4
                      have hfz17_5 := blk_frozen BK112.out 5
                      have hfz17_6 := blk_frozen BK112.out 6
                      have hfz17_7 := blk_frozen BK112.out 7
                      go_wp2
                      repeat (go_quiet (fail); try go_wp2)
                      go_loopg [2, 73] k2 (fun kq v2 v73 w' => ∃ (x2_3 : Int) (x73_3 : Int), v2 = .int .i64 x2_3 ∧ v73 = .int .i64 x73_3 ∧ Aside0 (courierref05_small.l2 kq l0 a1 x2_3 (l0.length : Int) x16_1 (((rd_T54 l0 x16_1).f4).length : Int) x73_3 ((rd_T54 l0 x16_1).f0) ((rd_T54 l0 x16_1).f1) ((rd_T54 l0 x16_1).f2.f0) ((rd_T54 l0 x16_1).f2.f1) ((rd_T54 l0 x16_1).f3) ((rd_T54 l0 x16_1).f4) ((rd_T54 l0 x16_1).f5) ((rd_T54 l0 x16_1).f6) = some r) ∧ Aside0 (kq ≤ k2) ∧ Aside0 (w'.heap[gb112]? = some (.cells #[.int .i64 ((rd_T54 l0 x16_1).f0), .string ((rd_T54 l0 x16_1).f1), .int .i64 ((rd_T54 l0 x16_1).f2.f0), .int .i64 ((rd_T54 l0 x16_1).f2.f1), (.slice A111_4 ((rd_T54 l0 x16_1).f3).length c111_4), (.slice A111_5 ((rd_T54 l0 x16_1).f4).length c111_5), (.slice A111_6 ((rd_T54 l0 x16_1).f5).length c111_6), (.slice A111_7 ((rd_T54 l0 x16_1).f6).length c111_7)] 54 (0, 0))) ∧ Aside0 (Below w.heap.size w w'))
                      case atStart => exact ⟨(x2_2), (0), (by first | rfl | (simp; done) | (simp [*]; done)), (by first | rfl | (simp; done) | (simp [*]; done)), H', ⟨Nat.le_refl _⟩, ⟨by (with_reducible repeat (first | refine blk_drewN ?_ _ | refine blk_drew ?_ | refine blk_alloc ?_ _)); exact BK112.out⟩, ⟨by repeat (first | (with_reducible first | exact HB.out | apply below_alloc | apply pw_below_drewN | apply below_drew1 | refine below_set ?_ GE112.out) | exact HB.out)⟩⟩
                      case round =>
                        clear H'
                        try clear c1
                        try clear p1
                        try clear q1
                        try clear hx1
                        try clear p2
                        try clear c4
                        try clear c4b0
                        try clear c5
                        try clear c5b0
                        try clear c6
                        try clear c6b0
                        try clear p6
                        try clear c7
                        try clear c7b0
                        try clear c8
                        try clear c8b0
                        try clear c11
                        try clear p11
                        try clear q11
                        try clear hx11
                        try clear c13
                        try clear c13b0
                        try clear c14
                        try clear c14b0
                        try clear c15
                        try clear c15b0
                        try clear hcz10_0
                        try clear hcz10_1
                        try clear hcz10_2
                        try clear hcz10_3
                        try clear hcz10_4
                        try clear hcz10_5
                        try clear hcz10_6
                        try clear hcz10_7
                        try clear hcz12_0
                        try clear hcz12_1
                        try clear hcz12_2
                        try clear hcz12_3
                        try clear hcz12_4
                        try clear hcz12_5
                        try clear hcz12_6
                        try clear hcz12_7
                        try clear hcz16_0
                        try clear hcz16_1
                        try clear hcz16_2
                        try clear hcz16_3
                        try clear hcz16_4
                        try clear hcz16_5
                        try clear hcz16_6
                        try clear hcz16_7
                        try clear hcz17_0
                        try clear hcz17_1
                        try clear hcz17_2
                        try clear hcz17_3
                        try clear hcz17_4
                        try clear hcz17_5
                        try clear hcz17_6
                        try clear hcz17_7
                        try clear hfz10_0
                        try clear hfz10_1
                        try clear hfz10_2
                        try clear hfz10_3
                        try clear hfz10_4
                        try clear hfz10_5
                        try clear hfz10_6
                        try clear hfz10_7
                        try clear hfz12_0
                        try clear hfz12_1
                        try clear hfz12_2
                        try clear hfz12_3
                        try clear hfz12_4
                        try clear hfz12_5
                        try clear hfz12_6
                        try clear hfz12_7
                        try clear hfz16_0
                        try clear hfz16_1
                        try clear hfz16_2
                        try clear hfz16_3
                        try clear hfz16_4
                        try clear hfz16_5
                        try clear hfz16_6
                        try clear hfz16_7
                        try clear hfz17_0
                        try clear hfz17_1
                        try clear hfz17_2
                        try clear hfz17_3
                        try clear hfz17_4
                        try clear hfz17_5
                        try clear hfz17_6
                        try clear hfz17_7
                        try clear hx111_0
                        try clear hx111_1
                        try clear hx111_2
                        try clear hx111_3
                        try clear hx111_4
                        try clear hx111_5
                        try clear hx111_6
                        try clear hx111_7
                        try clear hx113_0
                        try clear hx113_1
                        try clear hx113_2
                        try clear hx113_3
                        try clear hx113_4
                        try clear hx113_5
                        try clear hx114_0
                        try clear hx114_1
                        try clear hx114_2
                        try clear hx114_3
                        try clear hx114_4
                        try clear hx114_5
                        try clear p1
                        try clear p11
                        try clear p111
                        try clear p113
                        try clear p114
                        try clear p2
                        try clear p6
                        try clear q1
                        try clear q11
                        try clear q111
                        try clear q113
                        try clear q114
                        obtain ⟨x2_3, x73_3, rfl, rfl, HA, HK3, BK112, HB⟩ := hrel
                        cases gk with
                        | zero => exact absurd HA.out (by simp [courierref05_small.l2])
                        | succ k3 =>
                          have H := HA.out
                          clear HA
                          simp only [courierref05_small.l2] at H
                          by_cases c18 : x73_3 < (((rd_T54 l0 x16_1).f4).length : Int)
                          · rw [if_pos c18] at H
                            have c18b0 : decide (x73_3 < (((rd_T54 l0 x16_1).f4).length : Int)) = true := decide_eq_true c18
                            clear c18
                            by_cases c19 : 0 ≤ x73_3
                            · rw [if_pos c19] at H
                              have c19b0 : decide (0 ≤ x73_3) = true := decide_eq_true c19
                              clear c19
                              by_cases c20 : x73_3 < (((rd_T54 l0 x16_1).f4).length : Int)
                              · rw [if_pos c20] at H
                                have c20b0 : decide (x73_3 < (((rd_T54 l0 x16_1).f4).length : Int)) = true := decide_eq_true c20
                                clear c20
                                have H' := Aside0.mk H
                                clear H
                                have hcz21_0 : wr.cell? ⟨gb112, 0, none⟩ = some (.int .i64 ((rd_T54 l0 x16_1).f0)) := (blk_cell BK112.out 0).trans rfl
                                have hcz21_1 : wr.cell? ⟨gb112, 1, none⟩ = some (.string ((rd_T54 l0 x16_1).f1)) := (blk_cell BK112.out 1).trans rfl
                                have hcz21_2 : wr.cell? ⟨gb112, 2, none⟩ = some (.int .i64 ((rd_T54 l0 x16_1).f2.f0)) := (blk_cell BK112.out 2).trans rfl
                                have hcz21_3 : wr.cell? ⟨gb112, 3, none⟩ = some (.int .i64 ((rd_T54 l0 x16_1).f2.f1)) := (blk_cell BK112.out 3).trans rfl
                                have hcz21_4 : wr.cell? ⟨gb112, 4, none⟩ = some (.slice A111_4 ((rd_T54 l0 x16_1).f3).length c111_4) := (blk_cell BK112.out 4).trans rfl
                                have hcz21_5 : wr.cell? ⟨gb112, 5, none⟩ = some (.slice A111_5 ((rd_T54 l0 x16_1).f4).length c111_5) := (blk_cell BK112.out 5).trans rfl
                                have hcz21_6 : wr.cell? ⟨gb112, 6, none⟩ = some (.slice A111_6 ((rd_T54 l0 x16_1).f5).length c111_6) := (blk_cell BK112.out 6).trans rfl
                                have hcz21_7 : wr.cell? ⟨gb112, 7, none⟩ = some (.slice A111_7 ((rd_T54 l0 x16_1).f6).length c111_7) := (blk_cell BK112.out 7).trans rfl
                                have hfz21_0 := blk_frozen BK112.out 0
                                have hfz21_1 := blk_frozen BK112.out 1
                                have hfz21_2 := blk_frozen BK112.out 2
                                have hfz21_3 := blk_frozen BK112.out 3
                                have hfz21_4 := blk_frozen BK112.out 4
                                have hfz21_5 := blk_frozen BK112.out 5
                                have hfz21_6 := blk_frozen BK112.out 6
                                have hfz21_7 := blk_frozen BK112.out 7
                                have p115 : 0 ≤ (x73_3 : Int) := of_decide_eq_true (by first | (with_reducible assumption) | assumption)
                                have q115 : x73_3 < (((rd_T54 l0 x16_1).f4).length : Int) := of_decide_eq_true (by first | (with_reducible assumption) | assumption)
                                obtain ⟨ad115, e115, hx115_0, hx115_1, hx115_2, hx115_3⟩ := at_T60 HR111_5.out x73_3 p115 q115
                                cases e115
                                replace hx115_0 := (HB.out.cell (World.block_lt_of_cell? w _ hx115_0)).trans hx115_0
                                replace hx115_1 := (HB.out.cell (World.block_lt_of_cell? w _ hx115_1)).trans hx115_1
                                replace hx115_2 := (HB.out.cell (World.block_lt_of_cell? w _ hx115_2)).trans hx115_2
                                replace hx115_3 := (HB.out.cell (World.block_lt_of_cell? w _ hx115_3)).trans hx115_3
                                replace p115 := eq_true p115
                                replace q115 := eq_true q115
                                go_wp2
                                repeat (go_quiet (fail); try go_wp2)
                                go_roundg k3
                                case measure => have := HK1.out; have := HK2.out; have := HK3.out; omega
                                case rel => exact ⟨(wrap64 (x2_3 - (wrap64 ((((rd_T60 ((rd_T54 l0 x16_1).f4) x73_3).f0).size : Int) / 100)))), (wrap64 (x73_3 + 1)), (by first | rfl | (simp; done) | (simp [*]; done)), (by first | rfl | (simp; done) | (simp [*]; done)), H', ⟨by have := HK1.out; have := HK2.out; have := HK3.out; omega⟩, ⟨by (with_reducible repeat (first | refine blk_drewN ?_ _ | refine blk_drew ?_ | refine blk_alloc ?_ _)); exact BK112.out⟩, ⟨by repeat (first | (with_reducible first | exact HB.out | apply below_alloc | apply pw_below_drewN | apply below_drew1 | refine below_set ?_ GE112.out) | exact HB.out)⟩⟩
                              · rw [if_neg c20] at H
                                exact absurd H (by simp)
                            · rw [if_neg c19] at H
                              exact absurd H (by simp)
                          · rw [if_neg c18] at H
                            have c18b0 : decide (x73_3 < (((rd_T54 l0 x16_1).f4).length : Int)) = false := decide_eq_false c18
                            clear c18
                            have H' := Aside0.mk H
                            clear H
                            have hcz22_0 : wr.cell? ⟨gb112, 0, none⟩ = some (.int .i64 ((rd_T54 l0 x16_1).f0)) := (blk_cell BK112.out 0).trans rfl
                            have hcz22_1 : wr.cell? ⟨gb112, 1, none⟩ = some (.string ((rd_T54 l0 x16_1).f1)) := (blk_cell BK112.out 1).trans rfl
                            have hcz22_2 : wr.cell? ⟨gb112, 2, none⟩ = some (.int .i64 ((rd_T54 l0 x16_1).f2.f0)) := (blk_cell BK112.out 2).trans rfl
                            have hcz22_3 : wr.cell? ⟨gb112, 3, none⟩ = some (.int .i64 ((rd_T54 l0 x16_1).f2.f1)) := (blk_cell BK112.out 3).trans rfl
                            have hcz22_4 : wr.cell? ⟨gb112, 4, none⟩ = some (.slice A111_4 ((rd_T54 l0 x16_1).f3).length c111_4) := (blk_cell BK112.out 4).trans rfl
                            have hcz22_5 : wr.cell? ⟨gb112, 5, none⟩ = some (.slice A111_5 ((rd_T54 l0 x16_1).f4).length c111_5) := (blk_cell BK112.out 5).trans rfl
                            have hcz22_6 : wr.cell? ⟨gb112, 6, none⟩ = some (.slice A111_6 ((rd_T54 l0 x16_1).f5).length c111_6) := (blk_cell BK112.out 6).trans rfl
                            have hcz22_7 : wr.cell? ⟨gb112, 7, none⟩ = some (.slice A111_7 ((rd_T54 l0 x16_1).f6).length c111_7) := (blk_cell BK112.out 7).trans rfl
                            have hfz22_0 := blk_frozen BK112.out 0
                            have hfz22_1 := blk_frozen BK112.out 1
                            have hfz22_2 := blk_frozen BK112.out 2
                            have hfz22_3 := blk_frozen BK112.out 3
                            have hfz22_4 := blk_frozen BK112.out 4
                            have hfz22_5 := blk_frozen BK112.out 5
                            have hfz22_6 := blk_frozen BK112.out 6
                            have hfz22_7 := blk_frozen BK112.out 7
                            go_wp2
                            repeat (go_quiet (fail); try go_wp2)
                            go_loopg [2, 90] k3 (fun kq v2 v90 w' => ∃ (x2_4 : Int) (x90_4 : Int), v2 = .int .i64 x2_4 ∧ v90 = .int .i64 x90_4 ∧ Aside0 (courierref05_small.l3 kq l0 a1 x2_4 (l0.length : Int) x16_1 (((rd_T54 l0 x16_1).f5).length : Int) x90_4 ((rd_T54 l0 x16_1).f0) ((rd_T54 l0 x16_1).f1) ((rd_T54 l0 x16_1).f2.f0) ((rd_T54 l0 x16_1).f2.f1) ((rd_T54 l0 x16_1).f3) ((rd_T54 l0 x16_1).f4) ((rd_T54 l0 x16_1).f5) ((rd_T54 l0 x16_1).f6) = some r) ∧ Aside0 (kq ≤ k3) ∧ Aside0 (w'.heap[gb112]? = some (.cells #[.int .i64 ((rd_T54 l0 x16_1).f0), .string ((rd_T54 l0 x16_1).f1), .int .i64 ((rd_T54 l0 x16_1).f2.f0), .int .i64 ((rd_T54 l0 x16_1).f2.f1), (.slice A111_4 ((rd_T54 l0 x16_1).f3).length c111_4), (.slice A111_5 ((rd_T54 l0 x16_1).f4).length c111_5), (.slice A111_6 ((rd_T54 l0 x16_1).f5).length c111_6), (.slice A111_7 ((rd_T54 l0 x16_1).f6).length c111_7)] 54 (0, 0))) ∧ Aside0 (Below w.heap.size w w'))
                            case atStart => exact ⟨(x2_3), (0), (by first | rfl | (simp; done) | (simp [*]; done)), (by first | rfl | (simp; done) | (simp [*]; done)), H', ⟨Nat.le_refl _⟩, ⟨by (with_reducible repeat (first | refine blk_drewN ?_ _ | refine blk_drew ?_ | refine blk_alloc ?_ _)); exact BK112.out⟩, ⟨by repeat (first | (with_reducible first | exact HB.out | apply below_alloc | apply pw_below_drewN | apply below_drew1 | refine below_set ?_ GE112.out) | exact HB.out)⟩⟩
                            case round =>
                              clear H'
                              try clear c1
                              try clear p1
                              try clear q1
                              try clear hx1
                              try clear c2
                              try clear p2
                              try clear c4
                              try clear c4b0
                              try clear c5
                              try clear c5b0
                              try clear c6
                              try clear c6b0
                              try clear p6
                              try clear c7
                              try clear c7b0
                              try clear c8
                              try clear c8b0
                              try clear c11
                              try clear p11
                              try clear q11
                              try clear hx11
                              try clear c13
                              try clear c13b0
                              try clear c14
                              try clear c14b0
                              try clear c15
                              try clear c15b0
                              try clear c18
                              try clear c18b0
                              try clear c19
                              try clear c19b0
                              try clear c20
                              try clear c20b0
                              try clear hcz10_0
                              try clear hcz10_1
                              try clear hcz10_2
                              try clear hcz10_3
                              try clear hcz10_4
                              try clear hcz10_5
                              try clear hcz10_6
                              try clear hcz10_7
                              try clear hcz12_0
                              try clear hcz12_1
                              try clear hcz12_2
                              try clear hcz12_3
                              try clear hcz12_4
                              try clear hcz12_5
                              try clear hcz12_6
                              try clear hcz12_7
                              try clear hcz16_0
                              try clear hcz16_1
                              try clear hcz16_2
                              try clear hcz16_3
                              try clear hcz16_4
                              try clear hcz16_5
                              try clear hcz16_6
                              try clear hcz16_7
                              try clear hcz17_0
                              try clear hcz17_1
                              try clear hcz17_2
                              try clear hcz17_3
                              try clear hcz17_4
                              try clear hcz17_5
                              try clear hcz17_6
                              try clear hcz17_7
                              try clear hcz21_0
                              try clear hcz21_1
                              try clear hcz21_2
                              try clear hcz21_3
                              try clear hcz21_4
                              try clear hcz21_5
                              try clear hcz21_6
                              try clear hcz21_7
                              try clear hcz22_0
                              try clear hcz22_1
                              try clear hcz22_2
                              try clear hcz22_3
                              try clear hcz22_4
                              try clear hcz22_5
                              try clear hcz22_6
                              try clear hcz22_7
                              try clear hfz10_0
                              try clear hfz10_1
                              try clear hfz10_2
                              try clear hfz10_3
                              try clear hfz10_4
                              try clear hfz10_5
                              try clear hfz10_6
                              try clear hfz10_7
                              try clear hfz12_0
                              try clear hfz12_1
                              try clear hfz12_2
                              try clear hfz12_3
                              try clear hfz12_4
                              try clear hfz12_5
                              try clear hfz12_6
                              try clear hfz12_7
                              try clear hfz16_0
                              try clear hfz16_1
                              try clear hfz16_2
                              try clear hfz16_3
                              try clear hfz16_4
                              try clear hfz16_5
                              try clear hfz16_6
                              try clear hfz16_7
                              try clear hfz17_0
                              try clear hfz17_1
                              try clear hfz17_2
                              try clear hfz17_3
                              try clear hfz17_4
                              try clear hfz17_5
                              try clear hfz17_6
                              try clear hfz17_7
                              try clear hfz21_0
                              try clear hfz21_1
                              try clear hfz21_2
                              try clear hfz21_3
                              try clear hfz21_4
                              try clear hfz21_5
                              try clear hfz21_6
                              try clear hfz21_7
                              try clear hfz22_0
                              try clear hfz22_1
                              try clear hfz22_2
                              try clear hfz22_3
                              try clear hfz22_4
                              try clear hfz22_5
                              try clear hfz22_6
                              try clear hfz22_7
                              try clear hx111_0
                              try clear hx111_1
                              try clear hx111_2
                              try clear hx111_3
                              try clear hx111_4
                              try clear hx111_5
                              try clear hx111_6
                              try clear hx111_7
                              try clear hx113_0
                              try clear hx113_1
                              try clear hx113_2
                              try clear hx113_3
                              try clear hx113_4
                              try clear hx113_5
                              try clear hx114_0
                              try clear hx114_1
                              try clear hx114_2
                              try clear hx114_3
                              try clear hx114_4
                              try clear hx114_5
                              try clear hx115_0
                              try clear hx115_1
                              try clear hx115_2
                              try clear hx115_3
                              try clear p1
                              try clear p11
                              try clear p111
                              try clear p113
                              try clear p114
                              try clear p115
                              try clear p2
                              try clear p6
                              try clear q1
                              try clear q11
                              try clear q111
                              try clear q113
                              try clear q114
                              try clear q115
                              obtain ⟨x2_4, x90_4, rfl, rfl, HA, HK4, BK112, HB⟩ := hrel
                              cases gk with
                              | zero => exact absurd HA.out (by simp [courierref05_small.l3])
                              | succ k4 =>
                                have H := HA.out
                                clear HA
                                simp only [courierref05_small.l3] at H
                                by_cases c23 : x90_4 < (((rd_T54 l0 x16_1).f5).length : Int)
                                · rw [if_pos c23] at H
                                  have c23b0 : decide (x90_4 < (((rd_T54 l0 x16_1).f5).length : Int)) = true := decide_eq_true c23
                                  clear c23
                                  by_cases c24 : 0 ≤ x90_4
                                  · rw [if_pos c24] at H
                                    have c24b0 : decide (0 ≤ x90_4) = true := decide_eq_true c24
                                    clear c24
                                    by_cases c25 : x90_4 < (((rd_T54 l0 x16_1).f5).length : Int)
                                    · rw [if_pos c25] at H
                                      have c25b0 : decide (x90_4 < (((rd_T54 l0 x16_1).f5).length : Int)) = true := decide_eq_true c25
                                      clear c25
                                      have H' := Aside0.mk H
                                      clear H
                                      have hcz26_0 : wr.cell? ⟨gb112, 0, none⟩ = some (.int .i64 ((rd_T54 l0 x16_1).f0)) := (blk_cell BK112.out 0).trans rfl
                                      have hcz26_1 : wr.cell? ⟨gb112, 1, none⟩ = some (.string ((rd_T54 l0 x16_1).f1)) := (blk_cell BK112.out 1).trans rfl
                                      have hcz26_2 : wr.cell? ⟨gb112, 2, none⟩ = some (.int .i64 ((rd_T54 l0 x16_1).f2.f0)) := (blk_cell BK112.out 2).trans rfl
                                      have hcz26_3 : wr.cell? ⟨gb112, 3, none⟩ = some (.int .i64 ((rd_T54 l0 x16_1).f2.f1)) := (blk_cell BK112.out 3).trans rfl
                                      have hcz26_4 : wr.cell? ⟨gb112, 4, none⟩ = some (.slice A111_4 ((rd_T54 l0 x16_1).f3).length c111_4) := (blk_cell BK112.out 4).trans rfl
                                      have hcz26_5 : wr.cell? ⟨gb112, 5, none⟩ = some (.slice A111_5 ((rd_T54 l0 x16_1).f4).length c111_5) := (blk_cell BK112.out 5).trans rfl
                                      have hcz26_6 : wr.cell? ⟨gb112, 6, none⟩ = some (.slice A111_6 ((rd_T54 l0 x16_1).f5).length c111_6) := (blk_cell BK112.out 6).trans rfl
                                      have hcz26_7 : wr.cell? ⟨gb112, 7, none⟩ = some (.slice A111_7 ((rd_T54 l0 x16_1).f6).length c111_7) := (blk_cell BK112.out 7).trans rfl
                                      have hfz26_0 := blk_frozen BK112.out 0
                                      have hfz26_1 := blk_frozen BK112.out 1
                                      have hfz26_2 := blk_frozen BK112.out 2
                                      have hfz26_3 := blk_frozen BK112.out 3
                                      have hfz26_4 := blk_frozen BK112.out 4
                                      have hfz26_5 := blk_frozen BK112.out 5
                                      have hfz26_6 := blk_frozen BK112.out 6
                                      have hfz26_7 := blk_frozen BK112.out 7
                                      have p116 : 0 ≤ (x90_4 : Int) := of_decide_eq_true (by first | (with_reducible assumption) | assumption)
                                      have q116 : x90_4 < (((rd_T54 l0 x16_1).f5).length : Int) := of_decide_eq_true (by first | (with_reducible assumption) | assumption)
                                      obtain ⟨ad116, e116, hx116_0, hx116_1, hx116_2, hx116_3, hx116_4⟩ := at_T63 HR111_6.out x90_4 p116 q116
                                      cases e116
                                      replace hx116_0 := (HB.out.cell (World.block_lt_of_cell? w _ hx116_0)).trans hx116_0
                                      replace hx116_1 := (HB.out.cell (World.block_lt_of_cell? w _ hx116_1)).trans hx116_1
                                      replace hx116_2 := (HB.out.cell (World.block_lt_of_cell? w _ hx116_2)).trans hx116_2
                                      replace hx116_3 := (HB.out.cell (World.block_lt_of_cell? w _ hx116_3)).trans hx116_3
                                      replace hx116_4 := (HB.out.cell (World.block_lt_of_cell? w _ hx116_4)).trans hx116_4
                                      replace p116 := eq_true p116
                                      replace q116 := eq_true q116
                                      have p117 : 0 ≤ (x90_4 : Int) := of_decide_eq_true (by first | (with_reducible assumption) | assumption)
                                      have q117 : x90_4 < (((rd_T54 l0 x16_1).f5).length : Int) := of_decide_eq_true (by first | (with_reducible assumption) | assumption)
                                      obtain ⟨ad117, e117, hx117_0, hx117_1, hx117_2, hx117_3, hx117_4⟩ := at_T63 HR111_6.out x90_4 p117 q117
                                      obtain rfl : ad116 = ad117 := (by injection e117)
                                      replace hx117_0 := (HB.out.cell (World.block_lt_of_cell? w _ hx117_0)).trans hx117_0
                                      replace hx117_1 := (HB.out.cell (World.block_lt_of_cell? w _ hx117_1)).trans hx117_1
                                      replace hx117_2 := (HB.out.cell (World.block_lt_of_cell? w _ hx117_2)).trans hx117_2
                                      replace hx117_3 := (HB.out.cell (World.block_lt_of_cell? w _ hx117_3)).trans hx117_3
                                      replace hx117_4 := (HB.out.cell (World.block_lt_of_cell? w _ hx117_4)).trans hx117_4
                                      replace p117 := eq_true p117
                                      replace q117 := eq_true q117
                                      have p118 : 0 ≤ (x90_4 : Int) := of_decide_eq_true (by first | (with_reducible assumption) | assumption)
                                      have q118 : x90_4 < (((rd_T54 l0 x16_1).f5).length : Int) := of_decide_eq_true (by first | (with_reducible assumption) | assumption)
                                      obtain ⟨ad118, e118, hx118_0, hx118_1, hx118_2, hx118_3, hx118_4⟩ := at_T63 HR111_6.out x90_4 p118 q118
                                      obtain rfl : ad116 = ad118 := (by injection e118)
                                      replace hx118_0 := (HB.out.cell (World.block_lt_of_cell? w _ hx118_0)).trans hx118_0
                                      replace hx118_1 := (HB.out.cell (World.block_lt_of_cell? w _ hx118_1)).trans hx118_1
                                      replace hx118_2 := (HB.out.cell (World.block_lt_of_cell? w _ hx118_2)).trans hx118_2
                                      replace hx118_3 := (HB.out.cell (World.block_lt_of_cell? w _ hx118_3)).trans hx118_3
                                      replace hx118_4 := (HB.out.cell (World.block_lt_of_cell? w _ hx118_4)).trans hx118_4
                                      replace p118 := eq_true p118
                                      replace q118 := eq_true q118
                                      go_wp2
                                      repeat (go_quiet (fail); try go_wp2)
                                      go_roundg k4
                                      case measure => have := HK1.out; have := HK2.out; have := HK3.out; have := HK4.out; omega
                                      case rel => exact ⟨(wrap64 ((wrap64 ((wrap64 (x2_4 - (wrap64 ((((rd_T63 ((rd_T54 l0 x16_1).f5) x90_4).f0).size : Int) / 100)))) - (wrap64 ((((rd_T63 ((rd_T54 l0 x16_1).f5) x90_4).f1).size : Int) / 100)))) - (wrap64 ((((rd_T63 ((rd_T54 l0 x16_1).f5) x90_4).f2).size : Int) / 100)))), (wrap64 (x90_4 + 1)), (by first | rfl | (simp; done) | (simp [*]; done)), (by first | rfl | (simp; done) | (simp [*]; done)), H', ⟨by have := HK1.out; have := HK2.out; have := HK3.out; have := HK4.out; omega⟩, ⟨by (with_reducible repeat (first | refine blk_drewN ?_ _ | refine blk_drew ?_ | refine blk_alloc ?_ _)); exact BK112.out⟩, ⟨by repeat (first | (with_reducible first | exact HB.out | apply below_alloc | apply pw_below_drewN | apply below_drew1 | refine below_set ?_ GE112.out) | exact HB.out)⟩⟩
                                    · rw [if_neg c25] at H
                                      exact absurd H (by simp)
                                  · rw [if_neg c24] at H
                                    exact absurd H (by simp)
                                · rw [if_neg c23] at H
                                  have c23b0 : decide (x90_4 < (((rd_T54 l0 x16_1).f5).length : Int)) = false := decide_eq_false c23
                                  clear c23
                                  replace H := Option.bind_eq_some_iff.mp H
                                  obtain ⟨t119, A270, H⟩ := H
                                  replace H : (if t119 < 0 then (some (-1)) else (courierref05_small.l0 k4 l0 a1 t119 (l0.length : Int) (wrap64 (x16_1 + 1)))) = some r := H
                                  have A27 := Aside0.mk A270
                                  clear A270
                                  by_cases c28 : t119 < 0
                                  · rw [if_pos c28] at H
                                    have c28b0 : decide (t119 < 0) = true := decide_eq_true c28
                                    clear c28
                                    obtain rfl := Option.some.inj H
                                    have hcz29_0 : wr.cell? ⟨gb112, 0, none⟩ = some (.int .i64 ((rd_T54 l0 x16_1).f0)) := (blk_cell BK112.out 0).trans rfl
                                    have hcz29_1 : wr.cell? ⟨gb112, 1, none⟩ = some (.string ((rd_T54 l0 x16_1).f1)) := (blk_cell BK112.out 1).trans rfl
                                    have hcz29_2 : wr.cell? ⟨gb112, 2, none⟩ = some (.int .i64 ((rd_T54 l0 x16_1).f2.f0)) := (blk_cell BK112.out 2).trans rfl
                                    have hcz29_3 : wr.cell? ⟨gb112, 3, none⟩ = some (.int .i64 ((rd_T54 l0 x16_1).f2.f1)) := (blk_cell BK112.out 3).trans rfl
                                    have hcz29_4 : wr.cell? ⟨gb112, 4, none⟩ = some (.slice A111_4 ((rd_T54 l0 x16_1).f3).length c111_4) := (blk_cell BK112.out 4).trans rfl
                                    have hcz29_5 : wr.cell? ⟨gb112, 5, none⟩ = some (.slice A111_5 ((rd_T54 l0 x16_1).f4).length c111_5) := (blk_cell BK112.out 5).trans rfl
                                    have hcz29_6 : wr.cell? ⟨gb112, 6, none⟩ = some (.slice A111_6 ((rd_T54 l0 x16_1).f5).length c111_6) := (blk_cell BK112.out 6).trans rfl
                                    have hcz29_7 : wr.cell? ⟨gb112, 7, none⟩ = some (.slice A111_7 ((rd_T54 l0 x16_1).f6).length c111_7) := (blk_cell BK112.out 7).trans rfl
                                    have hfz29_0 := blk_frozen BK112.out 0
                                    have hfz29_1 := blk_frozen BK112.out 1
                                    have hfz29_2 := blk_frozen BK112.out 2
                                    have hfz29_3 := blk_frozen BK112.out 3
                                    have hfz29_4 := blk_frozen BK112.out 4
                                    have hfz29_5 := blk_frozen BK112.out 5
                                    have hfz29_6 := blk_frozen BK112.out 6
                                    have hfz29_7 := blk_frozen BK112.out 7
                                    go_wp2_with (first | (go_at_call 13; (with_reducible refine (ih k4 (by have := HK1.out; have := HK2.out; have := HK3.out; have := HK4.out; omega) _ _ ((rd_T54 l0 x16_1).f6) (wrap64 (a1 + 1)) x2_4 t119 _ ?side1 ?side2 A27.out).mono ?_); (case side1 => repeat (first | exact (Kd.C_below HR111_7.out HB.out) | (with_reducible refine Kd.C_alloc ?_ _) | (with_reducible refine Kd.C_drewN ?_ _) | (with_reducible refine Kd.C_drew ?_))); (case side2 => exact HC111_7.out); rintro e w30 ⟨rfl, hb⟩; have n0_ := Aside0.mk (blk_below (g := gb112) (o := .cells #[.int .i64 ((rd_T54 l0 x16_1).f0), .string ((rd_T54 l0 x16_1).f1), .int .i64 ((rd_T54 l0 x16_1).f2.f0), .int .i64 ((rd_T54 l0 x16_1).f2.f1), .slice A111_4 ((rd_T54 l0 x16_1).f3).length c111_4, .slice A111_5 ((rd_T54 l0 x16_1).f4).length c111_5, .slice A111_6 ((rd_T54 l0 x16_1).f5).length c111_6, .slice A111_7 ((rd_T54 l0 x16_1).f6).length c111_7] 54 (0, 0)) (by (with_reducible repeat (first | refine blk_drewN ?_ _ | refine blk_drew ?_ | refine blk_alloc ?_ _)); exact BK112.out) hb); have n1_ := Aside0.mk (below_step (by repeat (first | (with_reducible first | exact HB.out | apply below_alloc | apply pw_below_drewN | apply below_drew1 | refine below_set ?_ GE112.out) | exact HB.out)) hb); clear BK112; clear HB; have BK112 := n0_; have HB := n1_; clear n0_ n1_; (try clear hb); (try clear hb2); (try clear hk); (try clear hi)))
                                    repeat (go_quiet (first | (go_at_call 13; (with_reducible refine (ih k4 (by have := HK1.out; have := HK2.out; have := HK3.out; have := HK4.out; omega) _ _ ((rd_T54 l0 x16_1).f6) (wrap64 (a1 + 1)) x2_4 t119 _ ?side1 ?side2 A27.out).mono ?_); (case side1 => repeat (first | exact (Kd.C_below HR111_7.out HB.out) | (with_reducible refine Kd.C_alloc ?_ _) | (with_reducible refine Kd.C_drewN ?_ _) | (with_reducible refine Kd.C_drew ?_))); (case side2 => exact HC111_7.out); rintro e w30 ⟨rfl, hb⟩; have n0_ := Aside0.mk (blk_below (g := gb112) (o := .cells #[.int .i64 ((rd_T54 l0 x16_1).f0), .string ((rd_T54 l0 x16_1).f1), .int .i64 ((rd_T54 l0 x16_1).f2.f0), .int .i64 ((rd_T54 l0 x16_1).f2.f1), .slice A111_4 ((rd_T54 l0 x16_1).f3).length c111_4, .slice A111_5 ((rd_T54 l0 x16_1).f4).length c111_5, .slice A111_6 ((rd_T54 l0 x16_1).f5).length c111_6, .slice A111_7 ((rd_T54 l0 x16_1).f6).length c111_7] 54 (0, 0)) (by (with_reducible repeat (first | refine blk_drewN ?_ _ | refine blk_drew ?_ | refine blk_alloc ?_ _)); exact BK112.out) hb); have n1_ := Aside0.mk (below_step (by repeat (first | (with_reducible first | exact HB.out | apply below_alloc | apply pw_below_drewN | apply below_drew1 | refine below_set ?_ GE112.out) | exact HB.out)) hb); clear BK112; clear HB; have BK112 := n0_; have HB := n1_; clear n0_ n1_; (try clear hb); (try clear hb2); (try clear hk); (try clear hi))); try go_wp2_with (first | (go_at_call 13; (with_reducible refine (ih k4 (by have := HK1.out; have := HK2.out; have := HK3.out; have := HK4.out; omega) _ _ ((rd_T54 l0 x16_1).f6) (wrap64 (a1 + 1)) x2_4 t119 _ ?side1 ?side2 A27.out).mono ?_); (case side1 => repeat (first | exact (Kd.C_below HR111_7.out HB.out) | (with_reducible refine Kd.C_alloc ?_ _) | (with_reducible refine Kd.C_drewN ?_ _) | (with_reducible refine Kd.C_drew ?_))); (case side2 => exact HC111_7.out); rintro e w30 ⟨rfl, hb⟩; have n0_ := Aside0.mk (blk_below (g := gb112) (o := .cells #[.int .i64 ((rd_T54 l0 x16_1).f0), .string ((rd_T54 l0 x16_1).f1), .int .i64 ((rd_T54 l0 x16_1).f2.f0), .int .i64 ((rd_T54 l0 x16_1).f2.f1), .slice A111_4 ((rd_T54 l0 x16_1).f3).length c111_4, .slice A111_5 ((rd_T54 l0 x16_1).f4).length c111_5, .slice A111_6 ((rd_T54 l0 x16_1).f5).length c111_6, .slice A111_7 ((rd_T54 l0 x16_1).f6).length c111_7] 54 (0, 0)) (by (with_reducible repeat (first | refine blk_drewN ?_ _ | refine blk_drew ?_ | refine blk_alloc ?_ _)); exact BK112.out) hb); have n1_ := Aside0.mk (below_step (by repeat (first | (with_reducible first | exact HB.out | apply below_alloc | apply pw_below_drewN | apply below_drew1 | refine below_set ?_ GE112.out) | exact HB.out)) hb); clear BK112; clear HB; have BK112 := n0_; have HB := n1_; clear n0_ n1_; (try clear hb); (try clear hb2); (try clear hk); (try clear hi))))
                                    go_ret
                                    exact ⟨by first | rfl | (simp [errW_none, errW_some] <;> rfl) | (simp [*, errW_none, errW_some] <;> rfl), by repeat (first | (with_reducible first | exact HB.out | apply below_alloc | apply pw_below_drewN | apply below_drew1 | refine below_set ?_ GE112.out) | exact HB.out)⟩
                                  · rw [if_neg c28] at H
                                    have c28b0 : decide (t119 < 0) = false := decide_eq_false c28
                                    clear c28
                                    have H' := Aside0.mk H
                                    clear H
                                    have hcz31_0 : wr.cell? ⟨gb112, 0, none⟩ = some (.int .i64 ((rd_T54 l0 x16_1).f0)) := (blk_cell BK112.out 0).trans rfl
                                    have hcz31_1 : wr.cell? ⟨gb112, 1, none⟩ = some (.string ((rd_T54 l0 x16_1).f1)) := (blk_cell BK112.out 1).trans rfl
                                    have hcz31_2 : wr.cell? ⟨gb112, 2, none⟩ = some (.int .i64 ((rd_T54 l0 x16_1).f2.f0)) := (blk_cell BK112.out 2).trans rfl
                                    have hcz31_3 : wr.cell? ⟨gb112, 3, none⟩ = some (.int .i64 ((rd_T54 l0 x16_1).f2.f1)) := (blk_cell BK112.out 3).trans rfl
                                    have hcz31_4 : wr.cell? ⟨gb112, 4, none⟩ = some (.slice A111_4 ((rd_T54 l0 x16_1).f3).length c111_4) := (blk_cell BK112.out 4).trans rfl
                                    have hcz31_5 : wr.cell? ⟨gb112, 5, none⟩ = some (.slice A111_5 ((rd_T54 l0 x16_1).f4).length c111_5) := (blk_cell BK112.out 5).trans rfl
                                    have hcz31_6 : wr.cell? ⟨gb112, 6, none⟩ = some (.slice A111_6 ((rd_T54 l0 x16_1).f5).length c111_6) := (blk_cell BK112.out 6).trans rfl
                                    have hcz31_7 : wr.cell? ⟨gb112, 7, none⟩ = some (.slice A111_7 ((rd_T54 l0 x16_1).f6).length c111_7) := (blk_cell BK112.out 7).trans rfl
                                    have hfz31_0 := blk_frozen BK112.out 0
                                    have hfz31_1 := blk_frozen BK112.out 1
                                    have hfz31_2 := blk_frozen BK112.out 2
                                    have hfz31_3 := blk_frozen BK112.out 3
                                    have hfz31_4 := blk_frozen BK112.out 4
                                    have hfz31_5 := blk_frozen BK112.out 5
                                    have hfz31_6 := blk_frozen BK112.out 6
                                    have hfz31_7 := blk_frozen BK112.out 7
                                    go_wp2_with (first | (go_at_call 13; (with_reducible refine (ih k4 (by have := HK1.out; have := HK2.out; have := HK3.out; have := HK4.out; omega) _ _ ((rd_T54 l0 x16_1).f6) (wrap64 (a1 + 1)) x2_4 t119 _ ?side1 ?side2 A27.out).mono ?_); (case side1 => repeat (first | exact (Kd.C_below HR111_7.out HB.out) | (with_reducible refine Kd.C_alloc ?_ _) | (with_reducible refine Kd.C_drewN ?_ _) | (with_reducible refine Kd.C_drew ?_))); (case side2 => exact HC111_7.out); rintro e w32 ⟨rfl, hb⟩; have n0_ := Aside0.mk (blk_below (g := gb112) (o := .cells #[.int .i64 ((rd_T54 l0 x16_1).f0), .string ((rd_T54 l0 x16_1).f1), .int .i64 ((rd_T54 l0 x16_1).f2.f0), .int .i64 ((rd_T54 l0 x16_1).f2.f1), .slice A111_4 ((rd_T54 l0 x16_1).f3).length c111_4, .slice A111_5 ((rd_T54 l0 x16_1).f4).length c111_5, .slice A111_6 ((rd_T54 l0 x16_1).f5).length c111_6, .slice A111_7 ((rd_T54 l0 x16_1).f6).length c111_7] 54 (0, 0)) (by (with_reducible repeat (first | refine blk_drewN ?_ _ | refine blk_drew ?_ | refine blk_alloc ?_ _)); exact BK112.out) hb); have n1_ := Aside0.mk (below_step (by repeat (first | (with_reducible first | exact HB.out | apply below_alloc | apply pw_below_drewN | apply below_drew1 | refine below_set ?_ GE112.out) | exact HB.out)) hb); clear BK112; clear HB; have BK112 := n0_; have HB := n1_; clear n0_ n1_; (try clear hb); (try clear hb2); (try clear hk); (try clear hi)))
                                    repeat (go_quiet (first | (go_at_call 13; (with_reducible refine (ih k4 (by have := HK1.out; have := HK2.out; have := HK3.out; have := HK4.out; omega) _ _ ((rd_T54 l0 x16_1).f6) (wrap64 (a1 + 1)) x2_4 t119 _ ?side1 ?side2 A27.out).mono ?_); (case side1 => repeat (first | exact (Kd.C_below HR111_7.out HB.out) | (with_reducible refine Kd.C_alloc ?_ _) | (with_reducible refine Kd.C_drewN ?_ _) | (with_reducible refine Kd.C_drew ?_))); (case side2 => exact HC111_7.out); rintro e w32 ⟨rfl, hb⟩; have n0_ := Aside0.mk (blk_below (g := gb112) (o := .cells #[.int .i64 ((rd_T54 l0 x16_1).f0), .string ((rd_T54 l0 x16_1).f1), .int .i64 ((rd_T54 l0 x16_1).f2.f0), .int .i64 ((rd_T54 l0 x16_1).f2.f1), .slice A111_4 ((rd_T54 l0 x16_1).f3).length c111_4, .slice A111_5 ((rd_T54 l0 x16_1).f4).length c111_5, .slice A111_6 ((rd_T54 l0 x16_1).f5).length c111_6, .slice A111_7 ((rd_T54 l0 x16_1).f6).length c111_7] 54 (0, 0)) (by (with_reducible repeat (first | refine blk_drewN ?_ _ | refine blk_drew ?_ | refine blk_alloc ?_ _)); exact BK112.out) hb); have n1_ := Aside0.mk (below_step (by repeat (first | (with_reducible first | exact HB.out | apply below_alloc | apply pw_below_drewN | apply below_drew1 | refine below_set ?_ GE112.out) | exact HB.out)) hb); clear BK112; clear HB; have BK112 := n0_; have HB := n1_; clear n0_ n1_; (try clear hb); (try clear hb2); (try clear hk); (try clear hi))); try go_wp2_with (first | (go_at_call 13; (with_reducible refine (ih k4 (by have := HK1.out; have := HK2.out; have := HK3.out; have := HK4.out; omega) _ _ ((rd_T54 l0 x16_1).f6) (wrap64 (a1 + 1)) x2_4 t119 _ ?side1 ?side2 A27.out).mono ?_); (case side1 => repeat (first | exact (Kd.C_below HR111_7.out HB.out) | (with_reducible refine Kd.C_alloc ?_ _) | (with_reducible refine Kd.C_drewN ?_ _) | (with_reducible refine Kd.C_drew ?_))); (case side2 => exact HC111_7.out); rintro e w32 ⟨rfl, hb⟩; have n0_ := Aside0.mk (blk_below (g := gb112) (o := .cells #[.int .i64 ((rd_T54 l0 x16_1).f0), .string ((rd_T54 l0 x16_1).f1), .int .i64 ((rd_T54 l0 x16_1).f2.f0), .int .i64 ((rd_T54 l0 x16_1).f2.f1), .slice A111_4 ((rd_T54 l0 x16_1).f3).length c111_4, .slice A111_5 ((rd_T54 l0 x16_1).f4).length c111_5, .slice A111_6 ((rd_T54 l0 x16_1).f5).length c111_6, .slice A111_7 ((rd_T54 l0 x16_1).f6).length c111_7] 54 (0, 0)) (by (with_reducible repeat (first | refine blk_drewN ?_ _ | refine blk_drew ?_ | refine blk_alloc ?_ _)); exact BK112.out) hb); have n1_ := Aside0.mk (below_step (by repeat (first | (with_reducible first | exact HB.out | apply below_alloc | apply pw_below_drewN | apply below_drew1 | refine below_set ?_ GE112.out) | exact HB.out)) hb); clear BK112; clear HB; have BK112 := n0_; have HB := n1_; clear n0_ n1_; (try clear hb); (try clear hb2); (try clear hk); (try clear hi))))
                                    go_roundg k4
                                    case measure => have := HK1.out; have := HK2.out; have := HK3.out; have := HK4.out; omega
                                    case rel => exact ⟨(t119), (wrap64 (x16_1 + 1)), (by first | rfl | (simp; done) | (simp [*]; done)), (by first | rfl | (simp; done) | (simp [*]; done)), H', ⟨by have := HK1.out; have := HK2.out; have := HK3.out; have := HK4.out; omega⟩, ⟨by repeat (first | (with_reducible first | exact HB.out | apply below_alloc | apply pw_below_drewN | apply below_drew1 | refine below_set ?_ GE112.out) | exact HB.out)⟩⟩
            · rw [if_neg c7] at H
              exact absurd H (by simp)
          · rw [if_neg c6] at H
            exact absurd H (by simp)
        · rw [if_neg c5] at H
          have c5b0 : decide (x16_1 < (l0.length : Int)) = false := decide_eq_false c5
          clear c5
          obtain rfl := Option.some.inj H
          go_wp2
          repeat (go_quiet (fail); try go_wp2)
          go_ret
          exact ⟨by first | rfl | (simp [errW_none, errW_some] <;> rfl) | (simp [*, errW_none, errW_some] <;> rfl), by repeat (first | (with_reducible first | exact HB.out | apply below_alloc | apply pw_below_drewN | apply below_drew1) | exact HB.out)⟩

end Go.Proofs.YtbhfecciegfdjaaDoor.X
