/- Plain functions for Go's own, out of the translation's print, and a proof that each call comes to what they tell; no condition but the functions' own answers. -/
import Derived.Test.YtbhfecciegfdjaaDoorX0
namespace Go.Proofs.YtbhfecciegfdjaaDoor.X
open Go.RowKit Go.Proofs.YtbhfecciegfdjaaDoorW.PrintWords Go.Proofs.YtbhfecciegfdjaaDoorW.PrintLast Go.Proofs.YtbhfecciegfdjaaDoorW.PrintMore
attribute [local go_sem] max2_int min2_int max_two min_two max_three min_three max_four min_four Go.Proofs.YtbhfecciegfdjaaDoor.MyWords.put_isSome Go.Proofs.YtbhfecciegfdjaaDoor.MyWords.drewN_put   -- for this text's walks alone
set_option linter.unusedVariables false
set_option linter.unusedSimpArgs false

/-! ### courierref05_all: function 15 -/
mutual
def courierref05_all.l0 : Nat → List (S54) → ByteArray → List (S32) → Int → Int → Option ((List (S32)))
  | 0, _, _, _, _, _ => none
  | k + 1, x0, x1, x5, x9, x10 => if x10 < x9 then (if 0 ≤ x10 then (if x10 < (x0.length : Int) then (if x1.size + ((rd_T54 x0 x10).f1).size ≤ 9223372036854775807 then (if x5.length < 5864062014805 then ((some (x5 ++ [(⟨x1 ++ ((rd_T54 x0 x10).f1), (rd_T54 x0 x10).f0⟩ : S32)] : List (S32))).bind fun y152 => (if (x1 ++ ((rd_T54 x0 x10).f1)).size + 1 ≤ 9223372036854775807 then ((courierref05_all.f k ((rd_T54 x0 x10).f6) ((x1 ++ ((rd_T54 x0 x10).f1)) ++ (⟨#[46]⟩ : ByteArray))).bind fun t156 => (if y152.length + t156.length < 5864062014805 then (courierref05_all.l0 k x0 x1 (y152 ++ t156) x9 (wrap64 (x10 + 1))) else (none))) else (none))) else (none)) else (none)) else (none)) else (none)) else (some x5)
def courierref05_all.f : Nat → List (S54) → ByteArray → Option ((List (S32)))
  | 0, _, _ => none
  | k + 1, l0, a1 => courierref05_all.l0 k l0 a1 ([] : List (S32)) (l0.length : Int) 0
end
theorem courierref05_all.mono_l : ∀ k, (∀ y0 y1, LeO (courierref05_all.f k y0 y1) (courierref05_all.f (k + 1) y0 y1)) ∧ (∀ y0 y1 y2 y3 y4, LeO (courierref05_all.l0 k y0 y1 y2 y3 y4) (courierref05_all.l0 (k + 1) y0 y1 y2 y3 y4))
  | 0 => ⟨fun _ _ r h => by simp [courierref05_all.f] at h, fun _ _ _ _ _ r h => by simp [courierref05_all.l0] at h⟩
  | k + 1 => by
    obtain ⟨ih0, ih1⟩ := courierref05_all.mono_l k
    refine ⟨?_, ?_⟩
    · intro y0 y1
      unfold courierref05_all.f
      repeat' first
      | (with_reducible exact ih0 _ _)
      | (with_reducible exact ih1 _ _ _ _ _)
      | (with_reducible exact LeO.refl _)
      | (with_reducible exact LeO.none _)
      | (with_reducible refine LeO.ite ?_ ?_)
      | (with_reducible refine LeO.bind ?_ (fun _ => ?_))
      | exact ih0 _ _
      | exact ih1 _ _ _ _ _
      | exact LeO.none _
      | refine LeO.ite ?_ ?_
      | refine LeO.bind ?_ (fun _ => ?_)
    · intro y0 y1 y2 y3 y4
      unfold courierref05_all.l0
      repeat' first
      | (with_reducible exact ih0 _ _)
      | (with_reducible exact ih1 _ _ _ _ _)
      | (with_reducible exact LeO.refl _)
      | (with_reducible exact LeO.none _)
      | (with_reducible refine LeO.ite ?_ ?_)
      | (with_reducible refine LeO.bind ?_ (fun _ => ?_))
      | exact ih0 _ _
      | exact ih1 _ _ _ _ _
      | exact LeO.none _
      | refine LeO.ite ?_ ?_
      | refine LeO.bind ?_ (fun _ => ?_)
theorem courierref05_all.mono : ∀ a0 a1 k, LeO (courierref05_all.f k a0 a1) (courierref05_all.f (k + 1) a0 a1) := by
  intro a0 a1 k
  obtain ⟨ih0, ih1⟩ := courierref05_all.mono_l k
  exact ih0 a0 a1
set_option maxHeartbeats 8000000 in
set_option maxRecDepth 100000 in
theorem courierref05_all.calls (k : Nat) : ∀ (A0 : Option Addr) (c0 : Nat) (l0 : List (S54)) (a1 : ByteArray) (r : List (S32)) (w : World) (hr0 : Kd.C k54 w A0 l0.length l0) (hc0 : l0.length ≤ c0) (h : courierref05_all.f k l0 a1 = some r),
    Calls Tryd.prog 15 #[.slice A0 l0.length c0, .string a1] w fun e w' => ∃ v0_ : Value, e = .returned (v0_) ∧ Kd.R k32 32 w' w.heap.size (fun _ => True) v0_ r ∧ Below w.heap.size w w' := by
  induction k using Nat.strongRecOn with
  | _ k ih =>
  intro A0 c0 l0 a1 r w hr0 hc0 h
  cases k with
  | zero => exact absurd h (by simp [courierref05_all.f])
  | succ k =>
  simp only [courierref05_all.f] at h
  have hu32 := Tryd.underlying32
  have HR0 := Aside0.mk hr0
  have HC0 := Aside0.mk hc0
  clear hr0 hc0
  have HB := Aside0.mk (Below.refl w.heap.size w)
  have H : (courierref05_all.l0 k l0 a1 ([] : List (S32)) (l0.length : Int) 0) = some r := h
  clear h
  have H' := Aside0.mk H
  clear H
  go_enter Tryd.func15, Tryd.ntmps15
  go_wp2
  go_loopg [5, 10] k (fun kq v5 v10 w' => ∃ (x5_1 : List (S32)) (x10_1 : Int), v10 = .int .i64 x10_1 ∧ Aside0 (courierref05_all.l0 kq l0 a1 x5_1 (l0.length : Int) x10_1 = some r) ∧ Aside0 (kq ≤ k) ∧ Aside0 (Kd.R k32 32 w' w.heap.size (fun _ => True) v5 x5_1) ∧ Aside0 (Below w.heap.size w w'))
  case atStart => exact ⟨(([] : List (S32))), (0), (by first | rfl | (simp; done) | (simp [*]; done)), H', ⟨Nat.le_refl _⟩, ⟨by first | exact Kd.R_nil _ _ _ _ _ | exact Kd.N_nil _ _ _ _ _ | exact Kd.V_nil _ _ _ _ _ | exact Kd.Q_nil _ _ _ _ _ | exact Kd.S_nil _ _ _ _ _⟩, ⟨by repeat (first | (with_reducible first | exact HB.out | apply below_alloc | apply pw_below_drewN | apply below_drew1) | exact HB.out)⟩⟩
  case round =>
    clear H'
    try clear c1
    try clear p2
    obtain ⟨x5_1, x10_1, rfl, HA, HK1, HO_5, HB⟩ := hrel
    cases gk with
    | zero => exact absurd HA.out (by simp [courierref05_all.l0])
    | succ k1 =>
      have H := HA.out
      clear HA
      simp only [courierref05_all.l0] at H
      by_cases c3 : x10_1 < (l0.length : Int)
      · rw [if_pos c3] at H
        have c3b0 : decide (x10_1 < (l0.length : Int)) = true := decide_eq_true c3
        clear c3
        by_cases c4 : 0 ≤ x10_1
        · rw [if_pos c4] at H
          have c4b0 : decide (0 ≤ x10_1) = true := decide_eq_true c4
          clear c4
          by_cases c5 : x10_1 < (l0.length : Int)
          · rw [if_pos c5] at H
            have c5b0 : decide (x10_1 < (l0.length : Int)) = true := decide_eq_true c5
            clear c5
            by_cases c6 : a1.size + ((rd_T54 l0 x10_1).f1).size ≤ 9223372036854775807
            · rw [if_pos c6] at H
              have c6b0 := eq_true c6
              have c6b1 : decide (a1.size + ((rd_T54 l0 x10_1).f1).size ≤ 9223372036854775807) = true := decide_eq_true c6
              try have c6b2 : (9223372036854775807 < a1.size + ((rd_T54 l0 x10_1).f1).size) = False := eq_false (Nat.not_lt.2 c6)
              by_cases c7 : x5_1.length < 5864062014805
              · rw [if_pos c7] at H
                have LMc7 := Aside0.mk c7
                clear c7
                obtain ⟨y152, hy152⟩ : ∃ y_ : List (S32), y_ = (x5_1 ++ [(⟨a1 ++ ((rd_T54 l0 x10_1).f1), (rd_T54 l0 x10_1).f0⟩ : S32)]) := ⟨_, rfl⟩
                replace H : (if (a1 ++ ((rd_T54 l0 x10_1).f1)).size + 1 ≤ 9223372036854775807 then ((courierref05_all.f k1 ((rd_T54 l0 x10_1).f6) ((a1 ++ ((rd_T54 l0 x10_1).f1)) ++ (⟨#[46]⟩ : ByteArray))).bind fun t156 => (if y152.length + t156.length < 5864062014805 then (courierref05_all.l0 k1 l0 a1 (y152 ++ t156) (l0.length : Int) (wrap64 (x10_1 + 1))) else (none))) else (none)) = some r := by first | (rw [hy152]; with_reducible exact H) | (have H2_ := (Option.bind_some _ _).symm.trans H; rw [hy152]; with_reducible exact H2_) | (have H2_ := (Option.bind_some _ _).symm.trans H; with_reducible exact H2_) | with_reducible exact H | (rw [hy152]; exact H) | exact H
                have Ny152 := Aside0.mk hy152
                clear hy152
                by_cases c8 : (a1 ++ ((rd_T54 l0 x10_1).f1)).size + 1 ≤ 9223372036854775807
                · rw [if_pos c8] at H
                  have c8b0 := eq_true c8
                  have c8b1 : decide ((a1 ++ ((rd_T54 l0 x10_1).f1)).size + 1 ≤ 9223372036854775807) = true := decide_eq_true c8
                  try have c8b2 : (9223372036854775807 < (a1 ++ ((rd_T54 l0 x10_1).f1)).size + 1) = False := eq_false (Nat.not_lt.2 c8)
                  try (have c8b2s := c8b2; simp only [ByteArray.size_append] at c8b2s)
                  replace H := Option.bind_eq_some_iff.mp H
                  obtain ⟨t156, A90, H⟩ := H
                  replace H : (if y152.length + t156.length < 5864062014805 then (courierref05_all.l0 k1 l0 a1 (y152 ++ t156) (l0.length : Int) (wrap64 (x10_1 + 1))) else (none)) = some r := H
                  have A9 := Aside0.mk A90
                  clear A90
                  by_cases c10 : y152.length + t156.length < 5864062014805
                  · rw [if_pos c10] at H
                    have LMc10 := Aside0.mk c10
                    clear c10
                    obtain ⟨y159, hy159⟩ : ∃ y_ : List (S32), y_ = (y152 ++ t156) := ⟨_, rfl⟩
                    replace H : (courierref05_all.l0 k1 l0 a1 y159 (l0.length : Int) (wrap64 (x10_1 + 1))) = some r := by first | (rw [hy159]; with_reducible exact H) | (have H2_ := (Option.bind_some _ _).symm.trans H; rw [hy159]; with_reducible exact H2_) | (have H2_ := (Option.bind_some _ _).symm.trans H; with_reducible exact H2_) | with_reducible exact H | (rw [hy159]; exact H) | exact H
                    have Ny159 := Aside0.mk hy159
                    clear hy159
                    have H' := Aside0.mk H
                    clear H
                    have p150 : 0 ≤ (x10_1 : Int) := of_decide_eq_true (by first | (with_reducible assumption) | assumption)
                    have q150 : x10_1 < (l0.length : Int) := of_decide_eq_true (by first | (with_reducible assumption) | assumption)
                    obtain ⟨ad150, A150_4, c150_4, A150_5, c150_5, A150_6, c150_6, A150_7, c150_7, e150, hx150_0, hx150_1, hx150_2, hx150_3, hx150_4, hx150_5, hx150_6, hx150_7, hl150_4, hi150_4, hl150_5, hi150_5, hl150_6, hi150_6, hl150_7, hi150_7⟩ := at_T54 HR0.out x10_1 p150 q150
                    cases e150
                    replace hx150_0 := (HB.out.cell (World.block_lt_of_cell? w _ hx150_0)).trans hx150_0
                    replace hx150_1 := (HB.out.cell (World.block_lt_of_cell? w _ hx150_1)).trans hx150_1
                    replace hx150_2 := (HB.out.cell (World.block_lt_of_cell? w _ hx150_2)).trans hx150_2
                    replace hx150_3 := (HB.out.cell (World.block_lt_of_cell? w _ hx150_3)).trans hx150_3
                    replace hx150_4 := (HB.out.cell (World.block_lt_of_cell? w _ hx150_4)).trans hx150_4
                    replace hx150_5 := (HB.out.cell (World.block_lt_of_cell? w _ hx150_5)).trans hx150_5
                    replace hx150_6 := (HB.out.cell (World.block_lt_of_cell? w _ hx150_6)).trans hx150_6
                    replace hx150_7 := (HB.out.cell (World.block_lt_of_cell? w _ hx150_7)).trans hx150_7
                    have HR150_4 := Aside0.mk hi150_4
                    have HC150_4 := Aside0.mk hl150_4
                    clear hi150_4 hl150_4
                    have HR150_5 := Aside0.mk hi150_5
                    have HC150_5 := Aside0.mk hl150_5
                    clear hi150_5 hl150_5
                    have HR150_6 := Aside0.mk hi150_6
                    have HC150_6 := Aside0.mk hl150_6
                    clear hi150_6 hl150_6
                    have HR150_7 := Aside0.mk hi150_7
                    have HC150_7 := Aside0.mk hl150_7
                    clear hi150_7 hl150_7
                    replace p150 := eq_true p150
                    replace q150 := eq_true q150
                    have p151 : 0 ≤ (x10_1 : Int) := of_decide_eq_true (by first | (with_reducible assumption) | assumption)
                    have q151 : x10_1 < (l0.length : Int) := of_decide_eq_true (by first | (with_reducible assumption) | assumption)
                    obtain ⟨ad151, A151_4, c151_4, A151_5, c151_5, A151_6, c151_6, A151_7, c151_7, e151, hx151_0, hx151_1, hx151_2, hx151_3, hx151_4, hx151_5, hx151_6, hx151_7, hl151_4, hi151_4, hl151_5, hi151_5, hl151_6, hi151_6, hl151_7, hi151_7⟩ := at_T54 HR0.out x10_1 p151 q151
                    obtain rfl : ad150 = ad151 := (by injection e151)
                    replace hx151_0 := (HB.out.cell (World.block_lt_of_cell? w _ hx151_0)).trans hx151_0
                    replace hx151_1 := (HB.out.cell (World.block_lt_of_cell? w _ hx151_1)).trans hx151_1
                    replace hx151_2 := (HB.out.cell (World.block_lt_of_cell? w _ hx151_2)).trans hx151_2
                    replace hx151_3 := (HB.out.cell (World.block_lt_of_cell? w _ hx151_3)).trans hx151_3
                    replace hx151_4 := (HB.out.cell (World.block_lt_of_cell? w _ hx151_4)).trans hx151_4
                    replace hx151_5 := (HB.out.cell (World.block_lt_of_cell? w _ hx151_5)).trans hx151_5
                    replace hx151_6 := (HB.out.cell (World.block_lt_of_cell? w _ hx151_6)).trans hx151_6
                    replace hx151_7 := (HB.out.cell (World.block_lt_of_cell? w _ hx151_7)).trans hx151_7
                    have HR151_4 := Aside0.mk hi151_4
                    have HC151_4 := Aside0.mk hl151_4
                    clear hi151_4 hl151_4
                    have HR151_5 := Aside0.mk hi151_5
                    have HC151_5 := Aside0.mk hl151_5
                    clear hi151_5 hl151_5
                    have HR151_6 := Aside0.mk hi151_6
                    have HC151_6 := Aside0.mk hl151_6
                    clear hi151_6 hl151_6
                    have HR151_7 := Aside0.mk hi151_7
                    have HC151_7 := Aside0.mk hl151_7
                    clear hi151_7 hl151_7
                    replace p151 := eq_true p151
                    replace q151 := eq_true q151
                    have ea_ := Option.some.inj (hx150_4.symm.trans hx151_4)
                    injection ea_ with ea_ en_ ec_
                    subst ea_
                    subst ec_
                    clear en_
                    have ea_ := Option.some.inj (hx150_5.symm.trans hx151_5)
                    injection ea_ with ea_ en_ ec_
                    subst ea_
                    subst ec_
                    clear en_
                    have ea_ := Option.some.inj (hx150_6.symm.trans hx151_6)
                    injection ea_ with ea_ en_ ec_
                    subst ea_
                    subst ec_
                    clear en_
                    have ea_ := Option.some.inj (hx150_7.symm.trans hx151_7)
                    injection ea_ with ea_ en_ ec_
                    subst ea_
                    subst ec_
                    clear en_
                    go_wp2_with (first | ((with_reducible refine gate_builtin (b := .append) (xs := #[.tmp 20, .tmp 28]) rfl ?_); at_builtin; refine Kd.R_append k32 (w0 := w) w.heap.size rfl (.tmp 20) (.tmp 28) 29 32 (.agg #[(.string ⟨#[]⟩), (.int .i64 0)]) 24 rfl Tryd.underlying29 info32 rfl (by decide) (by omega) u5 x5_1 (⟨a1 ++ ((rd_T54 l0 x10_1).f1), (rd_T54 l0 x10_1).f0⟩ : S32) [.string (a1 ++ ((rd_T54 l0 x10_1).f1)), .int .i64 ((rd_T54 l0 x10_1).f0)] (fun _ => True) (fun _ => False) rfl rfl ?aP (fun _ hk => hk.elim) ?aF ?aO ?aB ?aS ?aL ?_; (case aP => exact k32_mkM _ _ _ (⟨a1 ++ ((rd_T54 l0 x10_1).f1), (rd_T54 l0 x10_1).f0⟩ : S32)); (case aB => exact (by repeat (first | (with_reducible first | exact HB.out | apply below_alloc | apply pw_below_drewN | apply below_drew1) | exact HB.out))); (case aF => exact (fun _ _ => trivial)); (case aO => exact (by (with_reducible repeat (first | apply Kd.R_alloc | apply Kd.R_drewN | apply Kd.R_drew)); exact HO_5.out)); (case aS => exact (below_size (by repeat (first | (with_reducible first | exact HB.out | apply below_alloc | apply pw_below_drewN | apply below_drew1) | exact HB.out)))); (case aL => have := LMc7.out; omega); intro v153 w11 ho hb hg hat; rw [← Ny152.out] at ho; have n0_ := Aside0.mk (hb); have n1_ := Aside0.mk (ho); clear HB; clear HO_5; have HB := n0_; have HO154 := n1_; clear n0_ n1_; clear ho hb hg hat; have p155 : 0 ≤ (x10_1 : Int) := of_decide_eq_true (by first | (with_reducible assumption) | assumption); have q155 : x10_1 < (l0.length : Int) := of_decide_eq_true (by first | (with_reducible assumption) | assumption); obtain ⟨ad155, A155_4, c155_4, A155_5, c155_5, A155_6, c155_6, A155_7, c155_7, e155, hx155_0, hx155_1, hx155_2, hx155_3, hx155_4, hx155_5, hx155_6, hx155_7, hl155_4, hi155_4, hl155_5, hi155_5, hl155_6, hi155_6, hl155_7, hi155_7⟩ := at_T54 HR0.out x10_1 p155 q155; obtain rfl : ad150 = ad155 := (by injection e155); replace hx155_0 := (HB.out.cell (World.block_lt_of_cell? w _ hx155_0)).trans hx155_0; replace hx155_1 := (HB.out.cell (World.block_lt_of_cell? w _ hx155_1)).trans hx155_1; replace hx155_2 := (HB.out.cell (World.block_lt_of_cell? w _ hx155_2)).trans hx155_2; replace hx155_3 := (HB.out.cell (World.block_lt_of_cell? w _ hx155_3)).trans hx155_3; replace hx155_4 := (HB.out.cell (World.block_lt_of_cell? w _ hx155_4)).trans hx155_4; replace hx155_5 := (HB.out.cell (World.block_lt_of_cell? w _ hx155_5)).trans hx155_5; replace hx155_6 := (HB.out.cell (World.block_lt_of_cell? w _ hx155_6)).trans hx155_6; replace hx155_7 := (HB.out.cell (World.block_lt_of_cell? w _ hx155_7)).trans hx155_7; have HR155_4 := Aside0.mk hi155_4; have HC155_4 := Aside0.mk hl155_4; clear hi155_4 hl155_4; have HR155_5 := Aside0.mk hi155_5; have HC155_5 := Aside0.mk hl155_5; clear hi155_5 hl155_5; have HR155_6 := Aside0.mk hi155_6; have HC155_6 := Aside0.mk hl155_6; clear hi155_6 hl155_6; have HR155_7 := Aside0.mk hi155_7; have HC155_7 := Aside0.mk hl155_7; clear hi155_7 hl155_7; replace p155 := eq_true p155; replace q155 := eq_true q155) | ((with_reducible refine gate_callee (f := 15) rfl ?_); refine goesL_ (some 38) rfl rfl Tryd.func15 (by kernel_rfl) rfl #[.slice A155_7 ((rd_T54 l0 x10_1).f6).length c155_7, .string ((a1 ++ ((rd_T54 l0 x10_1).f1)) ++ (⟨#[46]⟩ : ByteArray))] rfl (by (try simp only [List.map_toArray, List.map_cons, List.map_nil]); first | done | rfl | (simp only [List.length_drop, List.length_take]; rfl)) ?_; (with_reducible refine (ih k1 (by have := HK1.out; omega) _ _ ((rd_T54 l0 x10_1).f6) ((a1 ++ ((rd_T54 l0 x10_1).f1)) ++ (⟨#[46]⟩ : ByteArray)) t156 _ ?side1 ?side2 A9.out).mono ?_); (case side1 => repeat (first | exact (Kd.C_below HR155_7.out HB.out) | (with_reducible refine Kd.C_alloc ?_ _) | (with_reducible refine Kd.C_drewN ?_ _) | (with_reducible refine Kd.C_drew ?_))); (case side2 => exact HC155_7.out); rintro e w12 ⟨v157, rfl, ho0, hb⟩; refine ⟨_, rfl, ?_⟩; have n0_ := Aside0.mk (Kd.R_elder' (by (with_reducible repeat (first | apply Kd.R_alloc | apply Kd.R_drewN | apply Kd.R_drew)); exact HO154.out) (Kd.R_base ho0) hb); have n1_ := Aside0.mk (Kd.R_lower (Kd.R_new' ho0 (Kd.R_lt (by (with_reducible repeat (first | apply Kd.R_alloc | apply Kd.R_drewN | apply Kd.R_drew)); exact HO154.out))) (below_size (by repeat (first | (with_reducible first | exact HB.out | apply below_alloc | apply pw_below_drewN | apply below_drew1) | exact HB.out)))); have n2_ := Aside0.mk (below_step (by repeat (first | (with_reducible first | exact HB.out | apply below_alloc | apply pw_below_drewN | apply below_drew1) | exact HB.out)) hb); clear HO154; clear HB; have HO154 := n0_; have HO158 := n1_; have HB := n2_; clear n0_ n1_ n2_; (try clear hb); (try clear hb2); (try clear hk); (try clear hi); (try clear ho0); obtain ⟨Ao14, co14, eo14⟩ := Kd.R_slice HO158.out; subst eo14) | ((with_reducible refine gate_builtin (b := .append) (xs := #[.tmp 30, .tmp 38]) rfl ?_); at_builtin; refine Kd.R_append_rows k32 (w0 := w) w.heap.size rfl (.tmp 30) (.tmp 38) 29 32 (.agg #[(.string ⟨#[]⟩), (.int .i64 0)]) 24 rfl Tryd.underlying29 info32 rfl (by decide) (by omega) v153 y152 t156 _ _ _ (fun k_ => some k_ ≠ (.slice Ao14 t156.length co14 : Value).ownBlock) (fun _ => False) rfl rfl ?aO ?aR (fun _ _ h => h) (fun _ h => h.elim) ?aF ?aB ?aS ?aL ?_; (case aR => repeat (first | exact (Kd.R_reads' HO158.out).2.2 | (with_reducible refine Kd.C_alloc ?_ _) | (with_reducible refine Kd.C_drewN ?_ _) | (with_reducible refine Kd.C_drew ?_))); (case aB => exact (by repeat (first | (with_reducible first | exact HB.out | apply below_alloc | apply pw_below_drewN | apply below_drew1) | exact HB.out))); (case aF => exact (fun k_ hk => Kd.fresh' (Kd.R_lt (by (with_reducible repeat (first | apply Kd.R_alloc | apply Kd.R_drewN | apply Kd.R_drew)); exact HO158.out)) k_ hk)); (case aO => exact (by (with_reducible repeat (first | apply Kd.R_alloc | apply Kd.R_drewN | apply Kd.R_drew)); exact Kd.R_mono HO154.out (fun _ hk => hk.2))); (case aS => exact (below_size (by repeat (first | (with_reducible first | exact HB.out | apply below_alloc | apply pw_below_drewN | apply below_drew1) | exact HB.out)))); (case aL => have := LMc10.out; omega); intro v160 w13 ho hb hg hat; rw [← Ny159.out] at ho; have n0_ := Aside0.mk (Kd.R_after (ok := (fun _ => True)) (by (with_reducible repeat (first | apply Kd.R_alloc | apply Kd.R_drewN | apply Kd.R_drew)); exact HO158.out) hg hat); have n1_ := Aside0.mk (hb); have n2_ := Aside0.mk (ho); clear HO158; clear HB; clear HO154; have HO158 := n0_; have HB := n1_; have HO161 := n2_; clear n0_ n1_ n2_; clear ho hb hg hat))
                    go_roundg k1
                    case measure => have := HK1.out; omega
                    case rel => exact ⟨(y159), (wrap64 (x10_1 + 1)), (by first | rfl | (simp; done) | (simp [*]; done)), H', ⟨by have := HK1.out; omega⟩, ⟨by (with_reducible repeat (first | apply Kd.R_alloc | apply Kd.R_drewN | apply Kd.R_drew)); exact Kd.R_mono HO161.out (fun _ hk => trivial)⟩, ⟨by repeat (first | (with_reducible first | exact HB.out | apply below_alloc | apply pw_below_drewN | apply below_drew1) | exact HB.out)⟩⟩
                  · rw [if_neg c10] at H
                    exact absurd H (by simp)
                · rw [if_neg c8] at H
                  exact absurd H (by simp)
              · rw [if_neg c7] at H
                exact absurd H (by simp)
            · rw [if_neg c6] at H
              exact absurd H (by simp)
          · rw [if_neg c5] at H
            exact absurd H (by simp)
        · rw [if_neg c4] at H
          exact absurd H (by simp)
      · rw [if_neg c3] at H
        have c3b0 : decide (x10_1 < (l0.length : Int)) = false := decide_eq_false c3
        clear c3
        obtain rfl := Option.some.inj H
        go_wp2
        go_ret
        exact ⟨_, by first | rfl | (simp [errW_none, errW_some] <;> rfl) | (simp [*, errW_none, errW_some] <;> rfl), by (with_reducible repeat (first | apply Kd.R_alloc | apply Kd.R_drewN | apply Kd.R_drew)); exact HO_5.out, by repeat (first | (with_reducible first | exact HB.out | apply below_alloc | apply pw_below_drewN | apply below_drew1) | exact HB.out)⟩

end Go.Proofs.YtbhfecciegfdjaaDoor.X
