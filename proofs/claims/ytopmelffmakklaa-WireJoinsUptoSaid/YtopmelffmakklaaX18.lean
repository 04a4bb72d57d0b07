/- Plain functions for Go's own, out of the translation's print, and a proof that each call comes to what they tell; no condition but the functions' own answers. -/
import Derived.Test.YtopmelffmakklaaX0
import Derived.Test.YtopmelffmakklaaX11
namespace Go.Proofs.Ytopmelffmakklaa.X
open Go.RowKit Go.Proofs.YtopmelffmakklaaW.PrintWords Go.Proofs.YtopmelffmakklaaW.PrintLast Go.Proofs.YtopmelffmakklaaW.PrintMore
attribute [local go_sem] max2_int min2_int max_two min_two max_three min_three max_four min_four Go.Proofs.Ytopmelffmakklaa.MyWords.put_isSome Go.Proofs.Ytopmelffmakklaa.MyWords.drewN_put   -- for this text's walks alone
set_option linter.unusedVariables false
set_option linter.unusedSimpArgs false

/-! ### courierref01_Split: function 16 -/
def courierref01_Split.l0 : Nat → List Int → List (S30) → List (List Int) → Option ((List (S30)) × (List (List Int)) × Int)
  | 0, _, _, _ => none
  | k + 1, x0, x5, x6 => if (x0.length : Int) > 0 then ((courierref01_TakeField.f k x0).bind fun bt321 => (if bt321.2.2.2.2.2 = 0 then ((some (([(⟨bt321.1, bt321.2.1, bt321.2.2.1, bt321.2.2.2.1⟩ : S30)] : List (S30)) : List (S30))).bind fun y330 => (if x5.length + y330.length < 2932031007402 then ((some (([] : List Int) : List Int)).bind fun y336 => (if 0 ≤ bt321.2.2.2.2.1 then (if bt321.2.2.2.2.1 ≤ (x0.length : Int) then ((some (x0.take (bt321.2.2.2.2.1 : Int).toNat : List Int)).bind fun y339 => (if y336.length + y339.length < 140737488355328 then ((some (([(y336 ++ y339)] : List (List Int)) : List (List Int))).bind fun y347 => (if x6.length + y347.length < 5864062014805 then (courierref01_Split.l0 k (x0.drop (bt321.2.2.2.2.1 : Int).toNat) (x5 ++ y330) (x6 ++ y347)) else (none))) else (none))) else (none)) else (none))) else (none))) else (some (([] : List (S30)), ([] : List (List Int)), 2)))) else (some (x5, x6, 0))
def courierref01_Split.f (k : Nat) (l0 : List Int) : Option ((List (S30)) × (List (List Int)) × Int) := courierref01_Split.l0 k l0 ([] : List (S30)) ([] : List (List Int))
theorem courierref01_Split.mono_l : ∀ k, (∀ y0 y1 y2, LeO (courierref01_Split.l0 k y0 y1 y2) (courierref01_Split.l0 (k + 1) y0 y1 y2))
  | 0 => fun _ _ _ r h => by simp [courierref01_Split.l0] at h
  | k + 1 => by
    have ih0 := courierref01_Split.mono_l k
    · intro y0 y1 y2
      unfold courierref01_Split.l0
      repeat' first
      | (with_reducible exact ih0 _ _ _)
      | (with_reducible exact courierref01_TakeField.mono _ _)
      | (with_reducible exact LeO.refl _)
      | (with_reducible exact LeO.none _)
      | (with_reducible refine LeO.ite ?_ ?_)
      | (with_reducible refine LeO.bind ?_ (fun _ => ?_))
      | exact ih0 _ _ _
      | exact courierref01_TakeField.mono _ _
      | exact LeO.none _
      | refine LeO.ite ?_ ?_
      | refine LeO.bind ?_ (fun _ => ?_)
theorem courierref01_Split.mono : ∀ a0 k, LeO (courierref01_Split.f k a0) (courierref01_Split.f (k + 1) a0) := by
  intro a0 k
  have ih0 := courierref01_Split.mono_l k
  unfold courierref01_Split.f
  repeat' first
      | (with_reducible exact ih0 _ _ _)
      | (with_reducible exact courierref01_TakeField.mono _ _)
      | (with_reducible exact LeO.refl _)
      | (with_reducible exact LeO.none _)
      | (with_reducible refine LeO.ite ?_ ?_)
      | (with_reducible refine LeO.bind ?_ (fun _ => ?_))
      | exact ih0 _ _ _
      | exact courierref01_TakeField.mono _ _
      | exact LeO.none _
      | refine LeO.ite ?_ ?_
      | refine LeO.bind ?_ (fun _ => ?_)
def courierref01_Split.T7 : Bool × List (List Nat × List Nat) := (true, [([], []), ([], []), ([1], [1]), ([0, 2], [0, 2]), ([], []), ([], []), ([], []), ([], []), ([6, 7], [6, 7]), ([5, 8, 3], [5, 8]), ([9], [9]), ([4, 10, 9], [4, 10]), ([3, 11, 0, 1, 2, 3], [0, 3]), ([11, 12, 0, 1, 2, 3, 4, 5, 6, 7, 8, 9, 10, 11, 12], [4, 11])])
def courierref01_Split.B7 : List Nat := [0, 0, 2, 7, 0, 0, 0, 0, 192, 495, 1007, 2047, 4095, 8191]
theorem courierref01_Split.tab7 : rtab .any (opsOf Try.f16 7) = courierref01_Split.T7 := by kernel_rfl
theorem courierref01_Split.bits7 : waitsOk courierref01_Split.T7.2 courierref01_Split.B7 = true := by kernel_rfl
set_option maxHeartbeats 8000000 in
set_option maxRecDepth 100000 in
theorem courierref01_Split.calls (k : Nat) (P0_ : Nat → Prop) (A0 : Option Addr) (c0 : Nat) (l0 : List Int) (r1 : List (S30)) (r2 : List (List Int)) (r3 : Int) (w : World) (hs0 : Kd.V (Kd.int .u8) 5 w w.heap.size (fun k_ => P0_ k_) (.slice A0 l0.length c0) l0) (h : courierref01_Split.f k l0 = some (r1, r2, r3)) :
    Calls Try.prog 16 #[.slice A0 l0.length c0] w fun e w' => ∃ v0_ v1_ : Value, e = .returned (.tuple #[v0_, v1_, .int .i64 r3]) ∧ Kd.N k30 30 w' w.heap.size (fun k_ => (P0_ k_ ∨ w.heap.size ≤ k_) ∧ some k_ ≠ (v1_ : Value).ownBlock) v0_ r1 ∧ Kd.N (Kd.slice 5 (Kd.int .u8)) 22 w' w.heap.size (fun k_ => (P0_ k_ ∨ w.heap.size ≤ k_) ∧ some k_ ≠ (v0_ : Value).ownBlock) v1_ r2 ∧ Below w.heap.size w w' := by
  have hu30 := Try.underlying30
  have HO0 := Aside0.mk (show Kd.V (Kd.int .u8) 5 w w.heap.size (fun k_ => (P0_ k_ ∨ w.heap.size ≤ k_)) (.slice A0 l0.length c0) l0 from Kd.V_mono hs0 (fun k_ hk => .inl hk))
  have HB := Aside0.mk (Below.refl w.heap.size w)
  have H : (courierref01_Split.l0 k l0 ([] : List (S30)) ([] : List (List Int))) = some (r1, r2, r3) := h
  clear h
  have H' := Aside0.mk H
  clear H
  go_enter Try.func16, Try.ntmps16
  go_wp2
  go_loopg [0, 5, 6] k (fun kq v0 v5 v6 w' => ∃ (x0_1 : List Int) (x5_1 : List (S30)) (x6_1 : List (List Int)), Aside0 (courierref01_Split.l0 kq x0_1 x5_1 x6_1 = some (r1, r2, r3)) ∧ Aside0 (kq ≤ k) ∧ Aside0 (Kd.V (Kd.int .u8) 5 w' w.heap.size (fun k_ => (P0_ k_ ∨ w.heap.size ≤ k_) ∧ some k_ ≠ (v5 : Value).ownBlock ∧ some k_ ≠ (v6 : Value).ownBlock) v0 x0_1) ∧ Aside0 (Kd.N k30 30 w' w.heap.size (fun k_ => (P0_ k_ ∨ w.heap.size ≤ k_) ∧ some k_ ≠ (v6 : Value).ownBlock) v5 x5_1) ∧ Aside0 (Kd.N (Kd.slice 5 (Kd.int .u8)) 22 w' w.heap.size (fun k_ => (P0_ k_ ∨ w.heap.size ≤ k_) ∧ some k_ ≠ (v5 : Value).ownBlock) v6 x6_1) ∧ Aside0 (Below w.heap.size w w'))
  case atStart => exact ⟨(l0), (([] : List (S30))), (([] : List (List Int))), H', ⟨Nat.le_refl _⟩, ⟨by (with_reducible repeat (first | apply Kd.V_alloc | apply Kd.V_drewN | apply Kd.V_drew)); exact Kd.V_mono HO0.out (fun _ hk => ⟨hk, ⟨(by simp [Value.ownBlock]), (by simp [Value.ownBlock])⟩⟩)⟩, ⟨by first | exact Kd.S_nil _ _ _ _ _ | exact Kd.N_nil _ _ _ _ _ | exact Kd.V_nil _ _ _ _ _ | exact Kd.Q_nil _ _ _ _ _ | exact Kd.R_nil _ _ _ _ _⟩, ⟨by first | exact Kd.S_nil _ _ _ _ _ | exact Kd.N_nil _ _ _ _ _ | exact Kd.V_nil _ _ _ _ _ | exact Kd.Q_nil _ _ _ _ _ | exact Kd.R_nil _ _ _ _ _⟩, ⟨by repeat (first | (with_reducible first | exact HB.out | apply below_alloc | apply pw_below_drewN | apply below_drew1) | exact HB.out)⟩⟩
  case round =>
    clear H'
    try clear c1
    obtain ⟨x0_1, x5_1, x6_1, HA, HK1, HO_0, HO_5, HO_6, HB⟩ := hrel
    cases gk with
    | zero => exact absurd HA.out (by simp [courierref01_Split.l0])
    | succ k1 =>
      have H := HA.out
      clear HA
      simp only [courierref01_Split.l0] at H
      by_cases c2 : (x0_1.length : Int) > 0
      · rw [if_pos c2] at H
        have c2b0 : decide (0 < (x0_1.length : Int)) = true := decide_eq_true c2
        have c2b1 : decide (0 < x0_1.length) = true := decide_eq_true (by omega)
        clear c2
        replace H := Option.bind_eq_some_iff.mp H
        obtain ⟨⟨t321, t322, t323, t324, t327, t328⟩, A30, H⟩ := H
        replace H : (if t328 = 0 then ((some (([(⟨t321, t322, t323, t324⟩ : S30)] : List (S30)) : List (S30))).bind fun y330 => (if x5_1.length + y330.length < 2932031007402 then ((some (([] : List Int) : List Int)).bind fun y336 => (if 0 ≤ t327 then (if t327 ≤ (x0_1.length : Int) then ((some (x0_1.take (t327 : Int).toNat : List Int)).bind fun y339 => (if y336.length + y339.length < 140737488355328 then ((some (([(y336 ++ y339)] : List (List Int)) : List (List Int))).bind fun y347 => (if x6_1.length + y347.length < 5864062014805 then (courierref01_Split.l0 k1 (x0_1.drop (t327 : Int).toNat) (x5_1 ++ y330) (x6_1 ++ y347)) else (none))) else (none))) else (none)) else (none))) else (none))) else (some (([] : List (S30)), ([] : List (List Int)), 2))) = some (r1, r2, r3) := H
        have A3 := Aside0.mk A30
        clear A30
        by_cases c4 : t328 = 0
        · rw [if_pos c4] at H
          have c4b0 : (t328 == 0) = true := beq_iff_eq.mpr c4
          have c4b1 : (t328 != 0) = false := bne_eq_false_iff_eq.mpr c4
          clear c4
          obtain ⟨y330, hy330⟩ : ∃ y_ : List (S30), y_ = (([(⟨t321, t322, t323, t324⟩ : S30)] : List (S30))) := ⟨_, rfl⟩
          replace H : (if x5_1.length + y330.length < 2932031007402 then ((some (([] : List Int) : List Int)).bind fun y336 => (if 0 ≤ t327 then (if t327 ≤ (x0_1.length : Int) then ((some (x0_1.take (t327 : Int).toNat : List Int)).bind fun y339 => (if y336.length + y339.length < 140737488355328 then ((some (([(y336 ++ y339)] : List (List Int)) : List (List Int))).bind fun y347 => (if x6_1.length + y347.length < 5864062014805 then (courierref01_Split.l0 k1 (x0_1.drop (t327 : Int).toNat) (x5_1 ++ y330) (x6_1 ++ y347)) else (none))) else (none))) else (none)) else (none))) else (none)) = some (r1, r2, r3) := by first | (rw [hy330]; with_reducible exact H) | (have H2_ := (Option.bind_some _ _).symm.trans H; rw [hy330]; with_reducible exact H2_) | (have H2_ := (Option.bind_some _ _).symm.trans H; with_reducible exact H2_) | with_reducible exact H | (rw [hy330]; exact H) | exact H
          have Ny330 := Aside0.mk hy330
          clear hy330
          by_cases c5 : x5_1.length + y330.length < 2932031007402
          · rw [if_pos c5] at H
            have LMc5 := Aside0.mk c5
            clear c5
            obtain ⟨y333, hy333⟩ : ∃ y_ : List (S30), y_ = (x5_1 ++ y330) := ⟨_, rfl⟩
            replace H : ((some (([] : List Int) : List Int)).bind fun y336 => (if 0 ≤ t327 then (if t327 ≤ (x0_1.length : Int) then ((some (x0_1.take (t327 : Int).toNat : List Int)).bind fun y339 => (if y336.length + y339.length < 140737488355328 then ((some (([(y336 ++ y339)] : List (List Int)) : List (List Int))).bind fun y347 => (if x6_1.length + y347.length < 5864062014805 then (courierref01_Split.l0 k1 (x0_1.drop (t327 : Int).toNat) y333 (x6_1 ++ y347)) else (none))) else (none))) else (none)) else (none))) = some (r1, r2, r3) := by first | (rw [hy333]; with_reducible exact H) | (have H2_ := (Option.bind_some _ _).symm.trans H; rw [hy333]; with_reducible exact H2_) | (have H2_ := (Option.bind_some _ _).symm.trans H; with_reducible exact H2_) | with_reducible exact H | (rw [hy333]; exact H) | exact H
            have Ny333 := Aside0.mk hy333
            clear hy333
            obtain ⟨y336, hy336⟩ : ∃ y_ : List Int, y_ = (([] : List Int)) := ⟨_, rfl⟩
            replace H : (if 0 ≤ t327 then (if t327 ≤ (x0_1.length : Int) then ((some (x0_1.take (t327 : Int).toNat : List Int)).bind fun y339 => (if y336.length + y339.length < 140737488355328 then ((some (([(y336 ++ y339)] : List (List Int)) : List (List Int))).bind fun y347 => (if x6_1.length + y347.length < 5864062014805 then (courierref01_Split.l0 k1 (x0_1.drop (t327 : Int).toNat) y333 (x6_1 ++ y347)) else (none))) else (none))) else (none)) else (none)) = some (r1, r2, r3) := by first | (rw [hy336]; with_reducible exact H) | (have H2_ := (Option.bind_some _ _).symm.trans H; rw [hy336]; with_reducible exact H2_) | (have H2_ := (Option.bind_some _ _).symm.trans H; with_reducible exact H2_) | with_reducible exact H | (rw [hy336]; exact H) | exact H
            have Ny336 := Aside0.mk hy336
            clear hy336
            by_cases c6 : 0 ≤ t327
            · rw [if_pos c6] at H
              have c6b0 := eq_true c6
              have c6b1 : decide (0 ≤ t327) = true := decide_eq_true c6
              clear c6
              by_cases c7 : t327 ≤ (x0_1.length : Int)
              · rw [if_pos c7] at H
                have c7b0 := eq_true c7
                have c7b1 : decide (t327 ≤ (x0_1.length : Int)) = true := decide_eq_true c7
                clear c7
                obtain ⟨y339, hy339⟩ : ∃ y_ : List Int, y_ = (x0_1.take (t327 : Int).toNat) := ⟨_, rfl⟩
                replace H : (if y336.length + y339.length < 140737488355328 then ((some (([(y336 ++ y339)] : List (List Int)) : List (List Int))).bind fun y347 => (if x6_1.length + y347.length < 5864062014805 then (courierref01_Split.l0 k1 (x0_1.drop (t327 : Int).toNat) y333 (x6_1 ++ y347)) else (none))) else (none)) = some (r1, r2, r3) := by first | (rw [hy339]; with_reducible exact H) | (have H2_ := (Option.bind_some _ _).symm.trans H; rw [hy339]; with_reducible exact H2_) | (have H2_ := (Option.bind_some _ _).symm.trans H; with_reducible exact H2_) | with_reducible exact H | (rw [hy339]; exact H) | exact H
                have Ny339 := Aside0.mk hy339
                clear hy339
                by_cases c8 : y336.length + y339.length < 140737488355328
                · rw [if_pos c8] at H
                  have LMc8 := Aside0.mk c8
                  clear c8
                  obtain ⟨y344, hy344⟩ : ∃ y_ : List Int, y_ = (y336 ++ y339) := ⟨_, rfl⟩
                  replace H : ((some (([y344] : List (List Int)) : List (List Int))).bind fun y347 => (if x6_1.length + y347.length < 5864062014805 then (courierref01_Split.l0 k1 (x0_1.drop (t327 : Int).toNat) y333 (x6_1 ++ y347)) else (none))) = some (r1, r2, r3) := by first | (rw [hy344]; with_reducible exact H) | (have H2_ := (Option.bind_some _ _).symm.trans H; rw [hy344]; with_reducible exact H2_) | (have H2_ := (Option.bind_some _ _).symm.trans H; with_reducible exact H2_) | with_reducible exact H | (rw [hy344]; exact H) | exact H
                  have Ny344 := Aside0.mk hy344
                  clear hy344
                  obtain ⟨y347, hy347⟩ : ∃ y_ : List (List Int), y_ = (([y344] : List (List Int))) := ⟨_, rfl⟩
                  replace H : (if x6_1.length + y347.length < 5864062014805 then (courierref01_Split.l0 k1 (x0_1.drop (t327 : Int).toNat) y333 (x6_1 ++ y347)) else (none)) = some (r1, r2, r3) := by first | (rw [hy347]; with_reducible exact H) | (have H2_ := (Option.bind_some _ _).symm.trans H; rw [hy347]; with_reducible exact H2_) | (have H2_ := (Option.bind_some _ _).symm.trans H; with_reducible exact H2_) | with_reducible exact H | (rw [hy347]; exact H) | exact H
                  have Ny347 := Aside0.mk hy347
                  clear hy347
                  by_cases c9 : x6_1.length + y347.length < 5864062014805
                  · rw [if_pos c9] at H
                    have LMc9 := Aside0.mk c9
                    clear c9
                    obtain ⟨y350, hy350⟩ : ∃ y_ : List (List Int), y_ = (x6_1 ++ y347) := ⟨_, rfl⟩
                    replace H : (courierref01_Split.l0 k1 (x0_1.drop (t327 : Int).toNat) y333 y350) = some (r1, r2, r3) := by first | (rw [hy350]; with_reducible exact H) | (have H2_ := (Option.bind_some _ _).symm.trans H; rw [hy350]; with_reducible exact H2_) | (have H2_ := (Option.bind_some _ _).symm.trans H; with_reducible exact H2_) | with_reducible exact H | (rw [hy350]; exact H) | exact H
                    have Ny350 := Aside0.mk hy350
                    clear hy350
                    have c10b0 := eq_true (of_decide_eq_true (by first | (with_reducible assumption) | assumption) : 0 ≤ t327)
                    have c11b0 := eq_true (of_decide_eq_true (by first | (with_reducible assumption) | assumption) : t327 ≤ (x0_1.length : Int))
                    obtain ⟨y353, hy353⟩ : ∃ y_ : List Int, y_ = (x0_1.drop (t327 : Int).toNat) := ⟨_, rfl⟩
                    replace H : (courierref01_Split.l0 k1 y353 y333 y350) = some (r1, r2, r3) := by first | (rw [hy353]; with_reducible exact H) | (have H2_ := (Option.bind_some _ _).symm.trans H; rw [hy353]; with_reducible exact H2_) | (have H2_ := (Option.bind_some _ _).symm.trans H; with_reducible exact H2_) | with_reducible exact H | (rw [hy353]; exact H) | exact H
                    have Ny353 := Aside0.mk hy353
                    clear hy353
                    have H' := Aside0.mk H
                    clear H
                    obtain ⟨Ao12, co12, eo12⟩ := Kd.V_slice HO_0.out
                    subst eo12
                    try go_wp2_with (first | ((with_reducible refine gate_callee (f := 9) rfl ?_); refine goesL_ (some 15) rfl rfl Try.func9 (by kernel_rfl) rfl #[.slice Ao12 x0_1.length co12] rfl (by (try simp only [List.map_toArray, List.map_cons, List.map_nil]); first | done | rfl | (simp only [List.length_drop, List.length_take]; rfl)) ?_; (with_reducible refine (courierref01_TakeField.calls k1 _ _ x0_1 t321 t322 t323 t324 t327 t328 _ ?side1 ?side2 A3.out).mono ?_); (case side1 => repeat (first | exact (Kd.V_reads' HO_0.out).2.2 | (with_reducible refine Kd.C_alloc ?_ _) | (with_reducible refine Kd.C_drewN ?_ _) | (with_reducible refine Kd.C_drew ?_))); (case side2 => exact (Kd.V_reads' HO_0.out).2.1); rintro e w13 ⟨v325, rfl, ho0, hb⟩; refine ⟨_, rfl, ?_⟩; have n0_ := Aside0.mk (Kd.V_elder' (by (with_reducible repeat (first | apply Kd.V_alloc | apply Kd.V_drewN | apply Kd.V_drew)); exact HO_0.out) (Kd.R_base ho0) hb); have n1_ := Aside0.mk (Kd.N_elder' (by (with_reducible repeat (first | apply Kd.N_alloc | apply Kd.N_drewN | apply Kd.N_drew)); exact HO_5.out) (Kd.R_base ho0) hb); have n2_ := Aside0.mk (Kd.N_elder' (by (with_reducible repeat (first | apply Kd.N_alloc | apply Kd.N_drewN | apply Kd.N_drew)); exact HO_6.out) (Kd.R_base ho0) hb); have n3_ := Aside0.mk (Kd.R_lower (Kd.R_newM (M := fun k_ => (w.heap.size ≤ k_)) ho0 (below_size (by repeat (first | (with_reducible first | exact HB.out | apply below_alloc | apply pw_below_drewN | apply below_drew1) | exact HB.out))) (fun k_ h_ => h_)) (below_size (by repeat (first | (with_reducible first | exact HB.out | apply below_alloc | apply pw_below_drewN | apply below_drew1) | exact HB.out)))); have n4_ := Aside0.mk (below_step (by repeat (first | (with_reducible first | exact HB.out | apply below_alloc | apply pw_below_drewN | apply below_drew1) | exact HB.out)) hb); clear HO_0; clear HO_5; clear HO_6; clear HB; have HO_0 := n0_; have HO_5 := n1_; have HO_6 := n2_; have HO326 := n3_; have HB := n4_; clear n0_ n1_ n2_ n3_ n4_; (try clear hb); (try clear hb2); (try clear hk); (try clear hi); (try clear ho0)) | ((with_reducible refine gate_dst (N := 7) rfl ?_); refine box_event ?hg (N := 7) ?hd (cs := #[.int .i64 0, .int .i64 0, .int .u64 0, .slice none 0 0]) (t := 30) ?hr ?_; (case hd => rfl); (case hg => rfl); (case hr => first | (go_simp; done) | (go_simp; rfl)); intro gb329 hg w14 hbox hb; have n0_ := Aside0.mk (Kd.V_below (Kd.V_elderB (by (with_reducible repeat (first | apply Kd.V_alloc | apply Kd.V_drewN | apply Kd.V_drew)); exact HO_0.out) gb329 (Nat.le_of_eq hg.symm)) hb); have n1_ := Aside0.mk (Kd.N_below (Kd.N_elderB (by (with_reducible repeat (first | apply Kd.N_alloc | apply Kd.N_drewN | apply Kd.N_drew)); exact HO_5.out) gb329 (Nat.le_of_eq hg.symm)) hb); have n2_ := Aside0.mk (Kd.N_below (Kd.N_elderB (by (with_reducible repeat (first | apply Kd.N_alloc | apply Kd.N_drewN | apply Kd.N_drew)); exact HO_6.out) gb329 (Nat.le_of_eq hg.symm)) hb); have n3_ := Aside0.mk (Kd.R_below (by (with_reducible repeat (first | apply Kd.R_alloc | apply Kd.R_drewN | apply Kd.R_drew)); exact HO326.out) hb); have n4_ := Aside0.mk (below_step (by repeat (first | (with_reducible first | exact HB.out | apply below_alloc | apply pw_below_drewN | apply below_drew1) | exact HB.out)) hb); have n5_ := Aside0.mk (hbox); have n6_ := Aside0.mk ((by rw [hg]; exact (below_size (by repeat (first | (with_reducible first | exact HB.out | apply below_alloc | apply pw_below_drewN | apply below_drew1) | exact HB.out))) : w.heap.size ≤ gb329)); have n7_ := Aside0.mk ((by rw [hg]; exact (below_size (by repeat (first | (with_reducible first | exact HB.out | apply below_alloc | apply pw_below_drewN | apply below_drew1) | exact HB.out))) : w.heap.size ≤ gb329)); clear HO_0; clear HO_5; clear HO_6; clear HO326; clear HB; have HO_0 := n0_; have HO_5 := n1_; have HO_6 := n2_; have HO326 := n3_; have HB := n4_; have BK329 := n5_; have GW329 := n6_; have GE329 := n7_; clear n0_ n1_ n2_ n3_ n4_ n5_ n6_ n7_; clear hb hbox hg; have hcz15_0 : w14.cell? ⟨gb329, 0, none⟩ = some (.int .i64 0) := (blk_cell BK329.out 0).trans rfl; have hcz15_1 : w14.cell? ⟨gb329, 1, none⟩ = some (.int .i64 0) := (blk_cell BK329.out 1).trans rfl; have hcz15_2 : w14.cell? ⟨gb329, 2, none⟩ = some (.int .u64 0) := (blk_cell BK329.out 2).trans rfl; have hcz15_3 : w14.cell? ⟨gb329, 3, none⟩ = some (.slice none 0 0) := (blk_cell BK329.out 3).trans rfl; have hfz15_0 := blk_frozen BK329.out 0; have hfz15_1 := blk_frozen BK329.out 1; have hfz15_2 := blk_frozen BK329.out 2; have hfz15_3 := blk_frozen BK329.out 3; obtain ⟨Ao16, co16, eo16⟩ := Kd.R_slice HO326.out; subst eo16; obtain ⟨Ao17, co17, eo17⟩ := Kd.N_slice HO_5.out; subst eo17; obtain ⟨Ao18, co18, eo18⟩ := Kd.N_slice HO_6.out; subst eo18))
                    have n0_ : Aside0 (Kd.V (Kd.int .u8) 5 ((((w14.setCell ⟨gb329, 0, none⟩ (.int .i64 t321)).setCell ⟨gb329, 1, none⟩ (.int .i64 t322)).setCell ⟨gb329, 2, none⟩ (.int .u64 t323)).setCell ⟨gb329, 3, none⟩ (.slice Ao16 t324.length co16)) w.heap.size (fun k_ => (P0_ k_ ∨ w.heap.size ≤ k_) ∧ some k_ ≠ (.slice Ao17 x5_1.length co17 : Value).ownBlock ∧ some k_ ≠ (.slice Ao18 x6_1.length co18 : Value).ownBlock ∧ some k_ ≠ (.slice Ao16 t324.length co16 : Value).ownBlock ∧ k_ ≠ gb329) (.slice Ao12 x0_1.length co12) x0_1) := ⟨by (with_reducible repeat (first | apply Kd.V_alloc | apply Kd.V_drewN | apply Kd.V_drew)); exact Kd.V_mono (Kd.V_far (p := ⟨gb329, 3, none⟩) (Kd.V_far (p := ⟨gb329, 2, none⟩) (Kd.V_far (p := ⟨gb329, 1, none⟩) (Kd.V_far (p := ⟨gb329, 0, none⟩) (Kd.V_mono HO_0.out (fun k_ hk => (⟨hk, hk.2⟩ : _ ∧ k_ ≠ gb329))) (fun _ hk => hk.2) (.int .i64 t321)) (fun _ hk => hk.2) (.int .i64 t322)) (fun _ hk => hk.2) (.int .u64 t323)) (fun _ hk => hk.2) (.slice Ao16 t324.length co16)) (fun _ hk => ⟨hk.1.1.1.1, ⟨hk.1.1.1.2.1, ⟨hk.1.1.1.2.2, ⟨hk.1.1.2, hk.1.2⟩⟩⟩⟩)⟩
                    have n1_ : Aside0 (Kd.N k30 30 ((((w14.setCell ⟨gb329, 0, none⟩ (.int .i64 t321)).setCell ⟨gb329, 1, none⟩ (.int .i64 t322)).setCell ⟨gb329, 2, none⟩ (.int .u64 t323)).setCell ⟨gb329, 3, none⟩ (.slice Ao16 t324.length co16)) w.heap.size (fun k_ => (P0_ k_ ∨ w.heap.size ≤ k_) ∧ some k_ ≠ (.slice Ao18 x6_1.length co18 : Value).ownBlock ∧ some k_ ≠ (.slice Ao16 t324.length co16 : Value).ownBlock ∧ k_ ≠ gb329) (.slice Ao17 x5_1.length co17) x5_1) := ⟨by (with_reducible repeat (first | apply Kd.N_alloc | apply Kd.N_drewN | apply Kd.N_drew)); exact Kd.N_mono (Kd.N_far (p := ⟨gb329, 3, none⟩) (Kd.N_far (p := ⟨gb329, 2, none⟩) (Kd.N_far (p := ⟨gb329, 1, none⟩) (Kd.N_far (p := ⟨gb329, 0, none⟩) (Kd.N_mono HO_5.out (fun k_ hk => (⟨hk, hk.2⟩ : _ ∧ k_ ≠ gb329))) (fun _ hk => hk.2) (.int .i64 t321)) (fun _ hk => hk.2) (.int .i64 t322)) (fun _ hk => hk.2) (.int .u64 t323)) (fun _ hk => hk.2) (.slice Ao16 t324.length co16)) (fun _ hk => ⟨hk.1.1.1.1, ⟨hk.1.1.1.2, ⟨hk.1.1.2, hk.1.2⟩⟩⟩)⟩
                    have n2_ : Aside0 (Kd.N (Kd.slice 5 (Kd.int .u8)) 22 ((((w14.setCell ⟨gb329, 0, none⟩ (.int .i64 t321)).setCell ⟨gb329, 1, none⟩ (.int .i64 t322)).setCell ⟨gb329, 2, none⟩ (.int .u64 t323)).setCell ⟨gb329, 3, none⟩ (.slice Ao16 t324.length co16)) w.heap.size (fun k_ => (P0_ k_ ∨ w.heap.size ≤ k_) ∧ some k_ ≠ (.slice Ao17 x5_1.length co17 : Value).ownBlock ∧ some k_ ≠ (.slice Ao16 t324.length co16 : Value).ownBlock ∧ k_ ≠ gb329) (.slice Ao18 x6_1.length co18) x6_1) := ⟨by (with_reducible repeat (first | apply Kd.N_alloc | apply Kd.N_drewN | apply Kd.N_drew)); exact Kd.N_mono (Kd.N_far (p := ⟨gb329, 3, none⟩) (Kd.N_far (p := ⟨gb329, 2, none⟩) (Kd.N_far (p := ⟨gb329, 1, none⟩) (Kd.N_far (p := ⟨gb329, 0, none⟩) (Kd.N_mono HO_6.out (fun k_ hk => (⟨hk, hk.2⟩ : _ ∧ k_ ≠ gb329))) (fun _ hk => hk.2) (.int .i64 t321)) (fun _ hk => hk.2) (.int .i64 t322)) (fun _ hk => hk.2) (.int .u64 t323)) (fun _ hk => hk.2) (.slice Ao16 t324.length co16)) (fun _ hk => ⟨hk.1.1.1.1, ⟨hk.1.1.1.2, ⟨hk.1.1.2, hk.1.2⟩⟩⟩)⟩
                    have n3_ : Aside0 (Kd.R (Kd.int .u8) 5 ((((w14.setCell ⟨gb329, 0, none⟩ (.int .i64 t321)).setCell ⟨gb329, 1, none⟩ (.int .i64 t322)).setCell ⟨gb329, 2, none⟩ (.int .u64 t323)).setCell ⟨gb329, 3, none⟩ (.slice Ao16 t324.length co16)) w.heap.size (fun k_ => (w.heap.size ≤ k_)) (.slice Ao16 t324.length co16) t324) := ⟨by (with_reducible repeat (first | apply Kd.R_alloc | apply Kd.R_drewN | apply Kd.R_drew)); exact Kd.R_mono (Kd.R_far (p := ⟨gb329, 3, none⟩) (Kd.R_far (p := ⟨gb329, 2, none⟩) (Kd.R_far (p := ⟨gb329, 1, none⟩) (Kd.R_far (p := ⟨gb329, 0, none⟩) (Kd.R_types HO326.out BK329.out (by decide)) (fun _ hk => hk.2) (.int .i64 t321)) (fun _ hk => hk.2) (.int .i64 t322)) (fun _ hk => hk.2) (.int .u64 t323)) (fun _ hk => hk.2) (.slice Ao16 t324.length co16)) (fun _ hk => hk.1.1)⟩
                    have n4_ : Aside0 (((((w14.setCell ⟨gb329, 0, none⟩ (.int .i64 t321)).setCell ⟨gb329, 1, none⟩ (.int .i64 t322)).setCell ⟨gb329, 2, none⟩ (.int .u64 t323)).setCell ⟨gb329, 3, none⟩ (.slice Ao16 t324.length co16)).heap[gb329]? = some (.cells #[.int .i64 t321, .int .i64 t322, .int .u64 t323, .slice Ao16 t324.length co16] 30 (0, 0))) := ⟨by (with_reducible repeat (first | refine blk_drewN ?_ _ | refine blk_drew ?_ | refine blk_alloc ?_ _)); refine blk_put (cs := #[.int .i64 t321, .int .i64 t322, .int .u64 t323, .slice none 0 0]) ?_ 3 _ rfl; (with_reducible repeat (first | refine blk_drewN ?_ _ | refine blk_drew ?_ | refine blk_alloc ?_ _)); refine blk_put (cs := #[.int .i64 t321, .int .i64 t322, .int .u64 0, .slice none 0 0]) ?_ 2 _ rfl; (with_reducible repeat (first | refine blk_drewN ?_ _ | refine blk_drew ?_ | refine blk_alloc ?_ _)); refine blk_put (cs := #[.int .i64 t321, .int .i64 0, .int .u64 0, .slice none 0 0]) ?_ 1 _ rfl; (with_reducible repeat (first | refine blk_drewN ?_ _ | refine blk_drew ?_ | refine blk_alloc ?_ _)); refine blk_put (cs := #[.int .i64 0, .int .i64 0, .int .u64 0, .slice none 0 0]) ?_ 0 _ rfl; (with_reducible repeat (first | refine blk_drewN ?_ _ | refine blk_drew ?_ | refine blk_alloc ?_ _)); exact BK329.out⟩
                    have n5_ : Aside0 (Below w.heap.size w ((((w14.setCell ⟨gb329, 0, none⟩ (.int .i64 t321)).setCell ⟨gb329, 1, none⟩ (.int .i64 t322)).setCell ⟨gb329, 2, none⟩ (.int .u64 t323)).setCell ⟨gb329, 3, none⟩ (.slice Ao16 t324.length co16))) := ⟨by repeat (first | (with_reducible first | exact HB.out | apply below_alloc | apply pw_below_drewN | apply below_drew1 | refine below_set ?_ GE329.out) | exact HB.out)⟩
                    (try clear HO_0)
                    (try clear HO_5)
                    (try clear HO_6)
                    (try clear HO326)
                    (try clear BK329)
                    (try clear HB)
                    generalize ((((w14.setCell ⟨gb329, 0, none⟩ (.int .i64 t321)).setCell ⟨gb329, 1, none⟩ (.int .i64 t322)).setCell ⟨gb329, 2, none⟩ (.int .u64 t323)).setCell ⟨gb329, 3, none⟩ (.slice Ao16 t324.length co16)) = w19 at n0_ n1_ n2_ n3_ n4_ n5_ ⊢
                    have HO_0 := n0_
                    have HO_5 := n1_
                    have HO_6 := n2_
                    have HO326 := n3_
                    have BK329 := n4_
                    have HB := n5_
                    clear n0_ n1_ n2_ n3_ n4_ n5_
                    have n0_ := Aside0.mk (Kd.V_drew HO_0.out)
                    have n1_ := Aside0.mk (Kd.N_drew HO_5.out)
                    have n2_ := Aside0.mk (Kd.N_drew HO_6.out)
                    have n3_ := Aside0.mk (Kd.R_drew HO326.out)
                    have n4_ := Aside0.mk (blk_drew BK329.out)
                    have n5_ := Aside0.mk (below_drew1 HB.out)
                    clear HO_0
                    clear HO_5
                    clear HO_6
                    clear HO326
                    clear BK329
                    clear HB
                    have HO_0 := n0_
                    have HO_5 := n1_
                    have HO_6 := n2_
                    have HO326 := n3_
                    have BK329 := n4_
                    have HB := n5_
                    clear n0_ n1_ n2_ n3_ n4_ n5_
                    have q21 : (t327 : Int) ≤ ((x0_1.length : Int) : Int) := of_decide_eq_true (by first | (with_reducible assumption) | assumption)
                    obtain ⟨i021, hi021, _, hsz21, _⟩ := info_parts info5
                    have hroom21 : x0_1.length ≤ co12 := (Kd.V_reads' HO_0.out).2.1
                    have hC21 : Kd.F (Kd.int .u8) _ _ Ao12 x0_1.length x0_1 := (Kd.V_at (base := w.heap.size) HO_0.out).2.2
                    have hcut21 := cut_to (P := Try.prog) 22 5 .i64 Try.underlying22 hi021 Ao12 x0_1.length co12 t327 (of_decide_eq_true (by first | (with_reducible assumption) | assumption)) q21 hroom21
                    have hr21 := Kd.F_take (m := (t327 : Int).toNat) hC21 (by omega)
                    have hy21 : y339.length = (t327 : Int).toNat := (by rw [Ny339.out, List.length_take]; omega)
                    rw [← Ny339.out] at hr21
                    rw [← hy21] at hcut21
                    have HO343 := Aside0.mk (show Kd.V (Kd.int .u8) 5 _ w.heap.size _ (.slice Ao12 y339.length co12) y339 from Kd.V_mk (by omega) hr21)
                    have HC343 := Aside0.mk (show y339.length ≤ co12 from by omega)
                    clear hr21 hC21 hroom21 hi021 hsz21
                    have KY21 := Aside0.mk hy21
                    clear hy21
                    replace q21 := eq_true q21
                    refine start_ (n := 14) (S := fun w' => w'.cell? ⟨gb329, 0, none⟩ = some (.int .i64 t321) ∧ w'.cell? ⟨gb329, 1, none⟩ = some (.int .i64 t322) ∧ w'.cell? ⟨gb329, 2, none⟩ = some (.int .u64 t323) ∧ w'.cell? ⟨gb329, 3, none⟩ = some (.slice Ao16 t324.length co16)) (ds := []) #[false, false, false, false, false, false, false, false, false, false, false, false, false, false] (by kernel_rfl) rfl rfl ⟨(blk_cell BK329.out 0).trans rfl, (blk_cell BK329.out 1).trans rfl, (blk_cell BK329.out 2).trans rfl, (blk_cell BK329.out 3).trans rfl⟩ (fun hHeld => ?_); refine with_tabW courierref01_Split.tab7 courierref01_Split.bits7 (fun HT_ HW_ => ?_)
                    generalize w19.drew = w20 at HO_0 HO_5 HO_6 HO326 BK329 HB HO343 hHeld ⊢
                    refine pure_ (i := 0) (N := some 21) (v := ?_) (a' := ?_) #[true, false, false, false, false, false, false, false, false, false, false, false, false, false] rfl rfl (any_of HT_.out (by kernel_rfl)) (fun _ _ _ h => h) (Or.inl ⟨by rfl, ?_⟩) ?_ ?_
                    rotate_left
                    · intro w'
                      go_simp
                      with_reducible rfl
                    rotate_left
                    · simp only [Act.put, List.setIfInBounds_toArray, List.set_cons_zero, List.set_cons_succ, i64_w, i32_w]
                      rfl
                    refine pure_ (i := 4) (N := some 25) (v := ?_) (a' := ?_) #[true, false, false, false, true, false, false, false, false, false, false, false, false, false] rfl rfl (any_of HT_.out (by kernel_rfl)) (fun _ _ _ h => h) (Or.inl ⟨by rfl, ?_⟩) ?_ ?_
                    rotate_left
                    · intro w'
                      go_simp
                      with_reducible rfl
                    rotate_left
                    · simp only [Act.put, List.setIfInBounds_toArray, List.set_cons_zero, List.set_cons_succ, i64_w, i32_w]
                      rfl
                    refine pure_ (i := 6) (N := some 27) (v := ?_) (a' := ?_) #[true, false, false, false, true, false, true, false, false, false, false, false, false, false] rfl rfl (any_of HT_.out (by kernel_rfl)) (fun _ _ _ h => h) (Or.inl ⟨by rfl, ?_⟩) ?_ ?_
                    rotate_left
                    · intro w'
                      go_simp
                      with_reducible rfl
                    rotate_left
                    · simp only [Act.put, List.setIfInBounds_toArray, List.set_cons_zero, List.set_cons_succ, i64_w, i32_w]
                      rfl
                    refine pure_ (i := 7) (N := some 28) (v := ?_) (a' := ?_) #[true, false, false, false, true, false, true, true, false, false, false, false, false, false] rfl rfl (any_of HT_.out (by kernel_rfl)) (fun _ _ _ h => h) (Or.inl ⟨by rfl, ?_⟩) ?_ ?_
                    rotate_left
                    · intro w'
                      go_simp
                      with_reducible rfl
                    rotate_left
                    · simp only [Act.put, List.setIfInBounds_toArray, List.set_cons_zero, List.set_cons_succ, i64_w, i32_w]
                      rfl
                    refine pure_ (i := 8) (N := some 29) (v := ?_) (a' := ?_) #[true, false, false, false, true, false, true, true, true, false, false, false, false, false] rfl rfl (any_of HT_.out (by kernel_rfl)) (fun _ _ _ h => h) (Or.inl ⟨by rfl, ?_⟩) ?_ ?_
                    rotate_left
                    · intro w'
                      go_simp
                      with_reducible rfl
                    rotate_left
                    · simp only [Act.put, List.setIfInBounds_toArray, List.set_cons_zero, List.set_cons_succ, i64_w, i32_w]
                      rfl
                    refine take_ (i := 1) (N := some 22) (v := ?_) (a' := ?_) #[true, true, false, false, true, false, true, true, true, false, false, false, false, false] rfl rfl (take_ofW HT_.out HW_.out (by kernel_rfl)) (fun _ _ _ h => h) (Or.inl ⟨by rfl, ?_⟩) hHeld ?_ ?_
                    rotate_left
                    · rintro w' ⟨s0, s1, s2, s3⟩
                      go_simp
                      with_reducible rfl
                    rotate_left
                    · simp only [Act.put, List.setIfInBounds_toArray, List.set_cons_zero, List.set_cons_succ, i64_w, i32_w]
                      rfl
                    refine join_ (σ := Value × Value × Value) 5 #[true, true, true, true, true, true, true, true, true, false, false, false, false, false] (fun s_ => [(23, s_.1), (24, s_.2.1), (26, s_.2.2)]) (fun s_ w' => (w'.cell? ⟨gb329, 0, none⟩ = some (.int .i64 t321) ∧ w'.cell? ⟨gb329, 1, none⟩ = some (.int .i64 t322) ∧ w'.cell? ⟨gb329, 2, none⟩ = some (.int .u64 t323) ∧ w'.cell? ⟨gb329, 3, none⟩ = some (.slice Ao16 t324.length co16)) ∧ (Kd.N k30 30 w' w.heap.size (fun k_ => (P0_ k_ ∨ w.heap.size ≤ k_) ∧ some k_ ≠ (s_.2.1 : Value).ownBlock ∧ some k_ ≠ (s_.2.2 : Value).ownBlock ∧ some k_ ≠ (.slice Ao18 x6_1.length co18 : Value).ownBlock ∧ k_ ≠ gb329) s_.1 y330) ∧ (Kd.N k30 30 w' w.heap.size (fun k_ => (P0_ k_ ∨ w.heap.size ≤ k_) ∧ some k_ ≠ (s_.2.2 : Value).ownBlock ∧ some k_ ≠ (.slice Ao18 x6_1.length co18 : Value).ownBlock ∧ k_ ≠ gb329) s_.2.1 y333) ∧ (Kd.R (Kd.int .u8) 5 w' w.heap.size (fun k_ => (w.heap.size ≤ k_)) s_.2.2 y336) ∧ (Kd.V (Kd.int .u8) 5 w' w.heap.size (fun k_ => (P0_ k_ ∨ w.heap.size ≤ k_) ∧ some k_ ≠ (s_.1 : Value).ownBlock ∧ some k_ ≠ (s_.2.1 : Value).ownBlock ∧ some k_ ≠ (s_.2.2 : Value).ownBlock ∧ some k_ ≠ (.slice Ao18 x6_1.length co18 : Value).ownBlock ∧ k_ ≠ gb329) (.slice Ao12 y339.length co12) y339) ∧ (Kd.V (Kd.int .u8) 5 w' w.heap.size (fun k_ => (P0_ k_ ∨ w.heap.size ≤ k_) ∧ some k_ ≠ (s_.1 : Value).ownBlock ∧ some k_ ≠ (s_.2.1 : Value).ownBlock ∧ some k_ ≠ (s_.2.2 : Value).ownBlock ∧ some k_ ≠ (.slice Ao18 x6_1.length co18 : Value).ownBlock ∧ k_ ≠ gb329) (.slice Ao12 x0_1.length co12) x0_1) ∧ (Kd.N (Kd.slice 5 (Kd.int .u8)) 22 w' w.heap.size (fun k_ => (P0_ k_ ∨ w.heap.size ≤ k_) ∧ some k_ ≠ (s_.1 : Value).ownBlock ∧ some k_ ≠ (s_.2.1 : Value).ownBlock ∧ some k_ ≠ (s_.2.2 : Value).ownBlock ∧ k_ ≠ gb329) (.slice Ao18 x6_1.length co18) x6_1) ∧ (w'.heap[gb329]? = some (.cells #[.int .i64 t321, .int .i64 t322, .int .u64 t323, .slice Ao16 t324.length co16] 30 (0, 0))) ∧ (Below w.heap.size w w')) ?_ ?_
                    rotate_left
                    · intro hCont
                      refine two_ (i := 2) (j := 5) (Ni := some 23) (Nj := some 26) #[true, true, true, false, true, false, true, true, true, false, false, false, false, false] #[true, true, false, false, true, true, true, true, true, false, false, false, false, false] rfl rfl rfl rfl (two_of HT_.out (by kernel_rfl)) (by decide) (by decide) (fun K hK => ?_) (fun K hK => ?_)
                      · skip
                        refine Kd.N_lit_step k30 _ 30 ?hg (N' := 23) ?hd (xs := ([(⟨t321, t322, t323, t324⟩ : S30)] : List (S30))) (inner := [.int .i64 t321, .int .i64 t322, .int .u64 t323, .slice Ao16 t324.length co16]) (ok := (fun k_ => (P0_ k_ ∨ w.heap.size ≤ k_) ∧ some k_ ≠ (.slice Ao17 x5_1.length co17 : Value).ownBlock ∧ some k_ ≠ (.slice Ao18 x6_1.length co18 : Value).ownBlock ∧ k_ ≠ gb329)) (okp := (fun k_ => (P0_ k_ ∨ w.heap.size ≤ k_) ∧ some k_ ≠ (.slice Ao17 x5_1.length co17 : Value).ownBlock ∧ some k_ ≠ (.slice Ao18 x6_1.length co18 : Value).ownBlock ∧ k_ ≠ gb329)) ?hr ?hp (fun _ hk => hk) ((show ∀ k_, w20.heap.size ≤ k_ → (fun k_ => (P0_ k_ ∨ w.heap.size ≤ k_) ∧ some k_ ≠ (.slice Ao17 x5_1.length co17 : Value).ownBlock ∧ some k_ ≠ (.slice Ao18 x6_1.length co18 : Value).ownBlock ∧ k_ ≠ gb329) k_ from fun k_ hk => ⟨(.inr (Nat.le_trans (below_size (by repeat (first | (with_reducible first | exact HB.out | apply below_alloc | apply pw_below_drewN | apply below_drew1 | refine below_set ?_ GE329.out) | exact HB.out))) hk)), Kd.fresh' (Kd.N_lt (by (with_reducible repeat (first | apply Kd.N_alloc | apply Kd.N_drewN | apply Kd.N_drew)); exact HO_5.out)) k_ hk, Kd.fresh' (Kd.N_lt (by (with_reducible repeat (first | apply Kd.N_alloc | apply Kd.N_drewN | apply Kd.N_drew)); exact HO_6.out)) k_ hk, Kd.freshB (g := gb329) (o := .cells #[.int .i64 t321, .int .i64 t322, .int .u64 t323, .slice Ao16 t324.length co16] 30 (0, 0)) (by (with_reducible repeat (first | refine blk_drewN ?_ _ | refine blk_drew ?_ | refine blk_alloc ?_ _)); exact BK329.out) k_ hk⟩) _ (Nat.le_refl _)) (Below.refl _ _) (Nat.le_refl _) (by simp) ?_; (case hd => rfl); (case hg => rfl); (case hr => first | (go_simp; done) | (go_simp; rfl)); (case hp => exact (Reps.c4 (show Kd.FK k30 _ _ (⟨t321, t322, t323, t324⟩ : S30) [.int .i64 t321, .int .i64 t322, .int .u64 t323, .slice Ao16 t324.length co16] from (k30_mkF _ _ (⟨t321, t322, t323, t324⟩ : S30) (Kd.R_reads' (Kd.R_mono (ok' := (fun k_ => (P0_ k_ ∨ w.heap.size ≤ k_) ∧ some k_ ≠ (.slice Ao17 x5_1.length co17 : Value).ownBlock ∧ some k_ ≠ (.slice Ao18 x6_1.length co18 : Value).ownBlock ∧ k_ ≠ gb329)) (Kd.R_types (Kd.R_apart' (Kd.R_apart' (HO326.out) (Kd.N_typed HO_5.out) (by decide)) (Kd.N_typed HO_6.out) (by decide)) BK329.out (by decide)) (fun k_ hk => ⟨(.inr (hk.1.1.1)), ⟨hk.1.1.2, ⟨hk.1.2, hk.2⟩⟩⟩))).2.1 (Kd.R_F (Kd.R_mono (ok' := (fun k_ => (P0_ k_ ∨ w.heap.size ≤ k_) ∧ some k_ ≠ (.slice Ao17 x5_1.length co17 : Value).ownBlock ∧ some k_ ≠ (.slice Ao18 x6_1.length co18 : Value).ownBlock ∧ k_ ≠ gb329)) (Kd.R_types (Kd.R_apart' (Kd.R_apart' (HO326.out) (Kd.N_typed HO_5.out) (by decide)) (Kd.N_typed HO_6.out) (by decide)) BK329.out (by decide)) (fun k_ hk => ⟨(.inr (hk.1.1.1)), ⟨hk.1.1.2, ⟨hk.1.2, hk.2⟩⟩⟩))))) (Reps.none _ _)))
                        intro v331 w22 ho23 hb hg_ hnew_
                        clear hg_ hnew_
                        (first | rw [← Ny330.out] at ho23 | (simp only [Int.reduceToNat] at ho23; rw [← Ny330.out] at ho23))
                        have n0_ := Aside0.mk (Kd.V_elder' (by (with_reducible repeat (first | apply Kd.V_alloc | apply Kd.V_drewN | apply Kd.V_drew)); exact HO_0.out) (Kd.N_base ho23) hb)
                        have n1_ := Aside0.mk (Kd.N_elder' (by (with_reducible repeat (first | apply Kd.N_alloc | apply Kd.N_drewN | apply Kd.N_drew)); exact HO_5.out) (Kd.N_base ho23) hb)
                        have n2_ := Aside0.mk (Kd.N_elder' (by (with_reducible repeat (first | apply Kd.N_alloc | apply Kd.N_drewN | apply Kd.N_drew)); exact HO_6.out) (Kd.N_base ho23) hb)
                        have n3_ := Aside0.mk (Kd.V_elder' (by (with_reducible repeat (first | apply Kd.V_alloc | apply Kd.V_drewN | apply Kd.V_drew)); exact HO343.out) (Kd.N_base ho23) hb)
                        have n4_ := Aside0.mk (Kd.N_lower ho23 (below_size (by repeat (first | (with_reducible first | exact HB.out | apply below_alloc | apply pw_below_drewN | apply below_drew1 | refine below_set ?_ GE329.out) | exact HB.out))))
                        have n5_ := Aside0.mk (blk_below (g := gb329) (o := .cells #[.int .i64 t321, .int .i64 t322, .int .u64 t323, .slice Ao16 t324.length co16] 30 (0, 0)) (by (with_reducible repeat (first | refine blk_drewN ?_ _ | refine blk_drew ?_ | refine blk_alloc ?_ _)); exact BK329.out) hb)
                        have n6_ := Aside0.mk (below_step (by repeat (first | (with_reducible first | exact HB.out | apply below_alloc | apply pw_below_drewN | apply below_drew1 | refine below_set ?_ GE329.out) | exact HB.out)) hb)
                        clear HO_0
                        clear HO_5
                        clear HO_6
                        clear HO343
                        clear BK329
                        clear HB
                        clear HO326
                        have HO_0 := n0_
                        have HO_5 := n1_
                        have HO_6 := n2_
                        have HO343 := n3_
                        have HO332 := n4_
                        have BK329 := n5_
                        have HB := n6_
                        clear n0_ n1_ n2_ n3_ n4_ n5_ n6_
                        clear hb ho23
                        obtain ⟨Ao25, co25, eo25⟩ := Kd.N_slice HO332.out
                        (first | subst eo25 | (injection eo25 with f1_ f2_ f3_; have f4_ := f1_.symm; have f5_ := f3_.symm; clear f1_ f2_ f3_; subst f4_; subst f5_))
                        refine hK.out _ _ ⟨(blk_cell BK329.out 0).trans rfl, (blk_cell BK329.out 1).trans rfl, (blk_cell BK329.out 2).trans rfl, (blk_cell BK329.out 3).trans rfl⟩ (fun hHeld => ?_)
                        clear hK K
                        refine norm_ (a' := ?_) ?_ ?_
                        rotate_left
                        · show Act.put _ (some 23) _ = _
                          simp only [Act.put, List.setIfInBounds_toArray, List.set_cons_zero, List.set_cons_succ, i64_w, i32_w]
                          rfl
                        refine two_ (i := 3) (j := 5) (Ni := some 24) (Nj := some 26) #[true, true, true, true, true, false, true, true, true, false, false, false, false, false] #[true, true, true, false, true, true, true, true, true, false, false, false, false, false] rfl rfl rfl rfl (two_of HT_.out (by kernel_rfl)) (by decide) (by decide) (fun K hK => ?_) (fun K hK => ?_)
                        · skip
                          refine Kd.N_append_rows_step k30 (w0 := w) w.heap.size (by rfl) (.tmp 21) (.tmp 23) 46 30 (.agg #[(.int .i64 0), (.int .i64 0), (.int .u64 0), (.slice none 0 0)]) 48 rfl Try.underlying46 info30 rfl (by decide) (by omega) (.slice Ao17 x5_1.length co17) x5_1 y330 _ _ _ (fun k_ => (P0_ k_ ∨ w.heap.size ≤ k_) ∧ some k_ ≠ (.slice Ao18 x6_1.length co18 : Value).ownBlock ∧ k_ ≠ gb329) (fun k_ => ((fun k_ => (P0_ k_ ∨ w.heap.size ≤ k_) ∧ some k_ ≠ (.slice Ao18 x6_1.length co18 : Value).ownBlock ∧ k_ ≠ gb329)) k_ ∧ some k_ ≠ (.slice Ao17 x5_1.length co17 : Value).ownBlock) rfl rfl ?aO ?aR (fun _ hk => hk) ?aF ?aB ?aS ?aL ?_
                          (case aR => exact (by skip; exact Kd.N_F (Kd.N_mono (ok' := (fun k_ => ((fun k_ => (P0_ k_ ∨ w.heap.size ≤ k_) ∧ some k_ ≠ (.slice Ao18 x6_1.length co18 : Value).ownBlock ∧ k_ ≠ gb329)) k_ ∧ some k_ ≠ (.slice Ao17 x5_1.length co17 : Value).ownBlock)) (HO332.out) (fun k_ hk => ⟨⟨hk.1, ⟨hk.2.2.1, hk.2.2.2⟩⟩, hk.2.1⟩))))
                          (case aB => exact (by repeat (first | (with_reducible first | exact HB.out | apply below_alloc | apply pw_below_drewN | apply below_drew1 | refine below_set ?_ GE329.out) | exact HB.out)))
                          (case aF => exact (fun k_ hk => ⟨(.inr (Nat.le_trans (below_size (by repeat (first | (with_reducible first | exact HB.out | apply below_alloc | apply pw_below_drewN | apply below_drew1 | refine below_set ?_ GE329.out) | exact HB.out))) hk)), Kd.fresh' (Kd.N_lt (by (with_reducible repeat (first | apply Kd.N_alloc | apply Kd.N_drewN | apply Kd.N_drew)); exact HO_6.out)) k_ hk, Kd.freshB (g := gb329) (o := .cells #[.int .i64 t321, .int .i64 t322, .int .u64 t323, .slice Ao16 t324.length co16] 30 (0, 0)) (by (with_reducible repeat (first | refine blk_drewN ?_ _ | refine blk_drew ?_ | refine blk_alloc ?_ _)); exact BK329.out) k_ hk⟩))
                          (case aO => exact (by (with_reducible repeat (first | apply Kd.N_alloc | apply Kd.N_drewN | apply Kd.N_drew)); exact Kd.N_mono HO_5.out (fun _ hk => ⟨hk.1.1, ⟨hk.1.2.1, hk.1.2.2.2⟩⟩)))
                          (case aS => exact (below_size (by repeat (first | (with_reducible first | exact HB.out | apply below_alloc | apply pw_below_drewN | apply below_drew1 | refine below_set ?_ GE329.out) | exact HB.out))))
                          (case aL => have := LMc5.out; omega)
                          intro v334 w24 ho hb hg hat
                          rw [← Ny333.out] at ho
                          have n0_ := Aside0.mk (Kd.V_afterv (ok := (fun k_ => (P0_ k_ ∨ w.heap.size ≤ k_) ∧ some k_ ≠ (.slice Ao18 x6_1.length co18 : Value).ownBlock ∧ some k_ ≠ (.slice Ao25 y330.length co25 : Value).ownBlock ∧ k_ ≠ gb329)) (by (with_reducible repeat (first | apply Kd.V_alloc | apply Kd.V_drewN | apply Kd.V_drew)); exact Kd.V_mono HO_0.out (fun _ hk => ⟨⟨hk.1.1, ⟨hk.1.2.2.1, ⟨hk.2, hk.1.2.2.2.2⟩⟩⟩, hk.1.2.1⟩)) hg hat)
                          have n1_ := Aside0.mk (Kd.N_afterv (ok := (fun k_ => (P0_ k_ ∨ w.heap.size ≤ k_) ∧ some k_ ≠ (.slice Ao25 y330.length co25 : Value).ownBlock ∧ k_ ≠ gb329)) (by (with_reducible repeat (first | apply Kd.N_alloc | apply Kd.N_drewN | apply Kd.N_drew)); exact Kd.N_mono HO_6.out (fun _ hk => ⟨⟨hk.1.1, ⟨hk.2, hk.1.2.2.2⟩⟩, hk.1.2.1⟩)) hg hat)
                          have n2_ := Aside0.mk (blk_grown (g := gb329) (o := .cells #[.int .i64 t321, .int .i64 t322, .int .u64 t323, .slice Ao16 t324.length co16] 30 (0, 0)) (by (with_reducible repeat (first | refine blk_drewN ?_ _ | refine blk_drew ?_ | refine blk_alloc ?_ _)); exact BK329.out) hg (Kd.N_away HO_5.out (fun _ hk => hk.1.2.2.2)))
                          have n3_ := Aside0.mk (Kd.V_afterv (ok := (fun k_ => (P0_ k_ ∨ w.heap.size ≤ k_) ∧ some k_ ≠ (.slice Ao18 x6_1.length co18 : Value).ownBlock ∧ some k_ ≠ (.slice Ao25 y330.length co25 : Value).ownBlock ∧ k_ ≠ gb329)) (by (with_reducible repeat (first | apply Kd.V_alloc | apply Kd.V_drewN | apply Kd.V_drew)); exact Kd.V_mono HO343.out (fun _ hk => ⟨⟨hk.1.1, ⟨hk.1.2.2.1, ⟨hk.2, hk.1.2.2.2.2⟩⟩⟩, hk.1.2.1⟩)) hg hat)
                          have n4_ := Aside0.mk (Kd.N_afterv (ok := (fun k_ => (P0_ k_ ∨ w.heap.size ≤ k_) ∧ some k_ ≠ (.slice Ao18 x6_1.length co18 : Value).ownBlock ∧ k_ ≠ gb329)) (by (with_reducible repeat (first | apply Kd.N_alloc | apply Kd.N_drewN | apply Kd.N_drew)); exact Kd.N_mono HO332.out (fun _ hk => ⟨⟨hk.1, ⟨hk.2.2.1, hk.2.2.2⟩⟩, hk.2.1⟩)) hg hat)
                          have n5_ := Aside0.mk (hb)
                          have n6_ := Aside0.mk (ho)
                          clear HO_0
                          clear HO_6
                          clear BK329
                          clear HO343
                          clear HO332
                          clear HB
                          clear HO_5
                          have HO_0 := n0_
                          have HO_6 := n1_
                          have BK329 := n2_
                          have HO343 := n3_
                          have HO332 := n4_
                          have HB := n5_
                          have HO335 := n6_
                          clear n0_ n1_ n2_ n3_ n4_ n5_ n6_
                          clear ho hb hg hat
                          refine hK.out _ _ ⟨(blk_cell BK329.out 0).trans rfl, (blk_cell BK329.out 1).trans rfl, (blk_cell BK329.out 2).trans rfl, (blk_cell BK329.out 3).trans rfl⟩ (fun hHeld => ?_)
                          clear hK K
                          refine norm_ (a' := ?_) ?_ ?_
                          rotate_left
                          · show Act.put _ (some 24) _ = _
                            simp only [Act.put, List.setIfInBounds_toArray, List.set_cons_zero, List.set_cons_succ, i64_w, i32_w]
                            rfl
                          refine one_ (i := 5) (N := some 26) #[true, true, true, true, true, true, true, true, true, false, false, false, false, false] rfl rfl (one_of HT_.out (by kernel_rfl)) (by decide) (fun K hK => ?_)
                          refine Kd.R_lit_step (Kd.int .u8) _ 5 ?hg (N := 26) ?hd (xs := ([] : List Int)) (inner := []) (ok := fun _ => True) (okp := fun _ => True) ?hr ?hp (fun _ hk => hk) trivial (Below.refl _ _) (Nat.le_refl _) (by simp) ?_; (case hd => rfl); (case hg => rfl); (case hr => first | (go_simp; done) | (go_simp; rfl)); (case hp => exact (Reps.none _ _))
                          intro v337 w26 ho27 hb hg_ hnew_
                          clear hg_ hnew_
                          (first | rw [← Ny336.out] at ho27 | (simp only [Int.reduceToNat] at ho27; rw [← Ny336.out] at ho27))
                          have n0_ := Aside0.mk (Kd.V_elder' (by (with_reducible repeat (first | apply Kd.V_alloc | apply Kd.V_drewN | apply Kd.V_drew)); exact HO_0.out) (Kd.R_base ho27) hb)
                          have n1_ := Aside0.mk (Kd.N_elder' (by (with_reducible repeat (first | apply Kd.N_alloc | apply Kd.N_drewN | apply Kd.N_drew)); exact HO_6.out) (Kd.R_base ho27) hb)
                          have n2_ := Aside0.mk (Kd.V_elder' (by (with_reducible repeat (first | apply Kd.V_alloc | apply Kd.V_drewN | apply Kd.V_drew)); exact HO343.out) (Kd.R_base ho27) hb)
                          have n3_ := Aside0.mk (Kd.N_elder' (by (with_reducible repeat (first | apply Kd.N_alloc | apply Kd.N_drewN | apply Kd.N_drew)); exact HO332.out) (Kd.R_base ho27) hb)
                          have n4_ := Aside0.mk (Kd.N_elder' (by (with_reducible repeat (first | apply Kd.N_alloc | apply Kd.N_drewN | apply Kd.N_drew)); exact HO335.out) (Kd.R_base ho27) hb)
                          have n5_ := Aside0.mk (Kd.R_lower (Kd.R_newM (M := fun k_ => (w.heap.size ≤ k_)) ho27 (below_size (by repeat (first | (with_reducible first | exact HB.out | apply below_alloc | apply pw_below_drewN | apply below_drew1 | refine below_set ?_ GE329.out) | exact HB.out))) (fun k_ h_ => h_)) (below_size (by repeat (first | (with_reducible first | exact HB.out | apply below_alloc | apply pw_below_drewN | apply below_drew1 | refine below_set ?_ GE329.out) | exact HB.out))))
                          have n6_ := Aside0.mk (blk_below (g := gb329) (o := .cells #[.int .i64 t321, .int .i64 t322, .int .u64 t323, .slice Ao16 t324.length co16] 30 (0, 0)) (by (with_reducible repeat (first | refine blk_drewN ?_ _ | refine blk_drew ?_ | refine blk_alloc ?_ _)); exact BK329.out) hb)
                          have n7_ := Aside0.mk (below_step (by repeat (first | (with_reducible first | exact HB.out | apply below_alloc | apply pw_below_drewN | apply below_drew1 | refine below_set ?_ GE329.out) | exact HB.out)) hb)
                          clear HO_0
                          clear HO_6
                          clear HO343
                          clear HO332
                          clear HO335
                          clear BK329
                          clear HB
                          have HO_0 := n0_
                          have HO_6 := n1_
                          have HO343 := n2_
                          have HO332 := n3_
                          have HO335 := n4_
                          have HO338 := n5_
                          have BK329 := n6_
                          have HB := n7_
                          clear n0_ n1_ n2_ n3_ n4_ n5_ n6_ n7_
                          clear hb ho27
                          refine hK.out _ _ ⟨(blk_cell BK329.out 0).trans rfl, (blk_cell BK329.out 1).trans rfl, (blk_cell BK329.out 2).trans rfl, (blk_cell BK329.out 3).trans rfl⟩ (fun hHeld => ?_)
                          clear hK K
                          refine norm_ (a' := ?_) ?_ ?_
                          rotate_left
                          · show Act.put _ (some 26) _ = _
                            simp only [Act.put, List.setIfInBounds_toArray, List.set_cons_zero, List.set_cons_succ, i64_w, i32_w]
                            rfl
                          exact norm_ (by simp only [putAll, Act.put, List.setIfInBounds_toArray, List.set_cons_zero, List.set_cons_succ]) (hCont (.slice Ao25 y330.length co25, v334, v337) _ ⟨hHeld, (by (with_reducible repeat (first | apply Kd.N_alloc | apply Kd.N_drewN | apply Kd.N_drew)); exact Kd.N_mono HO332.out (fun _ hk => ⟨hk.1.1.1, ⟨hk.1.2, ⟨hk.2, ⟨hk.1.1.2.1, hk.1.1.2.2⟩⟩⟩⟩)), (by (with_reducible repeat (first | apply Kd.N_alloc | apply Kd.N_drewN | apply Kd.N_drew)); exact Kd.N_mono HO335.out (fun _ hk => ⟨hk.1.1, ⟨hk.2, ⟨hk.1.2.1, hk.1.2.2⟩⟩⟩)), (by (with_reducible repeat (first | apply Kd.R_alloc | apply Kd.R_drewN | apply Kd.R_drew)); exact Kd.R_mono HO338.out (fun _ hk => hk.1)), (by (with_reducible repeat (first | apply Kd.V_alloc | apply Kd.V_drewN | apply Kd.V_drew)); exact Kd.V_mono HO343.out (fun _ hk => ⟨hk.1.1.1, ⟨hk.1.1.2.2.1, ⟨hk.1.2, ⟨hk.2, ⟨hk.1.1.2.1, hk.1.1.2.2.2⟩⟩⟩⟩⟩)), (by (with_reducible repeat (first | apply Kd.V_alloc | apply Kd.V_drewN | apply Kd.V_drew)); exact Kd.V_mono HO_0.out (fun _ hk => ⟨hk.1.1.1, ⟨hk.1.1.2.2.1, ⟨hk.1.2, ⟨hk.2, ⟨hk.1.1.2.1, hk.1.1.2.2.2⟩⟩⟩⟩⟩)), (by (with_reducible repeat (first | apply Kd.N_alloc | apply Kd.N_drewN | apply Kd.N_drew)); exact Kd.N_mono HO_6.out (fun _ hk => ⟨hk.1.1.1, ⟨hk.1.1.2.1, ⟨hk.1.2, ⟨hk.2, hk.1.1.2.2⟩⟩⟩⟩)), (by (with_reducible repeat (first | refine blk_drewN ?_ _ | refine blk_drew ?_ | refine blk_alloc ?_ _)); exact BK329.out), (by repeat (first | (with_reducible first | exact HB.out | apply below_alloc | apply pw_below_drewN | apply below_drew1 | refine below_set ?_ GE329.out) | exact HB.out))⟩)
                        · skip
                          refine Kd.R_lit_step (Kd.int .u8) _ 5 ?hg (N := 26) ?hd (xs := ([] : List Int)) (inner := []) (ok := fun _ => True) (okp := fun _ => True) ?hr ?hp (fun _ hk => hk) trivial (Below.refl _ _) (Nat.le_refl _) (by simp) ?_; (case hd => rfl); (case hg => rfl); (case hr => first | (go_simp; done) | (go_simp; rfl)); (case hp => exact (Reps.none _ _))
                          intro v337 w24 ho25 hb hg_ hnew_
                          clear hg_ hnew_
                          (first | rw [← Ny336.out] at ho25 | (simp only [Int.reduceToNat] at ho25; rw [← Ny336.out] at ho25))
                          have n0_ := Aside0.mk (Kd.V_elder' (by (with_reducible repeat (first | apply Kd.V_alloc | apply Kd.V_drewN | apply Kd.V_drew)); exact HO_0.out) (Kd.R_base ho25) hb)
                          have n1_ := Aside0.mk (Kd.N_elder' (by (with_reducible repeat (first | apply Kd.N_alloc | apply Kd.N_drewN | apply Kd.N_drew)); exact HO_5.out) (Kd.R_base ho25) hb)
                          have n2_ := Aside0.mk (Kd.N_elder' (by (with_reducible repeat (first | apply Kd.N_alloc | apply Kd.N_drewN | apply Kd.N_drew)); exact HO_6.out) (Kd.R_base ho25) hb)
                          have n3_ := Aside0.mk (Kd.V_elder' (by (with_reducible repeat (first | apply Kd.V_alloc | apply Kd.V_drewN | apply Kd.V_drew)); exact HO343.out) (Kd.R_base ho25) hb)
                          have n4_ := Aside0.mk (Kd.N_elder' (by (with_reducible repeat (first | apply Kd.N_alloc | apply Kd.N_drewN | apply Kd.N_drew)); exact HO332.out) (Kd.R_base ho25) hb)
                          have n5_ := Aside0.mk (Kd.R_lower (Kd.R_newM (M := fun k_ => (w.heap.size ≤ k_)) ho25 (below_size (by repeat (first | (with_reducible first | exact HB.out | apply below_alloc | apply pw_below_drewN | apply below_drew1 | refine below_set ?_ GE329.out) | exact HB.out))) (fun k_ h_ => h_)) (below_size (by repeat (first | (with_reducible first | exact HB.out | apply below_alloc | apply pw_below_drewN | apply below_drew1 | refine below_set ?_ GE329.out) | exact HB.out))))
                          have n6_ := Aside0.mk (blk_below (g := gb329) (o := .cells #[.int .i64 t321, .int .i64 t322, .int .u64 t323, .slice Ao16 t324.length co16] 30 (0, 0)) (by (with_reducible repeat (first | refine blk_drewN ?_ _ | refine blk_drew ?_ | refine blk_alloc ?_ _)); exact BK329.out) hb)
                          have n7_ := Aside0.mk (below_step (by repeat (first | (with_reducible first | exact HB.out | apply below_alloc | apply pw_below_drewN | apply below_drew1 | refine below_set ?_ GE329.out) | exact HB.out)) hb)
                          clear HO_0
                          clear HO_5
                          clear HO_6
                          clear HO343
                          clear HO332
                          clear BK329
                          clear HB
                          have HO_0 := n0_
                          have HO_5 := n1_
                          have HO_6 := n2_
                          have HO343 := n3_
                          have HO332 := n4_
                          have HO338 := n5_
                          have BK329 := n6_
                          have HB := n7_
                          clear n0_ n1_ n2_ n3_ n4_ n5_ n6_ n7_
                          clear hb ho25
                          obtain ⟨Ao27, co27, eo27⟩ := Kd.N_slice HO332.out
                          (first | subst eo27 | (injection eo27 with f1_ f2_ f3_; have f4_ := f1_.symm; have f5_ := f3_.symm; clear f1_ f2_ f3_; subst f4_; subst f5_))
                          refine hK.out _ _ ⟨(blk_cell BK329.out 0).trans rfl, (blk_cell BK329.out 1).trans rfl, (blk_cell BK329.out 2).trans rfl, (blk_cell BK329.out 3).trans rfl⟩ (fun hHeld => ?_)
                          clear hK K
                          refine norm_ (a' := ?_) ?_ ?_
                          rotate_left
                          · show Act.put _ (some 26) _ = _
                            simp only [Act.put, List.setIfInBounds_toArray, List.set_cons_zero, List.set_cons_succ, i64_w, i32_w]
                            rfl
                          refine one_ (i := 3) (N := some 24) #[true, true, true, true, true, true, true, true, true, false, false, false, false, false] rfl rfl (one_of HT_.out (by kernel_rfl)) (by decide) (fun K hK => ?_)
                          refine Kd.N_append_rows_step k30 (w0 := w) w.heap.size (by rfl) (.tmp 21) (.tmp 23) 46 30 (.agg #[(.int .i64 0), (.int .i64 0), (.int .u64 0), (.slice none 0 0)]) 48 rfl Try.underlying46 info30 rfl (by decide) (by omega) (.slice Ao17 x5_1.length co17) x5_1 y330 _ _ _ (fun k_ => (P0_ k_ ∨ w.heap.size ≤ k_) ∧ some k_ ≠ (.slice Ao18 x6_1.length co18 : Value).ownBlock ∧ some k_ ≠ (v337 : Value).ownBlock ∧ k_ ≠ gb329) (fun k_ => ((fun k_ => (P0_ k_ ∨ w.heap.size ≤ k_) ∧ some k_ ≠ (.slice Ao18 x6_1.length co18 : Value).ownBlock ∧ some k_ ≠ (v337 : Value).ownBlock ∧ k_ ≠ gb329)) k_ ∧ some k_ ≠ (.slice Ao17 x5_1.length co17 : Value).ownBlock) rfl rfl ?aO ?aR (fun _ hk => hk) ?aF ?aB ?aS ?aL ?_
                          (case aR => exact (by skip; exact Kd.N_F (Kd.N_mono (ok' := (fun k_ => ((fun k_ => (P0_ k_ ∨ w.heap.size ≤ k_) ∧ some k_ ≠ (.slice Ao18 x6_1.length co18 : Value).ownBlock ∧ some k_ ≠ (v337 : Value).ownBlock ∧ k_ ≠ gb329)) k_ ∧ some k_ ≠ (.slice Ao17 x5_1.length co17 : Value).ownBlock)) (HO332.out) (fun k_ hk => ⟨⟨hk.1.1, ⟨hk.1.2.2.1, ⟨hk.2, hk.1.2.2.2⟩⟩⟩, hk.1.2.1⟩))))
                          (case aB => exact (by repeat (first | (with_reducible first | exact HB.out | apply below_alloc | apply pw_below_drewN | apply below_drew1 | refine below_set ?_ GE329.out) | exact HB.out)))
                          (case aF => exact (fun k_ hk => ⟨(.inr (Nat.le_trans (below_size (by repeat (first | (with_reducible first | exact HB.out | apply below_alloc | apply pw_below_drewN | apply below_drew1 | refine below_set ?_ GE329.out) | exact HB.out))) hk)), Kd.fresh' (Kd.N_lt (by (with_reducible repeat (first | apply Kd.N_alloc | apply Kd.N_drewN | apply Kd.N_drew)); exact HO_6.out)) k_ hk, Kd.fresh' (Kd.R_lt (by (with_reducible repeat (first | apply Kd.R_alloc | apply Kd.R_drewN | apply Kd.R_drew)); exact HO338.out)) k_ hk, Kd.freshB (g := gb329) (o := .cells #[.int .i64 t321, .int .i64 t322, .int .u64 t323, .slice Ao16 t324.length co16] 30 (0, 0)) (by (with_reducible repeat (first | refine blk_drewN ?_ _ | refine blk_drew ?_ | refine blk_alloc ?_ _)); exact BK329.out) k_ hk⟩))
                          (case aO => exact (by (with_reducible repeat (first | apply Kd.N_alloc | apply Kd.N_drewN | apply Kd.N_drew)); exact Kd.N_mono HO_5.out (fun _ hk => ⟨hk.1.1.1, ⟨hk.1.1.2.1, ⟨hk.2, hk.1.1.2.2.2⟩⟩⟩)))
                          (case aS => exact (below_size (by repeat (first | (with_reducible first | exact HB.out | apply below_alloc | apply pw_below_drewN | apply below_drew1 | refine below_set ?_ GE329.out) | exact HB.out))))
                          (case aL => have := LMc5.out; omega)
                          intro v334 w26 ho hb hg hat
                          rw [← Ny333.out] at ho
                          have n0_ := Aside0.mk (Kd.V_afterv (ok := (fun k_ => (P0_ k_ ∨ w.heap.size ≤ k_) ∧ some k_ ≠ (.slice Ao18 x6_1.length co18 : Value).ownBlock ∧ some k_ ≠ (.slice Ao27 y330.length co27 : Value).ownBlock ∧ some k_ ≠ (v337 : Value).ownBlock ∧ k_ ≠ gb329)) (by (with_reducible repeat (first | apply Kd.V_alloc | apply Kd.V_drewN | apply Kd.V_drew)); exact Kd.V_mono HO_0.out (fun _ hk => ⟨⟨hk.1.1.1, ⟨hk.1.1.2.2.1, ⟨hk.1.2, ⟨hk.2, hk.1.1.2.2.2.2⟩⟩⟩⟩, hk.1.1.2.1⟩)) hg hat)
                          have n1_ := Aside0.mk (Kd.N_afterv (ok := (fun k_ => (P0_ k_ ∨ w.heap.size ≤ k_) ∧ some k_ ≠ (.slice Ao27 y330.length co27 : Value).ownBlock ∧ some k_ ≠ (v337 : Value).ownBlock ∧ k_ ≠ gb329)) (by (with_reducible repeat (first | apply Kd.N_alloc | apply Kd.N_drewN | apply Kd.N_drew)); exact Kd.N_mono HO_6.out (fun _ hk => ⟨⟨hk.1.1.1, ⟨hk.1.2, ⟨hk.2, hk.1.1.2.2.2⟩⟩⟩, hk.1.1.2.1⟩)) hg hat)
                          have n2_ := Aside0.mk (blk_grown (g := gb329) (o := .cells #[.int .i64 t321, .int .i64 t322, .int .u64 t323, .slice Ao16 t324.length co16] 30 (0, 0)) (by (with_reducible repeat (first | refine blk_drewN ?_ _ | refine blk_drew ?_ | refine blk_alloc ?_ _)); exact BK329.out) hg (Kd.N_away HO_5.out (fun _ hk => hk.1.1.2.2.2)))
                          have n3_ := Aside0.mk (Kd.V_afterv (ok := (fun k_ => (P0_ k_ ∨ w.heap.size ≤ k_) ∧ some k_ ≠ (.slice Ao18 x6_1.length co18 : Value).ownBlock ∧ some k_ ≠ (.slice Ao27 y330.length co27 : Value).ownBlock ∧ some k_ ≠ (v337 : Value).ownBlock ∧ k_ ≠ gb329)) (by (with_reducible repeat (first | apply Kd.V_alloc | apply Kd.V_drewN | apply Kd.V_drew)); exact Kd.V_mono HO343.out (fun _ hk => ⟨⟨hk.1.1.1, ⟨hk.1.1.2.2.1, ⟨hk.1.2, ⟨hk.2, hk.1.1.2.2.2.2⟩⟩⟩⟩, hk.1.1.2.1⟩)) hg hat)
                          have n4_ := Aside0.mk (Kd.N_afterv (ok := (fun k_ => (P0_ k_ ∨ w.heap.size ≤ k_) ∧ some k_ ≠ (.slice Ao18 x6_1.length co18 : Value).ownBlock ∧ some k_ ≠ (v337 : Value).ownBlock ∧ k_ ≠ gb329)) (by (with_reducible repeat (first | apply Kd.N_alloc | apply Kd.N_drewN | apply Kd.N_drew)); exact Kd.N_mono HO332.out (fun _ hk => ⟨⟨hk.1.1, ⟨hk.1.2.2.1, ⟨hk.2, hk.1.2.2.2⟩⟩⟩, hk.1.2.1⟩)) hg hat)
                          have n5_ := Aside0.mk (Kd.R_over' (by (with_reducible repeat (first | apply Kd.R_alloc | apply Kd.R_drewN | apply Kd.R_drew)); exact HO338.out) (Kd.N_typed (by (with_reducible repeat (first | apply Kd.N_alloc | apply Kd.N_drewN | apply Kd.N_drew)); exact HO_5.out)) (by decide) hg)
                          have n6_ := Aside0.mk (hb)
                          have n7_ := Aside0.mk (ho)
                          clear HO_0
                          clear HO_6
                          clear BK329
                          clear HO343
                          clear HO332
                          clear HO338
                          clear HB
                          clear HO_5
                          have HO_0 := n0_
                          have HO_6 := n1_
                          have BK329 := n2_
                          have HO343 := n3_
                          have HO332 := n4_
                          have HO338 := n5_
                          have HB := n6_
                          have HO335 := n7_
                          clear n0_ n1_ n2_ n3_ n4_ n5_ n6_ n7_
                          clear ho hb hg hat
                          refine hK.out _ _ ⟨(blk_cell BK329.out 0).trans rfl, (blk_cell BK329.out 1).trans rfl, (blk_cell BK329.out 2).trans rfl, (blk_cell BK329.out 3).trans rfl⟩ (fun hHeld => ?_)
                          clear hK K
                          refine norm_ (a' := ?_) ?_ ?_
                          rotate_left
                          · show Act.put _ (some 24) _ = _
                            simp only [Act.put, List.setIfInBounds_toArray, List.set_cons_zero, List.set_cons_succ, i64_w, i32_w]
                            rfl
                          exact norm_ (by simp only [putAll, Act.put, List.setIfInBounds_toArray, List.set_cons_zero, List.set_cons_succ]) (hCont (.slice Ao27 y330.length co27, v334, v337) _ ⟨hHeld, (by (with_reducible repeat (first | apply Kd.N_alloc | apply Kd.N_drewN | apply Kd.N_drew)); exact Kd.N_mono HO332.out (fun _ hk => ⟨hk.1.1, ⟨hk.2, ⟨hk.1.2.2.1, ⟨hk.1.2.1, hk.1.2.2.2⟩⟩⟩⟩)), (by (with_reducible repeat (first | apply Kd.N_alloc | apply Kd.N_drewN | apply Kd.N_drew)); exact Kd.N_mono HO335.out (fun _ hk => ⟨hk.1, ⟨hk.2.2.1, ⟨hk.2.1, hk.2.2.2⟩⟩⟩)), (by (with_reducible repeat (first | apply Kd.R_alloc | apply Kd.R_drewN | apply Kd.R_drew)); exact Kd.R_mono HO338.out (fun _ hk => hk.1)), (by (with_reducible repeat (first | apply Kd.V_alloc | apply Kd.V_drewN | apply Kd.V_drew)); exact Kd.V_mono HO343.out (fun _ hk => ⟨hk.1.1, ⟨hk.1.2.2.1, ⟨hk.2, ⟨hk.1.2.2.2.1, ⟨hk.1.2.1, hk.1.2.2.2.2⟩⟩⟩⟩⟩)), (by (with_reducible repeat (first | apply Kd.V_alloc | apply Kd.V_drewN | apply Kd.V_drew)); exact Kd.V_mono HO_0.out (fun _ hk => ⟨hk.1.1, ⟨hk.1.2.2.1, ⟨hk.2, ⟨hk.1.2.2.2.1, ⟨hk.1.2.1, hk.1.2.2.2.2⟩⟩⟩⟩⟩)), (by (with_reducible repeat (first | apply Kd.N_alloc | apply Kd.N_drewN | apply Kd.N_drew)); exact Kd.N_mono HO_6.out (fun _ hk => ⟨hk.1.1, ⟨hk.1.2.1, ⟨hk.2, ⟨hk.1.2.2.1, hk.1.2.2.2⟩⟩⟩⟩)), (by (with_reducible repeat (first | refine blk_drewN ?_ _ | refine blk_drew ?_ | refine blk_alloc ?_ _)); exact BK329.out), (by repeat (first | (with_reducible first | exact HB.out | apply below_alloc | apply pw_below_drewN | apply below_drew1 | refine below_set ?_ GE329.out) | exact HB.out))⟩)
                      · skip
                        refine Kd.R_lit_step (Kd.int .u8) _ 5 ?hg (N := 26) ?hd (xs := ([] : List Int)) (inner := []) (ok := fun _ => True) (okp := fun _ => True) ?hr ?hp (fun _ hk => hk) trivial (Below.refl _ _) (Nat.le_refl _) (by simp) ?_; (case hd => rfl); (case hg => rfl); (case hr => first | (go_simp; done) | (go_simp; rfl)); (case hp => exact (Reps.none _ _))
                        intro v337 w22 ho23 hb hg_ hnew_
                        clear hg_ hnew_
                        (first | rw [← Ny336.out] at ho23 | (simp only [Int.reduceToNat] at ho23; rw [← Ny336.out] at ho23))
                        have n0_ := Aside0.mk (Kd.V_elder' (by (with_reducible repeat (first | apply Kd.V_alloc | apply Kd.V_drewN | apply Kd.V_drew)); exact HO_0.out) (Kd.R_base ho23) hb)
                        have n1_ := Aside0.mk (Kd.N_elder' (by (with_reducible repeat (first | apply Kd.N_alloc | apply Kd.N_drewN | apply Kd.N_drew)); exact HO_5.out) (Kd.R_base ho23) hb)
                        have n2_ := Aside0.mk (Kd.N_elder' (by (with_reducible repeat (first | apply Kd.N_alloc | apply Kd.N_drewN | apply Kd.N_drew)); exact HO_6.out) (Kd.R_base ho23) hb)
                        have n3_ := Aside0.mk (Kd.R_elder' (by (with_reducible repeat (first | apply Kd.R_alloc | apply Kd.R_drewN | apply Kd.R_drew)); exact HO326.out) (Kd.R_base ho23) hb)
                        have n4_ := Aside0.mk (Kd.V_elder' (by (with_reducible repeat (first | apply Kd.V_alloc | apply Kd.V_drewN | apply Kd.V_drew)); exact HO343.out) (Kd.R_base ho23) hb)
                        have n5_ := Aside0.mk (Kd.R_lower (Kd.R_new' (Kd.R_newM (M := fun k_ => (w.heap.size ≤ k_)) ho23 (below_size (by repeat (first | (with_reducible first | exact HB.out | apply below_alloc | apply pw_below_drewN | apply below_drew1 | refine below_set ?_ GE329.out) | exact HB.out))) (fun k_ h_ => h_)) (Kd.R_lt (by (with_reducible repeat (first | apply Kd.R_alloc | apply Kd.R_drewN | apply Kd.R_drew)); exact HO326.out))) (below_size (by repeat (first | (with_reducible first | exact HB.out | apply below_alloc | apply pw_below_drewN | apply below_drew1 | refine below_set ?_ GE329.out) | exact HB.out))))
                        have n6_ := Aside0.mk (blk_below (g := gb329) (o := .cells #[.int .i64 t321, .int .i64 t322, .int .u64 t323, .slice Ao16 t324.length co16] 30 (0, 0)) (by (with_reducible repeat (first | refine blk_drewN ?_ _ | refine blk_drew ?_ | refine blk_alloc ?_ _)); exact BK329.out) hb)
                        have n7_ := Aside0.mk (below_step (by repeat (first | (with_reducible first | exact HB.out | apply below_alloc | apply pw_below_drewN | apply below_drew1 | refine below_set ?_ GE329.out) | exact HB.out)) hb)
                        clear HO_0
                        clear HO_5
                        clear HO_6
                        clear HO326
                        clear HO343
                        clear BK329
                        clear HB
                        have HO_0 := n0_
                        have HO_5 := n1_
                        have HO_6 := n2_
                        have HO326 := n3_
                        have HO343 := n4_
                        have HO338 := n5_
                        have BK329 := n6_
                        have HB := n7_
                        clear n0_ n1_ n2_ n3_ n4_ n5_ n6_ n7_
                        clear hb ho23
                        refine hK.out _ _ ⟨(blk_cell BK329.out 0).trans rfl, (blk_cell BK329.out 1).trans rfl, (blk_cell BK329.out 2).trans rfl, (blk_cell BK329.out 3).trans rfl⟩ (fun hHeld => ?_)
                        clear hK K
                        refine norm_ (a' := ?_) ?_ ?_
                        rotate_left
                        · show Act.put _ (some 26) _ = _
                          simp only [Act.put, List.setIfInBounds_toArray, List.set_cons_zero, List.set_cons_succ, i64_w, i32_w]
                          rfl
                        refine one_ (i := 2) (N := some 23) #[true, true, true, false, true, true, true, true, true, false, false, false, false, false] rfl rfl (one_of HT_.out (by kernel_rfl)) (by decide) (fun K hK => ?_)
                        refine Kd.N_lit_step k30 _ 30 ?hg (N' := 23) ?hd (xs := ([(⟨t321, t322, t323, t324⟩ : S30)] : List (S30))) (inner := [.int .i64 t321, .int .i64 t322, .int .u64 t323, .slice Ao16 t324.length co16]) (ok := (fun k_ => (P0_ k_ ∨ w.heap.size ≤ k_) ∧ some k_ ≠ (.slice Ao17 x5_1.length co17 : Value).ownBlock ∧ some k_ ≠ (.slice Ao18 x6_1.length co18 : Value).ownBlock ∧ some k_ ≠ (v337 : Value).ownBlock ∧ k_ ≠ gb329)) (okp := (fun k_ => (P0_ k_ ∨ w.heap.size ≤ k_) ∧ some k_ ≠ (.slice Ao17 x5_1.length co17 : Value).ownBlock ∧ some k_ ≠ (.slice Ao18 x6_1.length co18 : Value).ownBlock ∧ some k_ ≠ (v337 : Value).ownBlock ∧ k_ ≠ gb329)) ?hr ?hp (fun _ hk => hk) ((show ∀ k_, w22.heap.size ≤ k_ → (fun k_ => (P0_ k_ ∨ w.heap.size ≤ k_) ∧ some k_ ≠ (.slice Ao17 x5_1.length co17 : Value).ownBlock ∧ some k_ ≠ (.slice Ao18 x6_1.length co18 : Value).ownBlock ∧ some k_ ≠ (v337 : Value).ownBlock ∧ k_ ≠ gb329) k_ from fun k_ hk => ⟨(.inr (Nat.le_trans (below_size (by repeat (first | (with_reducible first | exact HB.out | apply below_alloc | apply pw_below_drewN | apply below_drew1 | refine below_set ?_ GE329.out) | exact HB.out))) hk)), Kd.fresh' (Kd.N_lt (by (with_reducible repeat (first | apply Kd.N_alloc | apply Kd.N_drewN | apply Kd.N_drew)); exact HO_5.out)) k_ hk, Kd.fresh' (Kd.N_lt (by (with_reducible repeat (first | apply Kd.N_alloc | apply Kd.N_drewN | apply Kd.N_drew)); exact HO_6.out)) k_ hk, Kd.fresh' (Kd.R_lt (by (with_reducible repeat (first | apply Kd.R_alloc | apply Kd.R_drewN | apply Kd.R_drew)); exact HO338.out)) k_ hk, Kd.freshB (g := gb329) (o := .cells #[.int .i64 t321, .int .i64 t322, .int .u64 t323, .slice Ao16 t324.length co16] 30 (0, 0)) (by (with_reducible repeat (first | refine blk_drewN ?_ _ | refine blk_drew ?_ | refine blk_alloc ?_ _)); exact BK329.out) k_ hk⟩) _ (Nat.le_refl _)) (Below.refl _ _) (Nat.le_refl _) (by simp) ?_; (case hd => rfl); (case hg => rfl); (case hr => first | (go_simp; done) | (go_simp; rfl)); (case hp => exact (Reps.c4 (show Kd.FK k30 _ _ (⟨t321, t322, t323, t324⟩ : S30) [.int .i64 t321, .int .i64 t322, .int .u64 t323, .slice Ao16 t324.length co16] from (k30_mkF _ _ (⟨t321, t322, t323, t324⟩ : S30) (Kd.R_reads' (Kd.R_mono (ok' := (fun k_ => (P0_ k_ ∨ w.heap.size ≤ k_) ∧ some k_ ≠ (.slice Ao17 x5_1.length co17 : Value).ownBlock ∧ some k_ ≠ (.slice Ao18 x6_1.length co18 : Value).ownBlock ∧ some k_ ≠ (v337 : Value).ownBlock ∧ k_ ≠ gb329)) (Kd.R_types (Kd.R_apart' (Kd.R_apart' (HO326.out) (Kd.N_typed HO_5.out) (by decide)) (Kd.N_typed HO_6.out) (by decide)) BK329.out (by decide)) (fun k_ hk => ⟨(.inr (hk.1.1.1.1)), ⟨hk.1.1.2, ⟨hk.1.2, ⟨hk.1.1.1.2, hk.2⟩⟩⟩⟩))).2.1 (Kd.R_F (Kd.R_mono (ok' := (fun k_ => (P0_ k_ ∨ w.heap.size ≤ k_) ∧ some k_ ≠ (.slice Ao17 x5_1.length co17 : Value).ownBlock ∧ some k_ ≠ (.slice Ao18 x6_1.length co18 : Value).ownBlock ∧ some k_ ≠ (v337 : Value).ownBlock ∧ k_ ≠ gb329)) (Kd.R_types (Kd.R_apart' (Kd.R_apart' (HO326.out) (Kd.N_typed HO_5.out) (by decide)) (Kd.N_typed HO_6.out) (by decide)) BK329.out (by decide)) (fun k_ hk => ⟨(.inr (hk.1.1.1.1)), ⟨hk.1.1.2, ⟨hk.1.2, ⟨hk.1.1.1.2, hk.2⟩⟩⟩⟩))))) (Reps.none _ _)))
                        intro v331 w24 ho25 hb hg_ hnew_
                        clear hg_ hnew_
                        (first | rw [← Ny330.out] at ho25 | (simp only [Int.reduceToNat] at ho25; rw [← Ny330.out] at ho25))
                        have n0_ := Aside0.mk (Kd.V_elder' (by (with_reducible repeat (first | apply Kd.V_alloc | apply Kd.V_drewN | apply Kd.V_drew)); exact HO_0.out) (Kd.N_base ho25) hb)
                        have n1_ := Aside0.mk (Kd.N_elder' (by (with_reducible repeat (first | apply Kd.N_alloc | apply Kd.N_drewN | apply Kd.N_drew)); exact HO_5.out) (Kd.N_base ho25) hb)
                        have n2_ := Aside0.mk (Kd.N_elder' (by (with_reducible repeat (first | apply Kd.N_alloc | apply Kd.N_drewN | apply Kd.N_drew)); exact HO_6.out) (Kd.N_base ho25) hb)
                        have n3_ := Aside0.mk (Kd.V_elder' (by (with_reducible repeat (first | apply Kd.V_alloc | apply Kd.V_drewN | apply Kd.V_drew)); exact HO343.out) (Kd.N_base ho25) hb)
                        have n4_ := Aside0.mk (Kd.R_below (by (with_reducible repeat (first | apply Kd.R_alloc | apply Kd.R_drewN | apply Kd.R_drew)); exact HO338.out) hb)
                        have n5_ := Aside0.mk (Kd.N_lower ho25 (below_size (by repeat (first | (with_reducible first | exact HB.out | apply below_alloc | apply pw_below_drewN | apply below_drew1 | refine below_set ?_ GE329.out) | exact HB.out))))
                        have n6_ := Aside0.mk (blk_below (g := gb329) (o := .cells #[.int .i64 t321, .int .i64 t322, .int .u64 t323, .slice Ao16 t324.length co16] 30 (0, 0)) (by (with_reducible repeat (first | refine blk_drewN ?_ _ | refine blk_drew ?_ | refine blk_alloc ?_ _)); exact BK329.out) hb)
                        have n7_ := Aside0.mk (below_step (by repeat (first | (with_reducible first | exact HB.out | apply below_alloc | apply pw_below_drewN | apply below_drew1 | refine below_set ?_ GE329.out) | exact HB.out)) hb)
                        clear HO_0
                        clear HO_5
                        clear HO_6
                        clear HO343
                        clear HO338
                        clear BK329
                        clear HB
                        clear HO326
                        have HO_0 := n0_
                        have HO_5 := n1_
                        have HO_6 := n2_
                        have HO343 := n3_
                        have HO338 := n4_
                        have HO332 := n5_
                        have BK329 := n6_
                        have HB := n7_
                        clear n0_ n1_ n2_ n3_ n4_ n5_ n6_ n7_
                        clear hb ho25
                        obtain ⟨Ao27, co27, eo27⟩ := Kd.N_slice HO332.out
                        (first | subst eo27 | (injection eo27 with f1_ f2_ f3_; have f4_ := f1_.symm; have f5_ := f3_.symm; clear f1_ f2_ f3_; subst f4_; subst f5_))
                        refine hK.out _ _ ⟨(blk_cell BK329.out 0).trans rfl, (blk_cell BK329.out 1).trans rfl, (blk_cell BK329.out 2).trans rfl, (blk_cell BK329.out 3).trans rfl⟩ (fun hHeld => ?_)
                        clear hK K
                        refine norm_ (a' := ?_) ?_ ?_
                        rotate_left
                        · show Act.put _ (some 23) _ = _
                          simp only [Act.put, List.setIfInBounds_toArray, List.set_cons_zero, List.set_cons_succ, i64_w, i32_w]
                          rfl
                        refine one_ (i := 3) (N := some 24) #[true, true, true, true, true, true, true, true, true, false, false, false, false, false] rfl rfl (one_of HT_.out (by kernel_rfl)) (by decide) (fun K hK => ?_)
                        refine Kd.N_append_rows_step k30 (w0 := w) w.heap.size (by rfl) (.tmp 21) (.tmp 23) 46 30 (.agg #[(.int .i64 0), (.int .i64 0), (.int .u64 0), (.slice none 0 0)]) 48 rfl Try.underlying46 info30 rfl (by decide) (by omega) (.slice Ao17 x5_1.length co17) x5_1 y330 _ _ _ (fun k_ => (P0_ k_ ∨ w.heap.size ≤ k_) ∧ some k_ ≠ (.slice Ao18 x6_1.length co18 : Value).ownBlock ∧ some k_ ≠ (v337 : Value).ownBlock ∧ k_ ≠ gb329) (fun k_ => ((fun k_ => (P0_ k_ ∨ w.heap.size ≤ k_) ∧ some k_ ≠ (.slice Ao18 x6_1.length co18 : Value).ownBlock ∧ some k_ ≠ (v337 : Value).ownBlock ∧ k_ ≠ gb329)) k_ ∧ some k_ ≠ (.slice Ao17 x5_1.length co17 : Value).ownBlock) rfl rfl ?aO ?aR (fun _ hk => hk) ?aF ?aB ?aS ?aL ?_
                        (case aR => exact (by skip; exact Kd.N_F (Kd.N_mono (ok' := (fun k_ => ((fun k_ => (P0_ k_ ∨ w.heap.size ≤ k_) ∧ some k_ ≠ (.slice Ao18 x6_1.length co18 : Value).ownBlock ∧ some k_ ≠ (v337 : Value).ownBlock ∧ k_ ≠ gb329)) k_ ∧ some k_ ≠ (.slice Ao17 x5_1.length co17 : Value).ownBlock)) (HO332.out) (fun k_ hk => ⟨⟨hk.1, ⟨hk.2.2.1, ⟨hk.2.2.2.1, hk.2.2.2.2⟩⟩⟩, hk.2.1⟩))))
                        (case aB => exact (by repeat (first | (with_reducible first | exact HB.out | apply below_alloc | apply pw_below_drewN | apply below_drew1 | refine below_set ?_ GE329.out) | exact HB.out)))
                        (case aF => exact (fun k_ hk => ⟨(.inr (Nat.le_trans (below_size (by repeat (first | (with_reducible first | exact HB.out | apply below_alloc | apply pw_below_drewN | apply below_drew1 | refine below_set ?_ GE329.out) | exact HB.out))) hk)), Kd.fresh' (Kd.N_lt (by (with_reducible repeat (first | apply Kd.N_alloc | apply Kd.N_drewN | apply Kd.N_drew)); exact HO_6.out)) k_ hk, Kd.fresh' (Kd.R_lt (by (with_reducible repeat (first | apply Kd.R_alloc | apply Kd.R_drewN | apply Kd.R_drew)); exact HO338.out)) k_ hk, Kd.freshB (g := gb329) (o := .cells #[.int .i64 t321, .int .i64 t322, .int .u64 t323, .slice Ao16 t324.length co16] 30 (0, 0)) (by (with_reducible repeat (first | refine blk_drewN ?_ _ | refine blk_drew ?_ | refine blk_alloc ?_ _)); exact BK329.out) k_ hk⟩))
                        (case aO => exact (by (with_reducible repeat (first | apply Kd.N_alloc | apply Kd.N_drewN | apply Kd.N_drew)); exact Kd.N_mono HO_5.out (fun _ hk => ⟨hk.1.1.1, ⟨hk.1.1.2.1, ⟨hk.1.2, hk.1.1.2.2.2⟩⟩⟩)))
                        (case aS => exact (below_size (by repeat (first | (with_reducible first | exact HB.out | apply below_alloc | apply pw_below_drewN | apply below_drew1 | refine below_set ?_ GE329.out) | exact HB.out))))
                        (case aL => have := LMc5.out; omega)
                        intro v334 w26 ho hb hg hat
                        rw [← Ny333.out] at ho
                        have n0_ := Aside0.mk (Kd.V_afterv (ok := (fun k_ => (P0_ k_ ∨ w.heap.size ≤ k_) ∧ some k_ ≠ (.slice Ao18 x6_1.length co18 : Value).ownBlock ∧ some k_ ≠ (v337 : Value).ownBlock ∧ some k_ ≠ (.slice Ao27 y330.length co27 : Value).ownBlock ∧ k_ ≠ gb329)) (by (with_reducible repeat (first | apply Kd.V_alloc | apply Kd.V_drewN | apply Kd.V_drew)); exact Kd.V_mono HO_0.out (fun _ hk => ⟨⟨hk.1.1.1, ⟨hk.1.1.2.2.1, ⟨hk.1.2, ⟨hk.2, hk.1.1.2.2.2.2⟩⟩⟩⟩, hk.1.1.2.1⟩)) hg hat)
                        have n1_ := Aside0.mk (Kd.N_afterv (ok := (fun k_ => (P0_ k_ ∨ w.heap.size ≤ k_) ∧ some k_ ≠ (v337 : Value).ownBlock ∧ some k_ ≠ (.slice Ao27 y330.length co27 : Value).ownBlock ∧ k_ ≠ gb329)) (by (with_reducible repeat (first | apply Kd.N_alloc | apply Kd.N_drewN | apply Kd.N_drew)); exact Kd.N_mono HO_6.out (fun _ hk => ⟨⟨hk.1.1.1, ⟨hk.1.2, ⟨hk.2, hk.1.1.2.2.2⟩⟩⟩, hk.1.1.2.1⟩)) hg hat)
                        have n2_ := Aside0.mk (blk_grown (g := gb329) (o := .cells #[.int .i64 t321, .int .i64 t322, .int .u64 t323, .slice Ao16 t324.length co16] 30 (0, 0)) (by (with_reducible repeat (first | refine blk_drewN ?_ _ | refine blk_drew ?_ | refine blk_alloc ?_ _)); exact BK329.out) hg (Kd.N_away HO_5.out (fun _ hk => hk.1.1.2.2.2)))
                        have n3_ := Aside0.mk (Kd.V_afterv (ok := (fun k_ => (P0_ k_ ∨ w.heap.size ≤ k_) ∧ some k_ ≠ (.slice Ao18 x6_1.length co18 : Value).ownBlock ∧ some k_ ≠ (v337 : Value).ownBlock ∧ some k_ ≠ (.slice Ao27 y330.length co27 : Value).ownBlock ∧ k_ ≠ gb329)) (by (with_reducible repeat (first | apply Kd.V_alloc | apply Kd.V_drewN | apply Kd.V_drew)); exact Kd.V_mono HO343.out (fun _ hk => ⟨⟨hk.1.1.1, ⟨hk.1.1.2.2.1, ⟨hk.1.2, ⟨hk.2, hk.1.1.2.2.2.2⟩⟩⟩⟩, hk.1.1.2.1⟩)) hg hat)
                        have n4_ := Aside0.mk (Kd.R_over' (by (with_reducible repeat (first | apply Kd.R_alloc | apply Kd.R_drewN | apply Kd.R_drew)); exact HO338.out) (Kd.N_typed (by (with_reducible repeat (first | apply Kd.N_alloc | apply Kd.N_drewN | apply Kd.N_drew)); exact HO_5.out)) (by decide) hg)
                        have n5_ := Aside0.mk (Kd.N_afterv (ok := (fun k_ => (P0_ k_ ∨ w.heap.size ≤ k_) ∧ some k_ ≠ (.slice Ao18 x6_1.length co18 : Value).ownBlock ∧ some k_ ≠ (v337 : Value).ownBlock ∧ k_ ≠ gb329)) (by (with_reducible repeat (first | apply Kd.N_alloc | apply Kd.N_drewN | apply Kd.N_drew)); exact Kd.N_mono HO332.out (fun _ hk => ⟨⟨hk.1, ⟨hk.2.2.1, ⟨hk.2.2.2.1, hk.2.2.2.2⟩⟩⟩, hk.2.1⟩)) hg hat)
                        have n6_ := Aside0.mk (hb)
                        have n7_ := Aside0.mk (ho)
                        clear HO_0
                        clear HO_6
                        clear BK329
                        clear HO343
                        clear HO338
                        clear HO332
                        clear HB
                        clear HO_5
                        have HO_0 := n0_
                        have HO_6 := n1_
                        have BK329 := n2_
                        have HO343 := n3_
                        have HO338 := n4_
                        have HO332 := n5_
                        have HB := n6_
                        have HO335 := n7_
                        clear n0_ n1_ n2_ n3_ n4_ n5_ n6_ n7_
                        clear ho hb hg hat
                        refine hK.out _ _ ⟨(blk_cell BK329.out 0).trans rfl, (blk_cell BK329.out 1).trans rfl, (blk_cell BK329.out 2).trans rfl, (blk_cell BK329.out 3).trans rfl⟩ (fun hHeld => ?_)
                        clear hK K
                        refine norm_ (a' := ?_) ?_ ?_
                        rotate_left
                        · show Act.put _ (some 24) _ = _
                          simp only [Act.put, List.setIfInBounds_toArray, List.set_cons_zero, List.set_cons_succ, i64_w, i32_w]
                          rfl
                        exact norm_ (by simp only [putAll, Act.put, List.setIfInBounds_toArray, List.set_cons_zero, List.set_cons_succ]) (hCont (.slice Ao27 y330.length co27, v334, v337) _ ⟨hHeld, (by (with_reducible repeat (first | apply Kd.N_alloc | apply Kd.N_drewN | apply Kd.N_drew)); exact Kd.N_mono HO332.out (fun _ hk => ⟨hk.1.1, ⟨hk.2, ⟨hk.1.2.2.1, ⟨hk.1.2.1, hk.1.2.2.2⟩⟩⟩⟩)), (by (with_reducible repeat (first | apply Kd.N_alloc | apply Kd.N_drewN | apply Kd.N_drew)); exact Kd.N_mono HO335.out (fun _ hk => ⟨hk.1, ⟨hk.2.2.1, ⟨hk.2.1, hk.2.2.2⟩⟩⟩)), (by (with_reducible repeat (first | apply Kd.R_alloc | apply Kd.R_drewN | apply Kd.R_drew)); exact Kd.R_mono HO338.out (fun _ hk => hk.1.1)), (by (with_reducible repeat (first | apply Kd.V_alloc | apply Kd.V_drewN | apply Kd.V_drew)); exact Kd.V_mono HO343.out (fun _ hk => ⟨hk.1.1, ⟨hk.1.2.2.2.1, ⟨hk.2, ⟨hk.1.2.2.1, ⟨hk.1.2.1, hk.1.2.2.2.2⟩⟩⟩⟩⟩)), (by (with_reducible repeat (first | apply Kd.V_alloc | apply Kd.V_drewN | apply Kd.V_drew)); exact Kd.V_mono HO_0.out (fun _ hk => ⟨hk.1.1, ⟨hk.1.2.2.2.1, ⟨hk.2, ⟨hk.1.2.2.1, ⟨hk.1.2.1, hk.1.2.2.2.2⟩⟩⟩⟩⟩)), (by (with_reducible repeat (first | apply Kd.N_alloc | apply Kd.N_drewN | apply Kd.N_drew)); exact Kd.N_mono HO_6.out (fun _ hk => ⟨hk.1.1, ⟨hk.1.2.2.1, ⟨hk.2, ⟨hk.1.2.1, hk.1.2.2.2⟩⟩⟩⟩)), (by (with_reducible repeat (first | refine blk_drewN ?_ _ | refine blk_drew ?_ | refine blk_alloc ?_ _)); exact BK329.out), (by repeat (first | (with_reducible first | exact HB.out | apply below_alloc | apply pw_below_drewN | apply below_drew1 | refine below_set ?_ GE329.out) | exact HB.out))⟩)
                    rintro ⟨v331, v334, v337⟩ w28 ⟨hS_, h0_, h1_, h2_, h3_, h4_, h5_, h6_, h7_⟩
                    have n0_ : Aside0 (Kd.N k30 30 w28 w.heap.size (fun k_ => (P0_ k_ ∨ w.heap.size ≤ k_) ∧ some k_ ≠ (v334 : Value).ownBlock ∧ some k_ ≠ (v337 : Value).ownBlock ∧ some k_ ≠ (.slice Ao18 x6_1.length co18 : Value).ownBlock ∧ k_ ≠ gb329) v331 y330) := ⟨h0_⟩
                    have n1_ : Aside0 (Kd.N k30 30 w28 w.heap.size (fun k_ => (P0_ k_ ∨ w.heap.size ≤ k_) ∧ some k_ ≠ (v337 : Value).ownBlock ∧ some k_ ≠ (.slice Ao18 x6_1.length co18 : Value).ownBlock ∧ k_ ≠ gb329) v334 y333) := ⟨h1_⟩
                    have n2_ : Aside0 (Kd.R (Kd.int .u8) 5 w28 w.heap.size (fun k_ => (w.heap.size ≤ k_)) v337 y336) := ⟨h2_⟩
                    have n3_ : Aside0 (Kd.V (Kd.int .u8) 5 w28 w.heap.size (fun k_ => (P0_ k_ ∨ w.heap.size ≤ k_) ∧ some k_ ≠ (v331 : Value).ownBlock ∧ some k_ ≠ (v334 : Value).ownBlock ∧ some k_ ≠ (v337 : Value).ownBlock ∧ some k_ ≠ (.slice Ao18 x6_1.length co18 : Value).ownBlock ∧ k_ ≠ gb329) (.slice Ao12 y339.length co12) y339) := ⟨h3_⟩
                    have n4_ : Aside0 (Kd.V (Kd.int .u8) 5 w28 w.heap.size (fun k_ => (P0_ k_ ∨ w.heap.size ≤ k_) ∧ some k_ ≠ (v331 : Value).ownBlock ∧ some k_ ≠ (v334 : Value).ownBlock ∧ some k_ ≠ (v337 : Value).ownBlock ∧ some k_ ≠ (.slice Ao18 x6_1.length co18 : Value).ownBlock ∧ k_ ≠ gb329) (.slice Ao12 x0_1.length co12) x0_1) := ⟨h4_⟩
                    have n5_ : Aside0 (Kd.N (Kd.slice 5 (Kd.int .u8)) 22 w28 w.heap.size (fun k_ => (P0_ k_ ∨ w.heap.size ≤ k_) ∧ some k_ ≠ (v331 : Value).ownBlock ∧ some k_ ≠ (v334 : Value).ownBlock ∧ some k_ ≠ (v337 : Value).ownBlock ∧ k_ ≠ gb329) (.slice Ao18 x6_1.length co18) x6_1) := ⟨h5_⟩
                    have n6_ : Aside0 (w28.heap[gb329]? = some (.cells #[.int .i64 t321, .int .i64 t322, .int .u64 t323, .slice Ao16 t324.length co16] 30 (0, 0))) := ⟨h6_⟩
                    have n7_ : Aside0 (Below w.heap.size w w28) := ⟨h7_⟩
                    clear HO_0
                    clear HO_5
                    clear HO_6
                    clear HO326
                    clear BK329
                    clear HB
                    clear h0_ h1_ h2_ h3_ h4_ h5_ h6_ h7_
                    have HO332 := n0_
                    have HO335 := n1_
                    have HO338 := n2_
                    have HO343 := n3_
                    have HO_0 := n4_
                    have HO_6 := n5_
                    have BK329 := n6_
                    have HB := n7_
                    clear n0_ n1_ n2_ n3_ n4_ n5_ n6_ n7_
                    have hHeld : w28.cell? ⟨gb329, 0, none⟩ = some (.int .i64 t321) ∧ w28.cell? ⟨gb329, 1, none⟩ = some (.int .i64 t322) ∧ w28.cell? ⟨gb329, 2, none⟩ = some (.int .u64 t323) ∧ w28.cell? ⟨gb329, 3, none⟩ = some (.slice Ao16 t324.length co16) := hS_
                    refine norm_ (a' := ?_) ?_ ?_
                    rotate_left
                    · simp only [putAll, Act.put, List.setIfInBounds_toArray, List.set_cons_zero, List.set_cons_succ]
                      rfl
                    refine one_ (i := 9) (N := some 30) #[true, true, true, true, true, true, true, true, true, true, false, false, false, false] rfl rfl (one_of HT_.out (by kernel_rfl)) (by decide) (fun K hK => ?_)
                    refine Kd.R_append_rows_step (Kd.int .u8) (w0 := w) w.heap.size (by rfl) (.tmp 26) (.tmp 29) 22 5 (.int .u8 0) 1 rfl Try.underlying22 info5 rfl (by decide) (by omega) v337 y336 y339 _ _ _ (fun k_ => (w.heap.size ≤ k_)) (fun _ => False) rfl rfl ?aO ?aR (fun _ _ h => h) (fun _ h => h.elim) ?aF ?aB ?aS ?aL ?_
                    (case aR => repeat (first | exact (Kd.V_reads' HO343.out).2.2 | (with_reducible refine Kd.C_alloc ?_ _) | (with_reducible refine Kd.C_drewN ?_ _) | (with_reducible refine Kd.C_drew ?_)))
                    (case aB => exact (by repeat (first | (with_reducible first | exact HB.out | apply below_alloc | apply pw_below_drewN | apply below_drew1 | refine below_set ?_ GE329.out) | exact HB.out)))
                    (case aF => exact (fun k_ hk => (Nat.le_trans (below_size (by repeat (first | (with_reducible first | exact HB.out | apply below_alloc | apply pw_below_drewN | apply below_drew1 | refine below_set ?_ GE329.out) | exact HB.out))) hk)))
                    (case aO => exact (by (with_reducible repeat (first | apply Kd.R_alloc | apply Kd.R_drewN | apply Kd.R_drew)); exact HO338.out))
                    (case aS => exact (below_size (by repeat (first | (with_reducible first | exact HB.out | apply below_alloc | apply pw_below_drewN | apply below_drew1 | refine below_set ?_ GE329.out) | exact HB.out))))
                    (case aL => have := LMc8.out; omega)
                    intro v345 w29 ho hb hg hat
                    rw [← Ny344.out] at ho
                    have n0_ := Aside0.mk (Kd.V_afterv (ok := (fun k_ => (P0_ k_ ∨ w.heap.size ≤ k_) ∧ some k_ ≠ (.slice Ao18 x6_1.length co18 : Value).ownBlock ∧ some k_ ≠ (v331 : Value).ownBlock ∧ some k_ ≠ (v334 : Value).ownBlock ∧ k_ ≠ gb329)) (by (with_reducible repeat (first | apply Kd.V_alloc | apply Kd.V_drewN | apply Kd.V_drew)); exact Kd.V_mono HO_0.out (fun _ hk => ⟨⟨hk.1, ⟨hk.2.2.2.2.1, ⟨hk.2.1, ⟨hk.2.2.1, hk.2.2.2.2.2⟩⟩⟩⟩, hk.2.2.2.1⟩)) hg hat)
                    have n1_ := Aside0.mk (Kd.N_afterv (ok := (fun k_ => (P0_ k_ ∨ w.heap.size ≤ k_) ∧ some k_ ≠ (v331 : Value).ownBlock ∧ some k_ ≠ (v334 : Value).ownBlock ∧ k_ ≠ gb329)) (by (with_reducible repeat (first | apply Kd.N_alloc | apply Kd.N_drewN | apply Kd.N_drew)); exact Kd.N_mono HO_6.out (fun _ hk => ⟨⟨hk.1, ⟨hk.2.1, ⟨hk.2.2.1, hk.2.2.2.2⟩⟩⟩, hk.2.2.2.1⟩)) hg hat)
                    have n2_ := Aside0.mk (blk_grown (g := gb329) (o := .cells #[.int .i64 t321, .int .i64 t322, .int .u64 t323, .slice Ao16 t324.length co16] 30 (0, 0)) (by (with_reducible repeat (first | refine blk_drewN ?_ _ | refine blk_drew ?_ | refine blk_alloc ?_ _)); exact BK329.out) hg (Kd.R_ne HO338.out BK329.out (by decide)))
                    have n3_ := Aside0.mk (Kd.V_afterv (ok := (fun k_ => (P0_ k_ ∨ w.heap.size ≤ k_) ∧ some k_ ≠ (.slice Ao18 x6_1.length co18 : Value).ownBlock ∧ some k_ ≠ (v331 : Value).ownBlock ∧ some k_ ≠ (v334 : Value).ownBlock ∧ k_ ≠ gb329)) (by (with_reducible repeat (first | apply Kd.V_alloc | apply Kd.V_drewN | apply Kd.V_drew)); exact Kd.V_mono HO343.out (fun _ hk => ⟨⟨hk.1, ⟨hk.2.2.2.2.1, ⟨hk.2.1, ⟨hk.2.2.1, hk.2.2.2.2.2⟩⟩⟩⟩, hk.2.2.2.1⟩)) hg hat)
                    have n4_ := Aside0.mk (Kd.N_afterv (ok := (fun k_ => (P0_ k_ ∨ w.heap.size ≤ k_) ∧ some k_ ≠ (.slice Ao18 x6_1.length co18 : Value).ownBlock ∧ some k_ ≠ (v334 : Value).ownBlock ∧ k_ ≠ gb329)) (by (with_reducible repeat (first | apply Kd.N_alloc | apply Kd.N_drewN | apply Kd.N_drew)); exact Kd.N_mono HO332.out (fun _ hk => ⟨⟨hk.1, ⟨hk.2.2.2.1, ⟨hk.2.1, hk.2.2.2.2⟩⟩⟩, hk.2.2.1⟩)) hg hat)
                    have n5_ := Aside0.mk (Kd.N_afterv (ok := (fun k_ => (P0_ k_ ∨ w.heap.size ≤ k_) ∧ some k_ ≠ (.slice Ao18 x6_1.length co18 : Value).ownBlock ∧ k_ ≠ gb329)) (by (with_reducible repeat (first | apply Kd.N_alloc | apply Kd.N_drewN | apply Kd.N_drew)); exact Kd.N_mono HO335.out (fun _ hk => ⟨⟨hk.1, ⟨hk.2.2.1, hk.2.2.2⟩⟩, hk.2.1⟩)) hg hat)
                    have n6_ := Aside0.mk (hb)
                    have n7_ := Aside0.mk (ho)
                    clear HO_0
                    clear HO_6
                    clear BK329
                    clear HO343
                    clear HO332
                    clear HO335
                    clear HB
                    clear HO338
                    have HO_0 := n0_
                    have HO_6 := n1_
                    have BK329 := n2_
                    have HO343 := n3_
                    have HO332 := n4_
                    have HO335 := n5_
                    have HB := n6_
                    have HO346 := n7_
                    clear n0_ n1_ n2_ n3_ n4_ n5_ n6_ n7_
                    clear ho hb hg hat
                    obtain ⟨Ao30, co30, eo30⟩ := Kd.R_slice HO346.out
                    (first | subst eo30 | (injection eo30 with f1_ f2_ f3_; have f4_ := f1_.symm; have f5_ := f3_.symm; clear f1_ f2_ f3_; subst f4_; subst f5_))
                    refine hK.out _ _ ⟨(blk_cell BK329.out 0).trans rfl, (blk_cell BK329.out 1).trans rfl, (blk_cell BK329.out 2).trans rfl, (blk_cell BK329.out 3).trans rfl⟩ (fun hHeld => ?_)
                    clear hK K
                    refine norm_ (a' := ?_) ?_ ?_
                    rotate_left
                    · show Act.put _ (some 30) _ = _
                      simp only [Act.put, List.setIfInBounds_toArray, List.set_cons_zero, List.set_cons_succ, i64_w, i32_w]
                      rfl
                    refine one_ (i := 10) (N := some 31) #[true, true, true, true, true, true, true, true, true, true, true, false, false, false] rfl rfl (one_of HT_.out (by kernel_rfl)) (by decide) (fun K hK => ?_)
                    refine Kd.N_lit_step (Kd.slice 5 (Kd.int .u8)) _ 22 ?hg (N' := 31) ?hd (xs := ([y344] : List (List Int))) (inner := [.slice Ao30 y344.length co30]) (ok := (fun k_ => (P0_ k_ ∨ w.heap.size ≤ k_) ∧ some k_ ≠ (.slice Ao18 x6_1.length co18 : Value).ownBlock ∧ some k_ ≠ (v331 : Value).ownBlock ∧ some k_ ≠ (v334 : Value).ownBlock ∧ k_ ≠ gb329)) (okp := (fun k_ => (P0_ k_ ∨ w.heap.size ≤ k_) ∧ some k_ ≠ (.slice Ao18 x6_1.length co18 : Value).ownBlock ∧ some k_ ≠ (v331 : Value).ownBlock ∧ some k_ ≠ (v334 : Value).ownBlock ∧ k_ ≠ gb329)) ?hr ?hp (fun _ hk => hk) ((show ∀ k_, w29.heap.size ≤ k_ → (fun k_ => (P0_ k_ ∨ w.heap.size ≤ k_) ∧ some k_ ≠ (.slice Ao18 x6_1.length co18 : Value).ownBlock ∧ some k_ ≠ (v331 : Value).ownBlock ∧ some k_ ≠ (v334 : Value).ownBlock ∧ k_ ≠ gb329) k_ from fun k_ hk => ⟨(.inr (Nat.le_trans (below_size (by repeat (first | (with_reducible first | exact HB.out | apply below_alloc | apply pw_below_drewN | apply below_drew1 | refine below_set ?_ GE329.out) | exact HB.out))) hk)), Kd.fresh' (Kd.N_lt (by (with_reducible repeat (first | apply Kd.N_alloc | apply Kd.N_drewN | apply Kd.N_drew)); exact HO_6.out)) k_ hk, Kd.fresh' (Kd.N_lt (by (with_reducible repeat (first | apply Kd.N_alloc | apply Kd.N_drewN | apply Kd.N_drew)); exact HO332.out)) k_ hk, Kd.fresh' (Kd.N_lt (by (with_reducible repeat (first | apply Kd.N_alloc | apply Kd.N_drewN | apply Kd.N_drew)); exact HO335.out)) k_ hk, Kd.freshB (g := gb329) (o := .cells #[.int .i64 t321, .int .i64 t322, .int .u64 t323, .slice Ao16 t324.length co16] 30 (0, 0)) (by (with_reducible repeat (first | refine blk_drewN ?_ _ | refine blk_drew ?_ | refine blk_alloc ?_ _)); exact BK329.out) k_ hk⟩) _ (Nat.le_refl _)) (Below.refl _ _) (Nat.le_refl _) (by simp) ?_; (case hd => rfl); (case hg => rfl); (case hr => first | (go_simp; done) | (go_simp; rfl)); (case hp => exact (Reps.one (show Kd.FK (Kd.slice 5 (Kd.int .u8)) _ _ y344 [.slice Ao30 y344.length co30] from (Kd.FK_slice_mk (Kd.R_reads' (Kd.R_mono (ok' := (fun k_ => (P0_ k_ ∨ w.heap.size ≤ k_) ∧ some k_ ≠ (.slice Ao18 x6_1.length co18 : Value).ownBlock ∧ some k_ ≠ (v331 : Value).ownBlock ∧ some k_ ≠ (v334 : Value).ownBlock ∧ k_ ≠ gb329)) (Kd.R_types (Kd.R_apart' (Kd.R_apart' (Kd.R_apart' (HO346.out) (Kd.N_typed HO_6.out) (by decide)) (Kd.N_typed HO332.out) (by decide)) (Kd.N_typed HO335.out) (by decide)) BK329.out (by decide)) (fun k_ hk => ⟨(.inr (hk.1.1.1.1)), ⟨hk.1.1.1.2, ⟨hk.1.1.2, ⟨hk.1.2, hk.2⟩⟩⟩⟩))).2.1 (Kd.R_F (Kd.R_mono (ok' := (fun k_ => (P0_ k_ ∨ w.heap.size ≤ k_) ∧ some k_ ≠ (.slice Ao18 x6_1.length co18 : Value).ownBlock ∧ some k_ ≠ (v331 : Value).ownBlock ∧ some k_ ≠ (v334 : Value).ownBlock ∧ k_ ≠ gb329)) (Kd.R_types (Kd.R_apart' (Kd.R_apart' (Kd.R_apart' (HO346.out) (Kd.N_typed HO_6.out) (by decide)) (Kd.N_typed HO332.out) (by decide)) (Kd.N_typed HO335.out) (by decide)) BK329.out (by decide)) (fun k_ hk => ⟨(.inr (hk.1.1.1.1)), ⟨hk.1.1.1.2, ⟨hk.1.1.2, ⟨hk.1.2, hk.2⟩⟩⟩⟩))))) (Reps.none _ _)))
                    intro v348 w31 ho32 hb hg_ hnew_
                    clear hg_ hnew_
                    (first | rw [← Ny347.out] at ho32 | (simp only [Int.reduceToNat] at ho32; rw [← Ny347.out] at ho32))
                    have n0_ := Aside0.mk (Kd.V_elder' (by (with_reducible repeat (first | apply Kd.V_alloc | apply Kd.V_drewN | apply Kd.V_drew)); exact HO_0.out) (Kd.N_base ho32) hb)
                    have n1_ := Aside0.mk (Kd.N_elder' (by (with_reducible repeat (first | apply Kd.N_alloc | apply Kd.N_drewN | apply Kd.N_drew)); exact HO_6.out) (Kd.N_base ho32) hb)
                    have n2_ := Aside0.mk (Kd.V_elder' (by (with_reducible repeat (first | apply Kd.V_alloc | apply Kd.V_drewN | apply Kd.V_drew)); exact HO343.out) (Kd.N_base ho32) hb)
                    have n3_ := Aside0.mk (Kd.N_elder' (by (with_reducible repeat (first | apply Kd.N_alloc | apply Kd.N_drewN | apply Kd.N_drew)); exact HO332.out) (Kd.N_base ho32) hb)
                    have n4_ := Aside0.mk (Kd.N_elder' (by (with_reducible repeat (first | apply Kd.N_alloc | apply Kd.N_drewN | apply Kd.N_drew)); exact HO335.out) (Kd.N_base ho32) hb)
                    have n5_ := Aside0.mk (Kd.N_lower ho32 (below_size (by repeat (first | (with_reducible first | exact HB.out | apply below_alloc | apply pw_below_drewN | apply below_drew1 | refine below_set ?_ GE329.out) | exact HB.out))))
                    have n6_ := Aside0.mk (blk_below (g := gb329) (o := .cells #[.int .i64 t321, .int .i64 t322, .int .u64 t323, .slice Ao16 t324.length co16] 30 (0, 0)) (by (with_reducible repeat (first | refine blk_drewN ?_ _ | refine blk_drew ?_ | refine blk_alloc ?_ _)); exact BK329.out) hb)
                    have n7_ := Aside0.mk (below_step (by repeat (first | (with_reducible first | exact HB.out | apply below_alloc | apply pw_below_drewN | apply below_drew1 | refine below_set ?_ GE329.out) | exact HB.out)) hb)
                    clear HO_0
                    clear HO_6
                    clear HO343
                    clear HO332
                    clear HO335
                    clear BK329
                    clear HB
                    clear HO346
                    have HO_0 := n0_
                    have HO_6 := n1_
                    have HO343 := n2_
                    have HO332 := n3_
                    have HO335 := n4_
                    have HO349 := n5_
                    have BK329 := n6_
                    have HB := n7_
                    clear n0_ n1_ n2_ n3_ n4_ n5_ n6_ n7_
                    clear hb ho32
                    obtain ⟨Ao34, co34, eo34⟩ := Kd.N_slice HO349.out
                    (first | subst eo34 | (injection eo34 with f1_ f2_ f3_; have f4_ := f1_.symm; have f5_ := f3_.symm; clear f1_ f2_ f3_; subst f4_; subst f5_))
                    refine hK.out _ _ ⟨(blk_cell BK329.out 0).trans rfl, (blk_cell BK329.out 1).trans rfl, (blk_cell BK329.out 2).trans rfl, (blk_cell BK329.out 3).trans rfl⟩ (fun hHeld => ?_)
                    clear hK K
                    refine norm_ (a' := ?_) ?_ ?_
                    rotate_left
                    · show Act.put _ (some 31) _ = _
                      simp only [Act.put, List.setIfInBounds_toArray, List.set_cons_zero, List.set_cons_succ, i64_w, i32_w]
                      rfl
                    refine one_ (i := 11) (N := some 32) #[true, true, true, true, true, true, true, true, true, true, true, true, false, false] rfl rfl (one_of HT_.out (by kernel_rfl)) (by decide) (fun K hK => ?_)
                    refine Kd.N_append_rows_step (Kd.slice 5 (Kd.int .u8)) (w0 := w) w.heap.size (by rfl) (.tmp 25) (.tmp 31) 43 22 (.slice none 0 0) 24 rfl Try.underlying43 info22 rfl (by decide) (by omega) (.slice Ao18 x6_1.length co18) x6_1 y347 _ _ _ (fun k_ => (P0_ k_ ∨ w.heap.size ≤ k_) ∧ some k_ ≠ (v331 : Value).ownBlock ∧ some k_ ≠ (v334 : Value).ownBlock ∧ k_ ≠ gb329) (fun k_ => ((fun k_ => (P0_ k_ ∨ w.heap.size ≤ k_) ∧ some k_ ≠ (v331 : Value).ownBlock ∧ some k_ ≠ (v334 : Value).ownBlock ∧ k_ ≠ gb329)) k_ ∧ some k_ ≠ (.slice Ao18 x6_1.length co18 : Value).ownBlock) rfl rfl ?aO ?aR (fun _ hk => hk) ?aF ?aB ?aS ?aL ?_
                    (case aR => exact (by skip; exact Kd.N_F (Kd.N_mono (ok' := (fun k_ => ((fun k_ => (P0_ k_ ∨ w.heap.size ≤ k_) ∧ some k_ ≠ (v331 : Value).ownBlock ∧ some k_ ≠ (v334 : Value).ownBlock ∧ k_ ≠ gb329)) k_ ∧ some k_ ≠ (.slice Ao18 x6_1.length co18 : Value).ownBlock)) (HO349.out) (fun k_ hk => ⟨⟨hk.1, ⟨hk.2.2.1, ⟨hk.2.2.2.1, hk.2.2.2.2⟩⟩⟩, hk.2.1⟩))))
                    (case aB => exact (by repeat (first | (with_reducible first | exact HB.out | apply below_alloc | apply pw_below_drewN | apply below_drew1 | refine below_set ?_ GE329.out) | exact HB.out)))
                    (case aF => exact (fun k_ hk => ⟨(.inr (Nat.le_trans (below_size (by repeat (first | (with_reducible first | exact HB.out | apply below_alloc | apply pw_below_drewN | apply below_drew1 | refine below_set ?_ GE329.out) | exact HB.out))) hk)), Kd.fresh' (Kd.N_lt (by (with_reducible repeat (first | apply Kd.N_alloc | apply Kd.N_drewN | apply Kd.N_drew)); exact HO332.out)) k_ hk, Kd.fresh' (Kd.N_lt (by (with_reducible repeat (first | apply Kd.N_alloc | apply Kd.N_drewN | apply Kd.N_drew)); exact HO335.out)) k_ hk, Kd.freshB (g := gb329) (o := .cells #[.int .i64 t321, .int .i64 t322, .int .u64 t323, .slice Ao16 t324.length co16] 30 (0, 0)) (by (with_reducible repeat (first | refine blk_drewN ?_ _ | refine blk_drew ?_ | refine blk_alloc ?_ _)); exact BK329.out) k_ hk⟩))
                    (case aO => exact (by (with_reducible repeat (first | apply Kd.N_alloc | apply Kd.N_drewN | apply Kd.N_drew)); exact Kd.N_mono HO_6.out (fun _ hk => ⟨hk.1.1.1, ⟨hk.1.1.2.1, ⟨hk.1.1.2.2.1, hk.1.1.2.2.2⟩⟩⟩)))
                    (case aS => exact (below_size (by repeat (first | (with_reducible first | exact HB.out | apply below_alloc | apply pw_below_drewN | apply below_drew1 | refine below_set ?_ GE329.out) | exact HB.out))))
                    (case aL => have := LMc9.out; omega)
                    intro v351 w33 ho hb hg hat
                    rw [← Ny350.out] at ho
                    have n0_ := Aside0.mk (Kd.V_afterv (ok := (fun k_ => (P0_ k_ ∨ w.heap.size ≤ k_) ∧ some k_ ≠ (v331 : Value).ownBlock ∧ some k_ ≠ (v334 : Value).ownBlock ∧ some k_ ≠ (.slice Ao34 y347.length co34 : Value).ownBlock ∧ k_ ≠ gb329)) (by (with_reducible repeat (first | apply Kd.V_alloc | apply Kd.V_drewN | apply Kd.V_drew)); exact Kd.V_mono HO_0.out (fun _ hk => ⟨⟨hk.1.1.1, ⟨hk.1.1.2.2.1, ⟨hk.1.1.2.2.2.1, ⟨hk.2, hk.1.1.2.2.2.2⟩⟩⟩⟩, hk.1.1.2.1⟩)) hg hat)
                    have n1_ := Aside0.mk (blk_grown (g := gb329) (o := .cells #[.int .i64 t321, .int .i64 t322, .int .u64 t323, .slice Ao16 t324.length co16] 30 (0, 0)) (by (with_reducible repeat (first | refine blk_drewN ?_ _ | refine blk_drew ?_ | refine blk_alloc ?_ _)); exact BK329.out) hg (Kd.N_ne HO_6.out BK329.out (by decide)))
                    have n2_ := Aside0.mk (Kd.V_afterv (ok := (fun k_ => (P0_ k_ ∨ w.heap.size ≤ k_) ∧ some k_ ≠ (v331 : Value).ownBlock ∧ some k_ ≠ (v334 : Value).ownBlock ∧ some k_ ≠ (.slice Ao34 y347.length co34 : Value).ownBlock ∧ k_ ≠ gb329)) (by (with_reducible repeat (first | apply Kd.V_alloc | apply Kd.V_drewN | apply Kd.V_drew)); exact Kd.V_mono HO343.out (fun _ hk => ⟨⟨hk.1.1.1, ⟨hk.1.1.2.2.1, ⟨hk.1.1.2.2.2.1, ⟨hk.2, hk.1.1.2.2.2.2⟩⟩⟩⟩, hk.1.1.2.1⟩)) hg hat)
                    have n3_ := Aside0.mk (Kd.N_afterv (ok := (fun k_ => (P0_ k_ ∨ w.heap.size ≤ k_) ∧ some k_ ≠ (v334 : Value).ownBlock ∧ some k_ ≠ (.slice Ao34 y347.length co34 : Value).ownBlock ∧ k_ ≠ gb329)) (by (with_reducible repeat (first | apply Kd.N_alloc | apply Kd.N_drewN | apply Kd.N_drew)); exact Kd.N_mono HO332.out (fun _ hk => ⟨⟨hk.1.1.1, ⟨hk.1.1.2.2.1, ⟨hk.2, hk.1.1.2.2.2⟩⟩⟩, hk.1.1.2.1⟩)) hg hat)
                    have n4_ := Aside0.mk (Kd.N_afterv (ok := (fun k_ => (P0_ k_ ∨ w.heap.size ≤ k_) ∧ some k_ ≠ (.slice Ao34 y347.length co34 : Value).ownBlock ∧ k_ ≠ gb329)) (by (with_reducible repeat (first | apply Kd.N_alloc | apply Kd.N_drewN | apply Kd.N_drew)); exact Kd.N_mono HO335.out (fun _ hk => ⟨⟨hk.1.1.1, ⟨hk.2, hk.1.1.2.2⟩⟩, hk.1.1.2.1⟩)) hg hat)
                    have n5_ := Aside0.mk (Kd.N_afterv (ok := (fun k_ => (P0_ k_ ∨ w.heap.size ≤ k_) ∧ some k_ ≠ (v331 : Value).ownBlock ∧ some k_ ≠ (v334 : Value).ownBlock ∧ k_ ≠ gb329)) (by (with_reducible repeat (first | apply Kd.N_alloc | apply Kd.N_drewN | apply Kd.N_drew)); exact Kd.N_mono HO349.out (fun _ hk => ⟨⟨hk.1, ⟨hk.2.2.1, ⟨hk.2.2.2.1, hk.2.2.2.2⟩⟩⟩, hk.2.1⟩)) hg hat)
                    have n6_ := Aside0.mk (hb)
                    have n7_ := Aside0.mk (ho)
                    clear HO_0
                    clear BK329
                    clear HO343
                    clear HO332
                    clear HO335
                    clear HO349
                    clear HB
                    clear HO_6
                    have HO_0 := n0_
                    have BK329 := n1_
                    have HO343 := n2_
                    have HO332 := n3_
                    have HO335 := n4_
                    have HO349 := n5_
                    have HB := n6_
                    have HO352 := n7_
                    clear n0_ n1_ n2_ n3_ n4_ n5_ n6_ n7_
                    clear ho hb hg hat
                    refine hK.out _ _ ⟨(blk_cell BK329.out 0).trans rfl, (blk_cell BK329.out 1).trans rfl, (blk_cell BK329.out 2).trans rfl, (blk_cell BK329.out 3).trans rfl⟩ (fun hHeld => ?_)
                    clear hK K
                    refine norm_ (a' := ?_) ?_ ?_
                    rotate_left
                    · show Act.put _ (some 32) _ = _
                      simp only [Act.put, List.setIfInBounds_toArray, List.set_cons_zero, List.set_cons_succ, i64_w, i32_w]
                      rfl
                    refine pure_ (i := 12) (N := some 5) (v := ?_) (a' := ?_) #[true, true, true, true, true, true, true, true, true, true, true, true, true, false] rfl rfl (any_of HT_.out (by kernel_rfl)) (fun _ _ _ h => h) (Or.inl ⟨by rfl, ?_⟩) ?_ ?_
                    rotate_left
                    · intro w'
                      go_simp
                      with_reducible rfl
                    rotate_left
                    · simp only [Act.put, List.setIfInBounds_toArray, List.set_cons_zero, List.set_cons_succ, i64_w, i32_w]
                      rfl
                    refine pure_ (i := 13) (N := some 6) (v := ?_) (a' := ?_) #[true, true, true, true, true, true, true, true, true, true, true, true, true, true] rfl rfl (any_of HT_.out (by kernel_rfl)) (fun _ _ _ h => h) (Or.inl ⟨by rfl, ?_⟩) ?_ ?_
                    rotate_left
                    · intro w'
                      go_simp
                      with_reducible rfl
                    rotate_left
                    · simp only [Act.put, List.setIfInBounds_toArray, List.set_cons_zero, List.set_cons_succ, i64_w, i32_w]
                      rfl
                    refine done_ (done_of HT_.out (by kernel_rfl)) ?_
                    have q35 : (t327 : Int) ≤ ((x0_1.length : Int) : Int) := of_decide_eq_true (by first | (with_reducible assumption) | assumption)
                    obtain ⟨i035, hi035, _, hsz35, _⟩ := info_parts info5
                    have hroom35 : x0_1.length ≤ co12 := (Kd.V_reads' HO_0.out).2.1
                    have hC35 : Kd.F (Kd.int .u8) _ _ Ao12 x0_1.length x0_1 := (Kd.V_at (base := w.heap.size) HO_0.out).2.2
                    have q035 : (0 : Int) ≤ (t327 : Int) := of_decide_eq_true (by first | (with_reducible assumption) | assumption)
                    have hcut35 := cut_from (P := Try.prog) 22 5 .i64 Try.underlying22 hi035 1 hsz35 Ao12 x0_1.length co12 t327 q035 q35
                    have hr35 := Kd.F_cut (m := (t327 : Int).toNat) (c := co12) hC35 (by omega) hroom35
                    obtain ⟨A35, hA35⟩ : ∃ A1, A1 = (if co12 = (t327 : Int).toNat then Ao12 else (Ao12 : Option Addr).map (·.add ((t327 : Int).toNat * 1))) := ⟨_, rfl⟩
                    obtain ⟨c35, hc35⟩ : ∃ c1, c1 = co12 - (t327 : Int).toNat := ⟨_, rfl⟩
                    have hy35 : y353.length = x0_1.length - (t327 : Int).toNat := (by rw [Ny353.out, List.length_drop] <;> omega)
                    rw [show (x0_1).drop (t327 : Int).toNat = y353 from Ny353.out.symm] at hr35
                    replace hr35 : Kd.F (Kd.int .u8) _ _ A35 y353.length y353 := (by rw [hA35]; exact hr35)
                    rw [← hy35, ← hA35, ← hc35] at hcut35
                    have HO357 := Aside0.mk (show Kd.V (Kd.int .u8) 5 _ w.heap.size _ (.slice A35 y353.length c35) y353 from Kd.V_mk (by rw [hy35, hc35]; exact Nat.sub_le_sub_right hroom35 _) hr35)
                    have HC357 := Aside0.mk (show y353.length ≤ c35 from by rw [hy35, hc35]; exact Nat.sub_le_sub_right hroom35 _)
                    clear hr35 hC35 hroom35 hi035 hsz35 hc35
                    have KY35 := Aside0.mk hy35
                    have KA35 := Aside0.mk hA35
                    clear hy35 hA35
                    replace q35 := eq_true q35
                    try go_wp2
                    go_roundg k1
                    case measure => have := HK1.out; omega
                    case rel => exact ⟨(y353), (y333), (y350), H', ⟨by have := HK1.out; omega⟩, ⟨by (with_reducible repeat (first | apply Kd.V_alloc | apply Kd.V_drewN | apply Kd.V_drew)); exact Kd.V_mono HO357.out (fun _ hk => ⟨hk.1.1, ⟨hk.1.2.2.1, hk.2⟩⟩)⟩, ⟨by (with_reducible repeat (first | apply Kd.N_alloc | apply Kd.N_drewN | apply Kd.N_drew)); exact Kd.N_mono HO335.out (fun _ hk => ⟨hk.1.1, hk.2⟩)⟩, ⟨by (with_reducible repeat (first | apply Kd.N_alloc | apply Kd.N_drewN | apply Kd.N_drew)); exact Kd.N_mono HO352.out (fun _ hk => ⟨hk.1, hk.2.2.1⟩)⟩, ⟨by repeat (first | (with_reducible first | exact HB.out | apply below_alloc | apply pw_below_drewN | apply below_drew1 | refine below_set ?_ GE329.out) | exact HB.out)⟩⟩
                  · rw [if_neg c9] at H
                    exact absurd H (by simp)
                · rw [if_neg c8] at H
                  exact absurd H (by simp)
              · rw [if_neg c7] at H
                exact absurd H (by simp)
            · rw [if_neg c6] at H
              exact absurd H (by simp)
          · rw [if_neg c5] at H
            exact absurd H (by simp)
        · rw [if_neg c4] at H
          have c4b0 : (t328 == 0) = false := beq_eq_false_iff_ne.mpr c4
          have c4b1 : (t328 != 0) = true := bne_iff_ne.mpr c4
          simp only [Option.some.injEq, Prod.mk.injEq] at H
          obtain ⟨rfl, rfl, rfl⟩ := H
          obtain ⟨Ao36, co36, eo36⟩ := Kd.V_slice HO_0.out
          subst eo36
          go_wp2_with (first | ((with_reducible refine gate_callee (f := 9) rfl ?_); refine goesL_ (some 15) rfl rfl Try.func9 (by kernel_rfl) rfl #[.slice Ao36 x0_1.length co36] rfl (by (try simp only [List.map_toArray, List.map_cons, List.map_nil]); first | done | rfl | (simp only [List.length_drop, List.length_take]; rfl)) ?_; (with_reducible refine (courierref01_TakeField.calls k1 _ _ x0_1 t321 t322 t323 t324 t327 t328 _ ?side1 ?side2 A3.out).mono ?_); (case side1 => repeat (first | exact (Kd.V_reads' HO_0.out).2.2 | (with_reducible refine Kd.C_alloc ?_ _) | (with_reducible refine Kd.C_drewN ?_ _) | (with_reducible refine Kd.C_drew ?_))); (case side2 => exact (Kd.V_reads' HO_0.out).2.1); rintro e w37 ⟨v325, rfl, ho0, hb⟩; refine ⟨_, rfl, ?_⟩; have n0_ := Aside0.mk (Kd.V_elder' (by (with_reducible repeat (first | apply Kd.V_alloc | apply Kd.V_drewN | apply Kd.V_drew)); exact HO_0.out) (Kd.R_base ho0) hb); have n1_ := Aside0.mk (Kd.N_elder' (by (with_reducible repeat (first | apply Kd.N_alloc | apply Kd.N_drewN | apply Kd.N_drew)); exact HO_5.out) (Kd.R_base ho0) hb); have n2_ := Aside0.mk (Kd.N_elder' (by (with_reducible repeat (first | apply Kd.N_alloc | apply Kd.N_drewN | apply Kd.N_drew)); exact HO_6.out) (Kd.R_base ho0) hb); have n3_ := Aside0.mk (Kd.R_lower (Kd.R_newM (M := fun k_ => (w.heap.size ≤ k_)) ho0 (below_size (by repeat (first | (with_reducible first | exact HB.out | apply below_alloc | apply pw_below_drewN | apply below_drew1) | exact HB.out))) (fun k_ h_ => h_)) (below_size (by repeat (first | (with_reducible first | exact HB.out | apply below_alloc | apply pw_below_drewN | apply below_drew1) | exact HB.out)))); have n4_ := Aside0.mk (below_step (by repeat (first | (with_reducible first | exact HB.out | apply below_alloc | apply pw_below_drewN | apply below_drew1) | exact HB.out)) hb); clear HO_0; clear HO_5; clear HO_6; clear HB; have HO_0 := n0_; have HO_5 := n1_; have HO_6 := n2_; have HO326 := n3_; have HB := n4_; clear n0_ n1_ n2_ n3_ n4_; (try clear hb); (try clear hb2); (try clear hk); (try clear hi); (try clear ho0)) | ((with_reducible refine gate_dst (N := 7) rfl ?_); refine box_event ?hg (N := 7) ?hd (cs := #[.int .i64 0, .int .i64 0, .int .u64 0, .slice none 0 0]) (t := 30) ?hr ?_; (case hd => rfl); (case hg => rfl); (case hr => first | (go_simp; done) | (go_simp; rfl)); intro gb329 hg w38 hbox hb; have n0_ := Aside0.mk (Kd.V_below (Kd.V_elderB (by (with_reducible repeat (first | apply Kd.V_alloc | apply Kd.V_drewN | apply Kd.V_drew)); exact HO_0.out) gb329 (Nat.le_of_eq hg.symm)) hb); have n1_ := Aside0.mk (Kd.N_below (Kd.N_elderB (by (with_reducible repeat (first | apply Kd.N_alloc | apply Kd.N_drewN | apply Kd.N_drew)); exact HO_5.out) gb329 (Nat.le_of_eq hg.symm)) hb); have n2_ := Aside0.mk (Kd.N_below (Kd.N_elderB (by (with_reducible repeat (first | apply Kd.N_alloc | apply Kd.N_drewN | apply Kd.N_drew)); exact HO_6.out) gb329 (Nat.le_of_eq hg.symm)) hb); have n3_ := Aside0.mk (Kd.R_below (by (with_reducible repeat (first | apply Kd.R_alloc | apply Kd.R_drewN | apply Kd.R_drew)); exact HO326.out) hb); have n4_ := Aside0.mk (below_step (by repeat (first | (with_reducible first | exact HB.out | apply below_alloc | apply pw_below_drewN | apply below_drew1) | exact HB.out)) hb); have n5_ := Aside0.mk (hbox); have n6_ := Aside0.mk ((by rw [hg]; exact (below_size (by repeat (first | (with_reducible first | exact HB.out | apply below_alloc | apply pw_below_drewN | apply below_drew1) | exact HB.out))) : w.heap.size ≤ gb329)); have n7_ := Aside0.mk ((by rw [hg]; exact (below_size (by repeat (first | (with_reducible first | exact HB.out | apply below_alloc | apply pw_below_drewN | apply below_drew1) | exact HB.out))) : w.heap.size ≤ gb329)); clear HO_0; clear HO_5; clear HO_6; clear HO326; clear HB; have HO_0 := n0_; have HO_5 := n1_; have HO_6 := n2_; have HO326 := n3_; have HB := n4_; have BK329 := n5_; have GW329 := n6_; have GE329 := n7_; clear n0_ n1_ n2_ n3_ n4_ n5_ n6_ n7_; clear hb hbox hg; have hcz39_0 : w38.cell? ⟨gb329, 0, none⟩ = some (.int .i64 0) := (blk_cell BK329.out 0).trans rfl; have hcz39_1 : w38.cell? ⟨gb329, 1, none⟩ = some (.int .i64 0) := (blk_cell BK329.out 1).trans rfl; have hcz39_2 : w38.cell? ⟨gb329, 2, none⟩ = some (.int .u64 0) := (blk_cell BK329.out 2).trans rfl; have hcz39_3 : w38.cell? ⟨gb329, 3, none⟩ = some (.slice none 0 0) := (blk_cell BK329.out 3).trans rfl; have hfz39_0 := blk_frozen BK329.out 0; have hfz39_1 := blk_frozen BK329.out 1; have hfz39_2 := blk_frozen BK329.out 2; have hfz39_3 := blk_frozen BK329.out 3; obtain ⟨Ao40, co40, eo40⟩ := Kd.R_slice HO326.out; subst eo40))
          go_ret3
          exact ⟨_, _, by first | rfl | (simp [errW_none, errW_some] <;> rfl) | (simp [*, errW_none, errW_some] <;> rfl), by first | exact Kd.S_nil _ _ _ _ _ | exact Kd.N_nil _ _ _ _ _ | exact Kd.V_nil _ _ _ _ _ | exact Kd.Q_nil _ _ _ _ _ | exact Kd.R_nil _ _ _ _ _, by first | exact Kd.S_nil _ _ _ _ _ | exact Kd.N_nil _ _ _ _ _ | exact Kd.V_nil _ _ _ _ _ | exact Kd.Q_nil _ _ _ _ _ | exact Kd.R_nil _ _ _ _ _, by repeat (first | (with_reducible first | exact HB.out | apply below_alloc | apply pw_below_drewN | apply below_drew1 | refine below_set ?_ GE329.out) | exact HB.out)⟩
      · rw [if_neg c2] at H
        have c2b0 : decide (0 < (x0_1.length : Int)) = false := decide_eq_false c2
        have c2b1 : decide (0 < x0_1.length) = false := decide_eq_false (by omega)
        clear c2
        simp only [Option.some.injEq, Prod.mk.injEq] at H
        obtain ⟨rfl, rfl, rfl⟩ := H
        obtain ⟨Ao41, co41, eo41⟩ := Kd.V_slice HO_0.out
        subst eo41
        go_wp2
        go_ret3
        exact ⟨_, _, by first | rfl | (simp [errW_none, errW_some] <;> rfl) | (simp [*, errW_none, errW_some] <;> rfl), by (with_reducible repeat (first | apply Kd.N_alloc | apply Kd.N_drewN | apply Kd.N_drew)); exact HO_5.out, by (with_reducible repeat (first | apply Kd.N_alloc | apply Kd.N_drewN | apply Kd.N_drew)); exact HO_6.out, by repeat (first | (with_reducible first | exact HB.out | apply below_alloc | apply pw_below_drewN | apply below_drew1) | exact HB.out)⟩

end Go.Proofs.Ytopmelffmakklaa.X
