/- Plain functions for Go's own, out of the translation's print, and a proof that each call comes to what they tell; no condition but the functions' own answers. -/
import Derived.Test.YtopmelffmakklaaX0
import Derived.Test.YtopmelffmakklaaX7
import Derived.Test.YtopmelffmakklaaX8
namespace Go.Proofs.Ytopmelffmakklaa.X
open Go.RowKit Go.Proofs.YtopmelffmakklaaW.PrintWords Go.Proofs.YtopmelffmakklaaW.PrintLast Go.Proofs.YtopmelffmakklaaW.PrintMore
attribute [local go_sem] max2_int min2_int max_two min_two max_three min_three max_four min_four Go.Proofs.Ytopmelffmakklaa.MyWords.put_isSome Go.Proofs.Ytopmelffmakklaa.MyWords.drewN_put   -- for this text's walks alone
set_option linter.unusedVariables false
set_option linter.unusedSimpArgs false

/-! ### wire_Split: function 15 -/
def wire_Split.l0 : Nat → List Int → List (S26) → List (List Int) → Option ((List (S26)) × (List (List Int)) × Int)
  | 0, _, _, _ => none
  | k + 1, x0, x2, x3 => if (x0.length : Int) > 0 then ((wire_Take.f k x0).bind fun bt293 => (if bt293.2.2.2.2.2 = 0 then (if x2.length < 2932031007402 then (if 0 ≤ bt293.2.2.2.2.1 then (if bt293.2.2.2.2.1 ≤ (x0.length : Int) then ((slices_Clone_byte_byte.f (x0.take (bt293.2.2.2.2.1 : Int).toNat)).bind fun t310 => (if x3.length < 5864062014805 then (wire_Split.l0 k (x0.drop (bt293.2.2.2.2.1 : Int).toNat) (x2 ++ [(⟨bt293.1, bt293.2.1, bt293.2.2.1, bt293.2.2.2.1⟩ : S26)]) (x3 ++ [t310])) else (none))) else (none)) else (none)) else (none)) else (some (([] : List (S26)), ([] : List (List Int)), 2)))) else (some (x2, x3, 0))
def wire_Split.f (k : Nat) (l0 : List Int) : Option ((List (S26)) × (List (List Int)) × Int) := wire_Split.l0 k l0 ([] : List (S26)) ([] : List (List Int))
theorem wire_Split.mono_l : ∀ k, (∀ y0 y1 y2, LeO (wire_Split.l0 k y0 y1 y2) (wire_Split.l0 (k + 1) y0 y1 y2))
  | 0 => fun _ _ _ r h => by simp [wire_Split.l0] at h
  | k + 1 => by
    have ih0 := wire_Split.mono_l k
    · intro y0 y1 y2
      unfold wire_Split.l0
      repeat' first
      | (with_reducible exact ih0 _ _ _)
      | (with_reducible exact wire_Take.mono _ _)
      | (with_reducible exact LeO.refl _)
      | (with_reducible exact LeO.none _)
      | (with_reducible refine LeO.ite ?_ ?_)
      | (with_reducible refine LeO.bind ?_ (fun _ => ?_))
      | exact ih0 _ _ _
      | exact wire_Take.mono _ _
      | exact LeO.none _
      | refine LeO.ite ?_ ?_
      | refine LeO.bind ?_ (fun _ => ?_)
theorem wire_Split.mono : ∀ a0 k, LeO (wire_Split.f k a0) (wire_Split.f (k + 1) a0) := by
  intro a0 k
  have ih0 := wire_Split.mono_l k
  unfold wire_Split.f
  repeat' first
      | (with_reducible exact ih0 _ _ _)
      | (with_reducible exact wire_Take.mono _ _)
      | (with_reducible exact LeO.refl _)
      | (with_reducible exact LeO.none _)
      | (with_reducible refine LeO.ite ?_ ?_)
      | (with_reducible refine LeO.bind ?_ (fun _ => ?_))
      | exact ih0 _ _ _
      | exact wire_Take.mono _ _
      | exact LeO.none _
      | refine LeO.ite ?_ ?_
      | refine LeO.bind ?_ (fun _ => ?_)
def wire_Split.T5 : Bool × List (List Nat × List Nat) := (true, [([], []), ([], []), ([1], [1]), ([0, 2], [0, 2]), ([], []), ([], []), ([], []), ([5, 6], [5, 6]), ([7, 3], [7]), ([8], [8]), ([4, 9, 8], [4, 9]), ([3, 10, 0, 1, 2, 3], [0, 3]), ([10, 11, 0, 1, 2, 3, 4, 5, 6, 7, 8, 9, 10, 11], [4, 10])])
def wire_Split.B5 : List Nat := [0, 0, 2, 7, 0, 0, 0, 96, 239, 495, 1023, 2047, 4095]
theorem wire_Split.tab5 : rtab .any (opsOf Try.f15 5) = wire_Split.T5 := by kernel_rfl
theorem wire_Split.bits5 : waitsOk wire_Split.T5.2 wire_Split.B5 = true := by kernel_rfl
set_option maxHeartbeats 8000000 in
set_option maxRecDepth 100000 in
theorem wire_Split.calls (k : Nat) (P0_ : Nat → Prop) (A0 : Option Addr) (c0 : Nat) (l0 : List Int) (r1 : List (S26)) (r2 : List (List Int)) (r3 : Int) (w : World) (hs0 : Kd.V (Kd.int .u8) 5 w w.heap.size (fun k_ => P0_ k_) (.slice A0 l0.length c0) l0) (h : wire_Split.f k l0 = some (r1, r2, r3)) :
    Calls Try.prog 15 #[.slice A0 l0.length c0] w fun e w' => ∃ v0_ v1_ : Value, e = .returned (.tuple #[v0_, v1_, .int .i64 r3]) ∧ Kd.N k26 26 w' w.heap.size (fun k_ => (P0_ k_ ∨ w.heap.size ≤ k_) ∧ some k_ ≠ (v1_ : Value).ownBlock) v0_ r1 ∧ Kd.N (Kd.slice 5 (Kd.int .u8)) 22 w' w.heap.size (fun k_ => (P0_ k_ ∨ w.heap.size ≤ k_) ∧ some k_ ≠ (v0_ : Value).ownBlock) v1_ r2 ∧ Below w.heap.size w w' := by
  have hu26 := Try.underlying26
  have HO0 := Aside0.mk (show Kd.V (Kd.int .u8) 5 w w.heap.size (fun k_ => (P0_ k_ ∨ w.heap.size ≤ k_)) (.slice A0 l0.length c0) l0 from Kd.V_mono hs0 (fun k_ hk => .inl hk))
  have HB := Aside0.mk (Below.refl w.heap.size w)
  have H : (wire_Split.l0 k l0 ([] : List (S26)) ([] : List (List Int))) = some (r1, r2, r3) := h
  clear h
  have H' := Aside0.mk H
  clear H
  go_enter Try.func15, Try.ntmps15
  go_wp2
  go_loopg [0, 2, 3] k (fun kq v0 v2 v3 w' => ∃ (x0_1 : List Int) (x2_1 : List (S26)) (x3_1 : List (List Int)), Aside0 (wire_Split.l0 kq x0_1 x2_1 x3_1 = some (r1, r2, r3)) ∧ Aside0 (kq ≤ k) ∧ Aside0 (Kd.V (Kd.int .u8) 5 w' w.heap.size (fun k_ => (P0_ k_ ∨ w.heap.size ≤ k_) ∧ some k_ ≠ (v2 : Value).ownBlock ∧ some k_ ≠ (v3 : Value).ownBlock) v0 x0_1) ∧ Aside0 (Kd.N k26 26 w' w.heap.size (fun k_ => (P0_ k_ ∨ w.heap.size ≤ k_) ∧ some k_ ≠ (v3 : Value).ownBlock) v2 x2_1) ∧ Aside0 (Kd.N (Kd.slice 5 (Kd.int .u8)) 22 w' w.heap.size (fun k_ => (P0_ k_ ∨ w.heap.size ≤ k_) ∧ some k_ ≠ (v2 : Value).ownBlock) v3 x3_1) ∧ Aside0 (Below w.heap.size w w'))
  case atStart => exact ⟨(l0), (([] : List (S26))), (([] : List (List Int))), H', ⟨Nat.le_refl _⟩, ⟨by (with_reducible repeat (first | apply Kd.V_alloc | apply Kd.V_drewN | apply Kd.V_drew)); exact Kd.V_mono HO0.out (fun _ hk => ⟨hk, ⟨(by simp [Value.ownBlock]), (by simp [Value.ownBlock])⟩⟩)⟩, ⟨by first | exact Kd.S_nil _ _ _ _ _ | exact Kd.N_nil _ _ _ _ _ | exact Kd.V_nil _ _ _ _ _ | exact Kd.Q_nil _ _ _ _ _ | exact Kd.R_nil _ _ _ _ _⟩, ⟨by first | exact Kd.S_nil _ _ _ _ _ | exact Kd.N_nil _ _ _ _ _ | exact Kd.V_nil _ _ _ _ _ | exact Kd.Q_nil _ _ _ _ _ | exact Kd.R_nil _ _ _ _ _⟩, ⟨by repeat (first | (with_reducible first | exact HB.out | apply below_alloc | apply pw_below_drewN | apply below_drew1) | exact HB.out)⟩⟩
  case round =>
    clear H'
    try clear c1
    obtain ⟨x0_1, x2_1, x3_1, HA, HK1, HO_0, HO_2, HO_3, HB⟩ := hrel
    cases gk with
    | zero => exact absurd HA.out (by simp [wire_Split.l0])
    | succ k1 =>
      have H := HA.out
      clear HA
      simp only [wire_Split.l0] at H
      by_cases c2 : (x0_1.length : Int) > 0
      · rw [if_pos c2] at H
        have c2b0 : decide (0 < (x0_1.length : Int)) = true := decide_eq_true c2
        have c2b1 : decide (0 < x0_1.length) = true := decide_eq_true (by omega)
        clear c2
        replace H := Option.bind_eq_some_iff.mp H
        obtain ⟨⟨t293, t294, t295, t296, t299, t300⟩, A30, H⟩ := H
        replace H : (if t300 = 0 then (if x2_1.length < 2932031007402 then (if 0 ≤ t299 then (if t299 ≤ (x0_1.length : Int) then ((slices_Clone_byte_byte.f (x0_1.take (t299 : Int).toNat)).bind fun t310 => (if x3_1.length < 5864062014805 then (wire_Split.l0 k1 (x0_1.drop (t299 : Int).toNat) (x2_1 ++ [(⟨t293, t294, t295, t296⟩ : S26)]) (x3_1 ++ [t310])) else (none))) else (none)) else (none)) else (none)) else (some (([] : List (S26)), ([] : List (List Int)), 2))) = some (r1, r2, r3) := H
        have A3 := Aside0.mk A30
        clear A30
        by_cases c4 : t300 = 0
        · rw [if_pos c4] at H
          have c4b0 : (t300 == 0) = true := beq_iff_eq.mpr c4
          have c4b1 : (t300 != 0) = false := bne_eq_false_iff_eq.mpr c4
          clear c4
          by_cases c5 : x2_1.length < 2932031007402
          · rw [if_pos c5] at H
            have LMc5 := Aside0.mk c5
            clear c5
            obtain ⟨y302, hy302⟩ : ∃ y_ : List (S26), y_ = (x2_1 ++ [(⟨t293, t294, t295, t296⟩ : S26)]) := ⟨_, rfl⟩
            replace H : (if 0 ≤ t299 then (if t299 ≤ (x0_1.length : Int) then ((slices_Clone_byte_byte.f (x0_1.take (t299 : Int).toNat)).bind fun t310 => (if x3_1.length < 5864062014805 then (wire_Split.l0 k1 (x0_1.drop (t299 : Int).toNat) y302 (x3_1 ++ [t310])) else (none))) else (none)) else (none)) = some (r1, r2, r3) := by first | (rw [hy302]; with_reducible exact H) | (have H2_ := (Option.bind_some _ _).symm.trans H; rw [hy302]; with_reducible exact H2_) | (have H2_ := (Option.bind_some _ _).symm.trans H; with_reducible exact H2_) | with_reducible exact H | (rw [hy302]; exact H) | exact H
            have Ny302 := Aside0.mk hy302
            clear hy302
            by_cases c6 : 0 ≤ t299
            · rw [if_pos c6] at H
              have c6b0 := eq_true c6
              have c6b1 : decide (0 ≤ t299) = true := decide_eq_true c6
              clear c6
              by_cases c7 : t299 ≤ (x0_1.length : Int)
              · rw [if_pos c7] at H
                have c7b0 := eq_true c7
                have c7b1 : decide (t299 ≤ (x0_1.length : Int)) = true := decide_eq_true c7
                clear c7
                obtain ⟨y305, hy305⟩ : ∃ y_ : List Int, y_ = (x0_1.take (t299 : Int).toNat) := ⟨_, rfl⟩
                replace H : ((slices_Clone_byte_byte.f y305).bind fun t310 => (if x3_1.length < 5864062014805 then (wire_Split.l0 k1 (x0_1.drop (t299 : Int).toNat) y302 (x3_1 ++ [t310])) else (none))) = some (r1, r2, r3) := by first | (rw [hy305]; with_reducible exact H) | (have H2_ := (Option.bind_some _ _).symm.trans H; rw [hy305]; with_reducible exact H2_) | (have H2_ := (Option.bind_some _ _).symm.trans H; with_reducible exact H2_) | with_reducible exact H | (rw [hy305]; exact H) | exact H
                have Ny305 := Aside0.mk hy305
                clear hy305
                replace H := Option.bind_eq_some_iff.mp H
                obtain ⟨t310, A80, H⟩ := H
                replace H : (if x3_1.length < 5864062014805 then (wire_Split.l0 k1 (x0_1.drop (t299 : Int).toNat) y302 (x3_1 ++ [t310])) else (none)) = some (r1, r2, r3) := H
                have A8 := Aside0.mk A80
                clear A80
                by_cases c9 : x3_1.length < 5864062014805
                · rw [if_pos c9] at H
                  have LMc9 := Aside0.mk c9
                  clear c9
                  obtain ⟨y313, hy313⟩ : ∃ y_ : List (List Int), y_ = (x3_1 ++ [t310]) := ⟨_, rfl⟩
                  replace H : (wire_Split.l0 k1 (x0_1.drop (t299 : Int).toNat) y302 y313) = some (r1, r2, r3) := by first | (rw [hy313]; with_reducible exact H) | (have H2_ := (Option.bind_some _ _).symm.trans H; rw [hy313]; with_reducible exact H2_) | (have H2_ := (Option.bind_some _ _).symm.trans H; with_reducible exact H2_) | with_reducible exact H | (rw [hy313]; exact H) | exact H
                  have Ny313 := Aside0.mk hy313
                  clear hy313
                  have c10b0 := eq_true (of_decide_eq_true (by first | (with_reducible assumption) | assumption) : 0 ≤ t299)
                  have c11b0 := eq_true (of_decide_eq_true (by first | (with_reducible assumption) | assumption) : t299 ≤ (x0_1.length : Int))
                  obtain ⟨y316, hy316⟩ : ∃ y_ : List Int, y_ = (x0_1.drop (t299 : Int).toNat) := ⟨_, rfl⟩
                  replace H : (wire_Split.l0 k1 y316 y302 y313) = some (r1, r2, r3) := by first | (rw [hy316]; with_reducible exact H) | (have H2_ := (Option.bind_some _ _).symm.trans H; rw [hy316]; with_reducible exact H2_) | (have H2_ := (Option.bind_some _ _).symm.trans H; with_reducible exact H2_) | with_reducible exact H | (rw [hy316]; exact H) | exact H
                  have Ny316 := Aside0.mk hy316
                  clear hy316
                  have H' := Aside0.mk H
                  clear H
                  obtain ⟨Ao12, co12, eo12⟩ := Kd.V_slice HO_0.out
                  subst eo12
                  try go_wp2_with (first | ((with_reducible refine gate_callee (f := 8) rfl ?_); refine goesL_ (some 13) rfl rfl Try.func8 (by kernel_rfl) rfl #[.slice Ao12 x0_1.length co12] rfl (by (try simp only [List.map_toArray, List.map_cons, List.map_nil]); first | done | rfl | (simp only [List.length_drop, List.length_take]; rfl)) ?_; (with_reducible refine (wire_Take.calls k1 _ _ x0_1 t293 t294 t295 t296 t299 t300 _ ?side1 ?side2 A3.out).mono ?_); (case side1 => repeat (first | exact (Kd.V_reads' HO_0.out).2.2 | (with_reducible refine Kd.C_alloc ?_ _) | (with_reducible refine Kd.C_drewN ?_ _) | (with_reducible refine Kd.C_drew ?_))); (case side2 => exact (Kd.V_reads' HO_0.out).2.1); rintro e w13 ⟨v297, rfl, ho0, hb⟩; refine ⟨_, rfl, ?_⟩; have n0_ := Aside0.mk (Kd.V_elder' (by (with_reducible repeat (first | apply Kd.V_alloc | apply Kd.V_drewN | apply Kd.V_drew)); exact HO_0.out) (Kd.R_base ho0) hb); have n1_ := Aside0.mk (Kd.N_elder' (by (with_reducible repeat (first | apply Kd.N_alloc | apply Kd.N_drewN | apply Kd.N_drew)); exact HO_2.out) (Kd.R_base ho0) hb); have n2_ := Aside0.mk (Kd.N_elder' (by (with_reducible repeat (first | apply Kd.N_alloc | apply Kd.N_drewN | apply Kd.N_drew)); exact HO_3.out) (Kd.R_base ho0) hb); have n3_ := Aside0.mk (Kd.R_lower (Kd.R_newM (M := fun k_ => (w.heap.size ≤ k_)) ho0 (below_size (by repeat (first | (with_reducible first | exact HB.out | apply below_alloc | apply pw_below_drewN | apply below_drew1) | exact HB.out))) (fun k_ h_ => h_)) (below_size (by repeat (first | (with_reducible first | exact HB.out | apply below_alloc | apply pw_below_drewN | apply below_drew1) | exact HB.out)))); have n4_ := Aside0.mk (below_step (by repeat (first | (with_reducible first | exact HB.out | apply below_alloc | apply pw_below_drewN | apply below_drew1) | exact HB.out)) hb); clear HO_0; clear HO_2; clear HO_3; clear HB; have HO_0 := n0_; have HO_2 := n1_; have HO_3 := n2_; have HO298 := n3_; have HB := n4_; clear n0_ n1_ n2_ n3_ n4_; (try clear hb); (try clear hb2); (try clear hk); (try clear hi); (try clear ho0)) | ((with_reducible refine gate_dst (N := 5) rfl ?_); refine box_event ?hg (N := 5) ?hd (cs := #[.int .i64 0, .int .i64 0, .int .u64 0, .slice none 0 0]) (t := 26) ?hr ?_; (case hd => rfl); (case hg => rfl); (case hr => first | (go_simp; done) | (go_simp; rfl)); intro gb301 hg w14 hbox hb; have n0_ := Aside0.mk (Kd.V_below (Kd.V_elderB (by (with_reducible repeat (first | apply Kd.V_alloc | apply Kd.V_drewN | apply Kd.V_drew)); exact HO_0.out) gb301 (Nat.le_of_eq hg.symm)) hb); have n1_ := Aside0.mk (Kd.N_below (Kd.N_elderB (by (with_reducible repeat (first | apply Kd.N_alloc | apply Kd.N_drewN | apply Kd.N_drew)); exact HO_2.out) gb301 (Nat.le_of_eq hg.symm)) hb); have n2_ := Aside0.mk (Kd.N_below (Kd.N_elderB (by (with_reducible repeat (first | apply Kd.N_alloc | apply Kd.N_drewN | apply Kd.N_drew)); exact HO_3.out) gb301 (Nat.le_of_eq hg.symm)) hb); have n3_ := Aside0.mk (Kd.R_below (by (with_reducible repeat (first | apply Kd.R_alloc | apply Kd.R_drewN | apply Kd.R_drew)); exact HO298.out) hb); have n4_ := Aside0.mk (below_step (by repeat (first | (with_reducible first | exact HB.out | apply below_alloc | apply pw_below_drewN | apply below_drew1) | exact HB.out)) hb); have n5_ := Aside0.mk (hbox); have n6_ := Aside0.mk ((by rw [hg]; exact (below_size (by repeat (first | (with_reducible first | exact HB.out | apply below_alloc | apply pw_below_drewN | apply below_drew1) | exact HB.out))) : w.heap.size ≤ gb301)); have n7_ := Aside0.mk ((by rw [hg]; exact (below_size (by repeat (first | (with_reducible first | exact HB.out | apply below_alloc | apply pw_below_drewN | apply below_drew1) | exact HB.out))) : w.heap.size ≤ gb301)); clear HO_0; clear HO_2; clear HO_3; clear HO298; clear HB; have HO_0 := n0_; have HO_2 := n1_; have HO_3 := n2_; have HO298 := n3_; have HB := n4_; have BK301 := n5_; have GW301 := n6_; have GE301 := n7_; clear n0_ n1_ n2_ n3_ n4_ n5_ n6_ n7_; clear hb hbox hg; have hcz15_0 : w14.cell? ⟨gb301, 0, none⟩ = some (.int .i64 0) := (blk_cell BK301.out 0).trans rfl; have hcz15_1 : w14.cell? ⟨gb301, 1, none⟩ = some (.int .i64 0) := (blk_cell BK301.out 1).trans rfl; have hcz15_2 : w14.cell? ⟨gb301, 2, none⟩ = some (.int .u64 0) := (blk_cell BK301.out 2).trans rfl; have hcz15_3 : w14.cell? ⟨gb301, 3, none⟩ = some (.slice none 0 0) := (blk_cell BK301.out 3).trans rfl; have hfz15_0 := blk_frozen BK301.out 0; have hfz15_1 := blk_frozen BK301.out 1; have hfz15_2 := blk_frozen BK301.out 2; have hfz15_3 := blk_frozen BK301.out 3; obtain ⟨Ao16, co16, eo16⟩ := Kd.R_slice HO298.out; subst eo16))
                  have n0_ : Aside0 (Kd.V (Kd.int .u8) 5 ((((w14.setCell ⟨gb301, 0, none⟩ (.int .i64 t293)).setCell ⟨gb301, 1, none⟩ (.int .i64 t294)).setCell ⟨gb301, 2, none⟩ (.int .u64 t295)).setCell ⟨gb301, 3, none⟩ (.slice Ao16 t296.length co16)) w.heap.size (fun k_ => (P0_ k_ ∨ w.heap.size ≤ k_) ∧ some k_ ≠ (u2 : Value).ownBlock ∧ some k_ ≠ (u3 : Value).ownBlock ∧ some k_ ≠ (.slice Ao16 t296.length co16 : Value).ownBlock ∧ k_ ≠ gb301) (.slice Ao12 x0_1.length co12) x0_1) := ⟨by (with_reducible repeat (first | apply Kd.V_alloc | apply Kd.V_drewN | apply Kd.V_drew)); exact Kd.V_mono (Kd.V_far (p := ⟨gb301, 3, none⟩) (Kd.V_far (p := ⟨gb301, 2, none⟩) (Kd.V_far (p := ⟨gb301, 1, none⟩) (Kd.V_far (p := ⟨gb301, 0, none⟩) (Kd.V_mono HO_0.out (fun k_ hk => (⟨hk, hk.2⟩ : _ ∧ k_ ≠ gb301))) (fun _ hk => hk.2) (.int .i64 t293)) (fun _ hk => hk.2) (.int .i64 t294)) (fun _ hk => hk.2) (.int .u64 t295)) (fun _ hk => hk.2) (.slice Ao16 t296.length co16)) (fun _ hk => ⟨hk.1.1.1.1, ⟨hk.1.1.1.2.1, ⟨hk.1.1.1.2.2, ⟨hk.1.1.2, hk.1.2⟩⟩⟩⟩)⟩
                  have n1_ : Aside0 (Kd.N k26 26 ((((w14.setCell ⟨gb301, 0, none⟩ (.int .i64 t293)).setCell ⟨gb301, 1, none⟩ (.int .i64 t294)).setCell ⟨gb301, 2, none⟩ (.int .u64 t295)).setCell ⟨gb301, 3, none⟩ (.slice Ao16 t296.length co16)) w.heap.size (fun k_ => (P0_ k_ ∨ w.heap.size ≤ k_) ∧ some k_ ≠ (u3 : Value).ownBlock ∧ some k_ ≠ (.slice Ao16 t296.length co16 : Value).ownBlock ∧ k_ ≠ gb301) u2 x2_1) := ⟨by (with_reducible repeat (first | apply Kd.N_alloc | apply Kd.N_drewN | apply Kd.N_drew)); exact Kd.N_mono (Kd.N_far (p := ⟨gb301, 3, none⟩) (Kd.N_far (p := ⟨gb301, 2, none⟩) (Kd.N_far (p := ⟨gb301, 1, none⟩) (Kd.N_far (p := ⟨gb301, 0, none⟩) (Kd.N_mono HO_2.out (fun k_ hk => (⟨hk, hk.2⟩ : _ ∧ k_ ≠ gb301))) (fun _ hk => hk.2) (.int .i64 t293)) (fun _ hk => hk.2) (.int .i64 t294)) (fun _ hk => hk.2) (.int .u64 t295)) (fun _ hk => hk.2) (.slice Ao16 t296.length co16)) (fun _ hk => ⟨hk.1.1.1.1, ⟨hk.1.1.1.2, ⟨hk.1.1.2, hk.1.2⟩⟩⟩)⟩
                  have n2_ : Aside0 (Kd.N (Kd.slice 5 (Kd.int .u8)) 22 ((((w14.setCell ⟨gb301, 0, none⟩ (.int .i64 t293)).setCell ⟨gb301, 1, none⟩ (.int .i64 t294)).setCell ⟨gb301, 2, none⟩ (.int .u64 t295)).setCell ⟨gb301, 3, none⟩ (.slice Ao16 t296.length co16)) w.heap.size (fun k_ => (P0_ k_ ∨ w.heap.size ≤ k_) ∧ some k_ ≠ (u2 : Value).ownBlock ∧ some k_ ≠ (.slice Ao16 t296.length co16 : Value).ownBlock ∧ k_ ≠ gb301) u3 x3_1) := ⟨by (with_reducible repeat (first | apply Kd.N_alloc | apply Kd.N_drewN | apply Kd.N_drew)); exact Kd.N_mono (Kd.N_far (p := ⟨gb301, 3, none⟩) (Kd.N_far (p := ⟨gb301, 2, none⟩) (Kd.N_far (p := ⟨gb301, 1, none⟩) (Kd.N_far (p := ⟨gb301, 0, none⟩) (Kd.N_mono HO_3.out (fun k_ hk => (⟨hk, hk.2⟩ : _ ∧ k_ ≠ gb301))) (fun _ hk => hk.2) (.int .i64 t293)) (fun _ hk => hk.2) (.int .i64 t294)) (fun _ hk => hk.2) (.int .u64 t295)) (fun _ hk => hk.2) (.slice Ao16 t296.length co16)) (fun _ hk => ⟨hk.1.1.1.1, ⟨hk.1.1.1.2, ⟨hk.1.1.2, hk.1.2⟩⟩⟩)⟩
                  have n3_ : Aside0 (Kd.R (Kd.int .u8) 5 ((((w14.setCell ⟨gb301, 0, none⟩ (.int .i64 t293)).setCell ⟨gb301, 1, none⟩ (.int .i64 t294)).setCell ⟨gb301, 2, none⟩ (.int .u64 t295)).setCell ⟨gb301, 3, none⟩ (.slice Ao16 t296.length co16)) w.heap.size (fun k_ => (w.heap.size ≤ k_)) (.slice Ao16 t296.length co16) t296) := ⟨by (with_reducible repeat (first | apply Kd.R_alloc | apply Kd.R_drewN | apply Kd.R_drew)); exact Kd.R_mono (Kd.R_far (p := ⟨gb301, 3, none⟩) (Kd.R_far (p := ⟨gb301, 2, none⟩) (Kd.R_far (p := ⟨gb301, 1, none⟩) (Kd.R_far (p := ⟨gb301, 0, none⟩) (Kd.R_types HO298.out BK301.out (by decide)) (fun _ hk => hk.2) (.int .i64 t293)) (fun _ hk => hk.2) (.int .i64 t294)) (fun _ hk => hk.2) (.int .u64 t295)) (fun _ hk => hk.2) (.slice Ao16 t296.length co16)) (fun _ hk => hk.1.1)⟩
                  have n4_ : Aside0 (((((w14.setCell ⟨gb301, 0, none⟩ (.int .i64 t293)).setCell ⟨gb301, 1, none⟩ (.int .i64 t294)).setCell ⟨gb301, 2, none⟩ (.int .u64 t295)).setCell ⟨gb301, 3, none⟩ (.slice Ao16 t296.length co16)).heap[gb301]? = some (.cells #[.int .i64 t293, .int .i64 t294, .int .u64 t295, .slice Ao16 t296.length co16] 26 (0, 0))) := ⟨by (with_reducible repeat (first | refine blk_drewN ?_ _ | refine blk_drew ?_ | refine blk_alloc ?_ _)); refine blk_put (cs := #[.int .i64 t293, .int .i64 t294, .int .u64 t295, .slice none 0 0]) ?_ 3 _ rfl; (with_reducible repeat (first | refine blk_drewN ?_ _ | refine blk_drew ?_ | refine blk_alloc ?_ _)); refine blk_put (cs := #[.int .i64 t293, .int .i64 t294, .int .u64 0, .slice none 0 0]) ?_ 2 _ rfl; (with_reducible repeat (first | refine blk_drewN ?_ _ | refine blk_drew ?_ | refine blk_alloc ?_ _)); refine blk_put (cs := #[.int .i64 t293, .int .i64 0, .int .u64 0, .slice none 0 0]) ?_ 1 _ rfl; (with_reducible repeat (first | refine blk_drewN ?_ _ | refine blk_drew ?_ | refine blk_alloc ?_ _)); refine blk_put (cs := #[.int .i64 0, .int .i64 0, .int .u64 0, .slice none 0 0]) ?_ 0 _ rfl; (with_reducible repeat (first | refine blk_drewN ?_ _ | refine blk_drew ?_ | refine blk_alloc ?_ _)); exact BK301.out⟩
                  have n5_ : Aside0 (Below w.heap.size w ((((w14.setCell ⟨gb301, 0, none⟩ (.int .i64 t293)).setCell ⟨gb301, 1, none⟩ (.int .i64 t294)).setCell ⟨gb301, 2, none⟩ (.int .u64 t295)).setCell ⟨gb301, 3, none⟩ (.slice Ao16 t296.length co16))) := ⟨by repeat (first | (with_reducible first | exact HB.out | apply below_alloc | apply pw_below_drewN | apply below_drew1 | refine below_set ?_ GE301.out) | exact HB.out)⟩
                  (try clear HO_0)
                  (try clear HO_2)
                  (try clear HO_3)
                  (try clear HO298)
                  (try clear BK301)
                  (try clear HB)
                  generalize ((((w14.setCell ⟨gb301, 0, none⟩ (.int .i64 t293)).setCell ⟨gb301, 1, none⟩ (.int .i64 t294)).setCell ⟨gb301, 2, none⟩ (.int .u64 t295)).setCell ⟨gb301, 3, none⟩ (.slice Ao16 t296.length co16)) = w17 at n0_ n1_ n2_ n3_ n4_ n5_ ⊢
                  have HO_0 := n0_
                  have HO_2 := n1_
                  have HO_3 := n2_
                  have HO298 := n3_
                  have BK301 := n4_
                  have HB := n5_
                  clear n0_ n1_ n2_ n3_ n4_ n5_
                  have n0_ := Aside0.mk (Kd.V_drew HO_0.out)
                  have n1_ := Aside0.mk (Kd.N_drew HO_2.out)
                  have n2_ := Aside0.mk (Kd.N_drew HO_3.out)
                  have n3_ := Aside0.mk (Kd.R_drew HO298.out)
                  have n4_ := Aside0.mk (blk_drew BK301.out)
                  have n5_ := Aside0.mk (below_drew1 HB.out)
                  clear HO_0
                  clear HO_2
                  clear HO_3
                  clear HO298
                  clear BK301
                  clear HB
                  have HO_0 := n0_
                  have HO_2 := n1_
                  have HO_3 := n2_
                  have HO298 := n3_
                  have BK301 := n4_
                  have HB := n5_
                  clear n0_ n1_ n2_ n3_ n4_ n5_
                  have q19 : (t299 : Int) ≤ ((x0_1.length : Int) : Int) := of_decide_eq_true (by first | (with_reducible assumption) | assumption)
                  obtain ⟨i019, hi019, _, hsz19, _⟩ := info_parts info5
                  have hroom19 : x0_1.length ≤ co12 := (Kd.V_reads' HO_0.out).2.1
                  have hC19 : Kd.F (Kd.int .u8) _ _ Ao12 x0_1.length x0_1 := (Kd.V_at (base := w.heap.size) HO_0.out).2.2
                  have hcut19 := cut_to (P := Try.prog) 22 5 .i64 Try.underlying22 hi019 Ao12 x0_1.length co12 t299 (of_decide_eq_true (by first | (with_reducible assumption) | assumption)) q19 hroom19
                  have hr19 := Kd.F_take (m := (t299 : Int).toNat) hC19 (by omega)
                  have hy19 : y305.length = (t299 : Int).toNat := (by rw [Ny305.out, List.length_take]; omega)
                  rw [← Ny305.out] at hr19
                  rw [← hy19] at hcut19
                  have HO309 := Aside0.mk (show Kd.V (Kd.int .u8) 5 _ w.heap.size _ (.slice Ao12 y305.length co12) y305 from Kd.V_mk (by omega) hr19)
                  have HC309 := Aside0.mk (show y305.length ≤ co12 from by omega)
                  clear hr19 hC19 hroom19 hi019 hsz19
                  have KY19 := Aside0.mk hy19
                  clear hy19
                  replace q19 := eq_true q19
                  refine start_ (n := 13) (S := fun w' => w'.cell? ⟨gb301, 0, none⟩ = some (.int .i64 t293) ∧ w'.cell? ⟨gb301, 1, none⟩ = some (.int .i64 t294) ∧ w'.cell? ⟨gb301, 2, none⟩ = some (.int .u64 t295) ∧ w'.cell? ⟨gb301, 3, none⟩ = some (.slice Ao16 t296.length co16)) (ds := []) #[false, false, false, false, false, false, false, false, false, false, false, false, false] (by kernel_rfl) rfl rfl ⟨(blk_cell BK301.out 0).trans rfl, (blk_cell BK301.out 1).trans rfl, (blk_cell BK301.out 2).trans rfl, (blk_cell BK301.out 3).trans rfl⟩ (fun hHeld => ?_); refine with_tabW wire_Split.tab5 wire_Split.bits5 (fun HT_ HW_ => ?_)
                  generalize w17.drew = w18 at HO_0 HO_2 HO_3 HO298 BK301 HB HO309 hHeld ⊢
                  refine pure_ (i := 0) (N := some 19) (v := ?_) (a' := ?_) #[true, false, false, false, false, false, false, false, false, false, false, false, false] rfl rfl (any_of HT_.out (by kernel_rfl)) (fun _ _ _ h => h) (Or.inl ⟨by rfl, ?_⟩) ?_ ?_
                  rotate_left
                  · intro w'
                    go_simp
                    with_reducible rfl
                  rotate_left
                  · simp only [Act.put, List.setIfInBounds_toArray, List.set_cons_zero, List.set_cons_succ, i64_w, i32_w]
                    rfl
                  refine pure_ (i := 4) (N := some 23) (v := ?_) (a' := ?_) #[true, false, false, false, true, false, false, false, false, false, false, false, false] rfl rfl (any_of HT_.out (by kernel_rfl)) (fun _ _ _ h => h) (Or.inl ⟨by rfl, ?_⟩) ?_ ?_
                  rotate_left
                  · intro w'
                    go_simp
                    with_reducible rfl
                  rotate_left
                  · simp only [Act.put, List.setIfInBounds_toArray, List.set_cons_zero, List.set_cons_succ, i64_w, i32_w]
                    rfl
                  refine pure_ (i := 5) (N := some 24) (v := ?_) (a' := ?_) #[true, false, false, false, true, true, false, false, false, false, false, false, false] rfl rfl (any_of HT_.out (by kernel_rfl)) (fun _ _ _ h => h) (Or.inl ⟨by rfl, ?_⟩) ?_ ?_
                  rotate_left
                  · intro w'
                    go_simp
                    with_reducible rfl
                  rotate_left
                  · simp only [Act.put, List.setIfInBounds_toArray, List.set_cons_zero, List.set_cons_succ, i64_w, i32_w]
                    rfl
                  refine pure_ (i := 6) (N := some 25) (v := ?_) (a' := ?_) #[true, false, false, false, true, true, true, false, false, false, false, false, false] rfl rfl (any_of HT_.out (by kernel_rfl)) (fun _ _ _ h => h) (Or.inl ⟨by rfl, ?_⟩) ?_ ?_
                  rotate_left
                  · intro w'
                    go_simp
                    with_reducible rfl
                  rotate_left
                  · simp only [Act.put, List.setIfInBounds_toArray, List.set_cons_zero, List.set_cons_succ, i64_w, i32_w]
                    rfl
                  refine pure_ (i := 7) (N := some 26) (v := ?_) (a' := ?_) #[true, false, false, false, true, true, true, true, false, false, false, false, false] rfl rfl (any_of HT_.out (by kernel_rfl)) (fun _ _ _ h => h) (Or.inl ⟨by rfl, ?_⟩) ?_ ?_
                  rotate_left
                  · intro w'
                    go_simp
                    with_reducible rfl
                  rotate_left
                  · simp only [Act.put, List.setIfInBounds_toArray, List.set_cons_zero, List.set_cons_succ, i64_w, i32_w]
                    rfl
                  refine take_ (i := 1) (N := some 20) (v := ?_) (a' := ?_) #[true, true, false, false, true, true, true, true, false, false, false, false, false] rfl rfl (take_ofW HT_.out HW_.out (by kernel_rfl)) (fun _ _ _ h => h) (Or.inl ⟨by rfl, ?_⟩) hHeld ?_ ?_
                  rotate_left
                  · rintro w' ⟨s0, s1, s2, s3⟩
                    go_simp
                    with_reducible rfl
                  rotate_left
                  · simp only [Act.put, List.setIfInBounds_toArray, List.set_cons_zero, List.set_cons_succ, i64_w, i32_w]
                    rfl
                  refine one_ (i := 2) (N := some 21) #[true, true, true, false, true, true, true, true, false, false, false, false, false] rfl rfl (one_of HT_.out (by kernel_rfl)) (by decide) (fun K hK => ?_)
                  refine value_ (w1 := ?_) (v := ?_) (by rfl) rfl ?_ ?_
                  rotate_left 2
                  · go_simp
                    constructor
                    · rfl
                    · rfl
                  refine hK.out _ _ ⟨(blk_cell (blk_alloc BK301.out _) 0).trans rfl, (blk_cell (blk_alloc BK301.out _) 1).trans rfl, (blk_cell (blk_alloc BK301.out _) 2).trans rfl, (blk_cell (blk_alloc BK301.out _) 3).trans rfl⟩ (fun hHeld => ?_)
                  clear hK K
                  refine norm_ (a' := ?_) ?_ ?_
                  rotate_left
                  · show Act.put _ (some 21) _ = _
                    simp only [Act.put, List.setIfInBounds_toArray, List.set_cons_zero, List.set_cons_succ, i64_w, i32_w]
                    rfl
                  refine one_ (i := 3) (N := some 22) #[true, true, true, true, true, true, true, true, false, false, false, false, false] rfl rfl (one_of HT_.out (by kernel_rfl)) (by decide) (fun K hK => ?_)
                  refine Kd.N_append_step k26 (w0 := w) w.heap.size (by rfl) (.tmp 19) (.tmp 21) 42 26 (.agg #[(.int .i64 0), (.int .i64 0), (.int .u64 0), (.slice none 0 0)]) 48 rfl Try.underlying42 info26 rfl (by decide) (by omega) u2 x2_1 (⟨t293, t294, t295, t296⟩ : S26) [.int .i64 t293, .int .i64 t294, .int .u64 t295, .slice Ao16 t296.length co16] (fun k_ => (P0_ k_ ∨ w.heap.size ≤ k_) ∧ some k_ ≠ (u3 : Value).ownBlock ∧ k_ ≠ gb301) (fun k_ => ((fun k_ => (P0_ k_ ∨ w.heap.size ≤ k_) ∧ some k_ ≠ (u3 : Value).ownBlock ∧ k_ ≠ gb301)) k_ ∧ some k_ ≠ (u2 : Value).ownBlock) rfl rfl ?aP (fun _ hk => hk) ?aF ?aO ?aB ?aS ?aL ?_
                  (case aP => exact (k26_mkF _ _ (⟨t293, t294, t295, t296⟩ : S26) (Kd.R_reads' (Kd.R_mono (ok' := (fun k_ => ((fun k_ => (P0_ k_ ∨ w.heap.size ≤ k_) ∧ some k_ ≠ (u3 : Value).ownBlock ∧ k_ ≠ gb301)) k_ ∧ some k_ ≠ (u2 : Value).ownBlock)) (Kd.R_types (Kd.R_apart' (Kd.R_apart' (HO298.out) (Kd.N_typed HO_3.out) (by decide)) (Kd.N_typed HO_2.out) (by decide)) BK301.out (by decide)) (fun k_ hk => ⟨⟨(.inr (hk.1.1.1)), ⟨hk.1.1.2, hk.2⟩⟩, hk.1.2⟩))).2.1 (Kd.R_F (Kd.R_mono (ok' := (fun k_ => ((fun k_ => (P0_ k_ ∨ w.heap.size ≤ k_) ∧ some k_ ≠ (u3 : Value).ownBlock ∧ k_ ≠ gb301)) k_ ∧ some k_ ≠ (u2 : Value).ownBlock)) (Kd.R_types (Kd.R_apart' (Kd.R_apart' (HO298.out) (Kd.N_typed HO_3.out) (by decide)) (Kd.N_typed HO_2.out) (by decide)) BK301.out (by decide)) (fun k_ hk => ⟨⟨(.inr (hk.1.1.1)), ⟨hk.1.1.2, hk.2⟩⟩, hk.1.2⟩)))))
                  (case aB => exact (by repeat (first | (with_reducible first | exact HB.out | apply below_alloc | apply pw_below_drewN | apply below_drew1 | refine below_set ?_ GE301.out) | exact HB.out)))
                  (case aF => exact (fun k_ hk => ⟨(.inr (Nat.le_trans (below_size (by repeat (first | (with_reducible first | exact HB.out | apply below_alloc | apply pw_below_drewN | apply below_drew1 | refine below_set ?_ GE301.out) | exact HB.out))) hk)), Kd.fresh' (Kd.N_lt (by (with_reducible repeat (first | apply Kd.N_alloc | apply Kd.N_drewN | apply Kd.N_drew)); exact HO_3.out)) k_ hk, Kd.freshB (g := gb301) (o := .cells #[.int .i64 t293, .int .i64 t294, .int .u64 t295, .slice Ao16 t296.length co16] 26 (0, 0)) (by (with_reducible repeat (first | refine blk_drewN ?_ _ | refine blk_drew ?_ | refine blk_alloc ?_ _)); exact BK301.out) k_ hk⟩))
                  (case aO => exact (by (with_reducible repeat (first | apply Kd.N_alloc | apply Kd.N_drewN | apply Kd.N_drew)); exact Kd.N_mono HO_2.out (fun _ hk => ⟨hk.1, ⟨hk.2.1, hk.2.2.2⟩⟩)))
                  (case aS => exact (below_size (by repeat (first | (with_reducible first | exact HB.out | apply below_alloc | apply pw_below_drewN | apply below_drew1 | refine below_set ?_ GE301.out) | exact HB.out))))
                  (case aL => have := LMc5.out; omega)
                  intro v303 w20 ho hb hg hat
                  rw [← Ny302.out] at ho
                  have n0_ := Aside0.mk (Kd.V_afterv (ok := (fun k_ => (P0_ k_ ∨ w.heap.size ≤ k_) ∧ some k_ ≠ (u3 : Value).ownBlock ∧ some k_ ≠ (.slice Ao16 t296.length co16 : Value).ownBlock ∧ k_ ≠ gb301)) (by (with_reducible repeat (first | apply Kd.V_alloc | apply Kd.V_drewN | apply Kd.V_drew)); exact Kd.V_mono HO_0.out (fun _ hk => ⟨⟨hk.1, ⟨hk.2.2.1, ⟨hk.2.2.2.1, hk.2.2.2.2⟩⟩⟩, hk.2.1⟩)) hg hat)
                  have n1_ := Aside0.mk (Kd.N_afterv (ok := (fun k_ => (P0_ k_ ∨ w.heap.size ≤ k_) ∧ some k_ ≠ (.slice Ao16 t296.length co16 : Value).ownBlock ∧ k_ ≠ gb301)) (by (with_reducible repeat (first | apply Kd.N_alloc | apply Kd.N_drewN | apply Kd.N_drew)); exact Kd.N_mono HO_3.out (fun _ hk => ⟨⟨hk.1, ⟨hk.2.2.1, hk.2.2.2⟩⟩, hk.2.1⟩)) hg hat)
                  have n2_ := Aside0.mk (blk_grown (g := gb301) (o := .cells #[.int .i64 t293, .int .i64 t294, .int .u64 t295, .slice Ao16 t296.length co16] 26 (0, 0)) (by (with_reducible repeat (first | refine blk_drewN ?_ _ | refine blk_drew ?_ | refine blk_alloc ?_ _)); exact BK301.out) hg (Kd.N_away HO_2.out (fun _ hk => hk.2.2.2)))
                  have n3_ := Aside0.mk (Kd.V_afterv (ok := (fun k_ => (P0_ k_ ∨ w.heap.size ≤ k_) ∧ some k_ ≠ (u3 : Value).ownBlock ∧ some k_ ≠ (.slice Ao16 t296.length co16 : Value).ownBlock ∧ k_ ≠ gb301)) (by (with_reducible repeat (first | apply Kd.V_alloc | apply Kd.V_drewN | apply Kd.V_drew)); exact Kd.V_mono HO309.out (fun _ hk => ⟨⟨hk.1, ⟨hk.2.2.1, ⟨hk.2.2.2.1, hk.2.2.2.2⟩⟩⟩, hk.2.1⟩)) hg hat)
                  have n4_ := Aside0.mk (hb)
                  have n5_ := Aside0.mk (ho)
                  clear HO_0
                  clear HO_3
                  clear BK301
                  clear HO309
                  clear HB
                  clear HO_2
                  clear HO298
                  have HO_0 := n0_
                  have HO_3 := n1_
                  have BK301 := n2_
                  have HO309 := n3_
                  have HB := n4_
                  have HO304 := n5_
                  clear n0_ n1_ n2_ n3_ n4_ n5_
                  clear ho hb hg hat
                  refine hK.out _ _ ⟨(blk_cell BK301.out 0).trans rfl, (blk_cell BK301.out 1).trans rfl, (blk_cell BK301.out 2).trans rfl, (blk_cell BK301.out 3).trans rfl⟩ (fun hHeld => ?_)
                  clear hK K
                  refine norm_ (a' := ?_) ?_ ?_
                  rotate_left
                  · show Act.put _ (some 22) _ = _
                    simp only [Act.put, List.setIfInBounds_toArray, List.set_cons_zero, List.set_cons_succ, i64_w, i32_w]
                    rfl
                  refine one_ (i := 8) (N := some 27) #[true, true, true, true, true, true, true, true, true, false, false, false, false] rfl rfl (one_of HT_.out (by kernel_rfl)) (by decide) (fun K hK => ?_)
                  refine goes_ Try.func21 (by kernel_rfl) rfl #[.slice Ao12 y305.length co12] (by rfl) rfl rfl (by (try simp only [List.map_toArray, List.map_cons, List.map_nil]); first | done | rfl | (simp only [List.length_drop, List.length_take]; rfl)) ?_
                  with_reducible refine (slices_Clone_byte_byte.calls _ _ y305 t310 _ ?side1 ?side2 A8.out).mono ?_
                  (case side1 => repeat (first | exact (Kd.V_reads' HO309.out).2.2 | (with_reducible refine Kd.C_alloc ?_ _) | (with_reducible refine Kd.C_drewN ?_ _) | (with_reducible refine Kd.C_drew ?_)))
                  (case side2 => exact (Kd.V_reads' HO309.out).2.1)
                  rintro e w21 ⟨v311, rfl, ho0, hb⟩
                  refine ⟨_, rfl, ?_⟩
                  have n0_ := Aside0.mk (Kd.V_elder' (by (with_reducible repeat (first | apply Kd.V_alloc | apply Kd.V_drewN | apply Kd.V_drew)); exact HO_0.out) (Kd.R_base ho0) hb)
                  have n1_ := Aside0.mk (Kd.N_elder' (by (with_reducible repeat (first | apply Kd.N_alloc | apply Kd.N_drewN | apply Kd.N_drew)); exact HO_3.out) (Kd.R_base ho0) hb)
                  have n2_ := Aside0.mk (Kd.V_elder' (by (with_reducible repeat (first | apply Kd.V_alloc | apply Kd.V_drewN | apply Kd.V_drew)); exact HO309.out) (Kd.R_base ho0) hb)
                  have n3_ := Aside0.mk (Kd.N_elder' (by (with_reducible repeat (first | apply Kd.N_alloc | apply Kd.N_drewN | apply Kd.N_drew)); exact HO304.out) (Kd.R_base ho0) hb)
                  have n4_ := Aside0.mk (Kd.R_lower (Kd.R_newM (M := fun k_ => (w.heap.size ≤ k_)) ho0 (below_size (by repeat (first | (with_reducible first | exact HB.out | apply below_alloc | apply pw_below_drewN | apply below_drew1 | refine below_set ?_ GE301.out) | exact HB.out))) (fun k_ h_ => h_)) (below_size (by repeat (first | (with_reducible first | exact HB.out | apply below_alloc | apply pw_below_drewN | apply below_drew1 | refine below_set ?_ GE301.out) | exact HB.out))))
                  have n5_ := Aside0.mk (blk_below (g := gb301) (o := .cells #[.int .i64 t293, .int .i64 t294, .int .u64 t295, .slice Ao16 t296.length co16] 26 (0, 0)) (by (with_reducible repeat (first | refine blk_drewN ?_ _ | refine blk_drew ?_ | refine blk_alloc ?_ _)); exact BK301.out) hb)
                  have n6_ := Aside0.mk (below_step (by repeat (first | (with_reducible first | exact HB.out | apply below_alloc | apply pw_below_drewN | apply below_drew1 | refine below_set ?_ GE301.out) | exact HB.out)) hb)
                  clear HO_0
                  clear HO_3
                  clear HO309
                  clear HO304
                  clear BK301
                  clear HB
                  have HO_0 := n0_
                  have HO_3 := n1_
                  have HO309 := n2_
                  have HO304 := n3_
                  have HO312 := n4_
                  have BK301 := n5_
                  have HB := n6_
                  clear n0_ n1_ n2_ n3_ n4_ n5_ n6_
                  (try clear hb)
                  (try clear hb2)
                  (try clear hk)
                  (try clear hi)
                  (try clear ho0)
                  obtain ⟨Ao23, co23, eo23⟩ := Kd.R_slice HO312.out
                  (first | subst eo23 | (injection eo23 with f1_ f2_ f3_; have f4_ := f1_.symm; have f5_ := f3_.symm; clear f1_ f2_ f3_; subst f4_; subst f5_))
                  refine hK.out _ _ ⟨(blk_cell BK301.out 0).trans rfl, (blk_cell BK301.out 1).trans rfl, (blk_cell BK301.out 2).trans rfl, (blk_cell BK301.out 3).trans rfl⟩ (fun hHeld => ?_)
                  clear hK K
                  refine norm_ (a' := ?_) ?_ ?_
                  rotate_left
                  · show Act.put _ (some 27) _ = _
                    simp only [Act.put, List.setIfInBounds_toArray, List.set_cons_zero, List.set_cons_succ, i64_w, i32_w]
                    rfl
                  refine one_ (i := 9) (N := some 28) #[true, true, true, true, true, true, true, true, true, true, false, false, false] rfl rfl (one_of HT_.out (by kernel_rfl)) (by decide) (fun K hK => ?_)
                  refine value_ (w1 := ?_) (v := ?_) (by rfl) rfl ?_ ?_
                  rotate_left 2
                  · go_simp
                    constructor
                    · rfl
                    · rfl
                  refine hK.out _ _ ⟨(blk_cell (blk_alloc BK301.out _) 0).trans rfl, (blk_cell (blk_alloc BK301.out _) 1).trans rfl, (blk_cell (blk_alloc BK301.out _) 2).trans rfl, (blk_cell (blk_alloc BK301.out _) 3).trans rfl⟩ (fun hHeld => ?_)
                  clear hK K
                  refine norm_ (a' := ?_) ?_ ?_
                  rotate_left
                  · show Act.put _ (some 28) _ = _
                    simp only [Act.put, List.setIfInBounds_toArray, List.set_cons_zero, List.set_cons_succ, i64_w, i32_w]
                    rfl
                  refine one_ (i := 10) (N := some 29) #[true, true, true, true, true, true, true, true, true, true, true, false, false] rfl rfl (one_of HT_.out (by kernel_rfl)) (by decide) (fun K hK => ?_)
                  refine Kd.N_append_step (Kd.slice 5 (Kd.int .u8)) (w0 := w) w.heap.size (by rfl) (.tmp 23) (.tmp 28) 43 22 (.slice none 0 0) 24 rfl Try.underlying43 info22 rfl (by decide) (by omega) u3 x3_1 t310 [.slice Ao23 t310.length co23] (fun k_ => (P0_ k_ ∨ w.heap.size ≤ k_) ∧ some k_ ≠ (v303 : Value).ownBlock ∧ k_ ≠ gb301) (fun k_ => ((fun k_ => (P0_ k_ ∨ w.heap.size ≤ k_) ∧ some k_ ≠ (v303 : Value).ownBlock ∧ k_ ≠ gb301)) k_ ∧ some k_ ≠ (u3 : Value).ownBlock) rfl rfl ?aP (fun _ hk => hk) ?aF ?aO ?aB ?aS ?aL ?_
                  (case aP => exact (Kd.FK_slice_mk (Kd.R_reads' (Kd.R_mono (ok' := (fun k_ => ((fun k_ => (P0_ k_ ∨ w.heap.size ≤ k_) ∧ some k_ ≠ (v303 : Value).ownBlock ∧ k_ ≠ gb301)) k_ ∧ some k_ ≠ (u3 : Value).ownBlock)) (Kd.R_types (Kd.R_apart' (Kd.R_apart' (HO312.out) (Kd.N_typed HO304.out) (by decide)) (Kd.N_typed HO_3.out) (by decide)) BK301.out (by decide)) (fun k_ hk => ⟨⟨(.inr (hk.1.1.1.1)), ⟨hk.1.1.2, hk.2⟩⟩, hk.1.2⟩))).2.1 (Kd.R_F (Kd.R_mono (ok' := (fun k_ => ((fun k_ => (P0_ k_ ∨ w.heap.size ≤ k_) ∧ some k_ ≠ (v303 : Value).ownBlock ∧ k_ ≠ gb301)) k_ ∧ some k_ ≠ (u3 : Value).ownBlock)) (Kd.R_types (Kd.R_apart' (Kd.R_apart' (HO312.out) (Kd.N_typed HO304.out) (by decide)) (Kd.N_typed HO_3.out) (by decide)) BK301.out (by decide)) (fun k_ hk => ⟨⟨(.inr (hk.1.1.1.1)), ⟨hk.1.1.2, hk.2⟩⟩, hk.1.2⟩)))))
                  (case aB => exact (by repeat (first | (with_reducible first | exact HB.out | apply below_alloc | apply pw_below_drewN | apply below_drew1 | refine below_set ?_ GE301.out) | exact HB.out)))
                  (case aF => exact (fun k_ hk => ⟨(.inr (Nat.le_trans (below_size (by repeat (first | (with_reducible first | exact HB.out | apply below_alloc | apply pw_below_drewN | apply below_drew1 | refine below_set ?_ GE301.out) | exact HB.out))) hk)), Kd.fresh' (Kd.N_lt (by (with_reducible repeat (first | apply Kd.N_alloc | apply Kd.N_drewN | apply Kd.N_drew)); exact HO304.out)) k_ hk, Kd.freshB (g := gb301) (o := .cells #[.int .i64 t293, .int .i64 t294, .int .u64 t295, .slice Ao16 t296.length co16] 26 (0, 0)) (by (with_reducible repeat (first | refine blk_drewN ?_ _ | refine blk_drew ?_ | refine blk_alloc ?_ _)); exact BK301.out) k_ hk⟩))
                  (case aO => exact (by (with_reducible repeat (first | apply Kd.N_alloc | apply Kd.N_drewN | apply Kd.N_drew)); exact Kd.N_mono HO_3.out (fun _ hk => ⟨hk.1.1.1, ⟨hk.1.2, hk.1.1.2.2⟩⟩)))
                  (case aS => exact (below_size (by repeat (first | (with_reducible first | exact HB.out | apply below_alloc | apply pw_below_drewN | apply below_drew1 | refine below_set ?_ GE301.out) | exact HB.out))))
                  (case aL => have := LMc9.out; omega)
                  intro v314 w22 ho hb hg hat
                  rw [← Ny313.out] at ho
                  have n0_ := Aside0.mk (Kd.V_afterv (ok := (fun k_ => (P0_ k_ ∨ w.heap.size ≤ k_) ∧ some k_ ≠ (v303 : Value).ownBlock ∧ some k_ ≠ (.slice Ao23 t310.length co23 : Value).ownBlock ∧ k_ ≠ gb301)) (by (with_reducible repeat (first | apply Kd.V_alloc | apply Kd.V_drewN | apply Kd.V_drew)); exact Kd.V_mono HO_0.out (fun _ hk => ⟨⟨hk.1.1.1, ⟨hk.1.2, ⟨hk.2, hk.1.1.2.2.2⟩⟩⟩, hk.1.1.2.1⟩)) hg hat)
                  have n1_ := Aside0.mk (blk_grown (g := gb301) (o := .cells #[.int .i64 t293, .int .i64 t294, .int .u64 t295, .slice Ao16 t296.length co16] 26 (0, 0)) (by (with_reducible repeat (first | refine blk_drewN ?_ _ | refine blk_drew ?_ | refine blk_alloc ?_ _)); exact BK301.out) hg (Kd.N_ne HO_3.out BK301.out (by decide)))
                  have n2_ := Aside0.mk (Kd.V_afterv (ok := (fun k_ => (P0_ k_ ∨ w.heap.size ≤ k_) ∧ some k_ ≠ (v303 : Value).ownBlock ∧ some k_ ≠ (.slice Ao23 t310.length co23 : Value).ownBlock ∧ k_ ≠ gb301)) (by (with_reducible repeat (first | apply Kd.V_alloc | apply Kd.V_drewN | apply Kd.V_drew)); exact Kd.V_mono HO309.out (fun _ hk => ⟨⟨hk.1.1.1, ⟨hk.1.2, ⟨hk.2, hk.1.1.2.2.2⟩⟩⟩, hk.1.1.2.1⟩)) hg hat)
                  have n3_ := Aside0.mk (Kd.N_afterv (ok := (fun k_ => (P0_ k_ ∨ w.heap.size ≤ k_) ∧ some k_ ≠ (.slice Ao23 t310.length co23 : Value).ownBlock ∧ k_ ≠ gb301)) (by (with_reducible repeat (first | apply Kd.N_alloc | apply Kd.N_drewN | apply Kd.N_drew)); exact Kd.N_mono HO304.out (fun _ hk => ⟨⟨hk.1.1, ⟨hk.2, hk.1.2.2⟩⟩, hk.1.2.1⟩)) hg hat)
                  have n4_ := Aside0.mk (hb)
                  have n5_ := Aside0.mk (ho)
                  clear HO_0
                  clear BK301
                  clear HO309
                  clear HO304
                  clear HB
                  clear HO_3
                  clear HO312
                  have HO_0 := n0_
                  have BK301 := n1_
                  have HO309 := n2_
                  have HO304 := n3_
                  have HB := n4_
                  have HO315 := n5_
                  clear n0_ n1_ n2_ n3_ n4_ n5_
                  clear ho hb hg hat
                  refine hK.out _ _ ⟨(blk_cell BK301.out 0).trans rfl, (blk_cell BK301.out 1).trans rfl, (blk_cell BK301.out 2).trans rfl, (blk_cell BK301.out 3).trans rfl⟩ (fun hHeld => ?_)
                  clear hK K
                  refine norm_ (a' := ?_) ?_ ?_
                  rotate_left
                  · show Act.put _ (some 29) _ = _
                    simp only [Act.put, List.setIfInBounds_toArray, List.set_cons_zero, List.set_cons_succ, i64_w, i32_w]
                    rfl
                  refine pure_ (i := 11) (N := some 2) (v := ?_) (a' := ?_) #[true, true, true, true, true, true, true, true, true, true, true, true, false] rfl rfl (any_of HT_.out (by kernel_rfl)) (fun _ _ _ h => h) (Or.inl ⟨by rfl, ?_⟩) ?_ ?_
                  rotate_left
                  · intro w'
                    go_simp
                    with_reducible rfl
                  rotate_left
                  · simp only [Act.put, List.setIfInBounds_toArray, List.set_cons_zero, List.set_cons_succ, i64_w, i32_w]
                    rfl
                  refine pure_ (i := 12) (N := some 3) (v := ?_) (a' := ?_) #[true, true, true, true, true, true, true, true, true, true, true, true, true] rfl rfl (any_of HT_.out (by kernel_rfl)) (fun _ _ _ h => h) (Or.inl ⟨by rfl, ?_⟩) ?_ ?_
                  rotate_left
                  · intro w'
                    go_simp
                    with_reducible rfl
                  rotate_left
                  · simp only [Act.put, List.setIfInBounds_toArray, List.set_cons_zero, List.set_cons_succ, i64_w, i32_w]
                    rfl
                  refine done_ (done_of HT_.out (by kernel_rfl)) ?_
                  have q24 : (t299 : Int) ≤ ((x0_1.length : Int) : Int) := of_decide_eq_true (by first | (with_reducible assumption) | assumption)
                  obtain ⟨i024, hi024, _, hsz24, _⟩ := info_parts info5
                  have hroom24 : x0_1.length ≤ co12 := (Kd.V_reads' HO_0.out).2.1
                  have hC24 : Kd.F (Kd.int .u8) _ _ Ao12 x0_1.length x0_1 := (Kd.V_at (base := w.heap.size) HO_0.out).2.2
                  have q024 : (0 : Int) ≤ (t299 : Int) := of_decide_eq_true (by first | (with_reducible assumption) | assumption)
                  have hcut24 := cut_from (P := Try.prog) 22 5 .i64 Try.underlying22 hi024 1 hsz24 Ao12 x0_1.length co12 t299 q024 q24
                  have hr24 := Kd.F_cut (m := (t299 : Int).toNat) (c := co12) hC24 (by omega) hroom24
                  obtain ⟨A24, hA24⟩ : ∃ A1, A1 = (if co12 = (t299 : Int).toNat then Ao12 else (Ao12 : Option Addr).map (·.add ((t299 : Int).toNat * 1))) := ⟨_, rfl⟩
                  obtain ⟨c24, hc24⟩ : ∃ c1, c1 = co12 - (t299 : Int).toNat := ⟨_, rfl⟩
                  have hy24 : y316.length = x0_1.length - (t299 : Int).toNat := (by rw [Ny316.out, List.length_drop] <;> omega)
                  rw [show (x0_1).drop (t299 : Int).toNat = y316 from Ny316.out.symm] at hr24
                  replace hr24 : Kd.F (Kd.int .u8) _ _ A24 y316.length y316 := (by rw [hA24]; exact hr24)
                  rw [← hy24, ← hA24, ← hc24] at hcut24
                  have HO320 := Aside0.mk (show Kd.V (Kd.int .u8) 5 _ w.heap.size _ (.slice A24 y316.length c24) y316 from Kd.V_mk (by rw [hy24, hc24]; exact Nat.sub_le_sub_right hroom24 _) hr24)
                  have HC320 := Aside0.mk (show y316.length ≤ c24 from by rw [hy24, hc24]; exact Nat.sub_le_sub_right hroom24 _)
                  clear hr24 hC24 hroom24 hi024 hsz24 hc24
                  have KY24 := Aside0.mk hy24
                  have KA24 := Aside0.mk hA24
                  clear hy24 hA24
                  replace q24 := eq_true q24
                  try go_wp2
                  go_roundg k1
                  case measure => have := HK1.out; omega
                  case rel => exact ⟨(y316), (y302), (y313), H', ⟨by have := HK1.out; omega⟩, ⟨by (with_reducible repeat (first | apply Kd.V_alloc | apply Kd.V_drewN | apply Kd.V_drew)); exact Kd.V_mono HO320.out (fun _ hk => ⟨hk.1.1, ⟨hk.1.2.1, hk.2⟩⟩)⟩, ⟨by (with_reducible repeat (first | apply Kd.N_alloc | apply Kd.N_drewN | apply Kd.N_drew)); exact Kd.N_mono HO304.out (fun _ hk => ⟨hk.1.1, hk.2⟩)⟩, ⟨by (with_reducible repeat (first | apply Kd.N_alloc | apply Kd.N_drewN | apply Kd.N_drew)); exact Kd.N_mono HO315.out (fun _ hk => ⟨hk.1, hk.2.1⟩)⟩, ⟨by repeat (first | (with_reducible first | exact HB.out | apply below_alloc | apply pw_below_drewN | apply below_drew1 | refine below_set ?_ GE301.out) | exact HB.out)⟩⟩
                · rw [if_neg c9] at H
                  exact absurd H (by simp)
              · rw [if_neg c7] at H
                exact absurd H (by simp)
            · rw [if_neg c6] at H
              exact absurd H (by simp)
          · rw [if_neg c5] at H
            exact absurd H (by simp)
        · rw [if_neg c4] at H
          have c4b0 : (t300 == 0) = false := beq_eq_false_iff_ne.mpr c4
          have c4b1 : (t300 != 0) = true := bne_iff_ne.mpr c4
          simp only [Option.some.injEq, Prod.mk.injEq] at H
          obtain ⟨rfl, rfl, rfl⟩ := H
          obtain ⟨Ao25, co25, eo25⟩ := Kd.V_slice HO_0.out
          subst eo25
          go_wp2_with (first | ((with_reducible refine gate_callee (f := 8) rfl ?_); refine goesL_ (some 13) rfl rfl Try.func8 (by kernel_rfl) rfl #[.slice Ao25 x0_1.length co25] rfl (by (try simp only [List.map_toArray, List.map_cons, List.map_nil]); first | done | rfl | (simp only [List.length_drop, List.length_take]; rfl)) ?_; (with_reducible refine (wire_Take.calls k1 _ _ x0_1 t293 t294 t295 t296 t299 t300 _ ?side1 ?side2 A3.out).mono ?_); (case side1 => repeat (first | exact (Kd.V_reads' HO_0.out).2.2 | (with_reducible refine Kd.C_alloc ?_ _) | (with_reducible refine Kd.C_drewN ?_ _) | (with_reducible refine Kd.C_drew ?_))); (case side2 => exact (Kd.V_reads' HO_0.out).2.1); rintro e w26 ⟨v297, rfl, ho0, hb⟩; refine ⟨_, rfl, ?_⟩; have n0_ := Aside0.mk (Kd.V_elder' (by (with_reducible repeat (first | apply Kd.V_alloc | apply Kd.V_drewN | apply Kd.V_drew)); exact HO_0.out) (Kd.R_base ho0) hb); have n1_ := Aside0.mk (Kd.N_elder' (by (with_reducible repeat (first | apply Kd.N_alloc | apply Kd.N_drewN | apply Kd.N_drew)); exact HO_2.out) (Kd.R_base ho0) hb); have n2_ := Aside0.mk (Kd.N_elder' (by (with_reducible repeat (first | apply Kd.N_alloc | apply Kd.N_drewN | apply Kd.N_drew)); exact HO_3.out) (Kd.R_base ho0) hb); have n3_ := Aside0.mk (Kd.R_lower (Kd.R_newM (M := fun k_ => (w.heap.size ≤ k_)) ho0 (below_size (by repeat (first | (with_reducible first | exact HB.out | apply below_alloc | apply pw_below_drewN | apply below_drew1) | exact HB.out))) (fun k_ h_ => h_)) (below_size (by repeat (first | (with_reducible first | exact HB.out | apply below_alloc | apply pw_below_drewN | apply below_drew1) | exact HB.out)))); have n4_ := Aside0.mk (below_step (by repeat (first | (with_reducible first | exact HB.out | apply below_alloc | apply pw_below_drewN | apply below_drew1) | exact HB.out)) hb); clear HO_0; clear HO_2; clear HO_3; clear HB; have HO_0 := n0_; have HO_2 := n1_; have HO_3 := n2_; have HO298 := n3_; have HB := n4_; clear n0_ n1_ n2_ n3_ n4_; (try clear hb); (try clear hb2); (try clear hk); (try clear hi); (try clear ho0)) | ((with_reducible refine gate_dst (N := 5) rfl ?_); refine box_event ?hg (N := 5) ?hd (cs := #[.int .i64 0, .int .i64 0, .int .u64 0, .slice none 0 0]) (t := 26) ?hr ?_; (case hd => rfl); (case hg => rfl); (case hr => first | (go_simp; done) | (go_simp; rfl)); intro gb301 hg w27 hbox hb; have n0_ := Aside0.mk (Kd.V_below (Kd.V_elderB (by (with_reducible repeat (first | apply Kd.V_alloc | apply Kd.V_drewN | apply Kd.V_drew)); exact HO_0.out) gb301 (Nat.le_of_eq hg.symm)) hb); have n1_ := Aside0.mk (Kd.N_below (Kd.N_elderB (by (with_reducible repeat (first | apply Kd.N_alloc | apply Kd.N_drewN | apply Kd.N_drew)); exact HO_2.out) gb301 (Nat.le_of_eq hg.symm)) hb); have n2_ := Aside0.mk (Kd.N_below (Kd.N_elderB (by (with_reducible repeat (first | apply Kd.N_alloc | apply Kd.N_drewN | apply Kd.N_drew)); exact HO_3.out) gb301 (Nat.le_of_eq hg.symm)) hb); have n3_ := Aside0.mk (Kd.R_below (by (with_reducible repeat (first | apply Kd.R_alloc | apply Kd.R_drewN | apply Kd.R_drew)); exact HO298.out) hb); have n4_ := Aside0.mk (below_step (by repeat (first | (with_reducible first | exact HB.out | apply below_alloc | apply pw_below_drewN | apply below_drew1) | exact HB.out)) hb); have n5_ := Aside0.mk (hbox); have n6_ := Aside0.mk ((by rw [hg]; exact (below_size (by repeat (first | (with_reducible first | exact HB.out | apply below_alloc | apply pw_below_drewN | apply below_drew1) | exact HB.out))) : w.heap.size ≤ gb301)); have n7_ := Aside0.mk ((by rw [hg]; exact (below_size (by repeat (first | (with_reducible first | exact HB.out | apply below_alloc | apply pw_below_drewN | apply below_drew1) | exact HB.out))) : w.heap.size ≤ gb301)); clear HO_0; clear HO_2; clear HO_3; clear HO298; clear HB; have HO_0 := n0_; have HO_2 := n1_; have HO_3 := n2_; have HO298 := n3_; have HB := n4_; have BK301 := n5_; have GW301 := n6_; have GE301 := n7_; clear n0_ n1_ n2_ n3_ n4_ n5_ n6_ n7_; clear hb hbox hg; have hcz28_0 : w27.cell? ⟨gb301, 0, none⟩ = some (.int .i64 0) := (blk_cell BK301.out 0).trans rfl; have hcz28_1 : w27.cell? ⟨gb301, 1, none⟩ = some (.int .i64 0) := (blk_cell BK301.out 1).trans rfl; have hcz28_2 : w27.cell? ⟨gb301, 2, none⟩ = some (.int .u64 0) := (blk_cell BK301.out 2).trans rfl; have hcz28_3 : w27.cell? ⟨gb301, 3, none⟩ = some (.slice none 0 0) := (blk_cell BK301.out 3).trans rfl; have hfz28_0 := blk_frozen BK301.out 0; have hfz28_1 := blk_frozen BK301.out 1; have hfz28_2 := blk_frozen BK301.out 2; have hfz28_3 := blk_frozen BK301.out 3; obtain ⟨Ao29, co29, eo29⟩ := Kd.R_slice HO298.out; subst eo29))
          go_ret3
          exact ⟨_, _, by first | rfl | (simp [errW_none, errW_some] <;> rfl) | (simp [*, errW_none, errW_some] <;> rfl), by first | exact Kd.S_nil _ _ _ _ _ | exact Kd.N_nil _ _ _ _ _ | exact Kd.V_nil _ _ _ _ _ | exact Kd.Q_nil _ _ _ _ _ | exact Kd.R_nil _ _ _ _ _, by first | exact Kd.S_nil _ _ _ _ _ | exact Kd.N_nil _ _ _ _ _ | exact Kd.V_nil _ _ _ _ _ | exact Kd.Q_nil _ _ _ _ _ | exact Kd.R_nil _ _ _ _ _, by repeat (first | (with_reducible first | exact HB.out | apply below_alloc | apply pw_below_drewN | apply below_drew1 | refine below_set ?_ GE301.out) | exact HB.out)⟩
      · rw [if_neg c2] at H
        have c2b0 : decide (0 < (x0_1.length : Int)) = false := decide_eq_false c2
        have c2b1 : decide (0 < x0_1.length) = false := decide_eq_false (by omega)
        clear c2
        simp only [Option.some.injEq, Prod.mk.injEq] at H
        obtain ⟨rfl, rfl, rfl⟩ := H
        obtain ⟨Ao30, co30, eo30⟩ := Kd.V_slice HO_0.out
        subst eo30
        go_wp2
        go_ret3
        exact ⟨_, _, by first | rfl | (simp [errW_none, errW_some] <;> rfl) | (simp [*, errW_none, errW_some] <;> rfl), by (with_reducible repeat (first | apply Kd.N_alloc | apply Kd.N_drewN | apply Kd.N_drew)); exact HO_2.out, by (with_reducible repeat (first | apply Kd.N_alloc | apply Kd.N_drewN | apply Kd.N_drew)); exact HO_3.out, by repeat (first | (with_reducible first | exact HB.out | apply below_alloc | apply pw_below_drewN | apply below_drew1) | exact HB.out)⟩

end Go.Proofs.Ytopmelffmakklaa.X
