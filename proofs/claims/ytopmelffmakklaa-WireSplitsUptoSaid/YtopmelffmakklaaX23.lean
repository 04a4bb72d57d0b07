/- Plain functions for Go's own, out of the translation's print, and a proof that each call comes to what they tell; no condition but the functions' own answers. -/
import Derived.Test.YtopmelffmakklaaX0
import Derived.Test.YtopmelffmakklaaX6
import Derived.Test.YtopmelffmakklaaX15
import Derived.Test.YtopmelffmakklaaX16
import Derived.Test.YtopmelffmakklaaX21
import Derived.Test.YtopmelffmakklaaX22
namespace Go.Proofs.Ytopmelffmakklaa.X
open Go.RowKit Go.Proofs.YtopmelffmakklaaW.PrintWords Go.Proofs.YtopmelffmakklaaW.PrintLast Go.Proofs.YtopmelffmakklaaW.PrintMore
attribute [local go_sem] max2_int min2_int max_two min_two max_three min_three max_four min_four Go.Proofs.Ytopmelffmakklaa.MyWords.put_isSome Go.Proofs.Ytopmelffmakklaa.MyWords.drewN_put   -- for this text's walks alone
set_option linter.unusedVariables false
set_option linter.unusedSimpArgs false

/-! ### courierlaw02_WireSplits: function 5 -/
mutual
def courierlaw02_WireSplits.j0 : Nat → List Int → List (S26) → List (List Int) → Int → List (S30) → List (List Int) → Bool → Option (Bool)
  | 0, _, _, _, _, _, _, _ => none
  | k + 1, x0, x3, x4, x5, x6, x7, x48 => if x48 = true then (some false) else (courierlaw02_WireSplits.l0 k x0 x3 x4 x5 x6 x7 (⟨#[]⟩ : ByteArray) (x3.length : Int) 0)
def courierlaw02_WireSplits.l0 : Nat → List Int → List (S26) → List (List Int) → Int → List (S30) → List (List Int) → ByteArray → Int → Int → Option (Bool)
  | 0, _, _, _, _, _, _, _, _, _ => none
  | k + 1, x0, x3, x4, x5, x6, x7, x9, x50, x51 => if x51 < x50 then (if 0 ≤ x51 then (if x51 < (x3.length : Int) then ((courierlaw02_ours.f ((rd_T26 x3 x51).f0) ((rd_T26 x3 x51).f1) ((rd_T26 x3 x51).f2) ((rd_T26 x3 x51).f3)).bind fun bt374 => (if x51 < (x6.length : Int) then ((courierref01_Same.f bt374.1 bt374.2.1 bt374.2.2.1 bt374.2.2.2 ((rd_T30 x6 x51).f0) ((rd_T30 x6 x51).f1) ((rd_T30 x6 x51).f2) ((rd_T30 x6 x51).f3)).bind fun t381 => (if t381 = true then (if x51 < (x4.length : Int) then (if x51 < (x7.length : Int) then (if (strOfNums (rd_L1 x4 x51)).toList = (strOfNums (rd_L1 x7 x51)).toList then (if x9.size + (strOfNums (rd_L1 x4 x51)).size ≤ 9223372036854775807 then (courierlaw02_WireSplits.l0 k x0 x3 x4 x5 x6 x7 (x9 ++ (strOfNums (rd_L1 x4 x51))) x50 (wrap64 (x51 + 1))) else (none)) else (some false)) else (none)) else (none)) else (some false))) else (none))) else (none)) else (none)) else (if x5 = 0 then (some (x9.toList == (strOfNums x0).toList)) else (some true))
end
def courierlaw02_WireSplits.f (k : Nat) (l0 : List Int) : Option (Bool) := (courierlaw02_awake.f).bind fun t358 => (if t358 = true then ((wire_Split.f k l0).bind fun bt359 => ((courierref01_Split.f k l0).bind fun bt366 => (if bt359.2.2 = bt366.2.2 then (if (bt359.1.length : Int) = (bt366.1.length : Int) then (if (bt359.2.1.length : Int) = (bt366.2.1.length : Int) then (courierlaw02_WireSplits.j0 k l0 bt359.1 bt359.2.1 bt359.2.2 bt366.1 bt366.2.1 ((bt359.1.length : Int) != (bt359.2.1.length : Int))) else (courierlaw02_WireSplits.j0 k l0 bt359.1 bt359.2.1 bt359.2.2 bt366.1 bt366.2.1 true)) else (courierlaw02_WireSplits.j0 k l0 bt359.1 bt359.2.1 bt359.2.2 bt366.1 bt366.2.1 true)) else (courierlaw02_WireSplits.j0 k l0 bt359.1 bt359.2.1 bt359.2.2 bt366.1 bt366.2.1 true)))) else (some false))
theorem courierlaw02_WireSplits.mono_l : ∀ k, (∀ y0 y1 y2 y3 y4 y5 y6, LeO (courierlaw02_WireSplits.j0 k y0 y1 y2 y3 y4 y5 y6) (courierlaw02_WireSplits.j0 (k + 1) y0 y1 y2 y3 y4 y5 y6)) ∧ (∀ y0 y1 y2 y3 y4 y5 y6 y7 y8, LeO (courierlaw02_WireSplits.l0 k y0 y1 y2 y3 y4 y5 y6 y7 y8) (courierlaw02_WireSplits.l0 (k + 1) y0 y1 y2 y3 y4 y5 y6 y7 y8))
  | 0 => ⟨fun _ _ _ _ _ _ _ r h => by simp [courierlaw02_WireSplits.j0] at h, fun _ _ _ _ _ _ _ _ _ r h => by simp [courierlaw02_WireSplits.l0] at h⟩
  | k + 1 => by
    obtain ⟨ih0, ih1⟩ := courierlaw02_WireSplits.mono_l k
    refine ⟨?_, ?_⟩
    · intro y0 y1 y2 y3 y4 y5 y6
      unfold courierlaw02_WireSplits.j0
      repeat' first
      | (with_reducible exact ih0 _ _ _ _ _ _ _)
      | (with_reducible exact ih1 _ _ _ _ _ _ _ _ _)
      | (with_reducible exact courierref01_Split.mono _ _)
      | (with_reducible exact wire_Split.mono _ _)
      | (with_reducible exact LeO.refl _)
      | (with_reducible exact LeO.none _)
      | (with_reducible refine LeO.ite ?_ ?_)
      | (with_reducible refine LeO.bind ?_ (fun _ => ?_))
      | exact ih0 _ _ _ _ _ _ _
      | exact ih1 _ _ _ _ _ _ _ _ _
      | exact courierref01_Split.mono _ _
      | exact wire_Split.mono _ _
      | exact LeO.none _
      | refine LeO.ite ?_ ?_
      | refine LeO.bind ?_ (fun _ => ?_)
    · intro y0 y1 y2 y3 y4 y5 y6 y7 y8
      unfold courierlaw02_WireSplits.l0
      repeat' first
      | (with_reducible exact ih0 _ _ _ _ _ _ _)
      | (with_reducible exact ih1 _ _ _ _ _ _ _ _ _)
      | (with_reducible exact courierref01_Split.mono _ _)
      | (with_reducible exact wire_Split.mono _ _)
      | (with_reducible exact LeO.refl _)
      | (with_reducible exact LeO.none _)
      | (with_reducible refine LeO.ite ?_ ?_)
      | (with_reducible refine LeO.bind ?_ (fun _ => ?_))
      | exact ih0 _ _ _ _ _ _ _
      | exact ih1 _ _ _ _ _ _ _ _ _
      | exact courierref01_Split.mono _ _
      | exact wire_Split.mono _ _
      | exact LeO.none _
      | refine LeO.ite ?_ ?_
      | refine LeO.bind ?_ (fun _ => ?_)
theorem courierlaw02_WireSplits.mono : ∀ a0 k, LeO (courierlaw02_WireSplits.f k a0) (courierlaw02_WireSplits.f (k + 1) a0) := by
  intro a0 k
  obtain ⟨ih0, ih1⟩ := courierlaw02_WireSplits.mono_l k
  unfold courierlaw02_WireSplits.f
  repeat' first
      | (with_reducible exact ih0 _ _ _ _ _ _ _)
      | (with_reducible exact ih1 _ _ _ _ _ _ _ _ _)
      | (with_reducible exact courierref01_Split.mono _ _)
      | (with_reducible exact wire_Split.mono _ _)
      | (with_reducible exact LeO.refl _)
      | (with_reducible exact LeO.none _)
      | (with_reducible refine LeO.ite ?_ ?_)
      | (with_reducible refine LeO.bind ?_ (fun _ => ?_))
      | exact ih0 _ _ _ _ _ _ _
      | exact ih1 _ _ _ _ _ _ _ _ _
      | exact courierref01_Split.mono _ _
      | exact wire_Split.mono _ _
      | exact LeO.none _
      | refine LeO.ite ?_ ?_
      | refine LeO.bind ?_ (fun _ => ?_)
def courierlaw02_WireSplits.T11 : Bool × List (List Nat × List Nat) := (true, [([], []), ([], []), ([0, 1], [0, 1]), ([2], [2]), ([3], [3]), ([], []), ([], []), ([5, 6], [5, 6]), ([7], [7]), ([4, 8, 4], [4, 8]), ([9], [9]), ([10, 9], [10]), ([11], [11]), ([11], [11]), ([12, 13, 11], [11, 12, 13]), ([14, 11], [11, 14]), ([15, 11], [11, 15]), ([11], [11]), ([11], [11]), ([17, 18, 11], [11, 17, 18]), ([19, 11], [11, 19]), ([20, 11], [11, 20]), ([16, 21, 11], [11, 16, 21]), ([11, 22], [11, 22])])
def courierlaw02_WireSplits.B11 : List Nat := [0, 0, 3, 7, 15, 0, 0, 96, 224, 511, 1023, 2047, 4095, 4095, 16383, 32767, 65535, 4095, 4095, 397311, 921599, 1970175, 4194303, 8388607]
theorem courierlaw02_WireSplits.tab11 : rtab .any (opsOf Try.f5 11) = courierlaw02_WireSplits.T11 := by kernel_rfl
theorem courierlaw02_WireSplits.bits11 : waitsOk courierlaw02_WireSplits.T11.2 courierlaw02_WireSplits.B11 = true := by kernel_rfl
set_option maxHeartbeats 8000000 in
set_option maxRecDepth 100000 in
theorem courierlaw02_WireSplits.calls (k : Nat) (A0 : Option Addr) (c0 : Nat) (l0 : List Int) (r : Bool) (w : World) (hr0 : Kd.C (Kd.int .u8) w A0 l0.length l0) (hc0 : l0.length ≤ c0) (h : courierlaw02_WireSplits.f k l0 = some r) :
    Calls Try.prog 5 #[.slice A0 l0.length c0] w fun e w' => e = .returned (.bool r) ∧ Below w.heap.size w w' := by
  have hu26 := Try.underlying26
  have hu30 := Try.underlying30
  have HR0 := Aside0.mk hr0
  have HC0 := Aside0.mk hc0
  clear hr0 hc0
  have HB := Aside0.mk (Below.refl w.heap.size w)
  have H : ((courierlaw02_awake.f).bind fun t358 => (if t358 = true then ((wire_Split.f k l0).bind fun bt359 => ((courierref01_Split.f k l0).bind fun bt366 => (if bt359.2.2 = bt366.2.2 then (if (bt359.1.length : Int) = (bt366.1.length : Int) then (if (bt359.2.1.length : Int) = (bt366.2.1.length : Int) then (courierlaw02_WireSplits.j0 k l0 bt359.1 bt359.2.1 bt359.2.2 bt366.1 bt366.2.1 ((bt359.1.length : Int) != (bt359.2.1.length : Int))) else (courierlaw02_WireSplits.j0 k l0 bt359.1 bt359.2.1 bt359.2.2 bt366.1 bt366.2.1 true)) else (courierlaw02_WireSplits.j0 k l0 bt359.1 bt359.2.1 bt359.2.2 bt366.1 bt366.2.1 true)) else (courierlaw02_WireSplits.j0 k l0 bt359.1 bt359.2.1 bt359.2.2 bt366.1 bt366.2.1 true)))) else (some false))) = some r := h
  clear h
  replace H := Option.bind_eq_some_iff.mp H
  obtain ⟨t358, A20, H⟩ := H
  replace H : (if t358 = true then ((wire_Split.f k l0).bind fun bt359 => ((courierref01_Split.f k l0).bind fun bt366 => (if bt359.2.2 = bt366.2.2 then (if (bt359.1.length : Int) = (bt366.1.length : Int) then (if (bt359.2.1.length : Int) = (bt366.2.1.length : Int) then (courierlaw02_WireSplits.j0 k l0 bt359.1 bt359.2.1 bt359.2.2 bt366.1 bt366.2.1 ((bt359.1.length : Int) != (bt359.2.1.length : Int))) else (courierlaw02_WireSplits.j0 k l0 bt359.1 bt359.2.1 bt359.2.2 bt366.1 bt366.2.1 true)) else (courierlaw02_WireSplits.j0 k l0 bt359.1 bt359.2.1 bt359.2.2 bt366.1 bt366.2.1 true)) else (courierlaw02_WireSplits.j0 k l0 bt359.1 bt359.2.1 bt359.2.2 bt366.1 bt366.2.1 true)))) else (some false)) = some r := H
  have A2 := Aside0.mk A20
  clear A20
  by_cases c3 : t358 = true
  · subst c3
    have H1 : ((wire_Split.f k l0).bind fun bt359 => ((courierref01_Split.f k l0).bind fun bt366 => (if bt359.2.2 = bt366.2.2 then (if (bt359.1.length : Int) = (bt366.1.length : Int) then (if (bt359.2.1.length : Int) = (bt366.2.1.length : Int) then (courierlaw02_WireSplits.j0 k l0 bt359.1 bt359.2.1 bt359.2.2 bt366.1 bt366.2.1 ((bt359.1.length : Int) != (bt359.2.1.length : Int))) else (courierlaw02_WireSplits.j0 k l0 bt359.1 bt359.2.1 bt359.2.2 bt366.1 bt366.2.1 true)) else (courierlaw02_WireSplits.j0 k l0 bt359.1 bt359.2.1 bt359.2.2 bt366.1 bt366.2.1 true)) else (courierlaw02_WireSplits.j0 k l0 bt359.1 bt359.2.1 bt359.2.2 bt366.1 bt366.2.1 true)))) = some r := by rw [if_pos rfl] at H; exact H
    clear H
    have H := H1
    clear H1
    replace H := Option.bind_eq_some_iff.mp H
    obtain ⟨⟨t359, t362, t365⟩, A40, H⟩ := H
    replace H : ((courierref01_Split.f k l0).bind fun bt366 => (if t365 = bt366.2.2 then (if (t359.length : Int) = (bt366.1.length : Int) then (if (t362.length : Int) = (bt366.2.1.length : Int) then (courierlaw02_WireSplits.j0 k l0 t359 t362 t365 bt366.1 bt366.2.1 ((t359.length : Int) != (t362.length : Int))) else (courierlaw02_WireSplits.j0 k l0 t359 t362 t365 bt366.1 bt366.2.1 true)) else (courierlaw02_WireSplits.j0 k l0 t359 t362 t365 bt366.1 bt366.2.1 true)) else (courierlaw02_WireSplits.j0 k l0 t359 t362 t365 bt366.1 bt366.2.1 true))) = some r := H
    have A4 := Aside0.mk A40
    clear A40
    replace H := Option.bind_eq_some_iff.mp H
    obtain ⟨⟨t366, t369, t372⟩, A50, H⟩ := H
    replace H : (if t365 = t372 then (if (t359.length : Int) = (t366.length : Int) then (if (t362.length : Int) = (t369.length : Int) then (courierlaw02_WireSplits.j0 k l0 t359 t362 t365 t366 t369 ((t359.length : Int) != (t362.length : Int))) else (courierlaw02_WireSplits.j0 k l0 t359 t362 t365 t366 t369 true)) else (courierlaw02_WireSplits.j0 k l0 t359 t362 t365 t366 t369 true)) else (courierlaw02_WireSplits.j0 k l0 t359 t362 t365 t366 t369 true)) = some r := H
    have A5 := Aside0.mk A50
    clear A50
    have HC6 := Aside0.mk H
    clear H
    go_enter Try.func5, Try.ntmps5
    go_upto_region 5 with (first | ((with_reducible refine gate_callee (f := 7) rfl ?_); refine goesL_ (some 11) rfl rfl Try.func7 (by kernel_rfl) rfl #[] rfl (by (try simp only [List.map_toArray, List.map_cons, List.map_nil]); first | done | rfl | (simp only [List.length_drop, List.length_take]; rfl)) ?_; (with_reducible refine (courierlaw02_awake.calls  true _ A2.out).mono ?_); rintro e w7 ⟨rfl, hb⟩; refine ⟨_, rfl, ?_⟩; have n0_ := Aside0.mk (below_step (by repeat (first | (with_reducible first | exact HB.out | apply below_alloc | apply pw_below_drewN | apply below_drew1) | exact HB.out)) hb); clear HB; have HB := n0_; clear n0_; (try clear hb); (try clear hb2); (try clear hk); (try clear hi)) | ((with_reducible refine gate_callee (f := 15) rfl ?_); refine goesL_ (some 15) rfl rfl Try.func15 (by kernel_rfl) rfl #[.slice A0 l0.length c0] rfl (by (try simp only [List.map_toArray, List.map_cons, List.map_nil]); first | done | rfl | (simp only [List.length_drop, List.length_take]; rfl)) ?_; (with_reducible refine (wire_Split.calls k (fun k_ => k_ < w.heap.size) _ _ l0 t359 t362 t365 _ ?side1 A4.out).mono ?_); (case side1 => exact Kd.V_mk HC0.out (Kd.F_below (Kd.C_F (Kd.heap_int .u8) HR0.out) (by repeat (first | (with_reducible first | exact HB.out | apply below_alloc | apply pw_below_drewN | apply below_drew1) | exact HB.out)))); rintro e w8 ⟨v360, v363, rfl, ho0, ho1, hb⟩; refine ⟨_, rfl, ?_⟩; have n0_ := Aside0.mk (Kd.N_lower (Kd.N_mono (ok' := fun k_ => some k_ ≠ (v363 : Value).ownBlock) ho0 (fun k_ hk_ => hk_.2)) (below_size (by repeat (first | (with_reducible first | exact HB.out | apply below_alloc | apply pw_below_drewN | apply below_drew1) | exact HB.out)))); have n1_ := Aside0.mk (Kd.N_lower (Kd.N_mono (ok' := fun k_ => some k_ ≠ (v360 : Value).ownBlock) ho1 (fun k_ hk_ => hk_.2)) (below_size (by repeat (first | (with_reducible first | exact HB.out | apply below_alloc | apply pw_below_drewN | apply below_drew1) | exact HB.out)))); have n2_ := Aside0.mk (below_step (by repeat (first | (with_reducible first | exact HB.out | apply below_alloc | apply pw_below_drewN | apply below_drew1) | exact HB.out)) hb); clear HB; have HO361 := n0_; have HO364 := n1_; have HB := n2_; clear n0_ n1_ n2_; (try clear hb); (try clear hb2); (try clear hk); (try clear hi); (try clear ho0); (try clear ho1)) | ((with_reducible refine gate_callee (f := 16) rfl ?_); refine goesL_ (some 21) rfl rfl Try.func16 (by kernel_rfl) rfl #[.slice A0 l0.length c0] rfl (by (try simp only [List.map_toArray, List.map_cons, List.map_nil]); first | done | rfl | (simp only [List.length_drop, List.length_take]; rfl)) ?_; (with_reducible refine (courierref01_Split.calls k (fun k_ => k_ < w.heap.size) _ _ l0 t366 t369 t372 _ ?side1 A5.out).mono ?_); (case side1 => exact Kd.V_mk HC0.out (Kd.F_below (Kd.C_F (Kd.heap_int .u8) HR0.out) (by repeat (first | (with_reducible first | exact HB.out | apply below_alloc | apply pw_below_drewN | apply below_drew1) | exact HB.out)))); rintro e w9 ⟨v367, v370, rfl, ho0, ho1, hb⟩; refine ⟨_, rfl, ?_⟩; have n0_ := Aside0.mk (Kd.N_mono (Kd.N_told (Kd.N_told (Kd.N_old (by (with_reducible repeat (first | apply Kd.N_alloc | apply Kd.N_drewN | apply Kd.N_drew)); exact HO361.out) hb) (Kd.N_base ho0)) (Kd.N_base ho1)) (fun _ h_ => h_.1)); have n1_ := Aside0.mk (Kd.N_mono (Kd.N_told (Kd.N_told (Kd.N_old (by (with_reducible repeat (first | apply Kd.N_alloc | apply Kd.N_drewN | apply Kd.N_drew)); exact HO364.out) hb) (Kd.N_base ho0)) (Kd.N_base ho1)) (fun _ h_ => h_.1)); have n2_ := Aside0.mk (Kd.N_lower (Kd.N_mono (ok' := fun k_ => some k_ ≠ (v370 : Value).ownBlock ∧ some k_ ≠ (v360 : Value).ownBlock ∧ some k_ ≠ (v363 : Value).ownBlock) ho0 (fun k_ hk_ => ⟨hk_.2, Or.elim hk_.1 (fun hs_ => fun e_ => Nat.not_le.2 hs_ (Kd.N_base HO361.out k_ e_.symm)) (fun hn_ => (Kd.fresh' (Kd.N_lt (by (with_reducible repeat (first | apply Kd.N_alloc | apply Kd.N_drewN | apply Kd.N_drew)); exact HO361.out)) k_ hn_)), Or.elim hk_.1 (fun hs_ => fun e_ => Nat.not_le.2 hs_ (Kd.N_base HO364.out k_ e_.symm)) (fun hn_ => (Kd.fresh' (Kd.N_lt (by (with_reducible repeat (first | apply Kd.N_alloc | apply Kd.N_drewN | apply Kd.N_drew)); exact HO364.out)) k_ hn_))⟩)) (below_size (by repeat (first | (with_reducible first | exact HB.out | apply below_alloc | apply pw_below_drewN | apply below_drew1) | exact HB.out)))); have n3_ := Aside0.mk (Kd.N_lower (Kd.N_mono (ok' := fun k_ => some k_ ≠ (v367 : Value).ownBlock ∧ some k_ ≠ (v360 : Value).ownBlock ∧ some k_ ≠ (v363 : Value).ownBlock) ho1 (fun k_ hk_ => ⟨hk_.2, Or.elim hk_.1 (fun hs_ => fun e_ => Nat.not_le.2 hs_ (Kd.N_base HO361.out k_ e_.symm)) (fun hn_ => (Kd.fresh' (Kd.N_lt (by (with_reducible repeat (first | apply Kd.N_alloc | apply Kd.N_drewN | apply Kd.N_drew)); exact HO361.out)) k_ hn_)), Or.elim hk_.1 (fun hs_ => fun e_ => Nat.not_le.2 hs_ (Kd.N_base HO364.out k_ e_.symm)) (fun hn_ => (Kd.fresh' (Kd.N_lt (by (with_reducible repeat (first | apply Kd.N_alloc | apply Kd.N_drewN | apply Kd.N_drew)); exact HO364.out)) k_ hn_))⟩)) (below_size (by repeat (first | (with_reducible first | exact HB.out | apply below_alloc | apply pw_below_drewN | apply below_drew1) | exact HB.out)))); have n4_ := Aside0.mk (below_step (by repeat (first | (with_reducible first | exact HB.out | apply below_alloc | apply pw_below_drewN | apply below_drew1) | exact HB.out)) hb); clear HO361; clear HO364; clear HB; have HO361 := n0_; have HO364 := n1_; have HO368 := n2_; have HO371 := n3_; have HB := n4_; clear n0_ n1_ n2_ n3_ n4_; (try clear hb); (try clear hb2); (try clear hk); (try clear hi); (try clear ho0); (try clear ho1)))
    (try simp only [Act.put, List.setIfInBounds_toArray, List.set_cons_zero, List.set_cons_succ])
    go_cut [48] (fun v48 wc => ∃ (kq : Nat) (x48_5 : Bool), v48 = .bool x48_5 ∧ Aside0 (courierlaw02_WireSplits.j0 kq l0 t359 t362 t365 t366 t369 x48_5 = some r) ∧ Aside0 (kq ≤ k) ∧ Aside0 (Kd.N k26 26 wc w.heap.size (fun k_ => some k_ ≠ (v363 : Value).ownBlock ∧ some k_ ≠ (v367 : Value).ownBlock ∧ some k_ ≠ (v370 : Value).ownBlock) v360 t359) ∧ Aside0 (Kd.N (Kd.slice 5 (Kd.int .u8)) 22 wc w.heap.size (fun k_ => some k_ ≠ (v360 : Value).ownBlock ∧ some k_ ≠ (v367 : Value).ownBlock ∧ some k_ ≠ (v370 : Value).ownBlock) v363 t362) ∧ Aside0 (Kd.N k30 30 wc w.heap.size (fun k_ => some k_ ≠ (v360 : Value).ownBlock ∧ some k_ ≠ (v363 : Value).ownBlock ∧ some k_ ≠ (v370 : Value).ownBlock) v367 t366) ∧ Aside0 (Kd.N (Kd.slice 5 (Kd.int .u8)) 22 wc w.heap.size (fun k_ => some k_ ≠ (v360 : Value).ownBlock ∧ some k_ ≠ (v363 : Value).ownBlock ∧ some k_ ≠ (v367 : Value).ownBlock) v370 t369) ∧ Aside0 (Below w.heap.size w wc))
    case first =>
      have H := HC6.out
      clear HC6
      by_cases c10 : t365 = t372
      · rw [if_pos c10] at H
        have c10b0 : (t365 == t372) = true := beq_iff_eq.mpr c10
        have c10b1 : (t365 != t372) = false := bne_eq_false_iff_eq.mpr c10
        clear c10
        (first | rw [c10b0] | (simp only [i64_w, i32_w]; rw [c10b0]) | skip)
        by_cases c11 : (t359.length : Int) = (t366.length : Int)
        · rw [if_pos c11] at H
          have c11b0 : ((t359.length : Int) == (t366.length : Int)) = true := beq_iff_eq.mpr c11
          have c11b1 : ((t359.length : Int) != (t366.length : Int)) = false := bne_eq_false_iff_eq.mpr c11
          have c11b2 : (t359.length == t366.length) = true := by first | simpa using c11 | (simp at c11 ⊢; omega)
          clear c11
          by_cases c12 : (t362.length : Int) = (t369.length : Int)
          · rw [if_pos c12] at H
            have c12b0 : ((t362.length : Int) == (t369.length : Int)) = true := beq_iff_eq.mpr c12
            have c12b1 : ((t362.length : Int) != (t369.length : Int)) = false := bne_eq_false_iff_eq.mpr c12
            have c12b2 : (t362.length == t369.length) = true := by first | simpa using c12 | (simp at c12 ⊢; omega)
            clear c12
            have H' := Aside0.mk H
            clear H
            obtain ⟨Ao13, co13, eo13⟩ := Kd.N_slice HO361.out
            subst eo13
            obtain ⟨Ao14, co14, eo14⟩ := Kd.N_slice HO368.out
            subst eo14
            obtain ⟨Ao15, co15, eo15⟩ := Kd.N_slice HO364.out
            subst eo15
            obtain ⟨Ao16, co16, eo16⟩ := Kd.N_slice HO371.out
            subst eo16
            go_wp2
            go_meet
            case rel => exact ⟨_, (((t359.length : Int) != (t362.length : Int))), (by first | rfl | (simp; done) | (simp [*]; done)), H', ⟨by first | omega | exact Nat.le_refl _⟩, ⟨by (with_reducible repeat (first | apply Kd.N_alloc | apply Kd.N_drewN | apply Kd.N_drew)); exact Kd.N_mono HO361.out (fun _ hk => ⟨hk.1.1, ⟨hk.1.2, hk.2⟩⟩)⟩, ⟨by (with_reducible repeat (first | apply Kd.N_alloc | apply Kd.N_drewN | apply Kd.N_drew)); exact Kd.N_mono HO364.out (fun _ hk => ⟨hk.1.1, ⟨hk.1.2, hk.2⟩⟩)⟩, ⟨by (with_reducible repeat (first | apply Kd.N_alloc | apply Kd.N_drewN | apply Kd.N_drew)); exact Kd.N_mono HO368.out (fun _ hk => ⟨hk.2.1, ⟨hk.2.2, hk.1⟩⟩)⟩, ⟨by (with_reducible repeat (first | apply Kd.N_alloc | apply Kd.N_drewN | apply Kd.N_drew)); exact Kd.N_mono HO371.out (fun _ hk => ⟨hk.2.1, ⟨hk.2.2, hk.1⟩⟩)⟩, ⟨by repeat (first | (with_reducible first | exact HB.out | apply below_alloc | apply pw_below_drewN | apply below_drew1) | exact HB.out)⟩⟩
          · rw [if_neg c12] at H
            have c12b0 : ((t362.length : Int) == (t369.length : Int)) = false := beq_eq_false_iff_ne.mpr c12
            have c12b1 : ((t362.length : Int) != (t369.length : Int)) = true := bne_iff_ne.mpr c12
            have c12b2 : (t362.length == t369.length) = false := by first | simpa using c12 | (simp at c12 ⊢; omega)
            have H' := Aside0.mk H
            clear H
            obtain ⟨Ao17, co17, eo17⟩ := Kd.N_slice HO361.out
            subst eo17
            obtain ⟨Ao18, co18, eo18⟩ := Kd.N_slice HO368.out
            subst eo18
            obtain ⟨Ao19, co19, eo19⟩ := Kd.N_slice HO364.out
            subst eo19
            obtain ⟨Ao20, co20, eo20⟩ := Kd.N_slice HO371.out
            subst eo20
            go_wp2
            go_meet
            case rel => exact ⟨_, (true), (by first | rfl | (simp; done) | (simp [*]; done)), H', ⟨by first | omega | exact Nat.le_refl _⟩, ⟨by (with_reducible repeat (first | apply Kd.N_alloc | apply Kd.N_drewN | apply Kd.N_drew)); exact Kd.N_mono HO361.out (fun _ hk => ⟨hk.1.1, ⟨hk.1.2, hk.2⟩⟩)⟩, ⟨by (with_reducible repeat (first | apply Kd.N_alloc | apply Kd.N_drewN | apply Kd.N_drew)); exact Kd.N_mono HO364.out (fun _ hk => ⟨hk.1.1, ⟨hk.1.2, hk.2⟩⟩)⟩, ⟨by (with_reducible repeat (first | apply Kd.N_alloc | apply Kd.N_drewN | apply Kd.N_drew)); exact Kd.N_mono HO368.out (fun _ hk => ⟨hk.2.1, ⟨hk.2.2, hk.1⟩⟩)⟩, ⟨by (with_reducible repeat (first | apply Kd.N_alloc | apply Kd.N_drewN | apply Kd.N_drew)); exact Kd.N_mono HO371.out (fun _ hk => ⟨hk.2.1, ⟨hk.2.2, hk.1⟩⟩)⟩, ⟨by repeat (first | (with_reducible first | exact HB.out | apply below_alloc | apply pw_below_drewN | apply below_drew1) | exact HB.out)⟩⟩
        · rw [if_neg c11] at H
          have c11b0 : ((t359.length : Int) == (t366.length : Int)) = false := beq_eq_false_iff_ne.mpr c11
          have c11b1 : ((t359.length : Int) != (t366.length : Int)) = true := bne_iff_ne.mpr c11
          have c11b2 : (t359.length == t366.length) = false := by first | simpa using c11 | (simp at c11 ⊢; omega)
          have H' := Aside0.mk H
          clear H
          obtain ⟨Ao21, co21, eo21⟩ := Kd.N_slice HO361.out
          subst eo21
          obtain ⟨Ao22, co22, eo22⟩ := Kd.N_slice HO368.out
          subst eo22
          go_wp2
          go_meet
          case rel => exact ⟨_, (true), (by first | rfl | (simp; done) | (simp [*]; done)), H', ⟨by first | omega | exact Nat.le_refl _⟩, ⟨by (with_reducible repeat (first | apply Kd.N_alloc | apply Kd.N_drewN | apply Kd.N_drew)); exact Kd.N_mono HO361.out (fun _ hk => ⟨hk.1.1, ⟨hk.1.2, hk.2⟩⟩)⟩, ⟨by (with_reducible repeat (first | apply Kd.N_alloc | apply Kd.N_drewN | apply Kd.N_drew)); exact Kd.N_mono HO364.out (fun _ hk => ⟨hk.1.1, ⟨hk.1.2, hk.2⟩⟩)⟩, ⟨by (with_reducible repeat (first | apply Kd.N_alloc | apply Kd.N_drewN | apply Kd.N_drew)); exact Kd.N_mono HO368.out (fun _ hk => ⟨hk.2.1, ⟨hk.2.2, hk.1⟩⟩)⟩, ⟨by (with_reducible repeat (first | apply Kd.N_alloc | apply Kd.N_drewN | apply Kd.N_drew)); exact Kd.N_mono HO371.out (fun _ hk => ⟨hk.2.1, ⟨hk.2.2, hk.1⟩⟩)⟩, ⟨by repeat (first | (with_reducible first | exact HB.out | apply below_alloc | apply pw_below_drewN | apply below_drew1) | exact HB.out)⟩⟩
      · rw [if_neg c10] at H
        have c10b0 : (t365 == t372) = false := beq_eq_false_iff_ne.mpr c10
        have c10b1 : (t365 != t372) = true := bne_iff_ne.mpr c10
        (first | rw [c10b0] | (simp only [i64_w, i32_w]; rw [c10b0]) | skip)
        have H' := Aside0.mk H
        clear H
        go_wp2
        go_meet
        case rel => exact ⟨_, (true), (by first | rfl | (simp; done) | (simp [*]; done)), H', ⟨by first | omega | exact Nat.le_refl _⟩, ⟨by (with_reducible repeat (first | apply Kd.N_alloc | apply Kd.N_drewN | apply Kd.N_drew)); exact Kd.N_mono HO361.out (fun _ hk => ⟨hk.1.1, ⟨hk.1.2, hk.2⟩⟩)⟩, ⟨by (with_reducible repeat (first | apply Kd.N_alloc | apply Kd.N_drewN | apply Kd.N_drew)); exact Kd.N_mono HO364.out (fun _ hk => ⟨hk.1.1, ⟨hk.1.2, hk.2⟩⟩)⟩, ⟨by (with_reducible repeat (first | apply Kd.N_alloc | apply Kd.N_drewN | apply Kd.N_drew)); exact Kd.N_mono HO368.out (fun _ hk => ⟨hk.2.1, ⟨hk.2.2, hk.1⟩⟩)⟩, ⟨by (with_reducible repeat (first | apply Kd.N_alloc | apply Kd.N_drewN | apply Kd.N_drew)); exact Kd.N_mono HO371.out (fun _ hk => ⟨hk.2.1, ⟨hk.2.2, hk.1⟩⟩)⟩, ⟨by repeat (first | (with_reducible first | exact HB.out | apply below_alloc | apply pw_below_drewN | apply below_drew1) | exact HB.out)⟩⟩
    case rest =>
      clear HC6
      try clear c1
      try clear p2
      try clear c3
      try clear c5
      try clear c7
      try clear c10
      try clear c10b0
      try clear c10b1
      try clear c11
      try clear c11b0
      try clear c11b1
      try clear c11b2
      try clear c12
      try clear c12b0
      try clear c12b1
      try clear c12b2
      try clear c15
      try clear c16
      obtain ⟨kq, x48_5, rfl, HA, HJ5, HO_3, HO_4, HO_6, HO_7, HB⟩ := hcut
      cases kq with
      | zero => exact absurd HA.out (by simp [courierlaw02_WireSplits.j0])
      | succ kj5 =>
        have H := HA.out
        clear HA
        simp only [courierlaw02_WireSplits.j0] at H
        by_cases c23 : x48_5 = true
        · subst c23
          have H1 : (some false) = some r := by rw [if_pos rfl] at H; exact H
          clear H
          have H := H1
          clear H1
          obtain rfl := Option.some.inj H
          go_wp2
          go_ret
          exact ⟨by first | rfl | (simp [errW_none, errW_some] <;> rfl) | (simp [*, errW_none, errW_some] <;> rfl), by repeat (first | (with_reducible first | exact HB.out | apply below_alloc | apply pw_below_drewN | apply below_drew1) | exact HB.out)⟩
        · replace c23 := Bool.eq_false_iff.mpr c23
          subst c23
          have H1 : (courierlaw02_WireSplits.l0 kj5 l0 t359 t362 t365 t366 t369 (⟨#[]⟩ : ByteArray) (t359.length : Int) 0) = some r := by rw [if_neg (show ¬ (false = true) by decide)] at H; exact H
          clear H
          have H := H1
          clear H1
          have H' := Aside0.mk H
          clear H
          obtain ⟨Ao24, co24, eo24⟩ := Kd.N_slice HO_3.out
          subst eo24
          go_wp2
          go_loopg [9, 51] kj5 (fun kq v9 v51 w' => ∃ (x9_2 : ByteArray) (x51_2 : Int), v9 = .string x9_2 ∧ v51 = .int .i64 x51_2 ∧ Aside0 (courierlaw02_WireSplits.l0 kq l0 t359 t362 t365 t366 t369 x9_2 (t359.length : Int) x51_2 = some r) ∧ Aside0 (kq ≤ kj5) ∧ Aside0 (Kd.N k26 26 w' w.heap.size (fun k_ => some k_ ≠ (v363 : Value).ownBlock ∧ some k_ ≠ (v367 : Value).ownBlock ∧ some k_ ≠ (v370 : Value).ownBlock) (.slice Ao24 t359.length co24) t359) ∧ Aside0 (Kd.N (Kd.slice 5 (Kd.int .u8)) 22 w' w.heap.size (fun k_ => some k_ ≠ ((.slice Ao24 t359.length co24) : Value).ownBlock ∧ some k_ ≠ (v367 : Value).ownBlock ∧ some k_ ≠ (v370 : Value).ownBlock) v363 t362) ∧ Aside0 (Kd.N k30 30 w' w.heap.size (fun k_ => some k_ ≠ ((.slice Ao24 t359.length co24) : Value).ownBlock ∧ some k_ ≠ (v363 : Value).ownBlock ∧ some k_ ≠ (v370 : Value).ownBlock) v367 t366) ∧ Aside0 (Kd.N (Kd.slice 5 (Kd.int .u8)) 22 w' w.heap.size (fun k_ => some k_ ≠ ((.slice Ao24 t359.length co24) : Value).ownBlock ∧ some k_ ≠ (v363 : Value).ownBlock ∧ some k_ ≠ (v367 : Value).ownBlock) v370 t369) ∧ Aside0 (Below w.heap.size w w'))
          case atStart => exact ⟨((⟨#[]⟩ : ByteArray)), (0), (by first | rfl | (simp; done) | (simp [*]; done)), (by first | rfl | (simp; done) | (simp [*]; done)), H', ⟨Nat.le_refl _⟩, ⟨by (with_reducible repeat (first | apply Kd.N_alloc | apply Kd.N_drewN | apply Kd.N_drew)); exact HO_3.out⟩, ⟨by (with_reducible repeat (first | apply Kd.N_alloc | apply Kd.N_drewN | apply Kd.N_drew)); exact HO_4.out⟩, ⟨by (with_reducible repeat (first | apply Kd.N_alloc | apply Kd.N_drewN | apply Kd.N_drew)); exact HO_6.out⟩, ⟨by (with_reducible repeat (first | apply Kd.N_alloc | apply Kd.N_drewN | apply Kd.N_drew)); exact HO_7.out⟩, ⟨by repeat (first | (with_reducible first | exact HB.out | apply below_alloc | apply pw_below_drewN | apply below_drew1) | exact HB.out)⟩⟩
          case round =>
            clear H'
            try clear c1
            try clear c2
            try clear p2
            try clear c3
            try clear c5
            try clear c7
            try clear c10
            try clear c10b0
            try clear c10b1
            try clear c11
            try clear c11b0
            try clear c11b1
            try clear c11b2
            try clear c12
            try clear c12b0
            try clear c12b1
            try clear c12b2
            try clear c15
            try clear c16
            try clear c23
            try clear p2
            obtain ⟨x9_2, x51_2, rfl, rfl, HA, HK2, HO_3, HO_4, HO_6, HO_7, HB⟩ := hrel
            cases gk with
            | zero => exact absurd HA.out (by simp [courierlaw02_WireSplits.l0])
            | succ k2 =>
              have H := HA.out
              clear HA
              simp only [courierlaw02_WireSplits.l0] at H
              by_cases c25 : x51_2 < (t359.length : Int)
              · rw [if_pos c25] at H
                have c25b0 : decide (x51_2 < (t359.length : Int)) = true := decide_eq_true c25
                clear c25
                by_cases c26 : 0 ≤ x51_2
                · rw [if_pos c26] at H
                  have c26b0 : decide (0 ≤ x51_2) = true := decide_eq_true c26
                  clear c26
                  by_cases c27 : x51_2 < (t359.length : Int)
                  · rw [if_pos c27] at H
                    have c27b0 : decide (x51_2 < (t359.length : Int)) = true := decide_eq_true c27
                    clear c27
                    replace H := Option.bind_eq_some_iff.mp H
                    obtain ⟨⟨t374, t375, t376, t377⟩, A280, H⟩ := H
                    replace H : (if x51_2 < (t366.length : Int) then ((courierref01_Same.f t374 t375 t376 t377 ((rd_T30 t366 x51_2).f0) ((rd_T30 t366 x51_2).f1) ((rd_T30 t366 x51_2).f2) ((rd_T30 t366 x51_2).f3)).bind fun t381 => (if t381 = true then (if x51_2 < (t362.length : Int) then (if x51_2 < (t369.length : Int) then (if (strOfNums (rd_L1 t362 x51_2)).toList = (strOfNums (rd_L1 t369 x51_2)).toList then (if x9_2.size + (strOfNums (rd_L1 t362 x51_2)).size ≤ 9223372036854775807 then (courierlaw02_WireSplits.l0 k2 l0 t359 t362 t365 t366 t369 (x9_2 ++ (strOfNums (rd_L1 t362 x51_2))) (t359.length : Int) (wrap64 (x51_2 + 1))) else (none)) else (some false)) else (none)) else (none)) else (some false))) else (none)) = some r := H
                    have A28 := Aside0.mk A280
                    clear A280
                    by_cases c29 : x51_2 < (t366.length : Int)
                    · rw [if_pos c29] at H
                      have c29b0 : decide (x51_2 < (t366.length : Int)) = true := decide_eq_true c29
                      clear c29
                      replace H := Option.bind_eq_some_iff.mp H
                      obtain ⟨t381, A300, H⟩ := H
                      replace H : (if t381 = true then (if x51_2 < (t362.length : Int) then (if x51_2 < (t369.length : Int) then (if (strOfNums (rd_L1 t362 x51_2)).toList = (strOfNums (rd_L1 t369 x51_2)).toList then (if x9_2.size + (strOfNums (rd_L1 t362 x51_2)).size ≤ 9223372036854775807 then (courierlaw02_WireSplits.l0 k2 l0 t359 t362 t365 t366 t369 (x9_2 ++ (strOfNums (rd_L1 t362 x51_2))) (t359.length : Int) (wrap64 (x51_2 + 1))) else (none)) else (some false)) else (none)) else (none)) else (some false)) = some r := H
                      have A30 := Aside0.mk A300
                      clear A300
                      by_cases c31 : t381 = true
                      · subst c31
                        have H1 : (if x51_2 < (t362.length : Int) then (if x51_2 < (t369.length : Int) then (if (strOfNums (rd_L1 t362 x51_2)).toList = (strOfNums (rd_L1 t369 x51_2)).toList then (if x9_2.size + (strOfNums (rd_L1 t362 x51_2)).size ≤ 9223372036854775807 then (courierlaw02_WireSplits.l0 k2 l0 t359 t362 t365 t366 t369 (x9_2 ++ (strOfNums (rd_L1 t362 x51_2))) (t359.length : Int) (wrap64 (x51_2 + 1))) else (none)) else (some false)) else (none)) else (none)) = some r := by rw [if_pos rfl] at H; exact H
                        clear H
                        have H := H1
                        clear H1
                        by_cases c32 : x51_2 < (t362.length : Int)
                        · rw [if_pos c32] at H
                          have c32b0 : decide (x51_2 < (t362.length : Int)) = true := decide_eq_true c32
                          clear c32
                          by_cases c33 : x51_2 < (t369.length : Int)
                          · rw [if_pos c33] at H
                            have c33b0 : decide (x51_2 < (t369.length : Int)) = true := decide_eq_true c33
                            clear c33
                            by_cases c34 : (strOfNums (rd_L1 t362 x51_2)).toList = (strOfNums (rd_L1 t369 x51_2)).toList
                            · rw [if_pos c34] at H
                              have c34b0 : ((strOfNums (rd_L1 t362 x51_2)).toList == (strOfNums (rd_L1 t369 x51_2)).toList) = true := beq_iff_eq.mpr c34
                              have c34b1 : ((strOfNums (rd_L1 t362 x51_2)).toList != (strOfNums (rd_L1 t369 x51_2)).toList) = false := bne_eq_false_iff_eq.mpr c34
                              clear c34
                              by_cases c35 : x9_2.size + (strOfNums (rd_L1 t362 x51_2)).size ≤ 9223372036854775807
                              · rw [if_pos c35] at H
                                have c35b0 := eq_true c35
                                have c35b1 : decide (x9_2.size + (strOfNums (rd_L1 t362 x51_2)).size ≤ 9223372036854775807) = true := decide_eq_true c35
                                try have c35b2 : (9223372036854775807 < x9_2.size + (strOfNums (rd_L1 t362 x51_2)).size) = False := eq_false (Nat.not_lt.2 c35)
                                have H' := Aside0.mk H
                                clear H
                                try go_wp2
                                have n0_ := Aside0.mk (Kd.N_drew HO_3.out)
                                have n1_ := Aside0.mk (Kd.N_drew HO_4.out)
                                have n2_ := Aside0.mk (Kd.N_drew HO_6.out)
                                have n3_ := Aside0.mk (Kd.N_drew HO_7.out)
                                have n4_ := Aside0.mk (below_drew1 HB.out)
                                clear HO_3
                                clear HO_4
                                clear HO_6
                                clear HO_7
                                clear HB
                                have HO_3 := n0_
                                have HO_4 := n1_
                                have HO_6 := n2_
                                have HO_7 := n3_
                                have HB := n4_
                                clear n0_ n1_ n2_ n3_ n4_
                                have p373 : 0 ≤ (x51_2 : Int) := of_decide_eq_true (by first | (with_reducible assumption) | assumption)
                                have q373 : x51_2 < (t359.length : Int) := of_decide_eq_true (by first | (with_reducible assumption) | assumption)
                                obtain ⟨ad373, A373_3, c373_3, e373, hx373_0, hx373_1, hx373_2, hx373_3, hl373_3, hi373_3⟩ := at_T26 (Kd.N_reads' HO_3.out).2.2 x51_2 p373 q373
                                cases e373
                                obtain ⟨ce373, hce373, hMe373, hcc373⟩ := Kd.N_get HO_3.out z26 x51_2 p373 (by first | exact q373 | exact of_decide_eq_true (by first | (with_reducible assumption) | assumption) | (have e_ := (Kd.N_reads' HO_3.out).1; omega))
                                obtain ⟨ua373_3, uc373_3, rfl, ul373_3, ge373_3⟩ := k26_openF hMe373
                                have hv373_3 := hcc373 3 _ rfl
                                rw [add_field _ _ 3 (by omega)] at hv373_3
                                replace hv373_3 := Option.some.inj (hv373_3.symm.trans hx373_3)
                                injection hv373_3 with hva_ hvn_ hvc_
                                rw [hva_] at ge373_3
                                rw [hvc_] at ul373_3
                                have HL373_3 := Aside0.mk (show Kd.V (Kd.int .u8) 5 _ w.heap.size _ _ ((rd_T26 t359 x51_2).f3) from Kd.V_mk ul373_3 ge373_3)
                                clear hva_ hvn_ hvc_ ge373_3 ul373_3
                                clear hcc373 hce373
                                have HR373_3 := Aside0.mk hi373_3
                                have HC373_3 := Aside0.mk hl373_3
                                clear hi373_3 hl373_3
                                replace p373 := eq_true p373
                                replace q373 := eq_true q373
                                obtain ⟨Ao37, co37, eo37⟩ := Kd.N_slice HO_6.out
                                (first | subst eo37 | (injection eo37 with f1_ f2_ f3_; have f4_ := f1_.symm; have f5_ := f3_.symm; clear f1_ f2_ f3_; subst f4_; subst f5_))
                                have p380 : 0 ≤ (x51_2 : Int) := of_decide_eq_true (by first | (with_reducible assumption) | assumption)
                                have q380 : x51_2 < (t366.length : Int) := of_decide_eq_true (by first | (with_reducible assumption) | assumption)
                                obtain ⟨ad380, A380_3, c380_3, e380, hx380_0, hx380_1, hx380_2, hx380_3, hl380_3, hi380_3⟩ := at_T30 (Kd.N_reads' HO_6.out).2.2 x51_2 p380 q380
                                cases e380
                                obtain ⟨ce380, hce380, hMe380, hcc380⟩ := Kd.N_get HO_6.out z30 x51_2 p380 (by first | exact q380 | exact of_decide_eq_true (by first | (with_reducible assumption) | assumption) | (have e_ := (Kd.N_reads' HO_6.out).1; omega))
                                obtain ⟨ua380_3, uc380_3, rfl, ul380_3, ge380_3⟩ := k30_openF hMe380
                                have hv380_3 := hcc380 3 _ rfl
                                rw [add_field _ _ 3 (by omega)] at hv380_3
                                replace hv380_3 := Option.some.inj (hv380_3.symm.trans hx380_3)
                                injection hv380_3 with hva_ hvn_ hvc_
                                rw [hva_] at ge380_3
                                rw [hvc_] at ul380_3
                                have HL380_3 := Aside0.mk (show Kd.V (Kd.int .u8) 5 _ w.heap.size _ _ ((rd_T30 t366 x51_2).f3) from Kd.V_mk ul380_3 ge380_3)
                                clear hva_ hvn_ hvc_ ge380_3 ul380_3
                                clear hcc380 hce380
                                have HR380_3 := Aside0.mk hi380_3
                                have HC380_3 := Aside0.mk hl380_3
                                clear hi380_3 hl380_3
                                replace p380 := eq_true p380
                                replace q380 := eq_true q380
                                have p382 : 0 ≤ (x51_2 : Int) := of_decide_eq_true (by first | (with_reducible assumption) | assumption)
                                have q382 : x51_2 < (t362.length : Int) := of_decide_eq_true (by first | (with_reducible assumption) | assumption)
                                obtain ⟨Aopn382, copn382, eopn382⟩ := Kd.N_slice HO_4.out
                                subst eopn382
                                obtain ⟨ad382, A382_0, c382_0, e382, hx382_0, hl382_0, hi382_0⟩ := at_L1 (Kd.N_reads' HO_4.out).2.2 x51_2 p382 q382
                                cases e382
                                obtain ⟨ce382, hce382, hMe382, hcc382⟩ := Kd.N_get HO_4.out [] x51_2 p382 (by first | exact q382 | exact of_decide_eq_true (by first | (with_reducible assumption) | assumption) | (have e_ := (Kd.N_reads' HO_4.out).1; omega))
                                obtain ⟨ua382_0, uc382_0, rfl, ul382_0, ge382_0⟩ := Kd.FK_slice_open hMe382
                                have hv382_0 := hcc382 0 _ rfl
                                rw [Nat.add_zero, show ((Kd.slice 5 (Kd.int .u8))).sz = 1 from rfl, Nat.mul_one] at hv382_0
                                replace hv382_0 := Option.some.inj (hv382_0.symm.trans hx382_0)
                                injection hv382_0 with hva_ hvn_ hvc_
                                rw [hva_] at ge382_0
                                rw [hvc_] at ul382_0
                                have HL382_0 := Aside0.mk (show Kd.V (Kd.int .u8) 5 _ w.heap.size _ _ (rd_L1 t362 x51_2) from Kd.V_mk ul382_0 ge382_0)
                                clear hva_ hvn_ hvc_ ge382_0 ul382_0
                                clear hcc382 hce382
                                have HR382_0 := Aside0.mk hi382_0
                                have HC382_0 := Aside0.mk hl382_0
                                clear hi382_0 hl382_0
                                replace p382 := eq_true p382
                                replace q382 := eq_true q382
                                have p383 : 0 ≤ (x51_2 : Int) := of_decide_eq_true (by first | (with_reducible assumption) | assumption)
                                have q383 : x51_2 < (t369.length : Int) := of_decide_eq_true (by first | (with_reducible assumption) | assumption)
                                obtain ⟨Aopn383, copn383, eopn383⟩ := Kd.N_slice HO_7.out
                                subst eopn383
                                obtain ⟨ad383, A383_0, c383_0, e383, hx383_0, hl383_0, hi383_0⟩ := at_L1 (Kd.N_reads' HO_7.out).2.2 x51_2 p383 q383
                                cases e383
                                obtain ⟨ce383, hce383, hMe383, hcc383⟩ := Kd.N_get HO_7.out [] x51_2 p383 (by first | exact q383 | exact of_decide_eq_true (by first | (with_reducible assumption) | assumption) | (have e_ := (Kd.N_reads' HO_7.out).1; omega))
                                obtain ⟨ua383_0, uc383_0, rfl, ul383_0, ge383_0⟩ := Kd.FK_slice_open hMe383
                                have hv383_0 := hcc383 0 _ rfl
                                rw [Nat.add_zero, show ((Kd.slice 5 (Kd.int .u8))).sz = 1 from rfl, Nat.mul_one] at hv383_0
                                replace hv383_0 := Option.some.inj (hv383_0.symm.trans hx383_0)
                                injection hv383_0 with hva_ hvn_ hvc_
                                rw [hva_] at ge383_0
                                rw [hvc_] at ul383_0
                                have HL383_0 := Aside0.mk (show Kd.V (Kd.int .u8) 5 _ w.heap.size _ _ (rd_L1 t369 x51_2) from Kd.V_mk ul383_0 ge383_0)
                                clear hva_ hvn_ hvc_ ge383_0 ul383_0
                                clear hcc383 hce383
                                have HR383_0 := Aside0.mk hi383_0
                                have HC383_0 := Aside0.mk hl383_0
                                clear hi383_0 hl383_0
                                replace p383 := eq_true p383
                                replace q383 := eq_true q383
                                refine start_ (n := 24) (S := fun w' => w'.cell? (ad373.add ((x51_2).toNat * 4)) = some (.int .i64 ((rd_T26 t359 x51_2).f0)) ∧ w'.cell? ⟨(ad373.add ((x51_2).toNat * 4)).block, (ad373.add ((x51_2).toNat * 4)).off + 1, none⟩ = some (.int .i64 ((rd_T26 t359 x51_2).f1)) ∧ w'.cell? ⟨(ad373.add ((x51_2).toNat * 4)).block, (ad373.add ((x51_2).toNat * 4)).off + 2, none⟩ = some (.int .u64 ((rd_T26 t359 x51_2).f2)) ∧ w'.cell? ⟨(ad373.add ((x51_2).toNat * 4)).block, (ad373.add ((x51_2).toNat * 4)).off + 3, none⟩ = some (.slice A373_3 ((rd_T26 t359 x51_2).f3).length c373_3) ∧ w'.cell? (ad380.add ((x51_2).toNat * 4)) = some (.int .i64 ((rd_T30 t366 x51_2).f0)) ∧ w'.cell? ⟨(ad380.add ((x51_2).toNat * 4)).block, (ad380.add ((x51_2).toNat * 4)).off + 1, none⟩ = some (.int .i64 ((rd_T30 t366 x51_2).f1)) ∧ w'.cell? ⟨(ad380.add ((x51_2).toNat * 4)).block, (ad380.add ((x51_2).toNat * 4)).off + 2, none⟩ = some (.int .u64 ((rd_T30 t366 x51_2).f2)) ∧ w'.cell? ⟨(ad380.add ((x51_2).toNat * 4)).block, (ad380.add ((x51_2).toNat * 4)).off + 3, none⟩ = some (.slice A380_3 ((rd_T30 t366 x51_2).f3).length c380_3) ∧ w'.cell? (ad382.add (x51_2).toNat) = some (.slice A382_0 (rd_L1 t362 x51_2).length c382_0) ∧ (convert 22 9 (.slice A382_0 (rd_L1 t362 x51_2).length c382_0)).run Try.prog w' = .ok (.string (strOfNums (rd_L1 t362 x51_2))) w' ∧ w'.cell? (ad383.add (x51_2).toNat) = some (.slice A383_0 (rd_L1 t369 x51_2).length c383_0) ∧ (convert 22 9 (.slice A383_0 (rd_L1 t369 x51_2).length c383_0)).run Try.prog w' = .ok (.string (strOfNums (rd_L1 t369 x51_2))) w') (ds := []) #[false, false, false, false, false, false, false, false, false, false, false, false, false, false, false, false, false, false, false, false, false, false, false, false] (by kernel_rfl) rfl rfl ⟨hx373_0, hx373_1, hx373_2, hx373_3, hx380_0, hx380_1, hx380_2, hx380_3, hx382_0, Kd.C_string (P := Try.prog) (A := A382_0) (c := c382_0) Try.underlying22 Try.underlying5 Try.underlying9 (by repeat (first | (with_reducible exact HR382_0.out) | (with_reducible refine Kd.C_alloc ?_ _) | (with_reducible refine Kd.C_drewN ?_ _) | (with_reducible refine Kd.C_drew ?_) | exact HR382_0.out)), hx383_0, Kd.C_string (P := Try.prog) (A := A383_0) (c := c383_0) Try.underlying22 Try.underlying5 Try.underlying9 (by repeat (first | (with_reducible exact HR383_0.out) | (with_reducible refine Kd.C_alloc ?_ _) | (with_reducible refine Kd.C_drewN ?_ _) | (with_reducible refine Kd.C_drew ?_) | exact HR383_0.out))⟩ (fun hHeld => ?_); refine with_tabW courierlaw02_WireSplits.tab11 courierlaw02_WireSplits.bits11 (fun HT_ HW_ => ?_)
                                generalize wr.drew = w36 at HO_3 HO_4 HO_6 HO_7 HB HL373_3 HL380_3 HL382_0 HL383_0 HR373_3 HR380_3 HR382_0 HR383_0 hx373_0 hx373_1 hx373_2 hx373_3 hx380_0 hx380_1 hx380_2 hx380_3 hx382_0 hx383_0 hHeld ⊢
                                refine pure_ (i := 0) (N := some 54) (v := ?_) (a' := ?_) #[true, false, false, false, false, false, false, false, false, false, false, false, false, false, false, false, false, false, false, false, false, false, false, false] rfl rfl (any_of HT_.out (by kernel_rfl)) (fun _ _ _ h => h) (Or.inl ⟨by rfl, ?_⟩) ?_ ?_
                                rotate_left
                                · intro w'
                                  go_simp
                                  with_reducible rfl
                                rotate_left
                                · simp only [Act.put, List.setIfInBounds_toArray, List.set_cons_zero, List.set_cons_succ, i64_w, i32_w]
                                  rfl
                                refine pure_ (i := 1) (N := some 55) (v := ?_) (a' := ?_) #[true, true, false, false, false, false, false, false, false, false, false, false, false, false, false, false, false, false, false, false, false, false, false, false] rfl rfl (any_of HT_.out (by kernel_rfl)) (fun _ _ _ h => h) (Or.inl ⟨by rfl, ?_⟩) ?_ ?_
                                rotate_left
                                · intro w'
                                  go_simp
                                  with_reducible rfl
                                rotate_left
                                · simp only [Act.put, List.setIfInBounds_toArray, List.set_cons_zero, List.set_cons_succ, i64_w, i32_w]
                                  rfl
                                refine pure_ (i := 2) (N := some 56) (v := ?_) (a' := ?_) #[true, true, true, false, false, false, false, false, false, false, false, false, false, false, false, false, false, false, false, false, false, false, false, false] rfl rfl (any_of HT_.out (by kernel_rfl)) (fun _ _ _ h => h) (Or.inl ⟨by rfl, ?_⟩) ?_ ?_
                                rotate_left
                                · intro w'
                                  go_simp
                                  with_reducible rfl
                                rotate_left
                                · simp only [Act.put, List.setIfInBounds_toArray, List.set_cons_zero, List.set_cons_succ, i64_w, i32_w]
                                  rfl
                                refine pure_ (i := 5) (N := some 59) (v := ?_) (a' := ?_) #[true, true, true, false, false, true, false, false, false, false, false, false, false, false, false, false, false, false, false, false, false, false, false, false] rfl rfl (any_of HT_.out (by kernel_rfl)) (fun _ _ _ h => h) (Or.inl ⟨by rfl, ?_⟩) ?_ ?_
                                rotate_left
                                · intro w'
                                  go_simp
                                  with_reducible rfl
                                rotate_left
                                · simp only [Act.put, List.setIfInBounds_toArray, List.set_cons_zero, List.set_cons_succ, i64_w, i32_w]
                                  rfl
                                refine pure_ (i := 6) (N := some 60) (v := ?_) (a' := ?_) #[true, true, true, false, false, true, true, false, false, false, false, false, false, false, false, false, false, false, false, false, false, false, false, false] rfl rfl (any_of HT_.out (by kernel_rfl)) (fun _ _ _ h => h) (Or.inl ⟨by rfl, ?_⟩) ?_ ?_
                                rotate_left
                                · intro w'
                                  go_simp
                                  with_reducible rfl
                                rotate_left
                                · simp only [Act.put, List.setIfInBounds_toArray, List.set_cons_zero, List.set_cons_succ, i64_w, i32_w]
                                  rfl
                                refine pure_ (i := 7) (N := some 61) (v := ?_) (a' := ?_) #[true, true, true, false, false, true, true, true, false, false, false, false, false, false, false, false, false, false, false, false, false, false, false, false] rfl rfl (any_of HT_.out (by kernel_rfl)) (fun _ _ _ h => h) (Or.inl ⟨by rfl, ?_⟩) ?_ ?_
                                rotate_left
                                · intro w'
                                  go_simp
                                  with_reducible rfl
                                rotate_left
                                · simp only [Act.put, List.setIfInBounds_toArray, List.set_cons_zero, List.set_cons_succ, i64_w, i32_w]
                                  rfl
                                refine take_ (i := 3) (N := some 57) (v := ?_) (a' := ?_) #[true, true, true, true, false, true, true, true, false, false, false, false, false, false, false, false, false, false, false, false, false, false, false, false] rfl rfl (take_ofW HT_.out HW_.out (by kernel_rfl)) (fun _ _ _ h => h) (Or.inl ⟨by rfl, ?_⟩) hHeld ?_ ?_
                                rotate_left
                                · rintro w' ⟨s0, s1, s2, s3, s4, s5, s6, s7, s8, s9, s10, s11⟩
                                  go_simp
                                  with_reducible rfl
                                rotate_left
                                · simp only [Act.put, List.setIfInBounds_toArray, List.set_cons_zero, List.set_cons_succ, i64_w, i32_w]
                                  rfl
                                refine take_ (i := 8) (N := some 62) (v := ?_) (a' := ?_) #[true, true, true, true, false, true, true, true, true, false, false, false, false, false, false, false, false, false, false, false, false, false, false, false] rfl rfl (take_ofW HT_.out HW_.out (by kernel_rfl)) (fun _ _ _ h => h) (Or.inl ⟨by rfl, ?_⟩) hHeld ?_ ?_
                                rotate_left
                                · rintro w' ⟨s0, s1, s2, s3, s4, s5, s6, s7, s8, s9, s10, s11⟩
                                  go_simp
                                  with_reducible rfl
                                rotate_left
                                · simp only [Act.put, List.setIfInBounds_toArray, List.set_cons_zero, List.set_cons_succ, i64_w, i32_w]
                                  rfl
                                refine one_ (i := 4) (N := some 58) #[true, true, true, true, true, true, true, true, true, false, false, false, false, false, false, false, false, false, false, false, false, false, false, false] rfl rfl (one_of HT_.out (by kernel_rfl)) (by decide) (fun K hK => ?_)
                                refine goes_ Try.func11 (by kernel_rfl) rfl #[.agg #[.int .i64 ((rd_T26 t359 x51_2).f0), .int .i64 ((rd_T26 t359 x51_2).f1), .int .u64 ((rd_T26 t359 x51_2).f2), .slice A373_3 ((rd_T26 t359 x51_2).f3).length c373_3]] (by rfl) rfl rfl (by (try simp only [List.map_toArray, List.map_cons, List.map_nil]); first | done | rfl | (simp only [List.length_drop, List.length_take]; rfl)) ?_
                                with_reducible refine (courierlaw02_ours.calls ((rd_T26 t359 x51_2).f0) ((rd_T26 t359 x51_2).f1) ((rd_T26 t359 x51_2).f2) (fun k_ => ((some k_ ≠ (.slice (some ad382) t362.length copn382 : Value).ownBlock ∧ (some k_ ≠ (.slice (some ad380) t366.length co37 : Value).ownBlock ∧ some k_ ≠ (.slice (some ad383) t369.length copn383 : Value).ownBlock)) ∧ some k_ ≠ (.slice (some ad373) t359.length co24 : Value).ownBlock)) _ _ ((rd_T26 t359 x51_2).f3) t374 t375 t376 t377 _ ?side1 A28.out).mono ?_
                                (case side1 => exact HL373_3.out)
                                rintro e w38 ⟨v378, rfl, ho0, hb⟩
                                (try (have nt_ := Aside0.mk (Kd.V_below HL382_0.out hb); clear HL382_0; have HL382_0 := nt_; clear nt_))
                                (try (have nt_ := Aside0.mk (Kd.C_below HR382_0.out hb); clear HR382_0; have HR382_0 := nt_; clear nt_))
                                (try (have nt_ := Aside0.mk (Kd.V_below HL383_0.out hb); clear HL383_0; have HL383_0 := nt_; clear nt_))
                                (try (have nt_ := Aside0.mk (Kd.C_below HR383_0.out hb); clear HR383_0; have HR383_0 := nt_; clear nt_))
                                have HS0_ := (hb.cell (World.block_lt_of_cell? _ _ (hHeld.1))).trans (hHeld.1)
                                have HS1_ := (hb.cell (World.block_lt_of_cell? _ _ (hHeld.2.1))).trans (hHeld.2.1)
                                have HS2_ := (hb.cell (World.block_lt_of_cell? _ _ (hHeld.2.2.1))).trans (hHeld.2.2.1)
                                have HS3_ := (hb.cell (World.block_lt_of_cell? _ _ (hHeld.2.2.2.1))).trans (hHeld.2.2.2.1)
                                have HS4_ := (hb.cell (World.block_lt_of_cell? _ _ (hHeld.2.2.2.2.1))).trans (hHeld.2.2.2.2.1)
                                have HS5_ := (hb.cell (World.block_lt_of_cell? _ _ (hHeld.2.2.2.2.2.1))).trans (hHeld.2.2.2.2.2.1)
                                have HS6_ := (hb.cell (World.block_lt_of_cell? _ _ (hHeld.2.2.2.2.2.2.1))).trans (hHeld.2.2.2.2.2.2.1)
                                have HS7_ := (hb.cell (World.block_lt_of_cell? _ _ (hHeld.2.2.2.2.2.2.2.1))).trans (hHeld.2.2.2.2.2.2.2.1)
                                have HS8_ := (hb.cell (World.block_lt_of_cell? _ _ (hHeld.2.2.2.2.2.2.2.2.1))).trans (hHeld.2.2.2.2.2.2.2.2.1)
                                have HS10_ := (hb.cell (World.block_lt_of_cell? _ _ (hHeld.2.2.2.2.2.2.2.2.2.2.1))).trans (hHeld.2.2.2.2.2.2.2.2.2.2.1)
                                refine ⟨_, rfl, ?_⟩
                                have n0_ := Aside0.mk (Kd.N_below (by (with_reducible repeat (first | apply Kd.N_alloc | apply Kd.N_drewN | apply Kd.N_drew)); exact HO_3.out) hb)
                                have n1_ := Aside0.mk (Kd.N_below (by (with_reducible repeat (first | apply Kd.N_alloc | apply Kd.N_drewN | apply Kd.N_drew)); exact HO_4.out) hb)
                                have n2_ := Aside0.mk (Kd.N_below (by (with_reducible repeat (first | apply Kd.N_alloc | apply Kd.N_drewN | apply Kd.N_drew)); exact HO_6.out) hb)
                                have n3_ := Aside0.mk (Kd.N_below (by (with_reducible repeat (first | apply Kd.N_alloc | apply Kd.N_drewN | apply Kd.N_drew)); exact HO_7.out) hb)
                                have n4_ := Aside0.mk (Kd.V_below (by (with_reducible repeat (first | apply Kd.V_alloc | apply Kd.V_drewN | apply Kd.V_drew)); exact HL373_3.out) hb)
                                have n5_ := Aside0.mk (Kd.V_below (by (with_reducible repeat (first | apply Kd.V_alloc | apply Kd.V_drewN | apply Kd.V_drew)); exact HL380_3.out) hb)
                                have n6_ := Aside0.mk (Kd.V_lower (Kd.V_mono (ok' := fun k_ => some k_ ≠ (.slice (some ad373) t359.length co24 : Value).ownBlock ∧ some k_ ≠ (.slice (some ad382) t362.length copn382 : Value).ownBlock ∧ some k_ ≠ (.slice (some ad380) t366.length co37 : Value).ownBlock ∧ some k_ ≠ (.slice (some ad383) t369.length copn383 : Value).ownBlock) ho0 (fun k_ hk_ => ⟨Or.elim hk_ (fun hs_ => hs_.2) (fun hn_ => (Kd.fresh' (Kd.N_lt (by (with_reducible repeat (first | apply Kd.N_alloc | apply Kd.N_drewN | apply Kd.N_drew)); exact HO_3.out)) k_ hn_)), Or.elim hk_ (fun hs_ => hs_.1.1) (fun hn_ => (Kd.fresh' (Kd.N_lt (by (with_reducible repeat (first | apply Kd.N_alloc | apply Kd.N_drewN | apply Kd.N_drew)); exact HO_4.out)) k_ hn_)), Or.elim hk_ (fun hs_ => hs_.1.2.1) (fun hn_ => (Kd.fresh' (Kd.N_lt (by (with_reducible repeat (first | apply Kd.N_alloc | apply Kd.N_drewN | apply Kd.N_drew)); exact HO_6.out)) k_ hn_)), Or.elim hk_ (fun hs_ => hs_.1.2.2) (fun hn_ => (Kd.fresh' (Kd.N_lt (by (with_reducible repeat (first | apply Kd.N_alloc | apply Kd.N_drewN | apply Kd.N_drew)); exact HO_7.out)) k_ hn_))⟩)) (below_size (by repeat (first | (with_reducible first | exact HB.out | apply below_alloc | apply pw_below_drewN | apply below_drew1) | exact HB.out))))
                                have n7_ := Aside0.mk (Kd.C_below (by repeat (first | (with_reducible exact HR373_3.out) | (with_reducible refine Kd.C_alloc ?_ _) | (with_reducible refine Kd.C_drewN ?_ _) | (with_reducible refine Kd.C_drew ?_) | exact HR373_3.out)) hb)
                                have n8_ := Aside0.mk (Kd.C_below (by repeat (first | (with_reducible exact HR380_3.out) | (with_reducible refine Kd.C_alloc ?_ _) | (with_reducible refine Kd.C_drewN ?_ _) | (with_reducible refine Kd.C_drew ?_) | exact HR380_3.out)) hb)
                                have n9_ := Aside0.mk (below_step (by repeat (first | (with_reducible first | exact HB.out | apply below_alloc | apply pw_below_drewN | apply below_drew1) | exact HB.out)) hb)
                                clear HO_3
                                clear HO_4
                                clear HO_6
                                clear HO_7
                                clear HL373_3
                                clear HL380_3
                                clear HR373_3
                                clear HR380_3
                                clear HB
                                have HO_3 := n0_
                                have HO_4 := n1_
                                have HO_6 := n2_
                                have HO_7 := n3_
                                have HL373_3 := n4_
                                have HL380_3 := n5_
                                have HO379 := n6_
                                have HR373_3 := n7_
                                have HR380_3 := n8_
                                have HB := n9_
                                clear n0_ n1_ n2_ n3_ n4_ n5_ n6_ n7_ n8_ n9_
                                (try clear hb)
                                (try clear hb2)
                                (try clear hk)
                                (try clear hi)
                                (try clear ho0)
                                obtain ⟨Ao39, co39, eo39⟩ := Kd.V_slice HO379.out
                                (first | subst eo39 | (injection eo39 with f1_ f2_ f3_; have f4_ := f1_.symm; have f5_ := f3_.symm; clear f1_ f2_ f3_; subst f4_; subst f5_))
                                refine hK.out _ _ ⟨HS0_, HS1_, HS2_, HS3_, HS4_, HS5_, HS6_, HS7_, HS8_, Kd.C_string (P := Try.prog) (A := A382_0) (c := c382_0) Try.underlying22 Try.underlying5 Try.underlying9 (by repeat (first | (with_reducible exact HR382_0.out) | (with_reducible refine Kd.C_alloc ?_ _) | (with_reducible refine Kd.C_drewN ?_ _) | (with_reducible refine Kd.C_drew ?_) | exact HR382_0.out)), HS10_, Kd.C_string (P := Try.prog) (A := A383_0) (c := c383_0) Try.underlying22 Try.underlying5 Try.underlying9 (by repeat (first | (with_reducible exact HR383_0.out) | (with_reducible refine Kd.C_alloc ?_ _) | (with_reducible refine Kd.C_drewN ?_ _) | (with_reducible refine Kd.C_drew ?_) | exact HR383_0.out))⟩ (fun hHeld => ?_)
                                clear hK K
                                refine norm_ (a' := ?_) ?_ ?_
                                rotate_left
                                · show Act.put _ (some 58) _ = _
                                  simp only [Act.put, List.setIfInBounds_toArray, List.set_cons_zero, List.set_cons_succ, i64_w, i32_w]
                                  rfl
                                refine one_ (i := 9) (N := some 63) #[true, true, true, true, true, true, true, true, true, true, false, false, false, false, false, false, false, false, false, false, false, false, false, false] rfl rfl (one_of HT_.out (by kernel_rfl)) (by decide) (fun K hK => ?_)
                                refine goes_ Try.func10 (by kernel_rfl) rfl #[.agg #[.int .i64 t374, .int .i64 t375, .int .u64 t376, .slice Ao39 t377.length co39], .agg #[.int .i64 ((rd_T30 t366 x51_2).f0), .int .i64 ((rd_T30 t366 x51_2).f1), .int .u64 ((rd_T30 t366 x51_2).f2), .slice A380_3 ((rd_T30 t366 x51_2).f3).length c380_3]] (by rfl) rfl rfl (by (try simp only [List.map_toArray, List.map_cons, List.map_nil]); first | done | rfl | (simp only [List.length_drop, List.length_take]; rfl)) ?_
                                with_reducible refine (courierref01_Same.calls t374 t375 t376 _ _ t377 ((rd_T30 t366 x51_2).f0) ((rd_T30 t366 x51_2).f1) ((rd_T30 t366 x51_2).f2) _ _ ((rd_T30 t366 x51_2).f3) true _ ?side1 ?side2 ?side3 ?side4 A30.out).mono ?_
                                (case side1 => repeat (first | exact (Kd.V_reads' HO379.out).2.2 | (with_reducible refine Kd.C_alloc ?_ _) | (with_reducible refine Kd.C_drewN ?_ _) | (with_reducible refine Kd.C_drew ?_)))
                                (case side2 => exact (Kd.V_reads' HO379.out).2.1)
                                (case side3 => repeat (first | exact (by repeat (first | (with_reducible exact HR380_3.out) | (with_reducible refine Kd.C_alloc ?_ _) | (with_reducible refine Kd.C_drewN ?_ _) | (with_reducible refine Kd.C_drew ?_) | exact HR380_3.out)) | (with_reducible refine Kd.C_alloc ?_ _) | (with_reducible refine Kd.C_drewN ?_ _) | (with_reducible refine Kd.C_drew ?_)))
                                (case side4 => exact HC380_3.out)
                                rintro e w40 ⟨rfl, hb⟩
                                (try (have nt_ := Aside0.mk (Kd.V_below HL382_0.out hb); clear HL382_0; have HL382_0 := nt_; clear nt_))
                                (try (have nt_ := Aside0.mk (Kd.C_below HR382_0.out hb); clear HR382_0; have HR382_0 := nt_; clear nt_))
                                (try (have nt_ := Aside0.mk (Kd.V_below HL383_0.out hb); clear HL383_0; have HL383_0 := nt_; clear nt_))
                                (try (have nt_ := Aside0.mk (Kd.C_below HR383_0.out hb); clear HR383_0; have HR383_0 := nt_; clear nt_))
                                have HS0_ := (hb.cell (World.block_lt_of_cell? _ _ (hHeld.1))).trans (hHeld.1)
                                have HS1_ := (hb.cell (World.block_lt_of_cell? _ _ (hHeld.2.1))).trans (hHeld.2.1)
                                have HS2_ := (hb.cell (World.block_lt_of_cell? _ _ (hHeld.2.2.1))).trans (hHeld.2.2.1)
                                have HS3_ := (hb.cell (World.block_lt_of_cell? _ _ (hHeld.2.2.2.1))).trans (hHeld.2.2.2.1)
                                have HS4_ := (hb.cell (World.block_lt_of_cell? _ _ (hHeld.2.2.2.2.1))).trans (hHeld.2.2.2.2.1)
                                have HS5_ := (hb.cell (World.block_lt_of_cell? _ _ (hHeld.2.2.2.2.2.1))).trans (hHeld.2.2.2.2.2.1)
                                have HS6_ := (hb.cell (World.block_lt_of_cell? _ _ (hHeld.2.2.2.2.2.2.1))).trans (hHeld.2.2.2.2.2.2.1)
                                have HS7_ := (hb.cell (World.block_lt_of_cell? _ _ (hHeld.2.2.2.2.2.2.2.1))).trans (hHeld.2.2.2.2.2.2.2.1)
                                have HS8_ := (hb.cell (World.block_lt_of_cell? _ _ (hHeld.2.2.2.2.2.2.2.2.1))).trans (hHeld.2.2.2.2.2.2.2.2.1)
                                have HS10_ := (hb.cell (World.block_lt_of_cell? _ _ (hHeld.2.2.2.2.2.2.2.2.2.2.1))).trans (hHeld.2.2.2.2.2.2.2.2.2.2.1)
                                refine ⟨_, rfl, ?_⟩
                                have n0_ := Aside0.mk (Kd.N_below (by (with_reducible repeat (first | apply Kd.N_alloc | apply Kd.N_drewN | apply Kd.N_drew)); exact HO_3.out) hb)
                                have n1_ := Aside0.mk (Kd.N_below (by (with_reducible repeat (first | apply Kd.N_alloc | apply Kd.N_drewN | apply Kd.N_drew)); exact HO_4.out) hb)
                                have n2_ := Aside0.mk (Kd.N_below (by (with_reducible repeat (first | apply Kd.N_alloc | apply Kd.N_drewN | apply Kd.N_drew)); exact HO_6.out) hb)
                                have n3_ := Aside0.mk (Kd.N_below (by (with_reducible repeat (first | apply Kd.N_alloc | apply Kd.N_drewN | apply Kd.N_drew)); exact HO_7.out) hb)
                                have n4_ := Aside0.mk (Kd.V_below (by (with_reducible repeat (first | apply Kd.V_alloc | apply Kd.V_drewN | apply Kd.V_drew)); exact HL373_3.out) hb)
                                have n5_ := Aside0.mk (Kd.V_below (by (with_reducible repeat (first | apply Kd.V_alloc | apply Kd.V_drewN | apply Kd.V_drew)); exact HL380_3.out) hb)
                                have n6_ := Aside0.mk (Kd.V_below (by (with_reducible repeat (first | apply Kd.V_alloc | apply Kd.V_drewN | apply Kd.V_drew)); exact HO379.out) hb)
                                have n7_ := Aside0.mk (Kd.C_below (by repeat (first | (with_reducible exact HR373_3.out) | (with_reducible refine Kd.C_alloc ?_ _) | (with_reducible refine Kd.C_drewN ?_ _) | (with_reducible refine Kd.C_drew ?_) | exact HR373_3.out)) hb)
                                have n8_ := Aside0.mk (Kd.C_below (by repeat (first | (with_reducible exact HR380_3.out) | (with_reducible refine Kd.C_alloc ?_ _) | (with_reducible refine Kd.C_drewN ?_ _) | (with_reducible refine Kd.C_drew ?_) | exact HR380_3.out)) hb)
                                have n9_ := Aside0.mk (below_step (by repeat (first | (with_reducible first | exact HB.out | apply below_alloc | apply pw_below_drewN | apply below_drew1) | exact HB.out)) hb)
                                clear HO_3
                                clear HO_4
                                clear HO_6
                                clear HO_7
                                clear HL373_3
                                clear HL380_3
                                clear HO379
                                clear HR373_3
                                clear HR380_3
                                clear HB
                                have HO_3 := n0_
                                have HO_4 := n1_
                                have HO_6 := n2_
                                have HO_7 := n3_
                                have HL373_3 := n4_
                                have HL380_3 := n5_
                                have HO379 := n6_
                                have HR373_3 := n7_
                                have HR380_3 := n8_
                                have HB := n9_
                                clear n0_ n1_ n2_ n3_ n4_ n5_ n6_ n7_ n8_ n9_
                                (try clear hb)
                                (try clear hb2)
                                (try clear hk)
                                (try clear hi)
                                obtain ⟨Ao41, co41, eo41⟩ := Kd.N_slice HO_4.out
                                (first | subst eo41 | (injection eo41 with f1_ f2_ f3_; have f4_ := f1_.symm; have f5_ := f3_.symm; clear f1_ f2_ f3_; subst f4_; subst f5_))
                                obtain ⟨Ao43, co43, eo43⟩ := Kd.N_slice HO_7.out
                                (first | subst eo43 | (injection eo43 with f1_ f2_ f3_; have f4_ := f1_.symm; have f5_ := f3_.symm; clear f1_ f2_ f3_; subst f4_; subst f5_))
                                refine hK.out _ _ ⟨HS0_, HS1_, HS2_, HS3_, HS4_, HS5_, HS6_, HS7_, HS8_, Kd.C_string (P := Try.prog) (A := A382_0) (c := c382_0) Try.underlying22 Try.underlying5 Try.underlying9 (by repeat (first | (with_reducible exact HR382_0.out) | (with_reducible refine Kd.C_alloc ?_ _) | (with_reducible refine Kd.C_drewN ?_ _) | (with_reducible refine Kd.C_drew ?_) | exact HR382_0.out)), HS10_, Kd.C_string (P := Try.prog) (A := A383_0) (c := c383_0) Try.underlying22 Try.underlying5 Try.underlying9 (by repeat (first | (with_reducible exact HR383_0.out) | (with_reducible refine Kd.C_alloc ?_ _) | (with_reducible refine Kd.C_drewN ?_ _) | (with_reducible refine Kd.C_drew ?_) | exact HR383_0.out))⟩ (fun hHeld => ?_)
                                clear hK K
                                refine norm_ (a' := ?_) ?_ ?_
                                rotate_left
                                · show Act.put _ (some 63) _ = _
                                  simp only [Act.put, List.setIfInBounds_toArray, List.set_cons_zero, List.set_cons_succ, i64_w, i32_w]
                                  rfl
                                refine pure_ (i := 10) (N := some 64) (v := ?_) (a' := ?_) #[true, true, true, true, true, true, true, true, true, true, true, false, false, false, false, false, false, false, false, false, false, false, false, false] rfl rfl (any_of HT_.out (by kernel_rfl)) (fun _ _ _ h => h) (Or.inl ⟨by rfl, ?_⟩) ?_ ?_
                                rotate_left
                                · intro w'
                                  go_simp
                                  with_reducible rfl
                                rotate_left
                                · simp only [Act.put, List.setIfInBounds_toArray, List.set_cons_zero, List.set_cons_succ, i64_w, i32_w]
                                  rfl
                                refine pure_ (i := 11) (N := some 65) (v := ?_) (a' := ?_) #[true, true, true, true, true, true, true, true, true, true, true, true, false, false, false, false, false, false, false, false, false, false, false, false] rfl rfl (any_of HT_.out (by kernel_rfl)) (fun _ _ _ h => h) (Or.inl ⟨by rfl, ?_⟩) ?_ ?_
                                rotate_left
                                · intro w'
                                  go_simp
                                  with_reducible rfl
                                rotate_left
                                · simp only [Act.put, List.setIfInBounds_toArray, List.set_cons_zero, List.set_cons_succ, i64_w, i32_w]
                                  rfl
                                refine pure_ (i := 12) (N := some 66) (v := ?_) (a' := ?_) #[true, true, true, true, true, true, true, true, true, true, true, true, true, false, false, false, false, false, false, false, false, false, false, false] rfl rfl (any_of HT_.out (by kernel_rfl)) (fun _ _ _ h => h) (Or.inl ⟨by rfl, ?_⟩) ?_ ?_
                                rotate_left
                                · intro w'
                                  go_simp
                                  with_reducible rfl
                                rotate_left
                                · simp only [Act.put, List.setIfInBounds_toArray, List.set_cons_zero, List.set_cons_succ, i64_w, i32_w]
                                  rfl
                                refine pure_ (i := 13) (N := some 67) (v := ?_) (a' := ?_) #[true, true, true, true, true, true, true, true, true, true, true, true, true, true, false, false, false, false, false, false, false, false, false, false] rfl rfl (any_of HT_.out (by kernel_rfl)) (fun _ _ _ h => h) (Or.inl ⟨by rfl, ?_⟩) ?_ ?_
                                rotate_left
                                · intro w'
                                  go_simp
                                  with_reducible rfl
                                rotate_left
                                · simp only [Act.put, List.setIfInBounds_toArray, List.set_cons_zero, List.set_cons_succ, i64_w, i32_w]
                                  rfl
                                refine pure_ (i := 14) (N := some 68) (v := ?_) (a' := ?_) #[true, true, true, true, true, true, true, true, true, true, true, true, true, true, true, false, false, false, false, false, false, false, false, false] rfl rfl (any_of HT_.out (by kernel_rfl)) (fun _ _ _ h => h) (Or.inl ⟨by rfl, ?_⟩) ?_ ?_
                                rotate_left
                                · intro w'
                                  go_simp
                                  with_reducible rfl
                                rotate_left
                                · simp only [Act.put, List.setIfInBounds_toArray, List.set_cons_zero, List.set_cons_succ, i64_w, i32_w]
                                  rfl
                                refine pure_ (i := 17) (N := some 71) (v := ?_) (a' := ?_) #[true, true, true, true, true, true, true, true, true, true, true, true, true, true, true, false, false, true, false, false, false, false, false, false] rfl rfl (any_of HT_.out (by kernel_rfl)) (fun _ _ _ h => h) (Or.inl ⟨by rfl, ?_⟩) ?_ ?_
                                rotate_left
                                · intro w'
                                  go_simp
                                  with_reducible rfl
                                rotate_left
                                · simp only [Act.put, List.setIfInBounds_toArray, List.set_cons_zero, List.set_cons_succ, i64_w, i32_w]
                                  rfl
                                refine pure_ (i := 18) (N := some 72) (v := ?_) (a' := ?_) #[true, true, true, true, true, true, true, true, true, true, true, true, true, true, true, false, false, true, true, false, false, false, false, false] rfl rfl (any_of HT_.out (by kernel_rfl)) (fun _ _ _ h => h) (Or.inl ⟨by rfl, ?_⟩) ?_ ?_
                                rotate_left
                                · intro w'
                                  go_simp
                                  with_reducible rfl
                                rotate_left
                                · simp only [Act.put, List.setIfInBounds_toArray, List.set_cons_zero, List.set_cons_succ, i64_w, i32_w]
                                  rfl
                                refine pure_ (i := 19) (N := some 73) (v := ?_) (a' := ?_) #[true, true, true, true, true, true, true, true, true, true, true, true, true, true, true, false, false, true, true, true, false, false, false, false] rfl rfl (any_of HT_.out (by kernel_rfl)) (fun _ _ _ h => h) (Or.inl ⟨by rfl, ?_⟩) ?_ ?_
                                rotate_left
                                · intro w'
                                  go_simp
                                  with_reducible rfl
                                rotate_left
                                · simp only [Act.put, List.setIfInBounds_toArray, List.set_cons_zero, List.set_cons_succ, i64_w, i32_w]
                                  rfl
                                refine take_ (i := 15) (N := some 69) (v := ?_) (a' := ?_) #[true, true, true, true, true, true, true, true, true, true, true, true, true, true, true, true, false, true, true, true, false, false, false, false] rfl rfl (take_ofW HT_.out HW_.out (by kernel_rfl)) (fun _ _ _ h => h) (Or.inl ⟨by rfl, ?_⟩) hHeld ?_ ?_
                                rotate_left
                                · rintro w' ⟨s0, s1, s2, s3, s4, s5, s6, s7, s8, s9, s10, s11⟩
                                  go_simp
                                  with_reducible rfl
                                rotate_left
                                · simp only [Act.put, List.setIfInBounds_toArray, List.set_cons_zero, List.set_cons_succ, i64_w, i32_w]
                                  rfl
                                refine take_ (i := 16) (N := some 70) (v := ?_) (a' := ?_) #[true, true, true, true, true, true, true, true, true, true, true, true, true, true, true, true, true, true, true, true, false, false, false, false] rfl rfl (take_ofW HT_.out HW_.out (by kernel_rfl)) (fun _ _ _ h => h) (Or.inl ⟨by rfl, ?_⟩) hHeld ?_ ?_
                                rotate_left
                                · rintro w' ⟨s0, s1, s2, s3, s4, s5, s6, s7, s8, s9, s10, s11⟩
                                  go_simp
                                  with_reducible rfl
                                rotate_left
                                · simp only [Act.put, List.setIfInBounds_toArray, List.set_cons_zero, List.set_cons_succ, i64_w, i32_w]
                                  rfl
                                refine take_ (i := 20) (N := some 74) (v := ?_) (a' := ?_) #[true, true, true, true, true, true, true, true, true, true, true, true, true, true, true, true, true, true, true, true, true, false, false, false] rfl rfl (take_ofW HT_.out HW_.out (by kernel_rfl)) (fun _ _ _ h => h) (Or.inl ⟨by rfl, ?_⟩) hHeld ?_ ?_
                                rotate_left
                                · rintro w' ⟨s0, s1, s2, s3, s4, s5, s6, s7, s8, s9, s10, s11⟩
                                  go_simp
                                  with_reducible rfl
                                rotate_left
                                · simp only [Act.put, List.setIfInBounds_toArray, List.set_cons_zero, List.set_cons_succ, i64_w, i32_w]
                                  rfl
                                refine take_ (i := 21) (N := some 75) (v := ?_) (a' := ?_) #[true, true, true, true, true, true, true, true, true, true, true, true, true, true, true, true, true, true, true, true, true, true, false, false] rfl rfl (take_ofW HT_.out HW_.out (by kernel_rfl)) (fun _ _ _ h => h) (Or.inl ⟨by rfl, ?_⟩) hHeld ?_ ?_
                                rotate_left
                                · rintro w' ⟨s0, s1, s2, s3, s4, s5, s6, s7, s8, s9, s10, s11⟩
                                  go_simp
                                  with_reducible rfl
                                rotate_left
                                · simp only [Act.put, List.setIfInBounds_toArray, List.set_cons_zero, List.set_cons_succ, i64_w, i32_w]
                                  rfl
                                refine pure_ (i := 22) (N := some 76) (v := ?_) (a' := ?_) #[true, true, true, true, true, true, true, true, true, true, true, true, true, true, true, true, true, true, true, true, true, true, true, false] rfl rfl (any_of HT_.out (by kernel_rfl)) (fun _ _ _ h => h) (Or.inl ⟨by rfl, ?_⟩) ?_ ?_
                                rotate_left
                                · intro w'
                                  go_simp
                                  with_reducible rfl
                                rotate_left
                                · simp only [Act.put, List.setIfInBounds_toArray, List.set_cons_zero, List.set_cons_succ, i64_w, i32_w]
                                  rfl
                                refine pure_ (i := 23) (N := some 77) (v := ?_) (a' := ?_) #[true, true, true, true, true, true, true, true, true, true, true, true, true, true, true, true, true, true, true, true, true, true, true, true] rfl rfl (any_of HT_.out (by kernel_rfl)) (fun _ _ _ h => h) (Or.inl ⟨by rfl, ?_⟩) ?_ ?_
                                rotate_left
                                · intro w'
                                  go_simp
                                  with_reducible rfl
                                rotate_left
                                · simp only [Act.put, List.setIfInBounds_toArray, List.set_cons_zero, List.set_cons_succ, i64_w, i32_w]
                                  rfl
                                refine done_ (done_of HT_.out (by kernel_rfl)) ?_
                                have p384 : 0 ≤ (x51_2 : Int) := of_decide_eq_true (by first | (with_reducible assumption) | assumption)
                                have q384 : x51_2 < (t362.length : Int) := of_decide_eq_true (by first | (with_reducible assumption) | assumption)
                                obtain ⟨ad384, A384_0, c384_0, e384, hx384_0, hl384_0, hi384_0⟩ := at_L1 (Kd.N_reads' HO_4.out).2.2 x51_2 p384 q384
                                obtain rfl : ad382 = ad384 := (by injection e384)
                                obtain ⟨ce384, hce384, hMe384, hcc384⟩ := Kd.N_get HO_4.out [] x51_2 p384 (by first | exact q384 | exact of_decide_eq_true (by first | (with_reducible assumption) | assumption) | (have e_ := (Kd.N_reads' HO_4.out).1; omega))
                                obtain ⟨ua384_0, uc384_0, rfl, ul384_0, ge384_0⟩ := Kd.FK_slice_open hMe384
                                have hv384_0 := hcc384 0 _ rfl
                                rw [Nat.add_zero, show ((Kd.slice 5 (Kd.int .u8))).sz = 1 from rfl, Nat.mul_one] at hv384_0
                                replace hv384_0 := Option.some.inj (hv384_0.symm.trans hx384_0)
                                injection hv384_0 with hva_ hvn_ hvc_
                                rw [hva_] at ge384_0
                                rw [hvc_] at ul384_0
                                have HL384_0 := Aside0.mk (show Kd.V (Kd.int .u8) 5 _ w.heap.size _ _ (rd_L1 t362 x51_2) from Kd.V_mk ul384_0 ge384_0)
                                clear hva_ hvn_ hvc_ ge384_0 ul384_0
                                clear hcc384 hce384
                                have HR384_0 := Aside0.mk hi384_0
                                have HC384_0 := Aside0.mk hl384_0
                                clear hi384_0 hl384_0
                                replace p384 := eq_true p384
                                replace q384 := eq_true q384
                                (first | have ea_ := Option.some.inj (hx382_0.symm.trans hx384_0) | have ea_ := Option.some.inj ((hHeld.2.2.2.2.2.2.2.2.1).symm.trans hx384_0))
                                injection ea_ with ea_ en_ ec_
                                subst ea_
                                subst ec_
                                clear en_
                                have hcv45 := Kd.C_string (P := Try.prog) (A := A382_0) (c := c382_0) Try.underlying22 Try.underlying5 Try.underlying9 (by repeat (first | (with_reducible exact HR384_0.out) | (with_reducible refine Kd.C_alloc ?_ _) | (with_reducible refine Kd.C_drewN ?_ _) | (with_reducible refine Kd.C_drew ?_) | exact HR384_0.out))
                                try go_wp2
                                go_roundg k2
                                case measure => have := HJ5.out; have := HK2.out; omega
                                case rel => exact ⟨(x9_2 ++ (strOfNums (rd_L1 t362 x51_2))), (wrap64 (x51_2 + 1)), (by first | rfl | (simp; done) | (simp [*]; done)), (by first | rfl | (simp; done) | (simp [*]; done)), H', ⟨by have := HJ5.out; have := HK2.out; omega⟩, ⟨by (with_reducible repeat (first | apply Kd.N_alloc | apply Kd.N_drewN | apply Kd.N_drew)); exact HO_3.out⟩, ⟨by (with_reducible repeat (first | apply Kd.N_alloc | apply Kd.N_drewN | apply Kd.N_drew)); exact HO_4.out⟩, ⟨by (with_reducible repeat (first | apply Kd.N_alloc | apply Kd.N_drewN | apply Kd.N_drew)); exact HO_6.out⟩, ⟨by (with_reducible repeat (first | apply Kd.N_alloc | apply Kd.N_drewN | apply Kd.N_drew)); exact HO_7.out⟩, ⟨by repeat (first | (with_reducible first | exact HB.out | apply below_alloc | apply pw_below_drewN | apply below_drew1) | exact HB.out)⟩⟩
                              · rw [if_neg c35] at H
                                exact absurd H (by simp)
                            · rw [if_neg c34] at H
                              have c34b0 : ((strOfNums (rd_L1 t362 x51_2)).toList == (strOfNums (rd_L1 t369 x51_2)).toList) = false := beq_eq_false_iff_ne.mpr c34
                              have c34b1 : ((strOfNums (rd_L1 t362 x51_2)).toList != (strOfNums (rd_L1 t369 x51_2)).toList) = true := bne_iff_ne.mpr c34
                              obtain rfl := Option.some.inj H
                              try go_wp2
                              have n0_ := Aside0.mk (Kd.N_drew HO_3.out)
                              have n1_ := Aside0.mk (Kd.N_drew HO_4.out)
                              have n2_ := Aside0.mk (Kd.N_drew HO_6.out)
                              have n3_ := Aside0.mk (Kd.N_drew HO_7.out)
                              have n4_ := Aside0.mk (below_drew1 HB.out)
                              clear HO_3
                              clear HO_4
                              clear HO_6
                              clear HO_7
                              clear HB
                              have HO_3 := n0_
                              have HO_4 := n1_
                              have HO_6 := n2_
                              have HO_7 := n3_
                              have HB := n4_
                              clear n0_ n1_ n2_ n3_ n4_
                              have p373 : 0 ≤ (x51_2 : Int) := of_decide_eq_true (by first | (with_reducible assumption) | assumption)
                              have q373 : x51_2 < (t359.length : Int) := of_decide_eq_true (by first | (with_reducible assumption) | assumption)
                              obtain ⟨ad373, A373_3, c373_3, e373, hx373_0, hx373_1, hx373_2, hx373_3, hl373_3, hi373_3⟩ := at_T26 (Kd.N_reads' HO_3.out).2.2 x51_2 p373 q373
                              cases e373
                              obtain ⟨ce373, hce373, hMe373, hcc373⟩ := Kd.N_get HO_3.out z26 x51_2 p373 (by first | exact q373 | exact of_decide_eq_true (by first | (with_reducible assumption) | assumption) | (have e_ := (Kd.N_reads' HO_3.out).1; omega))
                              obtain ⟨ua373_3, uc373_3, rfl, ul373_3, ge373_3⟩ := k26_openF hMe373
                              have hv373_3 := hcc373 3 _ rfl
                              rw [add_field _ _ 3 (by omega)] at hv373_3
                              replace hv373_3 := Option.some.inj (hv373_3.symm.trans hx373_3)
                              injection hv373_3 with hva_ hvn_ hvc_
                              rw [hva_] at ge373_3
                              rw [hvc_] at ul373_3
                              have HL373_3 := Aside0.mk (show Kd.V (Kd.int .u8) 5 _ w.heap.size _ _ ((rd_T26 t359 x51_2).f3) from Kd.V_mk ul373_3 ge373_3)
                              clear hva_ hvn_ hvc_ ge373_3 ul373_3
                              clear hcc373 hce373
                              have HR373_3 := Aside0.mk hi373_3
                              have HC373_3 := Aside0.mk hl373_3
                              clear hi373_3 hl373_3
                              replace p373 := eq_true p373
                              replace q373 := eq_true q373
                              obtain ⟨Ao47, co47, eo47⟩ := Kd.N_slice HO_6.out
                              (first | subst eo47 | (injection eo47 with f1_ f2_ f3_; have f4_ := f1_.symm; have f5_ := f3_.symm; clear f1_ f2_ f3_; subst f4_; subst f5_))
                              have p380 : 0 ≤ (x51_2 : Int) := of_decide_eq_true (by first | (with_reducible assumption) | assumption)
                              have q380 : x51_2 < (t366.length : Int) := of_decide_eq_true (by first | (with_reducible assumption) | assumption)
                              obtain ⟨ad380, A380_3, c380_3, e380, hx380_0, hx380_1, hx380_2, hx380_3, hl380_3, hi380_3⟩ := at_T30 (Kd.N_reads' HO_6.out).2.2 x51_2 p380 q380
                              cases e380
                              obtain ⟨ce380, hce380, hMe380, hcc380⟩ := Kd.N_get HO_6.out z30 x51_2 p380 (by first | exact q380 | exact of_decide_eq_true (by first | (with_reducible assumption) | assumption) | (have e_ := (Kd.N_reads' HO_6.out).1; omega))
                              obtain ⟨ua380_3, uc380_3, rfl, ul380_3, ge380_3⟩ := k30_openF hMe380
                              have hv380_3 := hcc380 3 _ rfl
                              rw [add_field _ _ 3 (by omega)] at hv380_3
                              replace hv380_3 := Option.some.inj (hv380_3.symm.trans hx380_3)
                              injection hv380_3 with hva_ hvn_ hvc_
                              rw [hva_] at ge380_3
                              rw [hvc_] at ul380_3
                              have HL380_3 := Aside0.mk (show Kd.V (Kd.int .u8) 5 _ w.heap.size _ _ ((rd_T30 t366 x51_2).f3) from Kd.V_mk ul380_3 ge380_3)
                              clear hva_ hvn_ hvc_ ge380_3 ul380_3
                              clear hcc380 hce380
                              have HR380_3 := Aside0.mk hi380_3
                              have HC380_3 := Aside0.mk hl380_3
                              clear hi380_3 hl380_3
                              replace p380 := eq_true p380
                              replace q380 := eq_true q380
                              have p382 : 0 ≤ (x51_2 : Int) := of_decide_eq_true (by first | (with_reducible assumption) | assumption)
                              have q382 : x51_2 < (t362.length : Int) := of_decide_eq_true (by first | (with_reducible assumption) | assumption)
                              obtain ⟨Aopn382, copn382, eopn382⟩ := Kd.N_slice HO_4.out
                              subst eopn382
                              obtain ⟨ad382, A382_0, c382_0, e382, hx382_0, hl382_0, hi382_0⟩ := at_L1 (Kd.N_reads' HO_4.out).2.2 x51_2 p382 q382
                              cases e382
                              obtain ⟨ce382, hce382, hMe382, hcc382⟩ := Kd.N_get HO_4.out [] x51_2 p382 (by first | exact q382 | exact of_decide_eq_true (by first | (with_reducible assumption) | assumption) | (have e_ := (Kd.N_reads' HO_4.out).1; omega))
                              obtain ⟨ua382_0, uc382_0, rfl, ul382_0, ge382_0⟩ := Kd.FK_slice_open hMe382
                              have hv382_0 := hcc382 0 _ rfl
                              rw [Nat.add_zero, show ((Kd.slice 5 (Kd.int .u8))).sz = 1 from rfl, Nat.mul_one] at hv382_0
                              replace hv382_0 := Option.some.inj (hv382_0.symm.trans hx382_0)
                              injection hv382_0 with hva_ hvn_ hvc_
                              rw [hva_] at ge382_0
                              rw [hvc_] at ul382_0
                              have HL382_0 := Aside0.mk (show Kd.V (Kd.int .u8) 5 _ w.heap.size _ _ (rd_L1 t362 x51_2) from Kd.V_mk ul382_0 ge382_0)
                              clear hva_ hvn_ hvc_ ge382_0 ul382_0
                              clear hcc382 hce382
                              have HR382_0 := Aside0.mk hi382_0
                              have HC382_0 := Aside0.mk hl382_0
                              clear hi382_0 hl382_0
                              replace p382 := eq_true p382
                              replace q382 := eq_true q382
                              have p383 : 0 ≤ (x51_2 : Int) := of_decide_eq_true (by first | (with_reducible assumption) | assumption)
                              have q383 : x51_2 < (t369.length : Int) := of_decide_eq_true (by first | (with_reducible assumption) | assumption)
                              obtain ⟨Aopn383, copn383, eopn383⟩ := Kd.N_slice HO_7.out
                              subst eopn383
                              obtain ⟨ad383, A383_0, c383_0, e383, hx383_0, hl383_0, hi383_0⟩ := at_L1 (Kd.N_reads' HO_7.out).2.2 x51_2 p383 q383
                              cases e383
                              obtain ⟨ce383, hce383, hMe383, hcc383⟩ := Kd.N_get HO_7.out [] x51_2 p383 (by first | exact q383 | exact of_decide_eq_true (by first | (with_reducible assumption) | assumption) | (have e_ := (Kd.N_reads' HO_7.out).1; omega))
                              obtain ⟨ua383_0, uc383_0, rfl, ul383_0, ge383_0⟩ := Kd.FK_slice_open hMe383
                              have hv383_0 := hcc383 0 _ rfl
                              rw [Nat.add_zero, show ((Kd.slice 5 (Kd.int .u8))).sz = 1 from rfl, Nat.mul_one] at hv383_0
                              replace hv383_0 := Option.some.inj (hv383_0.symm.trans hx383_0)
                              injection hv383_0 with hva_ hvn_ hvc_
                              rw [hva_] at ge383_0
                              rw [hvc_] at ul383_0
                              have HL383_0 := Aside0.mk (show Kd.V (Kd.int .u8) 5 _ w.heap.size _ _ (rd_L1 t369 x51_2) from Kd.V_mk ul383_0 ge383_0)
                              clear hva_ hvn_ hvc_ ge383_0 ul383_0
                              clear hcc383 hce383
                              have HR383_0 := Aside0.mk hi383_0
                              have HC383_0 := Aside0.mk hl383_0
                              clear hi383_0 hl383_0
                              replace p383 := eq_true p383
                              replace q383 := eq_true q383
                              refine start_ (n := 24) (S := fun w' => w'.cell? (ad373.add ((x51_2).toNat * 4)) = some (.int .i64 ((rd_T26 t359 x51_2).f0)) ∧ w'.cell? ⟨(ad373.add ((x51_2).toNat * 4)).block, (ad373.add ((x51_2).toNat * 4)).off + 1, none⟩ = some (.int .i64 ((rd_T26 t359 x51_2).f1)) ∧ w'.cell? ⟨(ad373.add ((x51_2).toNat * 4)).block, (ad373.add ((x51_2).toNat * 4)).off + 2, none⟩ = some (.int .u64 ((rd_T26 t359 x51_2).f2)) ∧ w'.cell? ⟨(ad373.add ((x51_2).toNat * 4)).block, (ad373.add ((x51_2).toNat * 4)).off + 3, none⟩ = some (.slice A373_3 ((rd_T26 t359 x51_2).f3).length c373_3) ∧ w'.cell? (ad380.add ((x51_2).toNat * 4)) = some (.int .i64 ((rd_T30 t366 x51_2).f0)) ∧ w'.cell? ⟨(ad380.add ((x51_2).toNat * 4)).block, (ad380.add ((x51_2).toNat * 4)).off + 1, none⟩ = some (.int .i64 ((rd_T30 t366 x51_2).f1)) ∧ w'.cell? ⟨(ad380.add ((x51_2).toNat * 4)).block, (ad380.add ((x51_2).toNat * 4)).off + 2, none⟩ = some (.int .u64 ((rd_T30 t366 x51_2).f2)) ∧ w'.cell? ⟨(ad380.add ((x51_2).toNat * 4)).block, (ad380.add ((x51_2).toNat * 4)).off + 3, none⟩ = some (.slice A380_3 ((rd_T30 t366 x51_2).f3).length c380_3) ∧ w'.cell? (ad382.add (x51_2).toNat) = some (.slice A382_0 (rd_L1 t362 x51_2).length c382_0) ∧ (convert 22 9 (.slice A382_0 (rd_L1 t362 x51_2).length c382_0)).run Try.prog w' = .ok (.string (strOfNums (rd_L1 t362 x51_2))) w' ∧ w'.cell? (ad383.add (x51_2).toNat) = some (.slice A383_0 (rd_L1 t369 x51_2).length c383_0) ∧ (convert 22 9 (.slice A383_0 (rd_L1 t369 x51_2).length c383_0)).run Try.prog w' = .ok (.string (strOfNums (rd_L1 t369 x51_2))) w') (ds := []) #[false, false, false, false, false, false, false, false, false, false, false, false, false, false, false, false, false, false, false, false, false, false, false, false] (by kernel_rfl) rfl rfl ⟨hx373_0, hx373_1, hx373_2, hx373_3, hx380_0, hx380_1, hx380_2, hx380_3, hx382_0, Kd.C_string (P := Try.prog) (A := A382_0) (c := c382_0) Try.underlying22 Try.underlying5 Try.underlying9 (by repeat (first | (with_reducible exact HR382_0.out) | (with_reducible refine Kd.C_alloc ?_ _) | (with_reducible refine Kd.C_drewN ?_ _) | (with_reducible refine Kd.C_drew ?_) | exact HR382_0.out)), hx383_0, Kd.C_string (P := Try.prog) (A := A383_0) (c := c383_0) Try.underlying22 Try.underlying5 Try.underlying9 (by repeat (first | (with_reducible exact HR383_0.out) | (with_reducible refine Kd.C_alloc ?_ _) | (with_reducible refine Kd.C_drewN ?_ _) | (with_reducible refine Kd.C_drew ?_) | exact HR383_0.out))⟩ (fun hHeld => ?_); refine with_tabW courierlaw02_WireSplits.tab11 courierlaw02_WireSplits.bits11 (fun HT_ HW_ => ?_)
                              generalize wr.drew = w46 at HO_3 HO_4 HO_6 HO_7 HB HL373_3 HL380_3 HL382_0 HL383_0 HR373_3 HR380_3 HR382_0 HR383_0 hx373_0 hx373_1 hx373_2 hx373_3 hx380_0 hx380_1 hx380_2 hx380_3 hx382_0 hx383_0 hHeld ⊢
                              refine pure_ (i := 0) (N := some 54) (v := ?_) (a' := ?_) #[true, false, false, false, false, false, false, false, false, false, false, false, false, false, false, false, false, false, false, false, false, false, false, false] rfl rfl (any_of HT_.out (by kernel_rfl)) (fun _ _ _ h => h) (Or.inl ⟨by rfl, ?_⟩) ?_ ?_
                              rotate_left
                              · intro w'
                                go_simp
                                with_reducible rfl
                              rotate_left
                              · simp only [Act.put, List.setIfInBounds_toArray, List.set_cons_zero, List.set_cons_succ, i64_w, i32_w]
                                rfl
                              refine pure_ (i := 1) (N := some 55) (v := ?_) (a' := ?_) #[true, true, false, false, false, false, false, false, false, false, false, false, false, false, false, false, false, false, false, false, false, false, false, false] rfl rfl (any_of HT_.out (by kernel_rfl)) (fun _ _ _ h => h) (Or.inl ⟨by rfl, ?_⟩) ?_ ?_
                              rotate_left
                              · intro w'
                                go_simp
                                with_reducible rfl
                              rotate_left
                              · simp only [Act.put, List.setIfInBounds_toArray, List.set_cons_zero, List.set_cons_succ, i64_w, i32_w]
                                rfl
                              refine pure_ (i := 2) (N := some 56) (v := ?_) (a' := ?_) #[true, true, true, false, false, false, false, false, false, false, false, false, false, false, false, false, false, false, false, false, false, false, false, false] rfl rfl (any_of HT_.out (by kernel_rfl)) (fun _ _ _ h => h) (Or.inl ⟨by rfl, ?_⟩) ?_ ?_
                              rotate_left
                              · intro w'
                                go_simp
                                with_reducible rfl
                              rotate_left
                              · simp only [Act.put, List.setIfInBounds_toArray, List.set_cons_zero, List.set_cons_succ, i64_w, i32_w]
                                rfl
                              refine pure_ (i := 5) (N := some 59) (v := ?_) (a' := ?_) #[true, true, true, false, false, true, false, false, false, false, false, false, false, false, false, false, false, false, false, false, false, false, false, false] rfl rfl (any_of HT_.out (by kernel_rfl)) (fun _ _ _ h => h) (Or.inl ⟨by rfl, ?_⟩) ?_ ?_
                              rotate_left
                              · intro w'
                                go_simp
                                with_reducible rfl
                              rotate_left
                              · simp only [Act.put, List.setIfInBounds_toArray, List.set_cons_zero, List.set_cons_succ, i64_w, i32_w]
                                rfl
                              refine pure_ (i := 6) (N := some 60) (v := ?_) (a' := ?_) #[true, true, true, false, false, true, true, false, false, false, false, false, false, false, false, false, false, false, false, false, false, false, false, false] rfl rfl (any_of HT_.out (by kernel_rfl)) (fun _ _ _ h => h) (Or.inl ⟨by rfl, ?_⟩) ?_ ?_
                              rotate_left
                              · intro w'
                                go_simp
                                with_reducible rfl
                              rotate_left
                              · simp only [Act.put, List.setIfInBounds_toArray, List.set_cons_zero, List.set_cons_succ, i64_w, i32_w]
                                rfl
                              refine pure_ (i := 7) (N := some 61) (v := ?_) (a' := ?_) #[true, true, true, false, false, true, true, true, false, false, false, false, false, false, false, false, false, false, false, false, false, false, false, false] rfl rfl (any_of HT_.out (by kernel_rfl)) (fun _ _ _ h => h) (Or.inl ⟨by rfl, ?_⟩) ?_ ?_
                              rotate_left
                              · intro w'
                                go_simp
                                with_reducible rfl
                              rotate_left
                              · simp only [Act.put, List.setIfInBounds_toArray, List.set_cons_zero, List.set_cons_succ, i64_w, i32_w]
                                rfl
                              refine take_ (i := 3) (N := some 57) (v := ?_) (a' := ?_) #[true, true, true, true, false, true, true, true, false, false, false, false, false, false, false, false, false, false, false, false, false, false, false, false] rfl rfl (take_ofW HT_.out HW_.out (by kernel_rfl)) (fun _ _ _ h => h) (Or.inl ⟨by rfl, ?_⟩) hHeld ?_ ?_
                              rotate_left
                              · rintro w' ⟨s0, s1, s2, s3, s4, s5, s6, s7, s8, s9, s10, s11⟩
                                go_simp
                                with_reducible rfl
                              rotate_left
                              · simp only [Act.put, List.setIfInBounds_toArray, List.set_cons_zero, List.set_cons_succ, i64_w, i32_w]
                                rfl
                              refine take_ (i := 8) (N := some 62) (v := ?_) (a' := ?_) #[true, true, true, true, false, true, true, true, true, false, false, false, false, false, false, false, false, false, false, false, false, false, false, false] rfl rfl (take_ofW HT_.out HW_.out (by kernel_rfl)) (fun _ _ _ h => h) (Or.inl ⟨by rfl, ?_⟩) hHeld ?_ ?_
                              rotate_left
                              · rintro w' ⟨s0, s1, s2, s3, s4, s5, s6, s7, s8, s9, s10, s11⟩
                                go_simp
                                with_reducible rfl
                              rotate_left
                              · simp only [Act.put, List.setIfInBounds_toArray, List.set_cons_zero, List.set_cons_succ, i64_w, i32_w]
                                rfl
                              refine one_ (i := 4) (N := some 58) #[true, true, true, true, true, true, true, true, true, false, false, false, false, false, false, false, false, false, false, false, false, false, false, false] rfl rfl (one_of HT_.out (by kernel_rfl)) (by decide) (fun K hK => ?_)
                              refine goes_ Try.func11 (by kernel_rfl) rfl #[.agg #[.int .i64 ((rd_T26 t359 x51_2).f0), .int .i64 ((rd_T26 t359 x51_2).f1), .int .u64 ((rd_T26 t359 x51_2).f2), .slice A373_3 ((rd_T26 t359 x51_2).f3).length c373_3]] (by rfl) rfl rfl (by (try simp only [List.map_toArray, List.map_cons, List.map_nil]); first | done | rfl | (simp only [List.length_drop, List.length_take]; rfl)) ?_
                              with_reducible refine (courierlaw02_ours.calls ((rd_T26 t359 x51_2).f0) ((rd_T26 t359 x51_2).f1) ((rd_T26 t359 x51_2).f2) (fun k_ => ((some k_ ≠ (.slice (some ad382) t362.length copn382 : Value).ownBlock ∧ (some k_ ≠ (.slice (some ad380) t366.length co47 : Value).ownBlock ∧ some k_ ≠ (.slice (some ad383) t369.length copn383 : Value).ownBlock)) ∧ some k_ ≠ (.slice (some ad373) t359.length co24 : Value).ownBlock)) _ _ ((rd_T26 t359 x51_2).f3) t374 t375 t376 t377 _ ?side1 A28.out).mono ?_
                              (case side1 => exact HL373_3.out)
                              rintro e w48 ⟨v378, rfl, ho0, hb⟩
                              (try (have nt_ := Aside0.mk (Kd.V_below HL382_0.out hb); clear HL382_0; have HL382_0 := nt_; clear nt_))
                              (try (have nt_ := Aside0.mk (Kd.C_below HR382_0.out hb); clear HR382_0; have HR382_0 := nt_; clear nt_))
                              (try (have nt_ := Aside0.mk (Kd.V_below HL383_0.out hb); clear HL383_0; have HL383_0 := nt_; clear nt_))
                              (try (have nt_ := Aside0.mk (Kd.C_below HR383_0.out hb); clear HR383_0; have HR383_0 := nt_; clear nt_))
                              have HS0_ := (hb.cell (World.block_lt_of_cell? _ _ (hHeld.1))).trans (hHeld.1)
                              have HS1_ := (hb.cell (World.block_lt_of_cell? _ _ (hHeld.2.1))).trans (hHeld.2.1)
                              have HS2_ := (hb.cell (World.block_lt_of_cell? _ _ (hHeld.2.2.1))).trans (hHeld.2.2.1)
                              have HS3_ := (hb.cell (World.block_lt_of_cell? _ _ (hHeld.2.2.2.1))).trans (hHeld.2.2.2.1)
                              have HS4_ := (hb.cell (World.block_lt_of_cell? _ _ (hHeld.2.2.2.2.1))).trans (hHeld.2.2.2.2.1)
                              have HS5_ := (hb.cell (World.block_lt_of_cell? _ _ (hHeld.2.2.2.2.2.1))).trans (hHeld.2.2.2.2.2.1)
                              have HS6_ := (hb.cell (World.block_lt_of_cell? _ _ (hHeld.2.2.2.2.2.2.1))).trans (hHeld.2.2.2.2.2.2.1)
                              have HS7_ := (hb.cell (World.block_lt_of_cell? _ _ (hHeld.2.2.2.2.2.2.2.1))).trans (hHeld.2.2.2.2.2.2.2.1)
                              have HS8_ := (hb.cell (World.block_lt_of_cell? _ _ (hHeld.2.2.2.2.2.2.2.2.1))).trans (hHeld.2.2.2.2.2.2.2.2.1)
                              have HS10_ := (hb.cell (World.block_lt_of_cell? _ _ (hHeld.2.2.2.2.2.2.2.2.2.2.1))).trans (hHeld.2.2.2.2.2.2.2.2.2.2.1)
                              refine ⟨_, rfl, ?_⟩
                              have n0_ := Aside0.mk (Kd.N_below (by (with_reducible repeat (first | apply Kd.N_alloc | apply Kd.N_drewN | apply Kd.N_drew)); exact HO_3.out) hb)
                              have n1_ := Aside0.mk (Kd.N_below (by (with_reducible repeat (first | apply Kd.N_alloc | apply Kd.N_drewN | apply Kd.N_drew)); exact HO_4.out) hb)
                              have n2_ := Aside0.mk (Kd.N_below (by (with_reducible repeat (first | apply Kd.N_alloc | apply Kd.N_drewN | apply Kd.N_drew)); exact HO_6.out) hb)
                              have n3_ := Aside0.mk (Kd.N_below (by (with_reducible repeat (first | apply Kd.N_alloc | apply Kd.N_drewN | apply Kd.N_drew)); exact HO_7.out) hb)
                              have n4_ := Aside0.mk (Kd.V_below (by (with_reducible repeat (first | apply Kd.V_alloc | apply Kd.V_drewN | apply Kd.V_drew)); exact HL373_3.out) hb)
                              have n5_ := Aside0.mk (Kd.V_below (by (with_reducible repeat (first | apply Kd.V_alloc | apply Kd.V_drewN | apply Kd.V_drew)); exact HL380_3.out) hb)
                              have n6_ := Aside0.mk (Kd.V_lower (Kd.V_mono (ok' := fun k_ => some k_ ≠ (.slice (some ad373) t359.length co24 : Value).ownBlock ∧ some k_ ≠ (.slice (some ad382) t362.length copn382 : Value).ownBlock ∧ some k_ ≠ (.slice (some ad380) t366.length co47 : Value).ownBlock ∧ some k_ ≠ (.slice (some ad383) t369.length copn383 : Value).ownBlock) ho0 (fun k_ hk_ => ⟨Or.elim hk_ (fun hs_ => hs_.2) (fun hn_ => (Kd.fresh' (Kd.N_lt (by (with_reducible repeat (first | apply Kd.N_alloc | apply Kd.N_drewN | apply Kd.N_drew)); exact HO_3.out)) k_ hn_)), Or.elim hk_ (fun hs_ => hs_.1.1) (fun hn_ => (Kd.fresh' (Kd.N_lt (by (with_reducible repeat (first | apply Kd.N_alloc | apply Kd.N_drewN | apply Kd.N_drew)); exact HO_4.out)) k_ hn_)), Or.elim hk_ (fun hs_ => hs_.1.2.1) (fun hn_ => (Kd.fresh' (Kd.N_lt (by (with_reducible repeat (first | apply Kd.N_alloc | apply Kd.N_drewN | apply Kd.N_drew)); exact HO_6.out)) k_ hn_)), Or.elim hk_ (fun hs_ => hs_.1.2.2) (fun hn_ => (Kd.fresh' (Kd.N_lt (by (with_reducible repeat (first | apply Kd.N_alloc | apply Kd.N_drewN | apply Kd.N_drew)); exact HO_7.out)) k_ hn_))⟩)) (below_size (by repeat (first | (with_reducible first | exact HB.out | apply below_alloc | apply pw_below_drewN | apply below_drew1) | exact HB.out))))
                              have n7_ := Aside0.mk (Kd.C_below (by repeat (first | (with_reducible exact HR373_3.out) | (with_reducible refine Kd.C_alloc ?_ _) | (with_reducible refine Kd.C_drewN ?_ _) | (with_reducible refine Kd.C_drew ?_) | exact HR373_3.out)) hb)
                              have n8_ := Aside0.mk (Kd.C_below (by repeat (first | (with_reducible exact HR380_3.out) | (with_reducible refine Kd.C_alloc ?_ _) | (with_reducible refine Kd.C_drewN ?_ _) | (with_reducible refine Kd.C_drew ?_) | exact HR380_3.out)) hb)
                              have n9_ := Aside0.mk (below_step (by repeat (first | (with_reducible first | exact HB.out | apply below_alloc | apply pw_below_drewN | apply below_drew1) | exact HB.out)) hb)
                              clear HO_3
                              clear HO_4
                              clear HO_6
                              clear HO_7
                              clear HL373_3
                              clear HL380_3
                              clear HR373_3
                              clear HR380_3
                              clear HB
                              have HO_3 := n0_
                              have HO_4 := n1_
                              have HO_6 := n2_
                              have HO_7 := n3_
                              have HL373_3 := n4_
                              have HL380_3 := n5_
                              have HO379 := n6_
                              have HR373_3 := n7_
                              have HR380_3 := n8_
                              have HB := n9_
                              clear n0_ n1_ n2_ n3_ n4_ n5_ n6_ n7_ n8_ n9_
                              (try clear hb)
                              (try clear hb2)
                              (try clear hk)
                              (try clear hi)
                              (try clear ho0)
                              obtain ⟨Ao49, co49, eo49⟩ := Kd.V_slice HO379.out
                              (first | subst eo49 | (injection eo49 with f1_ f2_ f3_; have f4_ := f1_.symm; have f5_ := f3_.symm; clear f1_ f2_ f3_; subst f4_; subst f5_))
                              refine hK.out _ _ ⟨HS0_, HS1_, HS2_, HS3_, HS4_, HS5_, HS6_, HS7_, HS8_, Kd.C_string (P := Try.prog) (A := A382_0) (c := c382_0) Try.underlying22 Try.underlying5 Try.underlying9 (by repeat (first | (with_reducible exact HR382_0.out) | (with_reducible refine Kd.C_alloc ?_ _) | (with_reducible refine Kd.C_drewN ?_ _) | (with_reducible refine Kd.C_drew ?_) | exact HR382_0.out)), HS10_, Kd.C_string (P := Try.prog) (A := A383_0) (c := c383_0) Try.underlying22 Try.underlying5 Try.underlying9 (by repeat (first | (with_reducible exact HR383_0.out) | (with_reducible refine Kd.C_alloc ?_ _) | (with_reducible refine Kd.C_drewN ?_ _) | (with_reducible refine Kd.C_drew ?_) | exact HR383_0.out))⟩ (fun hHeld => ?_)
                              clear hK K
                              refine norm_ (a' := ?_) ?_ ?_
                              rotate_left
                              · show Act.put _ (some 58) _ = _
                                simp only [Act.put, List.setIfInBounds_toArray, List.set_cons_zero, List.set_cons_succ, i64_w, i32_w]
                                rfl
                              refine one_ (i := 9) (N := some 63) #[true, true, true, true, true, true, true, true, true, true, false, false, false, false, false, false, false, false, false, false, false, false, false, false] rfl rfl (one_of HT_.out (by kernel_rfl)) (by decide) (fun K hK => ?_)
                              refine goes_ Try.func10 (by kernel_rfl) rfl #[.agg #[.int .i64 t374, .int .i64 t375, .int .u64 t376, .slice Ao49 t377.length co49], .agg #[.int .i64 ((rd_T30 t366 x51_2).f0), .int .i64 ((rd_T30 t366 x51_2).f1), .int .u64 ((rd_T30 t366 x51_2).f2), .slice A380_3 ((rd_T30 t366 x51_2).f3).length c380_3]] (by rfl) rfl rfl (by (try simp only [List.map_toArray, List.map_cons, List.map_nil]); first | done | rfl | (simp only [List.length_drop, List.length_take]; rfl)) ?_
                              with_reducible refine (courierref01_Same.calls t374 t375 t376 _ _ t377 ((rd_T30 t366 x51_2).f0) ((rd_T30 t366 x51_2).f1) ((rd_T30 t366 x51_2).f2) _ _ ((rd_T30 t366 x51_2).f3) true _ ?side1 ?side2 ?side3 ?side4 A30.out).mono ?_
                              (case side1 => repeat (first | exact (Kd.V_reads' HO379.out).2.2 | (with_reducible refine Kd.C_alloc ?_ _) | (with_reducible refine Kd.C_drewN ?_ _) | (with_reducible refine Kd.C_drew ?_)))
                              (case side2 => exact (Kd.V_reads' HO379.out).2.1)
                              (case side3 => repeat (first | exact (by repeat (first | (with_reducible exact HR380_3.out) | (with_reducible refine Kd.C_alloc ?_ _) | (with_reducible refine Kd.C_drewN ?_ _) | (with_reducible refine Kd.C_drew ?_) | exact HR380_3.out)) | (with_reducible refine Kd.C_alloc ?_ _) | (with_reducible refine Kd.C_drewN ?_ _) | (with_reducible refine Kd.C_drew ?_)))
                              (case side4 => exact HC380_3.out)
                              rintro e w50 ⟨rfl, hb⟩
                              (try (have nt_ := Aside0.mk (Kd.V_below HL382_0.out hb); clear HL382_0; have HL382_0 := nt_; clear nt_))
                              (try (have nt_ := Aside0.mk (Kd.C_below HR382_0.out hb); clear HR382_0; have HR382_0 := nt_; clear nt_))
                              (try (have nt_ := Aside0.mk (Kd.V_below HL383_0.out hb); clear HL383_0; have HL383_0 := nt_; clear nt_))
                              (try (have nt_ := Aside0.mk (Kd.C_below HR383_0.out hb); clear HR383_0; have HR383_0 := nt_; clear nt_))
                              have HS0_ := (hb.cell (World.block_lt_of_cell? _ _ (hHeld.1))).trans (hHeld.1)
                              have HS1_ := (hb.cell (World.block_lt_of_cell? _ _ (hHeld.2.1))).trans (hHeld.2.1)
                              have HS2_ := (hb.cell (World.block_lt_of_cell? _ _ (hHeld.2.2.1))).trans (hHeld.2.2.1)
                              have HS3_ := (hb.cell (World.block_lt_of_cell? _ _ (hHeld.2.2.2.1))).trans (hHeld.2.2.2.1)
                              have HS4_ := (hb.cell (World.block_lt_of_cell? _ _ (hHeld.2.2.2.2.1))).trans (hHeld.2.2.2.2.1)
                              have HS5_ := (hb.cell (World.block_lt_of_cell? _ _ (hHeld.2.2.2.2.2.1))).trans (hHeld.2.2.2.2.2.1)
                              have HS6_ := (hb.cell (World.block_lt_of_cell? _ _ (hHeld.2.2.2.2.2.2.1))).trans (hHeld.2.2.2.2.2.2.1)
                              have HS7_ := (hb.cell (World.block_lt_of_cell? _ _ (hHeld.2.2.2.2.2.2.2.1))).trans (hHeld.2.2.2.2.2.2.2.1)
                              have HS8_ := (hb.cell (World.block_lt_of_cell? _ _ (hHeld.2.2.2.2.2.2.2.2.1))).trans (hHeld.2.2.2.2.2.2.2.2.1)
                              have HS10_ := (hb.cell (World.block_lt_of_cell? _ _ (hHeld.2.2.2.2.2.2.2.2.2.2.1))).trans (hHeld.2.2.2.2.2.2.2.2.2.2.1)
                              refine ⟨_, rfl, ?_⟩
                              have n0_ := Aside0.mk (Kd.N_below (by (with_reducible repeat (first | apply Kd.N_alloc | apply Kd.N_drewN | apply Kd.N_drew)); exact HO_3.out) hb)
                              have n1_ := Aside0.mk (Kd.N_below (by (with_reducible repeat (first | apply Kd.N_alloc | apply Kd.N_drewN | apply Kd.N_drew)); exact HO_4.out) hb)
                              have n2_ := Aside0.mk (Kd.N_below (by (with_reducible repeat (first | apply Kd.N_alloc | apply Kd.N_drewN | apply Kd.N_drew)); exact HO_6.out) hb)
                              have n3_ := Aside0.mk (Kd.N_below (by (with_reducible repeat (first | apply Kd.N_alloc | apply Kd.N_drewN | apply Kd.N_drew)); exact HO_7.out) hb)
                              have n4_ := Aside0.mk (Kd.V_below (by (with_reducible repeat (first | apply Kd.V_alloc | apply Kd.V_drewN | apply Kd.V_drew)); exact HL373_3.out) hb)
                              have n5_ := Aside0.mk (Kd.V_below (by (with_reducible repeat (first | apply Kd.V_alloc | apply Kd.V_drewN | apply Kd.V_drew)); exact HL380_3.out) hb)
                              have n6_ := Aside0.mk (Kd.V_below (by (with_reducible repeat (first | apply Kd.V_alloc | apply Kd.V_drewN | apply Kd.V_drew)); exact HO379.out) hb)
                              have n7_ := Aside0.mk (Kd.C_below (by repeat (first | (with_reducible exact HR373_3.out) | (with_reducible refine Kd.C_alloc ?_ _) | (with_reducible refine Kd.C_drewN ?_ _) | (with_reducible refine Kd.C_drew ?_) | exact HR373_3.out)) hb)
                              have n8_ := Aside0.mk (Kd.C_below (by repeat (first | (with_reducible exact HR380_3.out) | (with_reducible refine Kd.C_alloc ?_ _) | (with_reducible refine Kd.C_drewN ?_ _) | (with_reducible refine Kd.C_drew ?_) | exact HR380_3.out)) hb)
                              have n9_ := Aside0.mk (below_step (by repeat (first | (with_reducible first | exact HB.out | apply below_alloc | apply pw_below_drewN | apply below_drew1) | exact HB.out)) hb)
                              clear HO_3
                              clear HO_4
                              clear HO_6
                              clear HO_7
                              clear HL373_3
                              clear HL380_3
                              clear HO379
                              clear HR373_3
                              clear HR380_3
                              clear HB
                              have HO_3 := n0_
                              have HO_4 := n1_
                              have HO_6 := n2_
                              have HO_7 := n3_
                              have HL373_3 := n4_
                              have HL380_3 := n5_
                              have HO379 := n6_
                              have HR373_3 := n7_
                              have HR380_3 := n8_
                              have HB := n9_
                              clear n0_ n1_ n2_ n3_ n4_ n5_ n6_ n7_ n8_ n9_
                              (try clear hb)
                              (try clear hb2)
                              (try clear hk)
                              (try clear hi)
                              obtain ⟨Ao51, co51, eo51⟩ := Kd.N_slice HO_4.out
                              (first | subst eo51 | (injection eo51 with f1_ f2_ f3_; have f4_ := f1_.symm; have f5_ := f3_.symm; clear f1_ f2_ f3_; subst f4_; subst f5_))
                              obtain ⟨Ao53, co53, eo53⟩ := Kd.N_slice HO_7.out
                              (first | subst eo53 | (injection eo53 with f1_ f2_ f3_; have f4_ := f1_.symm; have f5_ := f3_.symm; clear f1_ f2_ f3_; subst f4_; subst f5_))
                              refine hK.out _ _ ⟨HS0_, HS1_, HS2_, HS3_, HS4_, HS5_, HS6_, HS7_, HS8_, Kd.C_string (P := Try.prog) (A := A382_0) (c := c382_0) Try.underlying22 Try.underlying5 Try.underlying9 (by repeat (first | (with_reducible exact HR382_0.out) | (with_reducible refine Kd.C_alloc ?_ _) | (with_reducible refine Kd.C_drewN ?_ _) | (with_reducible refine Kd.C_drew ?_) | exact HR382_0.out)), HS10_, Kd.C_string (P := Try.prog) (A := A383_0) (c := c383_0) Try.underlying22 Try.underlying5 Try.underlying9 (by repeat (first | (with_reducible exact HR383_0.out) | (with_reducible refine Kd.C_alloc ?_ _) | (with_reducible refine Kd.C_drewN ?_ _) | (with_reducible refine Kd.C_drew ?_) | exact HR383_0.out))⟩ (fun hHeld => ?_)
                              clear hK K
                              refine norm_ (a' := ?_) ?_ ?_
                              rotate_left
                              · show Act.put _ (some 63) _ = _
                                simp only [Act.put, List.setIfInBounds_toArray, List.set_cons_zero, List.set_cons_succ, i64_w, i32_w]
                                rfl
                              refine pure_ (i := 10) (N := some 64) (v := ?_) (a' := ?_) #[true, true, true, true, true, true, true, true, true, true, true, false, false, false, false, false, false, false, false, false, false, false, false, false] rfl rfl (any_of HT_.out (by kernel_rfl)) (fun _ _ _ h => h) (Or.inl ⟨by rfl, ?_⟩) ?_ ?_
                              rotate_left
                              · intro w'
                                go_simp
                                with_reducible rfl
                              rotate_left
                              · simp only [Act.put, List.setIfInBounds_toArray, List.set_cons_zero, List.set_cons_succ, i64_w, i32_w]
                                rfl
                              refine pure_ (i := 11) (N := some 65) (v := ?_) (a' := ?_) #[true, true, true, true, true, true, true, true, true, true, true, true, false, false, false, false, false, false, false, false, false, false, false, false] rfl rfl (any_of HT_.out (by kernel_rfl)) (fun _ _ _ h => h) (Or.inl ⟨by rfl, ?_⟩) ?_ ?_
                              rotate_left
                              · intro w'
                                go_simp
                                with_reducible rfl
                              rotate_left
                              · simp only [Act.put, List.setIfInBounds_toArray, List.set_cons_zero, List.set_cons_succ, i64_w, i32_w]
                                rfl
                              refine pure_ (i := 12) (N := some 66) (v := ?_) (a' := ?_) #[true, true, true, true, true, true, true, true, true, true, true, true, true, false, false, false, false, false, false, false, false, false, false, false] rfl rfl (any_of HT_.out (by kernel_rfl)) (fun _ _ _ h => h) (Or.inl ⟨by rfl, ?_⟩) ?_ ?_
                              rotate_left
                              · intro w'
                                go_simp
                                with_reducible rfl
                              rotate_left
                              · simp only [Act.put, List.setIfInBounds_toArray, List.set_cons_zero, List.set_cons_succ, i64_w, i32_w]
                                rfl
                              refine pure_ (i := 13) (N := some 67) (v := ?_) (a' := ?_) #[true, true, true, true, true, true, true, true, true, true, true, true, true, true, false, false, false, false, false, false, false, false, false, false] rfl rfl (any_of HT_.out (by kernel_rfl)) (fun _ _ _ h => h) (Or.inl ⟨by rfl, ?_⟩) ?_ ?_
                              rotate_left
                              · intro w'
                                go_simp
                                with_reducible rfl
                              rotate_left
                              · simp only [Act.put, List.setIfInBounds_toArray, List.set_cons_zero, List.set_cons_succ, i64_w, i32_w]
                                rfl
                              refine pure_ (i := 14) (N := some 68) (v := ?_) (a' := ?_) #[true, true, true, true, true, true, true, true, true, true, true, true, true, true, true, false, false, false, false, false, false, false, false, false] rfl rfl (any_of HT_.out (by kernel_rfl)) (fun _ _ _ h => h) (Or.inl ⟨by rfl, ?_⟩) ?_ ?_
                              rotate_left
                              · intro w'
                                go_simp
                                with_reducible rfl
                              rotate_left
                              · simp only [Act.put, List.setIfInBounds_toArray, List.set_cons_zero, List.set_cons_succ, i64_w, i32_w]
                                rfl
                              refine pure_ (i := 17) (N := some 71) (v := ?_) (a' := ?_) #[true, true, true, true, true, true, true, true, true, true, true, true, true, true, true, false, false, true, false, false, false, false, false, false] rfl rfl (any_of HT_.out (by kernel_rfl)) (fun _ _ _ h => h) (Or.inl ⟨by rfl, ?_⟩) ?_ ?_
                              rotate_left
                              · intro w'
                                go_simp
                                with_reducible rfl
                              rotate_left
                              · simp only [Act.put, List.setIfInBounds_toArray, List.set_cons_zero, List.set_cons_succ, i64_w, i32_w]
                                rfl
                              refine pure_ (i := 18) (N := some 72) (v := ?_) (a' := ?_) #[true, true, true, true, true, true, true, true, true, true, true, true, true, true, true, false, false, true, true, false, false, false, false, false] rfl rfl (any_of HT_.out (by kernel_rfl)) (fun _ _ _ h => h) (Or.inl ⟨by rfl, ?_⟩) ?_ ?_
                              rotate_left
                              · intro w'
                                go_simp
                                with_reducible rfl
                              rotate_left
                              · simp only [Act.put, List.setIfInBounds_toArray, List.set_cons_zero, List.set_cons_succ, i64_w, i32_w]
                                rfl
                              refine pure_ (i := 19) (N := some 73) (v := ?_) (a' := ?_) #[true, true, true, true, true, true, true, true, true, true, true, true, true, true, true, false, false, true, true, true, false, false, false, false] rfl rfl (any_of HT_.out (by kernel_rfl)) (fun _ _ _ h => h) (Or.inl ⟨by rfl, ?_⟩) ?_ ?_
                              rotate_left
                              · intro w'
                                go_simp
                                with_reducible rfl
                              rotate_left
                              · simp only [Act.put, List.setIfInBounds_toArray, List.set_cons_zero, List.set_cons_succ, i64_w, i32_w]
                                rfl
                              refine take_ (i := 15) (N := some 69) (v := ?_) (a' := ?_) #[true, true, true, true, true, true, true, true, true, true, true, true, true, true, true, true, false, true, true, true, false, false, false, false] rfl rfl (take_ofW HT_.out HW_.out (by kernel_rfl)) (fun _ _ _ h => h) (Or.inl ⟨by rfl, ?_⟩) hHeld ?_ ?_
                              rotate_left
                              · rintro w' ⟨s0, s1, s2, s3, s4, s5, s6, s7, s8, s9, s10, s11⟩
                                go_simp
                                with_reducible rfl
                              rotate_left
                              · simp only [Act.put, List.setIfInBounds_toArray, List.set_cons_zero, List.set_cons_succ, i64_w, i32_w]
                                rfl
                              refine take_ (i := 16) (N := some 70) (v := ?_) (a' := ?_) #[true, true, true, true, true, true, true, true, true, true, true, true, true, true, true, true, true, true, true, true, false, false, false, false] rfl rfl (take_ofW HT_.out HW_.out (by kernel_rfl)) (fun _ _ _ h => h) (Or.inl ⟨by rfl, ?_⟩) hHeld ?_ ?_
                              rotate_left
                              · rintro w' ⟨s0, s1, s2, s3, s4, s5, s6, s7, s8, s9, s10, s11⟩
                                go_simp
                                with_reducible rfl
                              rotate_left
                              · simp only [Act.put, List.setIfInBounds_toArray, List.set_cons_zero, List.set_cons_succ, i64_w, i32_w]
                                rfl
                              refine take_ (i := 20) (N := some 74) (v := ?_) (a' := ?_) #[true, true, true, true, true, true, true, true, true, true, true, true, true, true, true, true, true, true, true, true, true, false, false, false] rfl rfl (take_ofW HT_.out HW_.out (by kernel_rfl)) (fun _ _ _ h => h) (Or.inl ⟨by rfl, ?_⟩) hHeld ?_ ?_
                              rotate_left
                              · rintro w' ⟨s0, s1, s2, s3, s4, s5, s6, s7, s8, s9, s10, s11⟩
                                go_simp
                                with_reducible rfl
                              rotate_left
                              · simp only [Act.put, List.setIfInBounds_toArray, List.set_cons_zero, List.set_cons_succ, i64_w, i32_w]
                                rfl
                              refine take_ (i := 21) (N := some 75) (v := ?_) (a' := ?_) #[true, true, true, true, true, true, true, true, true, true, true, true, true, true, true, true, true, true, true, true, true, true, false, false] rfl rfl (take_ofW HT_.out HW_.out (by kernel_rfl)) (fun _ _ _ h => h) (Or.inl ⟨by rfl, ?_⟩) hHeld ?_ ?_
                              rotate_left
                              · rintro w' ⟨s0, s1, s2, s3, s4, s5, s6, s7, s8, s9, s10, s11⟩
                                go_simp
                                with_reducible rfl
                              rotate_left
                              · simp only [Act.put, List.setIfInBounds_toArray, List.set_cons_zero, List.set_cons_succ, i64_w, i32_w]
                                rfl
                              refine pure_ (i := 22) (N := some 76) (v := ?_) (a' := ?_) #[true, true, true, true, true, true, true, true, true, true, true, true, true, true, true, true, true, true, true, true, true, true, true, false] rfl rfl (any_of HT_.out (by kernel_rfl)) (fun _ _ _ h => h) (Or.inl ⟨by rfl, ?_⟩) ?_ ?_
                              rotate_left
                              · intro w'
                                go_simp
                                with_reducible rfl
                              rotate_left
                              · simp only [Act.put, List.setIfInBounds_toArray, List.set_cons_zero, List.set_cons_succ, i64_w, i32_w]
                                rfl
                              refine pure_ (i := 23) (N := some 77) (v := ?_) (a' := ?_) #[true, true, true, true, true, true, true, true, true, true, true, true, true, true, true, true, true, true, true, true, true, true, true, true] rfl rfl (any_of HT_.out (by kernel_rfl)) (fun _ _ _ h => h) (Or.inl ⟨by rfl, ?_⟩) ?_ ?_
                              rotate_left
                              · intro w'
                                go_simp
                                with_reducible rfl
                              rotate_left
                              · simp only [Act.put, List.setIfInBounds_toArray, List.set_cons_zero, List.set_cons_succ, i64_w, i32_w]
                                rfl
                              refine done_ (done_of HT_.out (by kernel_rfl)) ?_
                              try go_wp2
                              go_ret
                              exact ⟨by first | rfl | (simp [errW_none, errW_some] <;> rfl) | (simp [*, errW_none, errW_some] <;> rfl), by repeat (first | (with_reducible first | exact HB.out | apply below_alloc | apply pw_below_drewN | apply below_drew1) | exact HB.out)⟩
                          · rw [if_neg c33] at H
                            exact absurd H (by simp)
                        · rw [if_neg c32] at H
                          exact absurd H (by simp)
                      · replace c31 := Bool.eq_false_iff.mpr c31
                        subst c31
                        have H1 : (some false) = some r := by rw [if_neg (show ¬ (false = true) by decide)] at H; exact H
                        clear H
                        have H := H1
                        clear H1
                        obtain rfl := Option.some.inj H
                        try go_wp2
                        have n0_ := Aside0.mk (Kd.N_drew HO_3.out)
                        have n1_ := Aside0.mk (Kd.N_drew HO_4.out)
                        have n2_ := Aside0.mk (Kd.N_drew HO_6.out)
                        have n3_ := Aside0.mk (Kd.N_drew HO_7.out)
                        have n4_ := Aside0.mk (below_drew1 HB.out)
                        clear HO_3
                        clear HO_4
                        clear HO_6
                        clear HO_7
                        clear HB
                        have HO_3 := n0_
                        have HO_4 := n1_
                        have HO_6 := n2_
                        have HO_7 := n3_
                        have HB := n4_
                        clear n0_ n1_ n2_ n3_ n4_
                        have p373 : 0 ≤ (x51_2 : Int) := of_decide_eq_true (by first | (with_reducible assumption) | assumption)
                        have q373 : x51_2 < (t359.length : Int) := of_decide_eq_true (by first | (with_reducible assumption) | assumption)
                        obtain ⟨ad373, A373_3, c373_3, e373, hx373_0, hx373_1, hx373_2, hx373_3, hl373_3, hi373_3⟩ := at_T26 (Kd.N_reads' HO_3.out).2.2 x51_2 p373 q373
                        cases e373
                        obtain ⟨ce373, hce373, hMe373, hcc373⟩ := Kd.N_get HO_3.out z26 x51_2 p373 (by first | exact q373 | exact of_decide_eq_true (by first | (with_reducible assumption) | assumption) | (have e_ := (Kd.N_reads' HO_3.out).1; omega))
                        obtain ⟨ua373_3, uc373_3, rfl, ul373_3, ge373_3⟩ := k26_openF hMe373
                        have hv373_3 := hcc373 3 _ rfl
                        rw [add_field _ _ 3 (by omega)] at hv373_3
                        replace hv373_3 := Option.some.inj (hv373_3.symm.trans hx373_3)
                        injection hv373_3 with hva_ hvn_ hvc_
                        rw [hva_] at ge373_3
                        rw [hvc_] at ul373_3
                        have HL373_3 := Aside0.mk (show Kd.V (Kd.int .u8) 5 _ w.heap.size _ _ ((rd_T26 t359 x51_2).f3) from Kd.V_mk ul373_3 ge373_3)
                        clear hva_ hvn_ hvc_ ge373_3 ul373_3
                        clear hcc373 hce373
                        have HR373_3 := Aside0.mk hi373_3
                        have HC373_3 := Aside0.mk hl373_3
                        clear hi373_3 hl373_3
                        replace p373 := eq_true p373
                        replace q373 := eq_true q373
                        obtain ⟨Ao56, co56, eo56⟩ := Kd.N_slice HO_6.out
                        (first | subst eo56 | (injection eo56 with f1_ f2_ f3_; have f4_ := f1_.symm; have f5_ := f3_.symm; clear f1_ f2_ f3_; subst f4_; subst f5_))
                        have p380 : 0 ≤ (x51_2 : Int) := of_decide_eq_true (by first | (with_reducible assumption) | assumption)
                        have q380 : x51_2 < (t366.length : Int) := of_decide_eq_true (by first | (with_reducible assumption) | assumption)
                        obtain ⟨ad380, A380_3, c380_3, e380, hx380_0, hx380_1, hx380_2, hx380_3, hl380_3, hi380_3⟩ := at_T30 (Kd.N_reads' HO_6.out).2.2 x51_2 p380 q380
                        cases e380
                        obtain ⟨ce380, hce380, hMe380, hcc380⟩ := Kd.N_get HO_6.out z30 x51_2 p380 (by first | exact q380 | exact of_decide_eq_true (by first | (with_reducible assumption) | assumption) | (have e_ := (Kd.N_reads' HO_6.out).1; omega))
                        obtain ⟨ua380_3, uc380_3, rfl, ul380_3, ge380_3⟩ := k30_openF hMe380
                        have hv380_3 := hcc380 3 _ rfl
                        rw [add_field _ _ 3 (by omega)] at hv380_3
                        replace hv380_3 := Option.some.inj (hv380_3.symm.trans hx380_3)
                        injection hv380_3 with hva_ hvn_ hvc_
                        rw [hva_] at ge380_3
                        rw [hvc_] at ul380_3
                        have HL380_3 := Aside0.mk (show Kd.V (Kd.int .u8) 5 _ w.heap.size _ _ ((rd_T30 t366 x51_2).f3) from Kd.V_mk ul380_3 ge380_3)
                        clear hva_ hvn_ hvc_ ge380_3 ul380_3
                        clear hcc380 hce380
                        have HR380_3 := Aside0.mk hi380_3
                        have HC380_3 := Aside0.mk hl380_3
                        clear hi380_3 hl380_3
                        replace p380 := eq_true p380
                        replace q380 := eq_true q380
                        refine start_ (n := 24) (S := fun w' => w'.cell? (ad373.add ((x51_2).toNat * 4)) = some (.int .i64 ((rd_T26 t359 x51_2).f0)) ∧ w'.cell? ⟨(ad373.add ((x51_2).toNat * 4)).block, (ad373.add ((x51_2).toNat * 4)).off + 1, none⟩ = some (.int .i64 ((rd_T26 t359 x51_2).f1)) ∧ w'.cell? ⟨(ad373.add ((x51_2).toNat * 4)).block, (ad373.add ((x51_2).toNat * 4)).off + 2, none⟩ = some (.int .u64 ((rd_T26 t359 x51_2).f2)) ∧ w'.cell? ⟨(ad373.add ((x51_2).toNat * 4)).block, (ad373.add ((x51_2).toNat * 4)).off + 3, none⟩ = some (.slice A373_3 ((rd_T26 t359 x51_2).f3).length c373_3) ∧ w'.cell? (ad380.add ((x51_2).toNat * 4)) = some (.int .i64 ((rd_T30 t366 x51_2).f0)) ∧ w'.cell? ⟨(ad380.add ((x51_2).toNat * 4)).block, (ad380.add ((x51_2).toNat * 4)).off + 1, none⟩ = some (.int .i64 ((rd_T30 t366 x51_2).f1)) ∧ w'.cell? ⟨(ad380.add ((x51_2).toNat * 4)).block, (ad380.add ((x51_2).toNat * 4)).off + 2, none⟩ = some (.int .u64 ((rd_T30 t366 x51_2).f2)) ∧ w'.cell? ⟨(ad380.add ((x51_2).toNat * 4)).block, (ad380.add ((x51_2).toNat * 4)).off + 3, none⟩ = some (.slice A380_3 ((rd_T30 t366 x51_2).f3).length c380_3)) (ds := []) #[false, false, false, false, false, false, false, false, false, false, false, false, false, false, false, false, false, false, false, false, false, false, false, false] (by kernel_rfl) rfl rfl ⟨hx373_0, hx373_1, hx373_2, hx373_3, hx380_0, hx380_1, hx380_2, hx380_3⟩ (fun hHeld => ?_); refine with_tabW courierlaw02_WireSplits.tab11 courierlaw02_WireSplits.bits11 (fun HT_ HW_ => ?_)
                        generalize wr.drew = w55 at HO_3 HO_4 HO_6 HO_7 HB HL373_3 HL380_3 HR373_3 HR380_3 hx373_0 hx373_1 hx373_2 hx373_3 hx380_0 hx380_1 hx380_2 hx380_3 hHeld ⊢
                        refine pure_ (i := 0) (N := some 54) (v := ?_) (a' := ?_) #[true, false, false, false, false, false, false, false, false, false, false, false, false, false, false, false, false, false, false, false, false, false, false, false] rfl rfl (any_of HT_.out (by kernel_rfl)) (fun _ _ _ h => h) (Or.inl ⟨by rfl, ?_⟩) ?_ ?_
                        rotate_left
                        · intro w'
                          go_simp
                          with_reducible rfl
                        rotate_left
                        · simp only [Act.put, List.setIfInBounds_toArray, List.set_cons_zero, List.set_cons_succ, i64_w, i32_w]
                          rfl
                        refine pure_ (i := 1) (N := some 55) (v := ?_) (a' := ?_) #[true, true, false, false, false, false, false, false, false, false, false, false, false, false, false, false, false, false, false, false, false, false, false, false] rfl rfl (any_of HT_.out (by kernel_rfl)) (fun _ _ _ h => h) (Or.inl ⟨by rfl, ?_⟩) ?_ ?_
                        rotate_left
                        · intro w'
                          go_simp
                          with_reducible rfl
                        rotate_left
                        · simp only [Act.put, List.setIfInBounds_toArray, List.set_cons_zero, List.set_cons_succ, i64_w, i32_w]
                          rfl
                        refine pure_ (i := 2) (N := some 56) (v := ?_) (a' := ?_) #[true, true, true, false, false, false, false, false, false, false, false, false, false, false, false, false, false, false, false, false, false, false, false, false] rfl rfl (any_of HT_.out (by kernel_rfl)) (fun _ _ _ h => h) (Or.inl ⟨by rfl, ?_⟩) ?_ ?_
                        rotate_left
                        · intro w'
                          go_simp
                          with_reducible rfl
                        rotate_left
                        · simp only [Act.put, List.setIfInBounds_toArray, List.set_cons_zero, List.set_cons_succ, i64_w, i32_w]
                          rfl
                        refine pure_ (i := 5) (N := some 59) (v := ?_) (a' := ?_) #[true, true, true, false, false, true, false, false, false, false, false, false, false, false, false, false, false, false, false, false, false, false, false, false] rfl rfl (any_of HT_.out (by kernel_rfl)) (fun _ _ _ h => h) (Or.inl ⟨by rfl, ?_⟩) ?_ ?_
                        rotate_left
                        · intro w'
                          go_simp
                          with_reducible rfl
                        rotate_left
                        · simp only [Act.put, List.setIfInBounds_toArray, List.set_cons_zero, List.set_cons_succ, i64_w, i32_w]
                          rfl
                        refine pure_ (i := 6) (N := some 60) (v := ?_) (a' := ?_) #[true, true, true, false, false, true, true, false, false, false, false, false, false, false, false, false, false, false, false, false, false, false, false, false] rfl rfl (any_of HT_.out (by kernel_rfl)) (fun _ _ _ h => h) (Or.inl ⟨by rfl, ?_⟩) ?_ ?_
                        rotate_left
                        · intro w'
                          go_simp
                          with_reducible rfl
                        rotate_left
                        · simp only [Act.put, List.setIfInBounds_toArray, List.set_cons_zero, List.set_cons_succ, i64_w, i32_w]
                          rfl
                        refine pure_ (i := 7) (N := some 61) (v := ?_) (a' := ?_) #[true, true, true, false, false, true, true, true, false, false, false, false, false, false, false, false, false, false, false, false, false, false, false, false] rfl rfl (any_of HT_.out (by kernel_rfl)) (fun _ _ _ h => h) (Or.inl ⟨by rfl, ?_⟩) ?_ ?_
                        rotate_left
                        · intro w'
                          go_simp
                          with_reducible rfl
                        rotate_left
                        · simp only [Act.put, List.setIfInBounds_toArray, List.set_cons_zero, List.set_cons_succ, i64_w, i32_w]
                          rfl
                        refine take_ (i := 3) (N := some 57) (v := ?_) (a' := ?_) #[true, true, true, true, false, true, true, true, false, false, false, false, false, false, false, false, false, false, false, false, false, false, false, false] rfl rfl (take_ofW HT_.out HW_.out (by kernel_rfl)) (fun _ _ _ h => h) (Or.inl ⟨by rfl, ?_⟩) hHeld ?_ ?_
                        rotate_left
                        · rintro w' ⟨s0, s1, s2, s3, s4, s5, s6, s7⟩
                          go_simp
                          with_reducible rfl
                        rotate_left
                        · simp only [Act.put, List.setIfInBounds_toArray, List.set_cons_zero, List.set_cons_succ, i64_w, i32_w]
                          rfl
                        refine take_ (i := 8) (N := some 62) (v := ?_) (a' := ?_) #[true, true, true, true, false, true, true, true, true, false, false, false, false, false, false, false, false, false, false, false, false, false, false, false] rfl rfl (take_ofW HT_.out HW_.out (by kernel_rfl)) (fun _ _ _ h => h) (Or.inl ⟨by rfl, ?_⟩) hHeld ?_ ?_
                        rotate_left
                        · rintro w' ⟨s0, s1, s2, s3, s4, s5, s6, s7⟩
                          go_simp
                          with_reducible rfl
                        rotate_left
                        · simp only [Act.put, List.setIfInBounds_toArray, List.set_cons_zero, List.set_cons_succ, i64_w, i32_w]
                          rfl
                        refine one_ (i := 4) (N := some 58) #[true, true, true, true, true, true, true, true, true, false, false, false, false, false, false, false, false, false, false, false, false, false, false, false] rfl rfl (one_of HT_.out (by kernel_rfl)) (by decide) (fun K hK => ?_)
                        refine goes_ Try.func11 (by kernel_rfl) rfl #[.agg #[.int .i64 ((rd_T26 t359 x51_2).f0), .int .i64 ((rd_T26 t359 x51_2).f1), .int .u64 ((rd_T26 t359 x51_2).f2), .slice A373_3 ((rd_T26 t359 x51_2).f3).length c373_3]] (by rfl) rfl rfl (by (try simp only [List.map_toArray, List.map_cons, List.map_nil]); first | done | rfl | (simp only [List.length_drop, List.length_take]; rfl)) ?_
                        with_reducible refine (courierlaw02_ours.calls ((rd_T26 t359 x51_2).f0) ((rd_T26 t359 x51_2).f1) ((rd_T26 t359 x51_2).f2) (fun k_ => ((some k_ ≠ (v363 : Value).ownBlock ∧ (some k_ ≠ (.slice (some ad380) t366.length co56 : Value).ownBlock ∧ some k_ ≠ (v370 : Value).ownBlock)) ∧ some k_ ≠ (.slice (some ad373) t359.length co24 : Value).ownBlock)) _ _ ((rd_T26 t359 x51_2).f3) t374 t375 t376 t377 _ ?side1 A28.out).mono ?_
                        (case side1 => exact HL373_3.out)
                        rintro e w57 ⟨v378, rfl, ho0, hb⟩
                        have HS0_ := (hb.cell (World.block_lt_of_cell? _ _ (hHeld.1))).trans (hHeld.1)
                        have HS1_ := (hb.cell (World.block_lt_of_cell? _ _ (hHeld.2.1))).trans (hHeld.2.1)
                        have HS2_ := (hb.cell (World.block_lt_of_cell? _ _ (hHeld.2.2.1))).trans (hHeld.2.2.1)
                        have HS3_ := (hb.cell (World.block_lt_of_cell? _ _ (hHeld.2.2.2.1))).trans (hHeld.2.2.2.1)
                        have HS4_ := (hb.cell (World.block_lt_of_cell? _ _ (hHeld.2.2.2.2.1))).trans (hHeld.2.2.2.2.1)
                        have HS5_ := (hb.cell (World.block_lt_of_cell? _ _ (hHeld.2.2.2.2.2.1))).trans (hHeld.2.2.2.2.2.1)
                        have HS6_ := (hb.cell (World.block_lt_of_cell? _ _ (hHeld.2.2.2.2.2.2.1))).trans (hHeld.2.2.2.2.2.2.1)
                        have HS7_ := (hb.cell (World.block_lt_of_cell? _ _ (hHeld.2.2.2.2.2.2.2))).trans (hHeld.2.2.2.2.2.2.2)
                        refine ⟨_, rfl, ?_⟩
                        have n0_ := Aside0.mk (Kd.N_below (by (with_reducible repeat (first | apply Kd.N_alloc | apply Kd.N_drewN | apply Kd.N_drew)); exact HO_3.out) hb)
                        have n1_ := Aside0.mk (Kd.N_below (by (with_reducible repeat (first | apply Kd.N_alloc | apply Kd.N_drewN | apply Kd.N_drew)); exact HO_4.out) hb)
                        have n2_ := Aside0.mk (Kd.N_below (by (with_reducible repeat (first | apply Kd.N_alloc | apply Kd.N_drewN | apply Kd.N_drew)); exact HO_6.out) hb)
                        have n3_ := Aside0.mk (Kd.N_below (by (with_reducible repeat (first | apply Kd.N_alloc | apply Kd.N_drewN | apply Kd.N_drew)); exact HO_7.out) hb)
                        have n4_ := Aside0.mk (Kd.V_below (by (with_reducible repeat (first | apply Kd.V_alloc | apply Kd.V_drewN | apply Kd.V_drew)); exact HL373_3.out) hb)
                        have n5_ := Aside0.mk (Kd.V_below (by (with_reducible repeat (first | apply Kd.V_alloc | apply Kd.V_drewN | apply Kd.V_drew)); exact HL380_3.out) hb)
                        have n6_ := Aside0.mk (Kd.V_lower (Kd.V_mono (ok' := fun k_ => some k_ ≠ (.slice (some ad373) t359.length co24 : Value).ownBlock ∧ some k_ ≠ (v363 : Value).ownBlock ∧ some k_ ≠ (.slice (some ad380) t366.length co56 : Value).ownBlock ∧ some k_ ≠ (v370 : Value).ownBlock) ho0 (fun k_ hk_ => ⟨Or.elim hk_ (fun hs_ => hs_.2) (fun hn_ => (Kd.fresh' (Kd.N_lt (by (with_reducible repeat (first | apply Kd.N_alloc | apply Kd.N_drewN | apply Kd.N_drew)); exact HO_3.out)) k_ hn_)), Or.elim hk_ (fun hs_ => hs_.1.1) (fun hn_ => (Kd.fresh' (Kd.N_lt (by (with_reducible repeat (first | apply Kd.N_alloc | apply Kd.N_drewN | apply Kd.N_drew)); exact HO_4.out)) k_ hn_)), Or.elim hk_ (fun hs_ => hs_.1.2.1) (fun hn_ => (Kd.fresh' (Kd.N_lt (by (with_reducible repeat (first | apply Kd.N_alloc | apply Kd.N_drewN | apply Kd.N_drew)); exact HO_6.out)) k_ hn_)), Or.elim hk_ (fun hs_ => hs_.1.2.2) (fun hn_ => (Kd.fresh' (Kd.N_lt (by (with_reducible repeat (first | apply Kd.N_alloc | apply Kd.N_drewN | apply Kd.N_drew)); exact HO_7.out)) k_ hn_))⟩)) (below_size (by repeat (first | (with_reducible first | exact HB.out | apply below_alloc | apply pw_below_drewN | apply below_drew1) | exact HB.out))))
                        have n7_ := Aside0.mk (Kd.C_below (by repeat (first | (with_reducible exact HR373_3.out) | (with_reducible refine Kd.C_alloc ?_ _) | (with_reducible refine Kd.C_drewN ?_ _) | (with_reducible refine Kd.C_drew ?_) | exact HR373_3.out)) hb)
                        have n8_ := Aside0.mk (Kd.C_below (by repeat (first | (with_reducible exact HR380_3.out) | (with_reducible refine Kd.C_alloc ?_ _) | (with_reducible refine Kd.C_drewN ?_ _) | (with_reducible refine Kd.C_drew ?_) | exact HR380_3.out)) hb)
                        have n9_ := Aside0.mk (below_step (by repeat (first | (with_reducible first | exact HB.out | apply below_alloc | apply pw_below_drewN | apply below_drew1) | exact HB.out)) hb)
                        clear HO_3
                        clear HO_4
                        clear HO_6
                        clear HO_7
                        clear HL373_3
                        clear HL380_3
                        clear HR373_3
                        clear HR380_3
                        clear HB
                        have HO_3 := n0_
                        have HO_4 := n1_
                        have HO_6 := n2_
                        have HO_7 := n3_
                        have HL373_3 := n4_
                        have HL380_3 := n5_
                        have HO379 := n6_
                        have HR373_3 := n7_
                        have HR380_3 := n8_
                        have HB := n9_
                        clear n0_ n1_ n2_ n3_ n4_ n5_ n6_ n7_ n8_ n9_
                        (try clear hb)
                        (try clear hb2)
                        (try clear hk)
                        (try clear hi)
                        (try clear ho0)
                        obtain ⟨Ao58, co58, eo58⟩ := Kd.V_slice HO379.out
                        (first | subst eo58 | (injection eo58 with f1_ f2_ f3_; have f4_ := f1_.symm; have f5_ := f3_.symm; clear f1_ f2_ f3_; subst f4_; subst f5_))
                        refine hK.out _ _ ⟨HS0_, HS1_, HS2_, HS3_, HS4_, HS5_, HS6_, HS7_⟩ (fun hHeld => ?_)
                        clear hK K
                        refine norm_ (a' := ?_) ?_ ?_
                        rotate_left
                        · show Act.put _ (some 58) _ = _
                          simp only [Act.put, List.setIfInBounds_toArray, List.set_cons_zero, List.set_cons_succ, i64_w, i32_w]
                          rfl
                        refine one_ (i := 9) (N := some 63) #[true, true, true, true, true, true, true, true, true, true, false, false, false, false, false, false, false, false, false, false, false, false, false, false] rfl rfl (one_of HT_.out (by kernel_rfl)) (by decide) (fun K hK => ?_)
                        refine goes_ Try.func10 (by kernel_rfl) rfl #[.agg #[.int .i64 t374, .int .i64 t375, .int .u64 t376, .slice Ao58 t377.length co58], .agg #[.int .i64 ((rd_T30 t366 x51_2).f0), .int .i64 ((rd_T30 t366 x51_2).f1), .int .u64 ((rd_T30 t366 x51_2).f2), .slice A380_3 ((rd_T30 t366 x51_2).f3).length c380_3]] (by rfl) rfl rfl (by (try simp only [List.map_toArray, List.map_cons, List.map_nil]); first | done | rfl | (simp only [List.length_drop, List.length_take]; rfl)) ?_
                        with_reducible refine (courierref01_Same.calls t374 t375 t376 _ _ t377 ((rd_T30 t366 x51_2).f0) ((rd_T30 t366 x51_2).f1) ((rd_T30 t366 x51_2).f2) _ _ ((rd_T30 t366 x51_2).f3) false _ ?side1 ?side2 ?side3 ?side4 A30.out).mono ?_
                        (case side1 => repeat (first | exact (Kd.V_reads' HO379.out).2.2 | (with_reducible refine Kd.C_alloc ?_ _) | (with_reducible refine Kd.C_drewN ?_ _) | (with_reducible refine Kd.C_drew ?_)))
                        (case side2 => exact (Kd.V_reads' HO379.out).2.1)
                        (case side3 => repeat (first | exact (by repeat (first | (with_reducible exact HR380_3.out) | (with_reducible refine Kd.C_alloc ?_ _) | (with_reducible refine Kd.C_drewN ?_ _) | (with_reducible refine Kd.C_drew ?_) | exact HR380_3.out)) | (with_reducible refine Kd.C_alloc ?_ _) | (with_reducible refine Kd.C_drewN ?_ _) | (with_reducible refine Kd.C_drew ?_)))
                        (case side4 => exact HC380_3.out)
                        rintro e w59 ⟨rfl, hb⟩
                        have HS0_ := (hb.cell (World.block_lt_of_cell? _ _ (hHeld.1))).trans (hHeld.1)
                        have HS1_ := (hb.cell (World.block_lt_of_cell? _ _ (hHeld.2.1))).trans (hHeld.2.1)
                        have HS2_ := (hb.cell (World.block_lt_of_cell? _ _ (hHeld.2.2.1))).trans (hHeld.2.2.1)
                        have HS3_ := (hb.cell (World.block_lt_of_cell? _ _ (hHeld.2.2.2.1))).trans (hHeld.2.2.2.1)
                        have HS4_ := (hb.cell (World.block_lt_of_cell? _ _ (hHeld.2.2.2.2.1))).trans (hHeld.2.2.2.2.1)
                        have HS5_ := (hb.cell (World.block_lt_of_cell? _ _ (hHeld.2.2.2.2.2.1))).trans (hHeld.2.2.2.2.2.1)
                        have HS6_ := (hb.cell (World.block_lt_of_cell? _ _ (hHeld.2.2.2.2.2.2.1))).trans (hHeld.2.2.2.2.2.2.1)
                        have HS7_ := (hb.cell (World.block_lt_of_cell? _ _ (hHeld.2.2.2.2.2.2.2))).trans (hHeld.2.2.2.2.2.2.2)
                        refine ⟨_, rfl, ?_⟩
                        have n0_ := Aside0.mk (Kd.N_below (by (with_reducible repeat (first | apply Kd.N_alloc | apply Kd.N_drewN | apply Kd.N_drew)); exact HO_3.out) hb)
                        have n1_ := Aside0.mk (Kd.N_below (by (with_reducible repeat (first | apply Kd.N_alloc | apply Kd.N_drewN | apply Kd.N_drew)); exact HO_4.out) hb)
                        have n2_ := Aside0.mk (Kd.N_below (by (with_reducible repeat (first | apply Kd.N_alloc | apply Kd.N_drewN | apply Kd.N_drew)); exact HO_6.out) hb)
                        have n3_ := Aside0.mk (Kd.N_below (by (with_reducible repeat (first | apply Kd.N_alloc | apply Kd.N_drewN | apply Kd.N_drew)); exact HO_7.out) hb)
                        have n4_ := Aside0.mk (Kd.V_below (by (with_reducible repeat (first | apply Kd.V_alloc | apply Kd.V_drewN | apply Kd.V_drew)); exact HL373_3.out) hb)
                        have n5_ := Aside0.mk (Kd.V_below (by (with_reducible repeat (first | apply Kd.V_alloc | apply Kd.V_drewN | apply Kd.V_drew)); exact HL380_3.out) hb)
                        have n6_ := Aside0.mk (Kd.V_below (by (with_reducible repeat (first | apply Kd.V_alloc | apply Kd.V_drewN | apply Kd.V_drew)); exact HO379.out) hb)
                        have n7_ := Aside0.mk (Kd.C_below (by repeat (first | (with_reducible exact HR373_3.out) | (with_reducible refine Kd.C_alloc ?_ _) | (with_reducible refine Kd.C_drewN ?_ _) | (with_reducible refine Kd.C_drew ?_) | exact HR373_3.out)) hb)
                        have n8_ := Aside0.mk (Kd.C_below (by repeat (first | (with_reducible exact HR380_3.out) | (with_reducible refine Kd.C_alloc ?_ _) | (with_reducible refine Kd.C_drewN ?_ _) | (with_reducible refine Kd.C_drew ?_) | exact HR380_3.out)) hb)
                        have n9_ := Aside0.mk (below_step (by repeat (first | (with_reducible first | exact HB.out | apply below_alloc | apply pw_below_drewN | apply below_drew1) | exact HB.out)) hb)
                        clear HO_3
                        clear HO_4
                        clear HO_6
                        clear HO_7
                        clear HL373_3
                        clear HL380_3
                        clear HO379
                        clear HR373_3
                        clear HR380_3
                        clear HB
                        have HO_3 := n0_
                        have HO_4 := n1_
                        have HO_6 := n2_
                        have HO_7 := n3_
                        have HL373_3 := n4_
                        have HL380_3 := n5_
                        have HO379 := n6_
                        have HR373_3 := n7_
                        have HR380_3 := n8_
                        have HB := n9_
                        clear n0_ n1_ n2_ n3_ n4_ n5_ n6_ n7_ n8_ n9_
                        (try clear hb)
                        (try clear hb2)
                        (try clear hk)
                        (try clear hi)
                        refine hK.out _ _ ⟨HS0_, HS1_, HS2_, HS3_, HS4_, HS5_, HS6_, HS7_⟩ (fun hHeld => ?_)
                        clear hK K
                        refine norm_ (a' := ?_) ?_ ?_
                        rotate_left
                        · show Act.put _ (some 63) _ = _
                          simp only [Act.put, List.setIfInBounds_toArray, List.set_cons_zero, List.set_cons_succ, i64_w, i32_w]
                          rfl
                        refine pure_ (i := 10) (N := some 64) (v := ?_) (a' := ?_) #[true, true, true, true, true, true, true, true, true, true, true, false, false, false, false, false, false, false, false, false, false, false, false, false] rfl rfl (any_of HT_.out (by kernel_rfl)) (fun _ _ _ h => h) (Or.inl ⟨by rfl, ?_⟩) ?_ ?_
                        rotate_left
                        · intro w'
                          go_simp
                          with_reducible rfl
                        rotate_left
                        · simp only [Act.put, List.setIfInBounds_toArray, List.set_cons_zero, List.set_cons_succ, i64_w, i32_w]
                          rfl
                        refine pure_ (i := 11) (N := some 65) (v := ?_) (a' := ?_) #[true, true, true, true, true, true, true, true, true, true, true, true, false, false, false, false, false, false, false, false, false, false, false, false] rfl rfl (any_of HT_.out (by kernel_rfl)) (fun _ _ _ h => h) (Or.inl ⟨by rfl, ?_⟩) ?_ ?_
                        rotate_left
                        · intro w'
                          go_simp
                          with_reducible rfl
                        rotate_left
                        · simp only [Act.put, List.setIfInBounds_toArray, List.set_cons_zero, List.set_cons_succ, i64_w, i32_w]
                          rfl
                        refine pure_ (i := 12) (N := some 66) (v := undef) (a' := ?_) #[true, true, true, true, true, true, true, true, true, true, true, true, true, false, false, false, false, false, false, false, false, false, false, false] rfl rfl (any_of HT_.out (by kernel_rfl)) (fun _ _ _ h => h) (Or.inr ⟨by rfl, rfl⟩) ?_ ?_
                        rotate_left
                        · simp only [Act.put, List.setIfInBounds_toArray, List.set_cons_zero, List.set_cons_succ, i64_w, i32_w]
                          rfl
                        refine pure_ (i := 13) (N := some 67) (v := undef) (a' := ?_) #[true, true, true, true, true, true, true, true, true, true, true, true, true, true, false, false, false, false, false, false, false, false, false, false] rfl rfl (any_of HT_.out (by kernel_rfl)) (fun _ _ _ h => h) (Or.inr ⟨by rfl, rfl⟩) ?_ ?_
                        rotate_left
                        · simp only [Act.put, List.setIfInBounds_toArray, List.set_cons_zero, List.set_cons_succ, i64_w, i32_w]
                          rfl
                        refine pure_ (i := 14) (N := some 68) (v := undef) (a' := ?_) #[true, true, true, true, true, true, true, true, true, true, true, true, true, true, true, false, false, false, false, false, false, false, false, false] rfl rfl (any_of HT_.out (by kernel_rfl)) (fun _ _ _ h => h) (Or.inr ⟨by rfl, rfl⟩) ?_ ?_
                        rotate_left
                        · simp only [Act.put, List.setIfInBounds_toArray, List.set_cons_zero, List.set_cons_succ, i64_w, i32_w]
                          rfl
                        refine pure_ (i := 15) (N := some 69) (v := undef) (a' := ?_) #[true, true, true, true, true, true, true, true, true, true, true, true, true, true, true, true, false, false, false, false, false, false, false, false] rfl rfl (any_of HT_.out (by kernel_rfl)) (fun _ _ _ h => h) (Or.inr ⟨by rfl, rfl⟩) ?_ ?_
                        rotate_left
                        · simp only [Act.put, List.setIfInBounds_toArray, List.set_cons_zero, List.set_cons_succ, i64_w, i32_w]
                          rfl
                        refine pure_ (i := 16) (N := some 70) (v := undef) (a' := ?_) #[true, true, true, true, true, true, true, true, true, true, true, true, true, true, true, true, true, false, false, false, false, false, false, false] rfl rfl (any_of HT_.out (by kernel_rfl)) (fun _ _ _ h => h) (Or.inr ⟨by rfl, rfl⟩) ?_ ?_
                        rotate_left
                        · simp only [Act.put, List.setIfInBounds_toArray, List.set_cons_zero, List.set_cons_succ, i64_w, i32_w]
                          rfl
                        refine pure_ (i := 17) (N := some 71) (v := undef) (a' := ?_) #[true, true, true, true, true, true, true, true, true, true, true, true, true, true, true, true, true, true, false, false, false, false, false, false] rfl rfl (any_of HT_.out (by kernel_rfl)) (fun _ _ _ h => h) (Or.inr ⟨by rfl, rfl⟩) ?_ ?_
                        rotate_left
                        · simp only [Act.put, List.setIfInBounds_toArray, List.set_cons_zero, List.set_cons_succ, i64_w, i32_w]
                          rfl
                        refine pure_ (i := 18) (N := some 72) (v := undef) (a' := ?_) #[true, true, true, true, true, true, true, true, true, true, true, true, true, true, true, true, true, true, true, false, false, false, false, false] rfl rfl (any_of HT_.out (by kernel_rfl)) (fun _ _ _ h => h) (Or.inr ⟨by rfl, rfl⟩) ?_ ?_
                        rotate_left
                        · simp only [Act.put, List.setIfInBounds_toArray, List.set_cons_zero, List.set_cons_succ, i64_w, i32_w]
                          rfl
                        refine pure_ (i := 19) (N := some 73) (v := undef) (a' := ?_) #[true, true, true, true, true, true, true, true, true, true, true, true, true, true, true, true, true, true, true, true, false, false, false, false] rfl rfl (any_of HT_.out (by kernel_rfl)) (fun _ _ _ h => h) (Or.inr ⟨by rfl, rfl⟩) ?_ ?_
                        rotate_left
                        · simp only [Act.put, List.setIfInBounds_toArray, List.set_cons_zero, List.set_cons_succ, i64_w, i32_w]
                          rfl
                        refine pure_ (i := 20) (N := some 74) (v := undef) (a' := ?_) #[true, true, true, true, true, true, true, true, true, true, true, true, true, true, true, true, true, true, true, true, true, false, false, false] rfl rfl (any_of HT_.out (by kernel_rfl)) (fun _ _ _ h => h) (Or.inr ⟨by rfl, rfl⟩) ?_ ?_
                        rotate_left
                        · simp only [Act.put, List.setIfInBounds_toArray, List.set_cons_zero, List.set_cons_succ, i64_w, i32_w]
                          rfl
                        refine pure_ (i := 21) (N := some 75) (v := undef) (a' := ?_) #[true, true, true, true, true, true, true, true, true, true, true, true, true, true, true, true, true, true, true, true, true, true, false, false] rfl rfl (any_of HT_.out (by kernel_rfl)) (fun _ _ _ h => h) (Or.inr ⟨by rfl, rfl⟩) ?_ ?_
                        rotate_left
                        · simp only [Act.put, List.setIfInBounds_toArray, List.set_cons_zero, List.set_cons_succ, i64_w, i32_w]
                          rfl
                        refine pure_ (i := 22) (N := some 76) (v := undef) (a' := ?_) #[true, true, true, true, true, true, true, true, true, true, true, true, true, true, true, true, true, true, true, true, true, true, true, false] rfl rfl (any_of HT_.out (by kernel_rfl)) (fun _ _ _ h => h) (Or.inr ⟨by rfl, rfl⟩) ?_ ?_
                        rotate_left
                        · simp only [Act.put, List.setIfInBounds_toArray, List.set_cons_zero, List.set_cons_succ, i64_w, i32_w]
                          rfl
                        refine pure_ (i := 23) (N := some 77) (v := ?_) (a' := ?_) #[true, true, true, true, true, true, true, true, true, true, true, true, true, true, true, true, true, true, true, true, true, true, true, true] rfl rfl (any_of HT_.out (by kernel_rfl)) (fun _ _ _ h => h) (Or.inl ⟨by rfl, ?_⟩) ?_ ?_
                        rotate_left
                        · intro w'
                          go_simp
                          with_reducible rfl
                        rotate_left
                        · simp only [Act.put, List.setIfInBounds_toArray, List.set_cons_zero, List.set_cons_succ, i64_w, i32_w]
                          rfl
                        refine done_ (done_of HT_.out (by kernel_rfl)) ?_
                        try go_wp2
                        go_ret
                        exact ⟨by first | rfl | (simp [errW_none, errW_some] <;> rfl) | (simp [*, errW_none, errW_some] <;> rfl), by repeat (first | (with_reducible first | exact HB.out | apply below_alloc | apply pw_below_drewN | apply below_drew1) | exact HB.out)⟩
                    · rw [if_neg c29] at H
                      exact absurd H (by simp)
                  · rw [if_neg c27] at H
                    exact absurd H (by simp)
                · rw [if_neg c26] at H
                  exact absurd H (by simp)
              · rw [if_neg c25] at H
                have c25b0 : decide (x51_2 < (t359.length : Int)) = false := decide_eq_false c25
                clear c25
                by_cases c60 : t365 = 0
                · rw [if_pos c60] at H
                  have c60b0 : (t365 == 0) = true := beq_iff_eq.mpr c60
                  have c60b1 : (t365 != 0) = false := bne_eq_false_iff_eq.mpr c60
                  clear c60
                  obtain rfl := Option.some.inj H
                  have hcv61 := Kd.C_string (P := Try.prog) (A := A0) (c := c0) Try.underlying22 Try.underlying5 Try.underlying9 (Kd.C_below HR0.out HB.out)
                  go_wp2
                  go_ret
                  exact ⟨by first | rfl | (simp [errW_none, errW_some] <;> rfl) | (simp [*, errW_none, errW_some] <;> rfl), by repeat (first | (with_reducible first | exact HB.out | apply below_alloc | apply pw_below_drewN | apply below_drew1) | exact HB.out)⟩
                · rw [if_neg c60] at H
                  have c60b0 : (t365 == 0) = false := beq_eq_false_iff_ne.mpr c60
                  have c60b1 : (t365 != 0) = true := bne_iff_ne.mpr c60
                  obtain rfl := Option.some.inj H
                  go_wp2
                  go_ret
                  exact ⟨by first | rfl | (simp [errW_none, errW_some] <;> rfl) | (simp [*, errW_none, errW_some] <;> rfl), by repeat (first | (with_reducible first | exact HB.out | apply below_alloc | apply pw_below_drewN | apply below_drew1) | exact HB.out)⟩
  · replace c3 := Bool.eq_false_iff.mpr c3
    subst c3
    have H1 : (some false) = some r := by rw [if_neg (show ¬ (false = true) by decide)] at H; exact H
    clear H
    have H := H1
    clear H1
    obtain rfl := Option.some.inj H
    go_enter Try.func5, Try.ntmps5
    go_wp2_with (first | ((with_reducible refine gate_callee (f := 7) rfl ?_); refine goesL_ (some 11) rfl rfl Try.func7 (by kernel_rfl) rfl #[] rfl (by (try simp only [List.map_toArray, List.map_cons, List.map_nil]); first | done | rfl | (simp only [List.length_drop, List.length_take]; rfl)) ?_; (with_reducible refine (courierlaw02_awake.calls  false _ A2.out).mono ?_); rintro e w62 ⟨rfl, hb⟩; refine ⟨_, rfl, ?_⟩; have n0_ := Aside0.mk (below_step (by repeat (first | (with_reducible first | exact HB.out | apply below_alloc | apply pw_below_drewN | apply below_drew1) | exact HB.out)) hb); clear HB; have HB := n0_; clear n0_; (try clear hb); (try clear hb2); (try clear hk); (try clear hi)))
    go_ret
    exact ⟨by first | rfl | (simp [errW_none, errW_some] <;> rfl) | (simp [*, errW_none, errW_some] <;> rfl), by repeat (first | (with_reducible first | exact HB.out | apply below_alloc | apply pw_below_drewN | apply below_drew1) | exact HB.out)⟩

/-- THE ONE PURE STATEMENT of courierlaw02_WireSplits: yours. -/
def courierlaw02_WireSplits.Pure : Prop := ∀ (l0 : List Int), l0.length ≤ maxLen → l0.length * 1 ≤ 140737488351232 → (∀ x ∈ l0, (Lit.int .u8 x).wf = true) → ∃ k, courierlaw02_WireSplits.f k l0 = some true
theorem courierlaw02_WireSplits.walk (P : courierlaw02_WireSplits.Pure) (a0 : Option Addr) (len0 cap0 : Nat) (z0 : List Int) (w : World) (w0 : (a0 = none ∧ len0 = 0 ∧ cap0 = 0 ∧ z0 = []) ∨ ∃ x, a0 = some x ∧ len0 ≤ cap0 ∧ cap0 ≤ maxLen ∧ z0.length = cap0 ∧ (∀ i, i < z0.length → w.cell? (x.add i) = some (.int .u8 (z0.getD i 0))) ∧ ∀ n ∈ z0, (Lit.int .u8 n).wf = true) (y0 : len0 * 1 ≤ 140737488351232) :
    Calls Try.prog 5 #[.slice a0 len0 cap0] w fun e w' => e = .returned (.bool true) ∧ Below w.heap.size w w' := by
  obtain ⟨l0, rfl, hr0, hm0, hw0, hc0⟩ := ReadsInt.ofRowC w0
  obtain ⟨k, h⟩ := P l0 hm0 y0 hw0
  refine (courierlaw02_WireSplits.calls k _ _ l0 true w (Kd.C_of_reads (d := (0 : Int)) (h1 := fun _ => rfl) hr0) hc0 h).mono ?_
  rintro e w' ⟨rfl, hd⟩
  exact ⟨rfl, hd⟩

end Go.Proofs.Ytopmelffmakklaa.X
