/- Plain functions for Go's own, out of the translation's print, and a proof that each call comes to what they tell; no condition but the functions' own answers. -/
import Derived.Test.YtnmdgbfkeghboaaX0
import Derived.Test.YtnmdgbfkeghboaaX7
import Derived.Test.YtnmdgbfkeghboaaX8
import Derived.Test.YtnmdgbfkeghboaaX15
import Derived.Test.YtnmdgbfkeghboaaX16
import Derived.Test.YtnmdgbfkeghboaaX19
namespace Go.Proofs.Ytnmdgbfkeghboaa.X
open Go.RowKit Go.Proofs.YtnmdgbfkeghboaaW.PrintWords Go.Proofs.YtnmdgbfkeghboaaW.PrintLast Go.Proofs.YtnmdgbfkeghboaaW.PrintMore
attribute [local go_sem] max2_int min2_int max_two min_two max_three min_three max_four min_four   -- for this text's walks alone
set_option linter.unusedVariables false
set_option linter.unusedSimpArgs false

/-! ### courierlaw01_VarintFixed: function 8 -/
def courierlaw01_VarintFixed.j0 : Nat → List Int → Int → Int → List Int → List Int → Bool → Option (Bool)
  | 0, _, _, _, _, _, _ => none
  | k + 1, x0, x1, x2, x7, x8, x43 => if x43 = true then (some false) else (if 0 ≤ (x0.length : Int) then (if (x0.length : Int) ≤ (x7.length : Int) then ((varint_Take32.f (x7.drop ((x0.length : Int) : Int).toNat)).bind fun bt207 => (if (x0.length : Int) ≤ (x8.length : Int) then ((varint_Take64.f (x8.drop ((x0.length : Int) : Int).toNat)).bind fun bt213 => (if bt207.1 = x1 then (if bt213.1 = x2 then (if bt207.2 = 0 then (some (bt213.2 == 0)) else (some false)) else (some false)) else (some false))) else (none))) else (none)) else (none))
def courierlaw01_VarintFixed.f (k : Nat) (l0 : List Int) (a1 : Int) (a2 : Int) : Option (Bool) := (varint_Append32.f l0 a1).bind fun t191 => ((varint_Append64.f l0 a2).bind fun t194 => ((courierref01_Low.f k (IntKind.u64.wrap (a1)) 4).bind fun t197 => (if (strOfNums l0).size + (strOfNums t197).size ≤ 9223372036854775807 then ((courierref01_Low.f k a2 8).bind fun t200 => (if (strOfNums l0).size + (strOfNums t200).size ≤ 9223372036854775807 then (if (strOfNums t191).toList = ((strOfNums l0) ++ (strOfNums t197)).toList then (courierlaw01_VarintFixed.j0 k l0 a1 a2 t191 t194 ((strOfNums t194).toList != ((strOfNums l0) ++ (strOfNums t200)).toList)) else (courierlaw01_VarintFixed.j0 k l0 a1 a2 t191 t194 true)) else (none))) else (none))))
theorem courierlaw01_VarintFixed.mono_l : ∀ k, (∀ y0 y1 y2 y3 y4 y5, LeO (courierlaw01_VarintFixed.j0 k y0 y1 y2 y3 y4 y5) (courierlaw01_VarintFixed.j0 (k + 1) y0 y1 y2 y3 y4 y5))
  | 0 => fun _ _ _ _ _ _ r h => by simp [courierlaw01_VarintFixed.j0] at h
  | k + 1 => by
    have ih0 := courierlaw01_VarintFixed.mono_l k
    · intro y0 y1 y2 y3 y4 y5
      unfold courierlaw01_VarintFixed.j0
      repeat' first
      | (with_reducible exact ih0 _ _ _ _ _ _)
      | (with_reducible exact courierref01_Low.mono _ _ _)
      | (with_reducible exact LeO.refl _)
      | (with_reducible exact LeO.none _)
      | (with_reducible refine LeO.ite ?_ ?_)
      | (with_reducible refine LeO.bind ?_ (fun _ => ?_))
      | exact ih0 _ _ _ _ _ _
      | exact courierref01_Low.mono _ _ _
      | exact LeO.none _
      | refine LeO.ite ?_ ?_
      | refine LeO.bind ?_ (fun _ => ?_)
theorem courierlaw01_VarintFixed.mono : ∀ a0 a1 a2 k, LeO (courierlaw01_VarintFixed.f k a0 a1 a2) (courierlaw01_VarintFixed.f (k + 1) a0 a1 a2) := by
  intro a0 a1 a2 k
  have ih0 := courierlaw01_VarintFixed.mono_l k
  unfold courierlaw01_VarintFixed.f
  repeat' first
      | (with_reducible exact ih0 _ _ _ _ _ _)
      | (with_reducible exact courierref01_Low.mono _ _ _)
      | (with_reducible exact LeO.refl _)
      | (with_reducible exact LeO.none _)
      | (with_reducible refine LeO.ite ?_ ?_)
      | (with_reducible refine LeO.bind ?_ (fun _ => ?_))
      | exact ih0 _ _ _ _ _ _
      | exact courierref01_Low.mono _ _ _
      | exact LeO.none _
      | refine LeO.ite ?_ ?_
      | refine LeO.bind ?_ (fun _ => ?_)
def courierlaw01_VarintFixed.T2 : Bool × List (List Nat × List Nat) := (true, [([], []), ([0], [0]), ([], []), ([2], [2]), ([3], [3]), ([4], [4]), ([1, 5], [1, 5]), ([6, 4, 0, 1, 2, 3, 4, 5, 6], [6])])
def courierlaw01_VarintFixed.B2 : List Nat := [0, 1, 0, 4, 12, 28, 63, 127]
theorem courierlaw01_VarintFixed.tab2 : rtab .any (opsOf Try.f8 2) = courierlaw01_VarintFixed.T2 := by kernel_rfl
theorem courierlaw01_VarintFixed.bits2 : waitsOk courierlaw01_VarintFixed.T2.2 courierlaw01_VarintFixed.B2 = true := by kernel_rfl
set_option maxHeartbeats 8000000 in
set_option maxRecDepth 100000 in
theorem courierlaw01_VarintFixed.calls (k : Nat) (A0 : Option Addr) (c0 : Nat) (l0 : List Int) (a1 : Int) (a2 : Int) (r : Bool) (w : World) (hr0 : Kd.C (Kd.int .u8) w A0 l0.length l0) (hc0 : l0.length ≤ c0) (h : courierlaw01_VarintFixed.f k l0 a1 a2 = some r) :
    Calls Try.prog 8 #[.slice A0 l0.length c0, .int .u32 a1, .int .u64 a2] w fun e w' => e = .returned (.bool r) ∧ Below w.heap.size w w' := by
  have HR0 := Aside0.mk hr0
  have HC0 := Aside0.mk hc0
  clear hr0 hc0
  have HB := Aside0.mk (Below.refl w.heap.size w)
  have H : ((varint_Append32.f l0 a1).bind fun t191 => ((varint_Append64.f l0 a2).bind fun t194 => ((courierref01_Low.f k (IntKind.u64.wrap (a1)) 4).bind fun t197 => (if (strOfNums l0).size + (strOfNums t197).size ≤ 9223372036854775807 then ((courierref01_Low.f k a2 8).bind fun t200 => (if (strOfNums l0).size + (strOfNums t200).size ≤ 9223372036854775807 then (if (strOfNums t191).toList = ((strOfNums l0) ++ (strOfNums t197)).toList then (courierlaw01_VarintFixed.j0 k l0 a1 a2 t191 t194 ((strOfNums t194).toList != ((strOfNums l0) ++ (strOfNums t200)).toList)) else (courierlaw01_VarintFixed.j0 k l0 a1 a2 t191 t194 true)) else (none))) else (none))))) = some r := h
  clear h
  replace H := Option.bind_eq_some_iff.mp H
  obtain ⟨t191, A40, H⟩ := H
  replace H : ((varint_Append64.f l0 a2).bind fun t194 => ((courierref01_Low.f k (IntKind.u64.wrap (a1)) 4).bind fun t197 => (if (strOfNums l0).size + (strOfNums t197).size ≤ 9223372036854775807 then ((courierref01_Low.f k a2 8).bind fun t200 => (if (strOfNums l0).size + (strOfNums t200).size ≤ 9223372036854775807 then (if (strOfNums t191).toList = ((strOfNums l0) ++ (strOfNums t197)).toList then (courierlaw01_VarintFixed.j0 k l0 a1 a2 t191 t194 ((strOfNums t194).toList != ((strOfNums l0) ++ (strOfNums t200)).toList)) else (courierlaw01_VarintFixed.j0 k l0 a1 a2 t191 t194 true)) else (none))) else (none)))) = some r := H
  have A4 := Aside0.mk A40
  clear A40
  replace H := Option.bind_eq_some_iff.mp H
  obtain ⟨t194, A50, H⟩ := H
  replace H : ((courierref01_Low.f k (IntKind.u64.wrap (a1)) 4).bind fun t197 => (if (strOfNums l0).size + (strOfNums t197).size ≤ 9223372036854775807 then ((courierref01_Low.f k a2 8).bind fun t200 => (if (strOfNums l0).size + (strOfNums t200).size ≤ 9223372036854775807 then (if (strOfNums t191).toList = ((strOfNums l0) ++ (strOfNums t197)).toList then (courierlaw01_VarintFixed.j0 k l0 a1 a2 t191 t194 ((strOfNums t194).toList != ((strOfNums l0) ++ (strOfNums t200)).toList)) else (courierlaw01_VarintFixed.j0 k l0 a1 a2 t191 t194 true)) else (none))) else (none))) = some r := H
  have A5 := Aside0.mk A50
  clear A50
  replace H := Option.bind_eq_some_iff.mp H
  obtain ⟨t197, A60, H⟩ := H
  replace H : (if (strOfNums l0).size + (strOfNums t197).size ≤ 9223372036854775807 then ((courierref01_Low.f k a2 8).bind fun t200 => (if (strOfNums l0).size + (strOfNums t200).size ≤ 9223372036854775807 then (if (strOfNums t191).toList = ((strOfNums l0) ++ (strOfNums t197)).toList then (courierlaw01_VarintFixed.j0 k l0 a1 a2 t191 t194 ((strOfNums t194).toList != ((strOfNums l0) ++ (strOfNums t200)).toList)) else (courierlaw01_VarintFixed.j0 k l0 a1 a2 t191 t194 true)) else (none))) else (none)) = some r := H
  have A6 := Aside0.mk A60
  clear A60
  by_cases c7 : (strOfNums l0).size + (strOfNums t197).size ≤ 9223372036854775807
  · rw [if_pos c7] at H
    have c7b0 := eq_true c7
    have c7b1 : decide ((strOfNums l0).size + (strOfNums t197).size ≤ 9223372036854775807) = true := decide_eq_true c7
    try have c7b2 : (9223372036854775807 < (strOfNums l0).size + (strOfNums t197).size) = False := eq_false (Nat.not_lt.2 c7)
    replace H := Option.bind_eq_some_iff.mp H
    obtain ⟨t200, A80, H⟩ := H
    replace H : (if (strOfNums l0).size + (strOfNums t200).size ≤ 9223372036854775807 then (if (strOfNums t191).toList = ((strOfNums l0) ++ (strOfNums t197)).toList then (courierlaw01_VarintFixed.j0 k l0 a1 a2 t191 t194 ((strOfNums t194).toList != ((strOfNums l0) ++ (strOfNums t200)).toList)) else (courierlaw01_VarintFixed.j0 k l0 a1 a2 t191 t194 true)) else (none)) = some r := H
    have A8 := Aside0.mk A80
    clear A80
    by_cases c9 : (strOfNums l0).size + (strOfNums t200).size ≤ 9223372036854775807
    · rw [if_pos c9] at H
      have c9b0 := eq_true c9
      have c9b1 : decide ((strOfNums l0).size + (strOfNums t200).size ≤ 9223372036854775807) = true := decide_eq_true c9
      try have c9b2 : (9223372036854775807 < (strOfNums l0).size + (strOfNums t200).size) = False := eq_false (Nat.not_lt.2 c9)
      have HC10 := Aside0.mk H
      clear H
      go_enter Try.func8, Try.ntmps8
      try go_wp2_with (first | ((with_reducible refine gate_callee (f := 20) rfl ?_); refine goesL_ (some 17) rfl rfl Try.func20 (by kernel_rfl) rfl #[.slice A0 l0.length c0, .int .u32 a1] rfl (by (try simp only [List.map_toArray, List.map_cons, List.map_nil]); first | done | rfl | (simp only [List.length_drop, List.length_take]; rfl)) ?_; (with_reducible refine (varint_Append32.calls _ _ l0 a1 t191 _ ?side1 ?side2 A4.out).mono ?_); (case side1 => repeat (first | exact HR0.out | (with_reducible refine Kd.C_alloc ?_ _) | (with_reducible refine Kd.C_drewN ?_ _) | (with_reducible refine Kd.C_drew ?_))); (case side2 => exact HC0.out); rintro e w11 ⟨v192, rfl, ho0, hb⟩; refine ⟨_, rfl, ?_⟩; have n0_ := Aside0.mk (Kd.R_lower ho0 (below_size (by repeat (first | (with_reducible first | exact HB.out | apply below_alloc | apply pw_below_drewN | apply below_drew1) | exact HB.out)))); have n1_ := Aside0.mk (below_step (by repeat (first | (with_reducible first | exact HB.out | apply below_alloc | apply pw_below_drewN | apply below_drew1) | exact HB.out)) hb); clear HB; have HO193 := n0_; have HB := n1_; clear n0_ n1_; (try clear hb); (try clear hb2); (try clear hk); (try clear hi); (try clear ho0)) | ((with_reducible refine gate_callee (f := 21) rfl ?_); refine goesL_ (some 20) rfl rfl Try.func21 (by kernel_rfl) rfl #[.slice A0 l0.length c0, .int .u64 a2] rfl (by (try simp only [List.map_toArray, List.map_cons, List.map_nil]); first | done | rfl | (simp only [List.length_drop, List.length_take]; rfl)) ?_; (with_reducible refine (varint_Append64.calls _ _ l0 a2 t194 _ ?side1 ?side2 A5.out).mono ?_); (case side1 => repeat (first | exact (Kd.C_below HR0.out HB.out) | (with_reducible refine Kd.C_alloc ?_ _) | (with_reducible refine Kd.C_drewN ?_ _) | (with_reducible refine Kd.C_drew ?_))); (case side2 => exact HC0.out); rintro e w12 ⟨v195, rfl, ho0, hb⟩; refine ⟨_, rfl, ?_⟩; have n0_ := Aside0.mk (Kd.R_elder' (by (with_reducible repeat (first | apply Kd.R_alloc | apply Kd.R_drewN | apply Kd.R_drew)); exact HO193.out) (Kd.R_base ho0) hb); have n1_ := Aside0.mk (Kd.R_lower (Kd.R_new' ho0 (Kd.R_lt (by (with_reducible repeat (first | apply Kd.R_alloc | apply Kd.R_drewN | apply Kd.R_drew)); exact HO193.out))) (below_size (by repeat (first | (with_reducible first | exact HB.out | apply below_alloc | apply pw_below_drewN | apply below_drew1) | exact HB.out)))); have n2_ := Aside0.mk (below_step (by repeat (first | (with_reducible first | exact HB.out | apply below_alloc | apply pw_below_drewN | apply below_drew1) | exact HB.out)) hb); clear HO193; clear HB; have HO193 := n0_; have HO196 := n1_; have HB := n2_; clear n0_ n1_ n2_; (try clear hb); (try clear hb2); (try clear hk); (try clear hi); (try clear ho0)))
      have n0_ := Aside0.mk (Kd.R_drew HO193.out)
      have n1_ := Aside0.mk (Kd.R_drew HO196.out)
      have n2_ := Aside0.mk (below_drew1 HB.out)
      clear HO193
      clear HO196
      clear HB
      have HO193 := n0_
      have HO196 := n1_
      have HB := n2_
      clear n0_ n1_ n2_
      refine start_ (n := 8) (S := fun w' => (convert 26 9 (.slice A0 l0.length c0)).run Try.prog w' = .ok (.string (strOfNums l0)) w') (ds := []) #[false, false, false, false, false, false, false, false] (by kernel_rfl) rfl rfl (Kd.C_string (P := Try.prog) (A := A0) (c := c0) Try.underlying26 Try.underlying5 Try.underlying9 (Kd.C_below HR0.out HB.out)) (fun hHeld => ?_); refine with_tabW courierlaw01_VarintFixed.tab2 courierlaw01_VarintFixed.bits2 (fun HT_ HW_ => ?_)
      generalize w12.drew = w13 at HO193 HO196 HB hHeld ⊢
      refine pure_ (i := 0) (N := some 21) (v := ?_) (a' := ?_) #[true, false, false, false, false, false, false, false] rfl rfl (any_of HT_.out (by kernel_rfl)) (fun _ _ _ h => h) (Or.inl ⟨by rfl, ?_⟩) ?_ ?_
      rotate_left
      · intro w'
        go_simp
        with_reducible rfl
      rotate_left
      · simp only [Act.put, List.setIfInBounds_toArray, List.set_cons_zero, List.set_cons_succ, i64_w, i32_w]
        rfl
      refine pure_ (i := 2) (N := some 23) (v := ?_) (a' := ?_) #[true, false, true, false, false, false, false, false] rfl rfl (any_of HT_.out (by kernel_rfl)) (fun _ _ _ h => h) (Or.inl ⟨by rfl, ?_⟩) ?_ ?_
      rotate_left
      · intro w'
        go_simp
        with_reducible rfl
      rotate_left
      · simp only [Act.put, List.setIfInBounds_toArray, List.set_cons_zero, List.set_cons_succ, i64_w, i32_w]
        rfl
      refine pure_ (i := 3) (N := some 24) (v := ?_) (a' := ?_) #[true, false, true, true, false, false, false, false] rfl rfl (any_of HT_.out (by kernel_rfl)) (fun _ _ _ h => h) (Or.inl ⟨by rfl, ?_⟩) ?_ ?_
      rotate_left
      · intro w'
        go_simp
        with_reducible rfl
      rotate_left
      · simp only [Act.put, List.setIfInBounds_toArray, List.set_cons_zero, List.set_cons_succ, i64_w, i32_w]
        rfl
      refine take_ (i := 1) (N := some 22) (v := ?_) (a' := ?_) #[true, true, true, true, false, false, false, false] rfl rfl (take_ofW HT_.out HW_.out (by kernel_rfl)) (fun _ _ _ h => h) (Or.inl ⟨by rfl, ?_⟩) hHeld ?_ ?_
      rotate_left
      · intro w' s0
        go_simp
        with_reducible rfl
      rotate_left
      · simp only [Act.put, List.setIfInBounds_toArray, List.set_cons_zero, List.set_cons_succ, i64_w, i32_w]
        rfl
      refine one_ (i := 4) (N := some 25) #[true, true, true, true, true, false, false, false] rfl rfl (one_of HT_.out (by kernel_rfl)) (by decide) (fun K hK => ?_)
      refine goes_ Try.func28 (by kernel_rfl) rfl #[.int .u64 (IntKind.u64.wrap (a1)), .int .i64 4] (by rfl) rfl rfl (by (try simp only [List.map_toArray, List.map_cons, List.map_nil]); first | done | rfl | (simp only [List.length_drop, List.length_take]; rfl)) ?_
      with_reducible refine (courierref01_Low.calls k (IntKind.u64.wrap (a1)) 4 t197 _ A6.out).mono ?_
      rintro e w15 ⟨v198, rfl, ho0, hb⟩
      refine ⟨_, rfl, ?_⟩
      have n0_ := Aside0.mk (Kd.R_elder' (by (with_reducible repeat (first | apply Kd.R_alloc | apply Kd.R_drewN | apply Kd.R_drew)); exact HO193.out) (Kd.R_base ho0) hb)
      have n1_ := Aside0.mk (Kd.R_elder' (by (with_reducible repeat (first | apply Kd.R_alloc | apply Kd.R_drewN | apply Kd.R_drew)); exact HO196.out) (Kd.R_base ho0) hb)
      have n2_ := Aside0.mk (Kd.R_lower (Kd.R_new' (Kd.R_new' ho0 (Kd.R_lt (by (with_reducible repeat (first | apply Kd.R_alloc | apply Kd.R_drewN | apply Kd.R_drew)); exact HO193.out))) (Kd.R_lt (by (with_reducible repeat (first | apply Kd.R_alloc | apply Kd.R_drewN | apply Kd.R_drew)); exact HO196.out))) (below_size (by repeat (first | (with_reducible first | exact HB.out | apply below_alloc | apply pw_below_drewN | apply below_drew1) | exact HB.out))))
      have n3_ := Aside0.mk (below_step (by repeat (first | (with_reducible first | exact HB.out | apply below_alloc | apply pw_below_drewN | apply below_drew1) | exact HB.out)) hb)
      clear HO193
      clear HO196
      clear HB
      have HO193 := n0_
      have HO196 := n1_
      have HO199 := n2_
      have HB := n3_
      clear n0_ n1_ n2_ n3_
      (try clear hb)
      (try clear hb2)
      (try clear hk)
      (try clear hi)
      (try clear ho0)
      refine hK.out _ _ (Kd.C_string (P := Try.prog) (A := A0) (c := c0) Try.underlying26 Try.underlying5 Try.underlying9 (Kd.C_below HR0.out HB.out)) (fun hHeld => ?_)
      clear hK K
      refine norm_ (a' := ?_) ?_ ?_
      rotate_left
      · show Act.put _ (some 25) _ = _
        simp only [Act.put, List.setIfInBounds_toArray, List.set_cons_zero, List.set_cons_succ, i64_w, i32_w]
        rfl
      refine one_ (i := 5) (N := some 26) #[true, true, true, true, true, true, false, false] rfl rfl (one_of HT_.out (by kernel_rfl)) (by decide) (fun K hK => ?_)
      have hcv16 := own_string (P := Try.prog) Try.underlying26 Try.underlying5 Try.underlying9 (Kd.own_of_R HO199.out)
      refine value_ (w1 := ?_) (v := ?_) (by rfl) rfl ?_ ?_
      rotate_left 2
      · go_simp
        constructor
        · rfl
        · rfl
      clear hcv16
      refine hK.out _ _ (Kd.C_string (P := Try.prog) (A := A0) (c := c0) Try.underlying26 Try.underlying5 Try.underlying9 (Kd.C_below HR0.out HB.out)) (fun hHeld => ?_)
      clear hK K
      refine norm_ (a' := ?_) ?_ ?_
      rotate_left
      · show Act.put _ (some 26) _ = _
        simp only [Act.put, List.setIfInBounds_toArray, List.set_cons_zero, List.set_cons_succ, i64_w, i32_w]
        rfl
      refine pure_ (i := 6) (N := some 27) (v := ?_) (a' := ?_) #[true, true, true, true, true, true, true, false] rfl rfl (any_of HT_.out (by kernel_rfl)) (fun _ _ _ h => h) (Or.inl ⟨by rfl, ?_⟩) ?_ ?_
      rotate_left
      · intro w'
        go_simp
        with_reducible rfl
      rotate_left
      · simp only [Act.put, List.setIfInBounds_toArray, List.set_cons_zero, List.set_cons_succ, i64_w, i32_w]
        rfl
      refine pure_ (i := 7) (N := some 9) (v := ?_) (a' := ?_) #[true, true, true, true, true, true, true, true] rfl rfl (any_of HT_.out (by kernel_rfl)) (fun _ _ _ h => h) (Or.inl ⟨by rfl, ?_⟩) ?_ ?_
      rotate_left
      · intro w'
        go_simp
        with_reducible rfl
      rotate_left
      · simp only [Act.put, List.setIfInBounds_toArray, List.set_cons_zero, List.set_cons_succ, i64_w, i32_w]
        rfl
      refine done_ (done_of HT_.out (by kernel_rfl)) ?_
      try go_wp2
      have n0_ := Aside0.mk (Kd.R_drew HO193.out)
      have n1_ := Aside0.mk (Kd.R_drew HO196.out)
      have n2_ := Aside0.mk (Kd.R_drew HO199.out)
      have n3_ := Aside0.mk (below_drew1 HB.out)
      clear HO193
      clear HO196
      clear HO199
      clear HB
      have HO193 := n0_
      have HO196 := n1_
      have HO199 := n2_
      have HB := n3_
      clear n0_ n1_ n2_ n3_
      refine start_ (n := 7) (S := fun w' => (convert 26 9 (.slice A0 l0.length c0)).run Try.prog w' = .ok (.string (strOfNums l0)) w') (ds := []) #[false, false, false, false, false, false, false] (by kernel_rfl) rfl rfl (Kd.C_string (P := Try.prog) (A := A0) (c := c0) Try.underlying26 Try.underlying5 Try.underlying9 (Kd.C_below HR0.out HB.out)) (fun hHeld => ?_)
      generalize w15.drew = w17 at HO193 HO196 HO199 HB hHeld ⊢
      refine pure_ (i := 0) (N := some 28) (v := ?_) (a' := ?_) #[true, false, false, false, false, false, false] rfl rfl (by kernel_rfl) (fun _ _ _ h => h) (Or.inl ⟨by rfl, ?_⟩) ?_ ?_
      rotate_left
      · intro w'
        go_simp
        with_reducible rfl
      rotate_left
      · simp only [Act.put, List.setIfInBounds_toArray, List.set_cons_zero, List.set_cons_succ, i64_w, i32_w]
        rfl
      refine pure_ (i := 2) (N := some 30) (v := ?_) (a' := ?_) #[true, false, true, false, false, false, false] rfl rfl (by kernel_rfl) (fun _ _ _ h => h) (Or.inl ⟨by rfl, ?_⟩) ?_ ?_
      rotate_left
      · intro w'
        go_simp
        with_reducible rfl
      rotate_left
      · simp only [Act.put, List.setIfInBounds_toArray, List.set_cons_zero, List.set_cons_succ, i64_w, i32_w]
        rfl
      refine take_ (i := 1) (N := some 29) (v := ?_) (a' := ?_) #[true, true, true, false, false, false, false] rfl rfl (by kernel_rfl) (fun _ _ _ h => h) (Or.inl ⟨by rfl, ?_⟩) hHeld ?_ ?_
      rotate_left
      · intro w' s0
        go_simp
        with_reducible rfl
      rotate_left
      · simp only [Act.put, List.setIfInBounds_toArray, List.set_cons_zero, List.set_cons_succ, i64_w, i32_w]
        rfl
      refine one_ (i := 3) (N := some 31) #[true, true, true, true, false, false, false] rfl rfl (by kernel_rfl) (by decide) (fun K hK => ?_)
      refine goes_ Try.func28 (by kernel_rfl) rfl #[.int .u64 a2, .int .i64 8] (by rfl) rfl rfl (by (try simp only [List.map_toArray, List.map_cons, List.map_nil]); first | done | rfl | (simp only [List.length_drop, List.length_take]; rfl)) ?_
      with_reducible refine (courierref01_Low.calls k a2 8 t200 _ A8.out).mono ?_
      rintro e w19 ⟨v201, rfl, ho0, hb⟩
      refine ⟨_, rfl, ?_⟩
      have n0_ := Aside0.mk (Kd.R_elder' (by (with_reducible repeat (first | apply Kd.R_alloc | apply Kd.R_drewN | apply Kd.R_drew)); exact HO193.out) (Kd.R_base ho0) hb)
      have n1_ := Aside0.mk (Kd.R_elder' (by (with_reducible repeat (first | apply Kd.R_alloc | apply Kd.R_drewN | apply Kd.R_drew)); exact HO196.out) (Kd.R_base ho0) hb)
      have n2_ := Aside0.mk (Kd.R_elder' (by (with_reducible repeat (first | apply Kd.R_alloc | apply Kd.R_drewN | apply Kd.R_drew)); exact HO199.out) (Kd.R_base ho0) hb)
      have n3_ := Aside0.mk (Kd.R_lower (Kd.R_new' (Kd.R_new' (Kd.R_new' ho0 (Kd.R_lt (by (with_reducible repeat (first | apply Kd.R_alloc | apply Kd.R_drewN | apply Kd.R_drew)); exact HO193.out))) (Kd.R_lt (by (with_reducible repeat (first | apply Kd.R_alloc | apply Kd.R_drewN | apply Kd.R_drew)); exact HO196.out))) (Kd.R_lt (by (with_reducible repeat (first | apply Kd.R_alloc | apply Kd.R_drewN | apply Kd.R_drew)); exact HO199.out))) (below_size (by repeat (first | (with_reducible first | exact HB.out | apply below_alloc | apply pw_below_drewN | apply below_drew1) | exact HB.out))))
      have n4_ := Aside0.mk (below_step (by repeat (first | (with_reducible first | exact HB.out | apply below_alloc | apply pw_below_drewN | apply below_drew1) | exact HB.out)) hb)
      clear HO193
      clear HO196
      clear HO199
      clear HB
      have HO193 := n0_
      have HO196 := n1_
      have HO199 := n2_
      have HO202 := n3_
      have HB := n4_
      clear n0_ n1_ n2_ n3_ n4_
      (try clear hb)
      (try clear hb2)
      (try clear hk)
      (try clear hi)
      (try clear ho0)
      refine hK.out _ _ (Kd.C_string (P := Try.prog) (A := A0) (c := c0) Try.underlying26 Try.underlying5 Try.underlying9 (Kd.C_below HR0.out HB.out)) (fun hHeld => ?_)
      clear hK K
      refine norm_ (a' := ?_) ?_ ?_
      rotate_left
      · show Act.put _ (some 31) _ = _
        simp only [Act.put, List.setIfInBounds_toArray, List.set_cons_zero, List.set_cons_succ, i64_w, i32_w]
        rfl
      refine one_ (i := 4) (N := some 32) #[true, true, true, true, true, false, false] rfl rfl (by kernel_rfl) (by decide) (fun K hK => ?_)
      have hcv20 := own_string (P := Try.prog) Try.underlying26 Try.underlying5 Try.underlying9 (Kd.own_of_R HO202.out)
      refine value_ (w1 := ?_) (v := ?_) (by rfl) rfl ?_ ?_
      rotate_left 2
      · go_simp
        constructor
        · rfl
        · rfl
      clear hcv20
      refine hK.out _ _ (Kd.C_string (P := Try.prog) (A := A0) (c := c0) Try.underlying26 Try.underlying5 Try.underlying9 (Kd.C_below HR0.out HB.out)) (fun hHeld => ?_)
      clear hK K
      refine norm_ (a' := ?_) ?_ ?_
      rotate_left
      · show Act.put _ (some 32) _ = _
        simp only [Act.put, List.setIfInBounds_toArray, List.set_cons_zero, List.set_cons_succ, i64_w, i32_w]
        rfl
      refine pure_ (i := 5) (N := some 33) (v := ?_) (a' := ?_) #[true, true, true, true, true, true, false] rfl rfl (by kernel_rfl) (fun _ _ _ h => h) (Or.inl ⟨by rfl, ?_⟩) ?_ ?_
      rotate_left
      · intro w'
        go_simp
        with_reducible rfl
      rotate_left
      · simp only [Act.put, List.setIfInBounds_toArray, List.set_cons_zero, List.set_cons_succ, i64_w, i32_w]
        rfl
      refine pure_ (i := 6) (N := some 10) (v := ?_) (a' := ?_) #[true, true, true, true, true, true, true] rfl rfl (by kernel_rfl) (fun _ _ _ h => h) (Or.inl ⟨by rfl, ?_⟩) ?_ ?_
      rotate_left
      · intro w'
        go_simp
        with_reducible rfl
      rotate_left
      · simp only [Act.put, List.setIfInBounds_toArray, List.set_cons_zero, List.set_cons_succ, i64_w, i32_w]
        rfl
      refine done_ (by kernel_rfl) ?_
      go_upto_region 4 with (fail)
      go_cut [43] (fun v43 wc => ∃ (kq : Nat) (x43_9 : Bool), v43 = .bool x43_9 ∧ Aside0 (courierlaw01_VarintFixed.j0 kq l0 a1 a2 t191 t194 x43_9 = some r) ∧ Aside0 (kq ≤ k) ∧ Aside0 (Kd.R (Kd.int .u8) 5 wc w.heap.size (fun k_ => some k_ ≠ (v195 : Value).ownBlock) v192 t191) ∧ Aside0 (Kd.R (Kd.int .u8) 5 wc w.heap.size (fun k_ => some k_ ≠ (v192 : Value).ownBlock) v195 t194) ∧ Aside0 (Below w.heap.size w wc))
      case first =>
        have H := HC10.out
        clear HC10
        by_cases c21 : (strOfNums t191).toList = ((strOfNums l0) ++ (strOfNums t197)).toList
        · rw [if_pos c21] at H
          have c21b0 : ((strOfNums t191).toList == ((strOfNums l0) ++ (strOfNums t197)).toList) = true := beq_iff_eq.mpr c21
          have c21b1 : ((strOfNums t191).toList != ((strOfNums l0) ++ (strOfNums t197)).toList) = false := bne_eq_false_iff_eq.mpr c21
          clear c21
          (first | rw [c21b0] | (simp only [i64_w, i32_w]; rw [c21b0]) | skip)
          have H' := Aside0.mk H
          clear H
          have hcv22 := own_string (P := Try.prog) Try.underlying26 Try.underlying5 Try.underlying9 (Kd.own_of_R HO193.out)
          have hcv23 := own_string (P := Try.prog) Try.underlying26 Try.underlying5 Try.underlying9 (Kd.own_of_R HO196.out)
          go_wp2
          go_meet
          case rel => exact ⟨_, (((strOfNums t194).toList != ((strOfNums l0) ++ (strOfNums t200)).toList)), (by first | rfl | (simp; done) | (simp [*]; done)), H', ⟨by first | omega | exact Nat.le_refl _⟩, ⟨by (with_reducible repeat (first | apply Kd.R_alloc | apply Kd.R_drewN | apply Kd.R_drew)); exact Kd.R_mono HO193.out (fun _ hk => hk.1.1.2)⟩, ⟨by (with_reducible repeat (first | apply Kd.R_alloc | apply Kd.R_drewN | apply Kd.R_drew)); exact Kd.R_mono HO196.out (fun _ hk => hk.1.1.2)⟩, ⟨by repeat (first | (with_reducible first | exact HB.out | apply below_alloc | apply pw_below_drewN | apply below_drew1) | exact HB.out)⟩⟩
        · rw [if_neg c21] at H
          have c21b0 : ((strOfNums t191).toList == ((strOfNums l0) ++ (strOfNums t197)).toList) = false := beq_eq_false_iff_ne.mpr c21
          have c21b1 : ((strOfNums t191).toList != ((strOfNums l0) ++ (strOfNums t197)).toList) = true := bne_iff_ne.mpr c21
          (first | rw [c21b0] | (simp only [i64_w, i32_w]; rw [c21b0]) | skip)
          have H' := Aside0.mk H
          clear H
          have hcv24 := own_string (P := Try.prog) Try.underlying26 Try.underlying5 Try.underlying9 (Kd.own_of_R HO193.out)
          go_wp2
          go_meet
          case rel => exact ⟨_, (true), (by first | rfl | (simp; done) | (simp [*]; done)), H', ⟨by first | omega | exact Nat.le_refl _⟩, ⟨by (with_reducible repeat (first | apply Kd.R_alloc | apply Kd.R_drewN | apply Kd.R_drew)); exact Kd.R_mono HO193.out (fun _ hk => hk.1.1.2)⟩, ⟨by (with_reducible repeat (first | apply Kd.R_alloc | apply Kd.R_drewN | apply Kd.R_drew)); exact Kd.R_mono HO196.out (fun _ hk => hk.1.1.2)⟩, ⟨by repeat (first | (with_reducible first | exact HB.out | apply below_alloc | apply pw_below_drewN | apply below_drew1) | exact HB.out)⟩⟩
      case rest =>
        clear HC10
        try clear hcv1
        try clear c2
        try clear p2
        try clear hcv2
        try clear c7
        try clear c7b0
        try clear c7b1
        try clear c7b2
        try clear c8
        try clear c9
        try clear c9b0
        try clear c9b1
        try clear c9b2
        try clear hcv16
        try clear c20
        try clear hcv20
        try clear c21
        try clear c21b0
        try clear c21b1
        try clear hcv22
        try clear hcv23
        try clear hcv24
        obtain ⟨kq, x43_9, rfl, HA, HJ9, HO_7, HO_8, HB⟩ := hcut
        cases kq with
        | zero => exact absurd HA.out (by simp [courierlaw01_VarintFixed.j0])
        | succ kj9 =>
          have H := HA.out
          clear HA
          simp only [courierlaw01_VarintFixed.j0] at H
          by_cases c25 : x43_9 = true
          · subst c25
            have H1 : (some false) = some r := by rw [if_pos rfl] at H; exact H
            clear H
            have H := H1
            clear H1
            obtain rfl := Option.some.inj H
            go_wp2
            go_ret
            exact ⟨by first | rfl | (simp [errW_none, errW_some] <;> rfl) | (simp [*, errW_none, errW_some] <;> rfl), by repeat (first | (with_reducible first | exact HB.out | apply below_alloc | apply pw_below_drewN | apply below_drew1) | exact HB.out)⟩
          · replace c25 := Bool.eq_false_iff.mpr c25
            subst c25
            have H1 : (if 0 ≤ (l0.length : Int) then (if (l0.length : Int) ≤ (t191.length : Int) then ((varint_Take32.f (t191.drop ((l0.length : Int) : Int).toNat)).bind fun bt207 => (if (l0.length : Int) ≤ (t194.length : Int) then ((varint_Take64.f (t194.drop ((l0.length : Int) : Int).toNat)).bind fun bt213 => (if bt207.1 = a1 then (if bt213.1 = a2 then (if bt207.2 = 0 then (some (bt213.2 == 0)) else (some false)) else (some false)) else (some false))) else (none))) else (none)) else (none)) = some r := by rw [if_neg (show ¬ (false = true) by decide)] at H; exact H
            clear H
            have H := H1
            clear H1
            by_cases c26 : 0 ≤ (l0.length : Int)
            · rw [if_pos c26] at H
              have c26b0 := eq_true c26
              have c26b1 : decide (0 ≤ (l0.length : Int)) = true := decide_eq_true c26
              clear c26
              by_cases c27 : (l0.length : Int) ≤ (t191.length : Int)
              · rw [if_pos c27] at H
                have c27b0 := eq_true c27
                have c27b1 : decide ((l0.length : Int) ≤ (t191.length : Int)) = true := decide_eq_true c27
                clear c27
                obtain ⟨y203, hy203⟩ : ∃ y_ : List Int, y_ = (t191.drop ((l0.length : Int) : Int).toNat) := ⟨_, rfl⟩
                replace H : ((varint_Take32.f y203).bind fun bt207 => (if (l0.length : Int) ≤ (t194.length : Int) then ((varint_Take64.f (t194.drop ((l0.length : Int) : Int).toNat)).bind fun bt213 => (if bt207.1 = a1 then (if bt213.1 = a2 then (if bt207.2 = 0 then (some (bt213.2 == 0)) else (some false)) else (some false)) else (some false))) else (none))) = some r := by first | (rw [hy203]; with_reducible exact H) | (have H2_ := (Option.bind_some _ _).symm.trans H; rw [hy203]; with_reducible exact H2_) | (have H2_ := (Option.bind_some _ _).symm.trans H; with_reducible exact H2_) | with_reducible exact H | (rw [hy203]; exact H) | exact H
                have Ny203 := Aside0.mk hy203
                clear hy203
                replace H := Option.bind_eq_some_iff.mp H
                obtain ⟨⟨t207, t208⟩, A280, H⟩ := H
                replace H : (if (l0.length : Int) ≤ (t194.length : Int) then ((varint_Take64.f (t194.drop ((l0.length : Int) : Int).toNat)).bind fun bt213 => (if t207 = a1 then (if bt213.1 = a2 then (if t208 = 0 then (some (bt213.2 == 0)) else (some false)) else (some false)) else (some false))) else (none)) = some r := H
                have A28 := Aside0.mk A280
                clear A280
                have c29b0 := eq_true (of_decide_eq_true (by first | (with_reducible assumption) | assumption) : 0 ≤ (l0.length : Int))
                by_cases c30 : (l0.length : Int) ≤ (t194.length : Int)
                · rw [if_pos c30] at H
                  have c30b0 := eq_true c30
                  have c30b1 : decide ((l0.length : Int) ≤ (t194.length : Int)) = true := decide_eq_true c30
                  clear c30
                  obtain ⟨y209, hy209⟩ : ∃ y_ : List Int, y_ = (t194.drop ((l0.length : Int) : Int).toNat) := ⟨_, rfl⟩
                  replace H : ((varint_Take64.f y209).bind fun bt213 => (if t207 = a1 then (if bt213.1 = a2 then (if t208 = 0 then (some (bt213.2 == 0)) else (some false)) else (some false)) else (some false))) = some r := by first | (rw [hy209]; with_reducible exact H) | (have H2_ := (Option.bind_some _ _).symm.trans H; rw [hy209]; with_reducible exact H2_) | (have H2_ := (Option.bind_some _ _).symm.trans H; with_reducible exact H2_) | with_reducible exact H | (rw [hy209]; exact H) | exact H
                  have Ny209 := Aside0.mk hy209
                  clear hy209
                  replace H := Option.bind_eq_some_iff.mp H
                  obtain ⟨⟨t213, t214⟩, A310, H⟩ := H
                  replace H : (if t207 = a1 then (if t213 = a2 then (if t208 = 0 then (some (t214 == 0)) else (some false)) else (some false)) else (some false)) = some r := H
                  have A31 := Aside0.mk A310
                  clear A310
                  by_cases c32 : t207 = a1
                  · rw [if_pos c32] at H
                    have c32b0 : (t207 == a1) = true := beq_iff_eq.mpr c32
                    have c32b1 : (t207 != a1) = false := bne_eq_false_iff_eq.mpr c32
                    clear c32
                    by_cases c33 : t213 = a2
                    · rw [if_pos c33] at H
                      have c33b0 : (t213 == a2) = true := beq_iff_eq.mpr c33
                      have c33b1 : (t213 != a2) = false := bne_eq_false_iff_eq.mpr c33
                      clear c33
                      by_cases c34 : t208 = 0
                      · rw [if_pos c34] at H
                        have c34b0 : (t208 == 0) = true := beq_iff_eq.mpr c34
                        have c34b1 : (t208 != 0) = false := bne_eq_false_iff_eq.mpr c34
                        clear c34
                        obtain rfl := Option.some.inj H
                        obtain ⟨Ao36, co36, eo36⟩ := Kd.R_slice HO_7.out
                        subst eo36
                        have q35 : ((l0.length : Int) : Int) ≤ ((t191.length : Int) : Int) := of_decide_eq_true (by first | (with_reducible assumption) | assumption)
                        obtain ⟨i035, hi035, _, hsz35, _⟩ := info_parts info5
                        have hroom35 : t191.length ≤ co36 := (Kd.R_reads' HO_7.out).2.1
                        have hC35 : Kd.C (Kd.int .u8) _ Ao36 t191.length t191 := (Kd.R_reads' HO_7.out).2.2
                        have q035 : (0 : Int) ≤ ((l0.length : Int) : Int) := of_decide_eq_true (by first | (with_reducible assumption) | assumption)
                        have hcut35 := cut_from (P := Try.prog) 26 5 .i64 Try.underlying26 hi035 1 hsz35 Ao36 t191.length co36 (l0.length : Int) q035 q35
                        have hr35 := Kd.C_drop (m := ((l0.length : Int) : Int).toNat) (c := co36) hC35 (by omega) hroom35
                        obtain ⟨A35, hA35⟩ : ∃ A1, A1 = (if co36 = ((l0.length : Int) : Int).toNat then Ao36 else (Ao36 : Option Addr).map (·.add (((l0.length : Int) : Int).toNat * 1))) := ⟨_, rfl⟩
                        obtain ⟨c35, hc35⟩ : ∃ c1, c1 = co36 - ((l0.length : Int) : Int).toNat := ⟨_, rfl⟩
                        have hy35 : y203.length = t191.length - ((l0.length : Int) : Int).toNat := (by rw [Ny203.out, List.length_drop] <;> omega)
                        rw [show (t191).drop ((l0.length : Int) : Int).toNat = y203 from Ny203.out.symm] at hr35
                        replace hr35 : Kd.C (Kd.int .u8) _ A35 y203.length y203 := (by rw [hA35]; exact hr35)
                        rw [← hy35, ← hA35, ← hc35] at hcut35
                        have HR206 := Aside0.mk hr35
                        have HC206 := Aside0.mk (show y203.length ≤ c35 from by rw [hy35, hc35]; exact Nat.sub_le_sub_right hroom35 _)
                        clear hr35 hC35 hroom35 hi035 hsz35 hc35
                        have KY35 := Aside0.mk hy35
                        have KA35 := Aside0.mk hA35
                        clear hy35 hA35
                        have KL35 := Aside0.mk (show ((l0.length : Int) : Int).toNat ≤ t191.length from by omega)
                        replace q35 := eq_true q35
                        go_wp2_with (first | ((with_reducible refine gate_callee (f := 25) rfl ?_); refine goesL_ (some 49) rfl rfl Try.func25 (by kernel_rfl) rfl #[.slice A35 y203.length c35] rfl (by (try simp only [List.map_toArray, List.map_cons, List.map_nil]); first | done | rfl | (simp only [List.length_drop, List.length_take]; rfl)) ?_; (with_reducible refine (varint_Take32.calls _ _ y203 t207 t208 _ ?side1 ?side2 A28.out).mono ?_); (case side1 => repeat (first | exact (by repeat (first | (with_reducible exact HR206.out) | (with_reducible refine Kd.C_alloc ?_ _) | (with_reducible refine Kd.C_drewN ?_ _) | (with_reducible refine Kd.C_drew ?_) | exact HR206.out)) | (with_reducible refine Kd.C_alloc ?_ _) | (with_reducible refine Kd.C_drewN ?_ _) | (with_reducible refine Kd.C_drew ?_))); (case side2 => exact HC206.out); rintro e w' ⟨rfl, ⟨nd, rfl⟩⟩; refine ⟨_, rfl, ?_⟩; obtain ⟨Ao38, co38, eo38⟩ := Kd.R_slice HO_8.out; subst eo38; have q37 : ((l0.length : Int) : Int) ≤ ((t194.length : Int) : Int) := of_decide_eq_true (by first | (with_reducible assumption) | assumption); obtain ⟨i037, hi037, _, hsz37, _⟩ := info_parts info5; have hroom37 : t194.length ≤ co38 := (Kd.R_reads' HO_8.out).2.1; have hC37 : Kd.C (Kd.int .u8) _ Ao38 t194.length t194 := (Kd.R_reads' HO_8.out).2.2; have q037 : (0 : Int) ≤ ((l0.length : Int) : Int) := of_decide_eq_true (by first | (with_reducible assumption) | assumption); have hcut37 := cut_from (P := Try.prog) 26 5 .i64 Try.underlying26 hi037 1 hsz37 Ao38 t194.length co38 (l0.length : Int) q037 q37; have hr37 := Kd.C_drop (m := ((l0.length : Int) : Int).toNat) (c := co38) hC37 (by omega) hroom37; obtain ⟨A37, hA37⟩ : ∃ A1, A1 = (if co38 = ((l0.length : Int) : Int).toNat then Ao38 else (Ao38 : Option Addr).map (·.add (((l0.length : Int) : Int).toNat * 1))) := ⟨_, rfl⟩; obtain ⟨c37, hc37⟩ : ∃ c1, c1 = co38 - ((l0.length : Int) : Int).toNat := ⟨_, rfl⟩; have hy37 : y209.length = t194.length - ((l0.length : Int) : Int).toNat := (by rw [Ny209.out, List.length_drop] <;> omega); rw [show (t194).drop ((l0.length : Int) : Int).toNat = y209 from Ny209.out.symm] at hr37; replace hr37 : Kd.C (Kd.int .u8) _ A37 y209.length y209 := (by rw [hA37]; exact hr37); rw [← hy37, ← hA37, ← hc37] at hcut37; have HR212 := Aside0.mk hr37; have HC212 := Aside0.mk (show y209.length ≤ c37 from by rw [hy37, hc37]; exact Nat.sub_le_sub_right hroom37 _); clear hr37 hC37 hroom37 hi037 hsz37 hc37; have KY37 := Aside0.mk hy37; have KA37 := Aside0.mk hA37; clear hy37 hA37; have KL37 := Aside0.mk (show ((l0.length : Int) : Int).toNat ≤ t194.length from by omega); replace q37 := eq_true q37) | ((with_reducible refine gate_callee (f := 26) rfl ?_); refine goesL_ (some 57) rfl rfl Try.func26 (by kernel_rfl) rfl #[.slice A37 y209.length c37] rfl (by (try simp only [List.map_toArray, List.map_cons, List.map_nil]); first | done | rfl | (simp only [List.length_drop, List.length_take]; rfl)) ?_; (with_reducible refine (varint_Take64.calls _ _ y209 t213 t214 _ ?side1 ?side2 A31.out).mono ?_); (case side1 => repeat (first | exact (by repeat (first | (with_reducible exact HR212.out) | (with_reducible refine Kd.C_alloc ?_ _) | (with_reducible refine Kd.C_drewN ?_ _) | (with_reducible refine Kd.C_drew ?_) | exact HR212.out)) | (with_reducible refine Kd.C_alloc ?_ _) | (with_reducible refine Kd.C_drewN ?_ _) | (with_reducible refine Kd.C_drew ?_))); (case side2 => exact HC212.out); rintro e w' ⟨rfl, ⟨nd, rfl⟩⟩; refine ⟨_, rfl, ?_⟩))
                        go_ret
                        exact ⟨by first | rfl | (simp [errW_none, errW_some] <;> rfl) | (simp [*, errW_none, errW_some] <;> rfl), by repeat (first | (with_reducible first | exact HB.out | apply below_alloc | apply pw_below_drewN | apply below_drew1) | exact HB.out)⟩
                      · rw [if_neg c34] at H
                        have c34b0 : (t208 == 0) = false := beq_eq_false_iff_ne.mpr c34
                        have c34b1 : (t208 != 0) = true := bne_iff_ne.mpr c34
                        obtain rfl := Option.some.inj H
                        obtain ⟨Ao40, co40, eo40⟩ := Kd.R_slice HO_7.out
                        subst eo40
                        have q39 : ((l0.length : Int) : Int) ≤ ((t191.length : Int) : Int) := of_decide_eq_true (by first | (with_reducible assumption) | assumption)
                        obtain ⟨i039, hi039, _, hsz39, _⟩ := info_parts info5
                        have hroom39 : t191.length ≤ co40 := (Kd.R_reads' HO_7.out).2.1
                        have hC39 : Kd.C (Kd.int .u8) _ Ao40 t191.length t191 := (Kd.R_reads' HO_7.out).2.2
                        have q039 : (0 : Int) ≤ ((l0.length : Int) : Int) := of_decide_eq_true (by first | (with_reducible assumption) | assumption)
                        have hcut39 := cut_from (P := Try.prog) 26 5 .i64 Try.underlying26 hi039 1 hsz39 Ao40 t191.length co40 (l0.length : Int) q039 q39
                        have hr39 := Kd.C_drop (m := ((l0.length : Int) : Int).toNat) (c := co40) hC39 (by omega) hroom39
                        obtain ⟨A39, hA39⟩ : ∃ A1, A1 = (if co40 = ((l0.length : Int) : Int).toNat then Ao40 else (Ao40 : Option Addr).map (·.add (((l0.length : Int) : Int).toNat * 1))) := ⟨_, rfl⟩
                        obtain ⟨c39, hc39⟩ : ∃ c1, c1 = co40 - ((l0.length : Int) : Int).toNat := ⟨_, rfl⟩
                        have hy39 : y203.length = t191.length - ((l0.length : Int) : Int).toNat := (by rw [Ny203.out, List.length_drop] <;> omega)
                        rw [show (t191).drop ((l0.length : Int) : Int).toNat = y203 from Ny203.out.symm] at hr39
                        replace hr39 : Kd.C (Kd.int .u8) _ A39 y203.length y203 := (by rw [hA39]; exact hr39)
                        rw [← hy39, ← hA39, ← hc39] at hcut39
                        have HR206 := Aside0.mk hr39
                        have HC206 := Aside0.mk (show y203.length ≤ c39 from by rw [hy39, hc39]; exact Nat.sub_le_sub_right hroom39 _)
                        clear hr39 hC39 hroom39 hi039 hsz39 hc39
                        have KY39 := Aside0.mk hy39
                        have KA39 := Aside0.mk hA39
                        clear hy39 hA39
                        have KL39 := Aside0.mk (show ((l0.length : Int) : Int).toNat ≤ t191.length from by omega)
                        replace q39 := eq_true q39
                        go_wp2_with (first | ((with_reducible refine gate_callee (f := 25) rfl ?_); refine goesL_ (some 49) rfl rfl Try.func25 (by kernel_rfl) rfl #[.slice A39 y203.length c39] rfl (by (try simp only [List.map_toArray, List.map_cons, List.map_nil]); first | done | rfl | (simp only [List.length_drop, List.length_take]; rfl)) ?_; (with_reducible refine (varint_Take32.calls _ _ y203 t207 t208 _ ?side1 ?side2 A28.out).mono ?_); (case side1 => repeat (first | exact (by repeat (first | (with_reducible exact HR206.out) | (with_reducible refine Kd.C_alloc ?_ _) | (with_reducible refine Kd.C_drewN ?_ _) | (with_reducible refine Kd.C_drew ?_) | exact HR206.out)) | (with_reducible refine Kd.C_alloc ?_ _) | (with_reducible refine Kd.C_drewN ?_ _) | (with_reducible refine Kd.C_drew ?_))); (case side2 => exact HC206.out); rintro e w' ⟨rfl, ⟨nd, rfl⟩⟩; refine ⟨_, rfl, ?_⟩; obtain ⟨Ao42, co42, eo42⟩ := Kd.R_slice HO_8.out; subst eo42; have q41 : ((l0.length : Int) : Int) ≤ ((t194.length : Int) : Int) := of_decide_eq_true (by first | (with_reducible assumption) | assumption); obtain ⟨i041, hi041, _, hsz41, _⟩ := info_parts info5; have hroom41 : t194.length ≤ co42 := (Kd.R_reads' HO_8.out).2.1; have hC41 : Kd.C (Kd.int .u8) _ Ao42 t194.length t194 := (Kd.R_reads' HO_8.out).2.2; have q041 : (0 : Int) ≤ ((l0.length : Int) : Int) := of_decide_eq_true (by first | (with_reducible assumption) | assumption); have hcut41 := cut_from (P := Try.prog) 26 5 .i64 Try.underlying26 hi041 1 hsz41 Ao42 t194.length co42 (l0.length : Int) q041 q41; have hr41 := Kd.C_drop (m := ((l0.length : Int) : Int).toNat) (c := co42) hC41 (by omega) hroom41; obtain ⟨A41, hA41⟩ : ∃ A1, A1 = (if co42 = ((l0.length : Int) : Int).toNat then Ao42 else (Ao42 : Option Addr).map (·.add (((l0.length : Int) : Int).toNat * 1))) := ⟨_, rfl⟩; obtain ⟨c41, hc41⟩ : ∃ c1, c1 = co42 - ((l0.length : Int) : Int).toNat := ⟨_, rfl⟩; have hy41 : y209.length = t194.length - ((l0.length : Int) : Int).toNat := (by rw [Ny209.out, List.length_drop] <;> omega); rw [show (t194).drop ((l0.length : Int) : Int).toNat = y209 from Ny209.out.symm] at hr41; replace hr41 : Kd.C (Kd.int .u8) _ A41 y209.length y209 := (by rw [hA41]; exact hr41); rw [← hy41, ← hA41, ← hc41] at hcut41; have HR212 := Aside0.mk hr41; have HC212 := Aside0.mk (show y209.length ≤ c41 from by rw [hy41, hc41]; exact Nat.sub_le_sub_right hroom41 _); clear hr41 hC41 hroom41 hi041 hsz41 hc41; have KY41 := Aside0.mk hy41; have KA41 := Aside0.mk hA41; clear hy41 hA41; have KL41 := Aside0.mk (show ((l0.length : Int) : Int).toNat ≤ t194.length from by omega); replace q41 := eq_true q41) | ((with_reducible refine gate_callee (f := 26) rfl ?_); refine goesL_ (some 57) rfl rfl Try.func26 (by kernel_rfl) rfl #[.slice A41 y209.length c41] rfl (by (try simp only [List.map_toArray, List.map_cons, List.map_nil]); first | done | rfl | (simp only [List.length_drop, List.length_take]; rfl)) ?_; (with_reducible refine (varint_Take64.calls _ _ y209 t213 t214 _ ?side1 ?side2 A31.out).mono ?_); (case side1 => repeat (first | exact (by repeat (first | (with_reducible exact HR212.out) | (with_reducible refine Kd.C_alloc ?_ _) | (with_reducible refine Kd.C_drewN ?_ _) | (with_reducible refine Kd.C_drew ?_) | exact HR212.out)) | (with_reducible refine Kd.C_alloc ?_ _) | (with_reducible refine Kd.C_drewN ?_ _) | (with_reducible refine Kd.C_drew ?_))); (case side2 => exact HC212.out); rintro e w' ⟨rfl, ⟨nd, rfl⟩⟩; refine ⟨_, rfl, ?_⟩))
                        go_ret
                        exact ⟨by first | rfl | (simp [errW_none, errW_some] <;> rfl) | (simp [*, errW_none, errW_some] <;> rfl), by repeat (first | (with_reducible first | exact HB.out | apply below_alloc | apply pw_below_drewN | apply below_drew1) | exact HB.out)⟩
                    · rw [if_neg c33] at H
                      have c33b0 : (t213 == a2) = false := beq_eq_false_iff_ne.mpr c33
                      have c33b1 : (t213 != a2) = true := bne_iff_ne.mpr c33
                      obtain rfl := Option.some.inj H
                      obtain ⟨Ao44, co44, eo44⟩ := Kd.R_slice HO_7.out
                      subst eo44
                      have q43 : ((l0.length : Int) : Int) ≤ ((t191.length : Int) : Int) := of_decide_eq_true (by first | (with_reducible assumption) | assumption)
                      obtain ⟨i043, hi043, _, hsz43, _⟩ := info_parts info5
                      have hroom43 : t191.length ≤ co44 := (Kd.R_reads' HO_7.out).2.1
                      have hC43 : Kd.C (Kd.int .u8) _ Ao44 t191.length t191 := (Kd.R_reads' HO_7.out).2.2
                      have q043 : (0 : Int) ≤ ((l0.length : Int) : Int) := of_decide_eq_true (by first | (with_reducible assumption) | assumption)
                      have hcut43 := cut_from (P := Try.prog) 26 5 .i64 Try.underlying26 hi043 1 hsz43 Ao44 t191.length co44 (l0.length : Int) q043 q43
                      have hr43 := Kd.C_drop (m := ((l0.length : Int) : Int).toNat) (c := co44) hC43 (by omega) hroom43
                      obtain ⟨A43, hA43⟩ : ∃ A1, A1 = (if co44 = ((l0.length : Int) : Int).toNat then Ao44 else (Ao44 : Option Addr).map (·.add (((l0.length : Int) : Int).toNat * 1))) := ⟨_, rfl⟩
                      obtain ⟨c43, hc43⟩ : ∃ c1, c1 = co44 - ((l0.length : Int) : Int).toNat := ⟨_, rfl⟩
                      have hy43 : y203.length = t191.length - ((l0.length : Int) : Int).toNat := (by rw [Ny203.out, List.length_drop] <;> omega)
                      rw [show (t191).drop ((l0.length : Int) : Int).toNat = y203 from Ny203.out.symm] at hr43
                      replace hr43 : Kd.C (Kd.int .u8) _ A43 y203.length y203 := (by rw [hA43]; exact hr43)
                      rw [← hy43, ← hA43, ← hc43] at hcut43
                      have HR206 := Aside0.mk hr43
                      have HC206 := Aside0.mk (show y203.length ≤ c43 from by rw [hy43, hc43]; exact Nat.sub_le_sub_right hroom43 _)
                      clear hr43 hC43 hroom43 hi043 hsz43 hc43
                      have KY43 := Aside0.mk hy43
                      have KA43 := Aside0.mk hA43
                      clear hy43 hA43
                      have KL43 := Aside0.mk (show ((l0.length : Int) : Int).toNat ≤ t191.length from by omega)
                      replace q43 := eq_true q43
                      go_wp2_with (first | ((with_reducible refine gate_callee (f := 25) rfl ?_); refine goesL_ (some 49) rfl rfl Try.func25 (by kernel_rfl) rfl #[.slice A43 y203.length c43] rfl (by (try simp only [List.map_toArray, List.map_cons, List.map_nil]); first | done | rfl | (simp only [List.length_drop, List.length_take]; rfl)) ?_; (with_reducible refine (varint_Take32.calls _ _ y203 t207 t208 _ ?side1 ?side2 A28.out).mono ?_); (case side1 => repeat (first | exact (by repeat (first | (with_reducible exact HR206.out) | (with_reducible refine Kd.C_alloc ?_ _) | (with_reducible refine Kd.C_drewN ?_ _) | (with_reducible refine Kd.C_drew ?_) | exact HR206.out)) | (with_reducible refine Kd.C_alloc ?_ _) | (with_reducible refine Kd.C_drewN ?_ _) | (with_reducible refine Kd.C_drew ?_))); (case side2 => exact HC206.out); rintro e w' ⟨rfl, ⟨nd, rfl⟩⟩; refine ⟨_, rfl, ?_⟩; obtain ⟨Ao46, co46, eo46⟩ := Kd.R_slice HO_8.out; subst eo46; have q45 : ((l0.length : Int) : Int) ≤ ((t194.length : Int) : Int) := of_decide_eq_true (by first | (with_reducible assumption) | assumption); obtain ⟨i045, hi045, _, hsz45, _⟩ := info_parts info5; have hroom45 : t194.length ≤ co46 := (Kd.R_reads' HO_8.out).2.1; have hC45 : Kd.C (Kd.int .u8) _ Ao46 t194.length t194 := (Kd.R_reads' HO_8.out).2.2; have q045 : (0 : Int) ≤ ((l0.length : Int) : Int) := of_decide_eq_true (by first | (with_reducible assumption) | assumption); have hcut45 := cut_from (P := Try.prog) 26 5 .i64 Try.underlying26 hi045 1 hsz45 Ao46 t194.length co46 (l0.length : Int) q045 q45; have hr45 := Kd.C_drop (m := ((l0.length : Int) : Int).toNat) (c := co46) hC45 (by omega) hroom45; obtain ⟨A45, hA45⟩ : ∃ A1, A1 = (if co46 = ((l0.length : Int) : Int).toNat then Ao46 else (Ao46 : Option Addr).map (·.add (((l0.length : Int) : Int).toNat * 1))) := ⟨_, rfl⟩; obtain ⟨c45, hc45⟩ : ∃ c1, c1 = co46 - ((l0.length : Int) : Int).toNat := ⟨_, rfl⟩; have hy45 : y209.length = t194.length - ((l0.length : Int) : Int).toNat := (by rw [Ny209.out, List.length_drop] <;> omega); rw [show (t194).drop ((l0.length : Int) : Int).toNat = y209 from Ny209.out.symm] at hr45; replace hr45 : Kd.C (Kd.int .u8) _ A45 y209.length y209 := (by rw [hA45]; exact hr45); rw [← hy45, ← hA45, ← hc45] at hcut45; have HR212 := Aside0.mk hr45; have HC212 := Aside0.mk (show y209.length ≤ c45 from by rw [hy45, hc45]; exact Nat.sub_le_sub_right hroom45 _); clear hr45 hC45 hroom45 hi045 hsz45 hc45; have KY45 := Aside0.mk hy45; have KA45 := Aside0.mk hA45; clear hy45 hA45; have KL45 := Aside0.mk (show ((l0.length : Int) : Int).toNat ≤ t194.length from by omega); replace q45 := eq_true q45) | ((with_reducible refine gate_callee (f := 26) rfl ?_); refine goesL_ (some 57) rfl rfl Try.func26 (by kernel_rfl) rfl #[.slice A45 y209.length c45] rfl (by (try simp only [List.map_toArray, List.map_cons, List.map_nil]); first | done | rfl | (simp only [List.length_drop, List.length_take]; rfl)) ?_; (with_reducible refine (varint_Take64.calls _ _ y209 t213 t214 _ ?side1 ?side2 A31.out).mono ?_); (case side1 => repeat (first | exact (by repeat (first | (with_reducible exact HR212.out) | (with_reducible refine Kd.C_alloc ?_ _) | (with_reducible refine Kd.C_drewN ?_ _) | (with_reducible refine Kd.C_drew ?_) | exact HR212.out)) | (with_reducible refine Kd.C_alloc ?_ _) | (with_reducible refine Kd.C_drewN ?_ _) | (with_reducible refine Kd.C_drew ?_))); (case side2 => exact HC212.out); rintro e w' ⟨rfl, ⟨nd, rfl⟩⟩; refine ⟨_, rfl, ?_⟩))
                      go_ret
                      exact ⟨by first | rfl | (simp [errW_none, errW_some] <;> rfl) | (simp [*, errW_none, errW_some] <;> rfl), by repeat (first | (with_reducible first | exact HB.out | apply below_alloc | apply pw_below_drewN | apply below_drew1) | exact HB.out)⟩
                  · rw [if_neg c32] at H
                    have c32b0 : (t207 == a1) = false := beq_eq_false_iff_ne.mpr c32
                    have c32b1 : (t207 != a1) = true := bne_iff_ne.mpr c32
                    obtain rfl := Option.some.inj H
                    obtain ⟨Ao48, co48, eo48⟩ := Kd.R_slice HO_7.out
                    subst eo48
                    have q47 : ((l0.length : Int) : Int) ≤ ((t191.length : Int) : Int) := of_decide_eq_true (by first | (with_reducible assumption) | assumption)
                    obtain ⟨i047, hi047, _, hsz47, _⟩ := info_parts info5
                    have hroom47 : t191.length ≤ co48 := (Kd.R_reads' HO_7.out).2.1
                    have hC47 : Kd.C (Kd.int .u8) _ Ao48 t191.length t191 := (Kd.R_reads' HO_7.out).2.2
                    have q047 : (0 : Int) ≤ ((l0.length : Int) : Int) := of_decide_eq_true (by first | (with_reducible assumption) | assumption)
                    have hcut47 := cut_from (P := Try.prog) 26 5 .i64 Try.underlying26 hi047 1 hsz47 Ao48 t191.length co48 (l0.length : Int) q047 q47
                    have hr47 := Kd.C_drop (m := ((l0.length : Int) : Int).toNat) (c := co48) hC47 (by omega) hroom47
                    obtain ⟨A47, hA47⟩ : ∃ A1, A1 = (if co48 = ((l0.length : Int) : Int).toNat then Ao48 else (Ao48 : Option Addr).map (·.add (((l0.length : Int) : Int).toNat * 1))) := ⟨_, rfl⟩
                    obtain ⟨c47, hc47⟩ : ∃ c1, c1 = co48 - ((l0.length : Int) : Int).toNat := ⟨_, rfl⟩
                    have hy47 : y203.length = t191.length - ((l0.length : Int) : Int).toNat := (by rw [Ny203.out, List.length_drop] <;> omega)
                    rw [show (t191).drop ((l0.length : Int) : Int).toNat = y203 from Ny203.out.symm] at hr47
                    replace hr47 : Kd.C (Kd.int .u8) _ A47 y203.length y203 := (by rw [hA47]; exact hr47)
                    rw [← hy47, ← hA47, ← hc47] at hcut47
                    have HR206 := Aside0.mk hr47
                    have HC206 := Aside0.mk (show y203.length ≤ c47 from by rw [hy47, hc47]; exact Nat.sub_le_sub_right hroom47 _)
                    clear hr47 hC47 hroom47 hi047 hsz47 hc47
                    have KY47 := Aside0.mk hy47
                    have KA47 := Aside0.mk hA47
                    clear hy47 hA47
                    have KL47 := Aside0.mk (show ((l0.length : Int) : Int).toNat ≤ t191.length from by omega)
                    replace q47 := eq_true q47
                    go_wp2_with (first | ((with_reducible refine gate_callee (f := 25) rfl ?_); refine goesL_ (some 49) rfl rfl Try.func25 (by kernel_rfl) rfl #[.slice A47 y203.length c47] rfl (by (try simp only [List.map_toArray, List.map_cons, List.map_nil]); first | done | rfl | (simp only [List.length_drop, List.length_take]; rfl)) ?_; (with_reducible refine (varint_Take32.calls _ _ y203 t207 t208 _ ?side1 ?side2 A28.out).mono ?_); (case side1 => repeat (first | exact (by repeat (first | (with_reducible exact HR206.out) | (with_reducible refine Kd.C_alloc ?_ _) | (with_reducible refine Kd.C_drewN ?_ _) | (with_reducible refine Kd.C_drew ?_) | exact HR206.out)) | (with_reducible refine Kd.C_alloc ?_ _) | (with_reducible refine Kd.C_drewN ?_ _) | (with_reducible refine Kd.C_drew ?_))); (case side2 => exact HC206.out); rintro e w' ⟨rfl, ⟨nd, rfl⟩⟩; refine ⟨_, rfl, ?_⟩; obtain ⟨Ao50, co50, eo50⟩ := Kd.R_slice HO_8.out; subst eo50; have q49 : ((l0.length : Int) : Int) ≤ ((t194.length : Int) : Int) := of_decide_eq_true (by first | (with_reducible assumption) | assumption); obtain ⟨i049, hi049, _, hsz49, _⟩ := info_parts info5; have hroom49 : t194.length ≤ co50 := (Kd.R_reads' HO_8.out).2.1; have hC49 : Kd.C (Kd.int .u8) _ Ao50 t194.length t194 := (Kd.R_reads' HO_8.out).2.2; have q049 : (0 : Int) ≤ ((l0.length : Int) : Int) := of_decide_eq_true (by first | (with_reducible assumption) | assumption); have hcut49 := cut_from (P := Try.prog) 26 5 .i64 Try.underlying26 hi049 1 hsz49 Ao50 t194.length co50 (l0.length : Int) q049 q49; have hr49 := Kd.C_drop (m := ((l0.length : Int) : Int).toNat) (c := co50) hC49 (by omega) hroom49; obtain ⟨A49, hA49⟩ : ∃ A1, A1 = (if co50 = ((l0.length : Int) : Int).toNat then Ao50 else (Ao50 : Option Addr).map (·.add (((l0.length : Int) : Int).toNat * 1))) := ⟨_, rfl⟩; obtain ⟨c49, hc49⟩ : ∃ c1, c1 = co50 - ((l0.length : Int) : Int).toNat := ⟨_, rfl⟩; have hy49 : y209.length = t194.length - ((l0.length : Int) : Int).toNat := (by rw [Ny209.out, List.length_drop] <;> omega); rw [show (t194).drop ((l0.length : Int) : Int).toNat = y209 from Ny209.out.symm] at hr49; replace hr49 : Kd.C (Kd.int .u8) _ A49 y209.length y209 := (by rw [hA49]; exact hr49); rw [← hy49, ← hA49, ← hc49] at hcut49; have HR212 := Aside0.mk hr49; have HC212 := Aside0.mk (show y209.length ≤ c49 from by rw [hy49, hc49]; exact Nat.sub_le_sub_right hroom49 _); clear hr49 hC49 hroom49 hi049 hsz49 hc49; have KY49 := Aside0.mk hy49; have KA49 := Aside0.mk hA49; clear hy49 hA49; have KL49 := Aside0.mk (show ((l0.length : Int) : Int).toNat ≤ t194.length from by omega); replace q49 := eq_true q49) | ((with_reducible refine gate_callee (f := 26) rfl ?_); refine goesL_ (some 57) rfl rfl Try.func26 (by kernel_rfl) rfl #[.slice A49 y209.length c49] rfl (by (try simp only [List.map_toArray, List.map_cons, List.map_nil]); first | done | rfl | (simp only [List.length_drop, List.length_take]; rfl)) ?_; (with_reducible refine (varint_Take64.calls _ _ y209 t213 t214 _ ?side1 ?side2 A31.out).mono ?_); (case side1 => repeat (first | exact (by repeat (first | (with_reducible exact HR212.out) | (with_reducible refine Kd.C_alloc ?_ _) | (with_reducible refine Kd.C_drewN ?_ _) | (with_reducible refine Kd.C_drew ?_) | exact HR212.out)) | (with_reducible refine Kd.C_alloc ?_ _) | (with_reducible refine Kd.C_drewN ?_ _) | (with_reducible refine Kd.C_drew ?_))); (case side2 => exact HC212.out); rintro e w' ⟨rfl, ⟨nd, rfl⟩⟩; refine ⟨_, rfl, ?_⟩))
                    go_ret
                    exact ⟨by first | rfl | (simp [errW_none, errW_some] <;> rfl) | (simp [*, errW_none, errW_some] <;> rfl), by repeat (first | (with_reducible first | exact HB.out | apply below_alloc | apply pw_below_drewN | apply below_drew1) | exact HB.out)⟩
                · rw [if_neg c30] at H
                  exact absurd H (by simp)
              · rw [if_neg c27] at H
                exact absurd H (by simp)
            · rw [if_neg c26] at H
              exact absurd H (by simp)
    · rw [if_neg c9] at H
      exact absurd H (by simp)
  · rw [if_neg c7] at H
    exact absurd H (by simp)

/-- THE ONE PURE STATEMENT of courierlaw01_VarintFixed: yours. -/
def courierlaw01_VarintFixed.Pure : Prop := ∀ (l0 : List Int) (a1 : Int) (a2 : Int), l0.length ≤ maxLen → l0.length * 1 ≤ 140737488351232 → (∀ x ∈ l0, (Lit.int .u8 x).wf = true) → (Lit.int .u32 a1).wf = true → (Lit.int .u64 a2).wf = true → ∃ k, courierlaw01_VarintFixed.f k l0 a1 a2 = some true
theorem courierlaw01_VarintFixed.walk (P : courierlaw01_VarintFixed.Pure) (a0 : Option Addr) (len0 cap0 : Nat) (z0 : List Int) (a1 : Int) (a2 : Int) (w : World) (w0 : (a0 = none ∧ len0 = 0 ∧ cap0 = 0 ∧ z0 = []) ∨ ∃ x, a0 = some x ∧ len0 ≤ cap0 ∧ cap0 ≤ maxLen ∧ z0.length = cap0 ∧ (∀ i, i < z0.length → w.cell? (x.add i) = some (.int .u8 (z0.getD i 0))) ∧ ∀ n ∈ z0, (Lit.int .u8 n).wf = true) (y0 : len0 * 1 ≤ 140737488351232) (w1 : (Lit.int .u32 a1).wf = true) (w2 : (Lit.int .u64 a2).wf = true) :
    Calls Try.prog 8 #[.slice a0 len0 cap0, .int .u32 a1, .int .u64 a2] w fun e w' => e = .returned (.bool true) ∧ Below w.heap.size w w' := by
  obtain ⟨l0, rfl, hr0, hm0, hw0, hc0⟩ := ReadsInt.ofRowC w0
  obtain ⟨k, h⟩ := P l0 a1 a2 hm0 y0 hw0 w1 w2
  refine (courierlaw01_VarintFixed.calls k _ _ l0 a1 a2 true w (Kd.C_of_reads (d := (0 : Int)) (h1 := fun _ => rfl) hr0) hc0 h).mono ?_
  rintro e w' ⟨rfl, hd⟩
  exact ⟨rfl, hd⟩

end Go.Proofs.Ytnmdgbfkeghboaa.X
