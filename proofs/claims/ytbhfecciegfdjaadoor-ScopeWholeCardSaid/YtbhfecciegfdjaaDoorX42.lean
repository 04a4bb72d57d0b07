/- Plain functions for Go's own, out of the translation's print, and a proof that each call comes to what they tell; no condition but the functions' own answers. -/
import Derived.Test.YtbhfecciegfdjaaDoorX0
import Derived.Test.YtbhfecciegfdjaaDoorX41
namespace Go.Proofs.YtbhfecciegfdjaaDoor.X
open Go.RowKit Go.Proofs.YtbhfecciegfdjaaDoorW.PrintWords Go.Proofs.YtbhfecciegfdjaaDoorW.PrintLast Go.Proofs.YtbhfecciegfdjaaDoorW.PrintMore
attribute [local go_sem] max2_int min2_int max_two min_two max_three min_three max_four min_four Go.Proofs.YtbhfecciegfdjaaDoor.MyWords.put_isSome Go.Proofs.YtbhfecciegfdjaaDoor.MyWords.drewN_put   -- for this text's walks alone
set_option linter.unusedVariables false
set_option linter.unusedSimpArgs false

/-! ### courierref03_Reserved: function 26 -/
def courierref03_Reserved.f (a0 : ByteArray) : Option (Bool) := if a0.toList = ([109, 101, 115, 115, 97, 103, 101] : List UInt8) then (some true) else (if a0.toList = ([101, 110, 117, 109] : List UInt8) then (some true) else (if a0.toList = ([115, 101, 114, 118, 105, 99, 101] : List UInt8) then (some true) else (if a0.toList = ([114, 112, 99] : List UInt8) then (some true) else (if a0.toList = ([114, 101, 116, 117, 114, 110, 115] : List UInt8) then (some true) else (if a0.toList = ([114, 101, 112, 101, 97, 116, 101, 100] : List UInt8) then (some true) else ((courierref03_Scalar.f a0).bind fun t180 => (some (decide (t180 > 0)))))))))
set_option maxHeartbeats 8000000 in
set_option maxRecDepth 100000 in
theorem courierref03_Reserved.calls (a0 : ByteArray) (r : Bool) (w : World) (h : courierref03_Reserved.f a0 = some r) :
    Calls Tryd.prog 26 #[.string a0] w fun e w' => e = .returned (.bool r) ∧ Drawn0 w w' := by
  have H : (if a0.toList = ([109, 101, 115, 115, 97, 103, 101] : List UInt8) then (some true) else (if a0.toList = ([101, 110, 117, 109] : List UInt8) then (some true) else (if a0.toList = ([115, 101, 114, 118, 105, 99, 101] : List UInt8) then (some true) else (if a0.toList = ([114, 112, 99] : List UInt8) then (some true) else (if a0.toList = ([114, 101, 116, 117, 114, 110, 115] : List UInt8) then (some true) else (if a0.toList = ([114, 101, 112, 101, 97, 116, 101, 100] : List UInt8) then (some true) else ((courierref03_Scalar.f a0).bind fun t180 => (some (decide (t180 > 0)))))))))) = some r := h
  clear h
  by_cases c2 : a0.toList = ([109, 101, 115, 115, 97, 103, 101] : List UInt8)
  · rw [if_pos c2] at H
    have c2b0 : (a0.toList == ([109, 101, 115, 115, 97, 103, 101] : List UInt8)) = true := beq_iff_eq.mpr c2
    have c2b1 : (a0.toList != ([109, 101, 115, 115, 97, 103, 101] : List UInt8)) = false := bne_eq_false_iff_eq.mpr c2
    clear c2
    obtain rfl := Option.some.inj H
    go_enter Tryd.func26, Tryd.ntmps26
    go_wp2
    go_ret
    exact ⟨by first | rfl | (simp; done) | (simp [*]; done), by repeat (first | exact Drawn0.refl _ | apply Drawn0.step)⟩
  · rw [if_neg c2] at H
    have c2b0 : (a0.toList == ([109, 101, 115, 115, 97, 103, 101] : List UInt8)) = false := beq_eq_false_iff_ne.mpr c2
    have c2b1 : (a0.toList != ([109, 101, 115, 115, 97, 103, 101] : List UInt8)) = true := bne_iff_ne.mpr c2
    by_cases c3 : a0.toList = ([101, 110, 117, 109] : List UInt8)
    · rw [if_pos c3] at H
      have c3b0 : (a0.toList == ([101, 110, 117, 109] : List UInt8)) = true := beq_iff_eq.mpr c3
      have c3b1 : (a0.toList != ([101, 110, 117, 109] : List UInt8)) = false := bne_eq_false_iff_eq.mpr c3
      clear c3
      obtain rfl := Option.some.inj H
      go_enter Tryd.func26, Tryd.ntmps26
      go_wp2
      go_ret
      exact ⟨by first | rfl | (simp; done) | (simp [*]; done), by repeat (first | exact Drawn0.refl _ | apply Drawn0.step)⟩
    · rw [if_neg c3] at H
      have c3b0 : (a0.toList == ([101, 110, 117, 109] : List UInt8)) = false := beq_eq_false_iff_ne.mpr c3
      have c3b1 : (a0.toList != ([101, 110, 117, 109] : List UInt8)) = true := bne_iff_ne.mpr c3
      by_cases c4 : a0.toList = ([115, 101, 114, 118, 105, 99, 101] : List UInt8)
      · rw [if_pos c4] at H
        have c4b0 : (a0.toList == ([115, 101, 114, 118, 105, 99, 101] : List UInt8)) = true := beq_iff_eq.mpr c4
        have c4b1 : (a0.toList != ([115, 101, 114, 118, 105, 99, 101] : List UInt8)) = false := bne_eq_false_iff_eq.mpr c4
        clear c4
        obtain rfl := Option.some.inj H
        go_enter Tryd.func26, Tryd.ntmps26
        go_wp2
        go_ret
        exact ⟨by first | rfl | (simp; done) | (simp [*]; done), by repeat (first | exact Drawn0.refl _ | apply Drawn0.step)⟩
      · rw [if_neg c4] at H
        have c4b0 : (a0.toList == ([115, 101, 114, 118, 105, 99, 101] : List UInt8)) = false := beq_eq_false_iff_ne.mpr c4
        have c4b1 : (a0.toList != ([115, 101, 114, 118, 105, 99, 101] : List UInt8)) = true := bne_iff_ne.mpr c4
        by_cases c5 : a0.toList = ([114, 112, 99] : List UInt8)
        · rw [if_pos c5] at H
          have c5b0 : (a0.toList == ([114, 112, 99] : List UInt8)) = true := beq_iff_eq.mpr c5
          have c5b1 : (a0.toList != ([114, 112, 99] : List UInt8)) = false := bne_eq_false_iff_eq.mpr c5
          clear c5
          obtain rfl := Option.some.inj H
          go_enter Tryd.func26, Tryd.ntmps26
          go_wp2
          go_ret
          exact ⟨by first | rfl | (simp; done) | (simp [*]; done), by repeat (first | exact Drawn0.refl _ | apply Drawn0.step)⟩
        · rw [if_neg c5] at H
          have c5b0 : (a0.toList == ([114, 112, 99] : List UInt8)) = false := beq_eq_false_iff_ne.mpr c5
          have c5b1 : (a0.toList != ([114, 112, 99] : List UInt8)) = true := bne_iff_ne.mpr c5
          by_cases c6 : a0.toList = ([114, 101, 116, 117, 114, 110, 115] : List UInt8)
          · rw [if_pos c6] at H
            have c6b0 : (a0.toList == ([114, 101, 116, 117, 114, 110, 115] : List UInt8)) = true := beq_iff_eq.mpr c6
            have c6b1 : (a0.toList != ([114, 101, 116, 117, 114, 110, 115] : List UInt8)) = false := bne_eq_false_iff_eq.mpr c6
            clear c6
            obtain rfl := Option.some.inj H
            go_enter Tryd.func26, Tryd.ntmps26
            go_wp2
            go_ret
            exact ⟨by first | rfl | (simp; done) | (simp [*]; done), by repeat (first | exact Drawn0.refl _ | apply Drawn0.step)⟩
          · rw [if_neg c6] at H
            have c6b0 : (a0.toList == ([114, 101, 116, 117, 114, 110, 115] : List UInt8)) = false := beq_eq_false_iff_ne.mpr c6
            have c6b1 : (a0.toList != ([114, 101, 116, 117, 114, 110, 115] : List UInt8)) = true := bne_iff_ne.mpr c6
            by_cases c7 : a0.toList = ([114, 101, 112, 101, 97, 116, 101, 100] : List UInt8)
            · rw [if_pos c7] at H
              have c7b0 : (a0.toList == ([114, 101, 112, 101, 97, 116, 101, 100] : List UInt8)) = true := beq_iff_eq.mpr c7
              have c7b1 : (a0.toList != ([114, 101, 112, 101, 97, 116, 101, 100] : List UInt8)) = false := bne_eq_false_iff_eq.mpr c7
              clear c7
              obtain rfl := Option.some.inj H
              go_enter Tryd.func26, Tryd.ntmps26
              go_wp2
              go_ret
              exact ⟨by first | rfl | (simp; done) | (simp [*]; done), by repeat (first | exact Drawn0.refl _ | apply Drawn0.step)⟩
            · rw [if_neg c7] at H
              have c7b0 : (a0.toList == ([114, 101, 112, 101, 97, 116, 101, 100] : List UInt8)) = false := beq_eq_false_iff_ne.mpr c7
              have c7b1 : (a0.toList != ([114, 101, 112, 101, 97, 116, 101, 100] : List UInt8)) = true := bne_iff_ne.mpr c7
              replace H := Option.bind_eq_some_iff.mp H
              obtain ⟨t180, A80, H⟩ := H
              replace H : (some (decide (t180 > 0))) = some r := H
              have A8 := Aside0.mk A80
              clear A80
              obtain rfl := Option.some.inj H
              go_enter Tryd.func26, Tryd.ntmps26
              go_wp2_with (first | ((with_reducible refine gate_callee (f := 27) rfl ?_); refine goesL_ (some 12) rfl rfl Tryd.func27 (by kernel_rfl) rfl #[.string a0] rfl (by (try simp only [List.map_toArray, List.map_cons, List.map_nil]); first | done | rfl | (simp only [List.length_drop, List.length_take]; rfl)) ?_; (with_reducible refine (courierref03_Scalar.calls a0 t180 _ A8.out).mono ?_); rintro e w' ⟨rfl, ⟨nd, rfl⟩⟩; refine ⟨_, rfl, ?_⟩))
              go_ret
              exact ⟨by first | rfl | (simp; done) | (simp [*]; done), by repeat (first | exact Drawn0.refl _ | apply Drawn0.step)⟩

end Go.Proofs.YtbhfecciegfdjaaDoor.X
