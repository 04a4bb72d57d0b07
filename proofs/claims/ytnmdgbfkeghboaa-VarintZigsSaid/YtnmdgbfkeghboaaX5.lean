/- Plain functions for Go's own, out of the translation's print, and a proof that each call comes to what they tell; no condition but the functions' own answers. -/
import Derived.Test.YtnmdgbfkeghboaaX0
import Derived.Test.YtnmdgbfkeghboaaX1
import Derived.Test.YtnmdgbfkeghboaaX2
import Derived.Test.YtnmdgbfkeghboaaX3
import Derived.Test.YtnmdgbfkeghboaaX4
namespace Go.Proofs.Ytnmdgbfkeghboaa.X
open Go.RowKit Go.Proofs.YtnmdgbfkeghboaaW.PrintWords Go.Proofs.YtnmdgbfkeghboaaW.PrintLast Go.Proofs.YtnmdgbfkeghboaaW.PrintMore
attribute [local go_sem] max2_int min2_int max_two min_two max_three min_three max_four min_four   -- for this text's walks alone
set_option linter.unusedVariables false
set_option linter.unusedSimpArgs false

/-! ### courierlaw01_VarintZigs: function 3 -/
def courierlaw01_VarintZigs.f (a0 : Int) (a1 : Int) : Prop := ∃ z g : Int, varint_Zig.f a0 = some z ∧ courierref01_Zig.f a0 = some z ∧ varint_Zag.f a1 = some g ∧ courierref01_Zag.f a1 = some g ∧ varint_Zag.f z = some a0 ∧ varint_Zig.f g = some a1 ∧ varint_Zig.f (-1) = some 1
def courierlaw01_VarintZigs.Pure : Prop := ∀ (a0 : Int) (a1 : Int), (Lit.int .i64 a0).wf = true → (Lit.int .u64 a1).wf = true → courierlaw01_VarintZigs.f a0 a1
set_option maxHeartbeats 4000000 in
set_option maxRecDepth 100000 in
theorem courierlaw01_VarintZigs.walk (P : courierlaw01_VarintZigs.Pure) (a0 : Int) (a1 : Int) (w : World) (w0 : (Lit.int .i64 a0).wf = true) (w1 : (Lit.int .u64 a1).wf = true) :
    Calls Try.prog 3 #[.int .i64 a0, .int .u64 a1] w fun e w' => e = .returned (.bool true) ∧ Below w.heap.size w w' := by
  obtain ⟨z, g, h1, h2, h3, h4, h5, h6, h7⟩ := P a0 a1 w0 w1
  have H1 := Aside0.mk h1
  have H2 := Aside0.mk h2
  have H3 := Aside0.mk h3
  have H4 := Aside0.mk h4
  have H5 := Aside0.mk h5
  have H6 := Aside0.mk h6
  have H7 := Aside0.mk h7
  clear h1 h2 h3 h4 h5 h6 h7 w0 w1 P
  go_enter Try.func3, Try.ntmps3
  go_wp2_with (first | (go_at_call 15; (with_reducible refine (varint_Zig.calls a0 z _ H1.out).mono ?_); rintro e w' ⟨rfl, ⟨nd, rfl⟩⟩) | (go_at_call 16; (with_reducible refine (courierref01_Zig.calls a0 z _ H2.out).mono ?_); rintro e w' ⟨rfl, ⟨nd, rfl⟩⟩) | (go_at_call 17; (with_reducible refine (varint_Zag.calls a1 g _ H3.out).mono ?_); rintro e w' ⟨rfl, ⟨nd, rfl⟩⟩) | (go_at_call 18; (with_reducible refine (courierref01_Zag.calls a1 g _ H4.out).mono ?_); rintro e w' ⟨rfl, ⟨nd, rfl⟩⟩) | (go_at_call 17; (with_reducible refine (varint_Zag.calls z a0 _ H5.out).mono ?_); rintro e w' ⟨rfl, ⟨nd, rfl⟩⟩) | (go_at_call 15; (with_reducible refine (varint_Zig.calls g a1 _ H6.out).mono ?_); rintro e w' ⟨rfl, ⟨nd, rfl⟩⟩) | (go_at_call 15; (with_reducible refine (varint_Zig.calls (-1) 1 _ H7.out).mono ?_); rintro e w' ⟨rfl, ⟨nd, rfl⟩⟩))
  go_ret
  exact ⟨rfl, Drawn0.below (by repeat (first | exact Drawn0.refl _ | apply Drawn0.step))⟩

end Go.Proofs.Ytnmdgbfkeghboaa.X
