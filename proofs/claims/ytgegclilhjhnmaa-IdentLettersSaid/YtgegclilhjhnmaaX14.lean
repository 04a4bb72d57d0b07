/- Plain functions for Go's own, out of the translation's print, and a proof that each call comes to what they tell; no condition but the functions' own answers. -/
import Derived.Test.YtgegclilhjhnmaaX0
import Derived.Test.YtgegclilhjhnmaaX1
import Derived.Test.YtgegclilhjhnmaaX13
import Derived.Test.YtgegclilhjhnmaaAwake03
import Derived.Laws.Cover4
namespace Go.Proofs.Ytgegclilhjhnmaa.X
open Go.RowKit Go.Proofs.YtgegclilhjhnmaaW.PrintWords Go.Proofs.YtgegclilhjhnmaaW.PrintLast Go.Proofs.YtgegclilhjhnmaaW.PrintMore
attribute [local go_sem] max2_int min2_int max_two min_two max_three min_three max_four min_four Go.Proofs.Ytgegclilhjhnmaa.MyWords.put_isSome Go.Proofs.Ytgegclilhjhnmaa.MyWords.drewN_put   -- for this text's walks alone
set_option linter.unusedVariables false
set_option linter.unusedSimpArgs false

/-! ### courierlaw03_IdentLetters: function 3 -/
section
open Go.Proofs.Ytgegclilhjhnmaa.Math
def courierlaw03_IdentLetters.f (a0 : Int) : Prop := ∃ l : Bool, ident_Letter.f a0 = some l ∧ courierref03_Letter.f a0 = some l ∧ nameV (runesOf (Utf8.encode a0)) = l
def courierlaw03_IdentLetters.Pure : Prop := ∀ (a0 : Int), (Lit.int .i32 a0).wf = true → courierlaw03_IdentLetters.f a0
set_option maxHeartbeats 4000000 in
set_option maxRecDepth 100000 in
theorem courierlaw03_IdentLetters.walk (P : courierlaw03_IdentLetters.Pure) (a0 : Int) (w : World) (w0 : (Lit.int .i32 a0).wf = true) :
    Calls Try.prog 3 #[.int .i32 a0] w fun e w' => e = .returned (.bool true) ∧ Below w.heap.size w w' := by
  obtain ⟨l, h1, h2, h3⟩ := P a0 w0
  have H1 := Aside0.mk h1
  have H2 := Aside0.mk h2
  have H3 := Aside0.mk h3
  clear h1 h2 h3 w0 P
  go_enter Try.func3, Try.ntmps3
  go_wp2_with fail
  refine (awake03.calls _).mono ?_
  rintro e w1 ⟨rfl, hb⟩
  have HB1 := Aside0.mk hb
  clear hb
  go_wp2_with fail
  refine (ident_Letter.calls a0 l _ H1.out).mono ?_
  rintro e w' ⟨rfl, ⟨nd, rfl⟩⟩
  go_wp2_with fail
  refine (courierref03_Letter.calls a0 l _ H2.out).mono ?_
  rintro e w' ⟨rfl, ⟨nd2, rfl⟩⟩
  have HB2 := Aside0.mk (pw_below_drewN (pw_below_drewN HB1.out nd) nd2)
  have tl : (l == l) = true := beq_self_eq_true l
  obtain ⟨W, hW⟩ : ∃ W, W = (w1.drewN nd).drewN nd2 := ⟨_, rfl⟩
  rw [← hW] at HB2 ⊢
  clear hW HB1
  have hcv := run_convert_runes (P := Try.prog) (W.alloc (.cells #[.int .i32 a0] 21)) 25 9 21 ⟨W.heap.size, 0, none⟩ 1 1 [a0] (by simp) Try.underlying25 Try.underlying21 Try.underlying9 (fun j hj => by
    have hj0 : j = 0 := by simp at hj; omega
    subst hj0
    exact blk_cell (heap_alloc_new W _) 0)
  have hrb : runesBytes ([a0].take 1) = Utf8.encode a0 := by simp [runesBytes]
  rw [hrb] at hcv
  go_wp2_with fail
  refine (ident_Name.calls (Utf8.encode a0) _ (by have := encode_size_le a0; omega)).mono ?_
  rintro e w2 ⟨rfl, hb2⟩
  rw [H3.out]
  have HB3 := Aside0.mk (below_step (below_alloc HB2.out _) hb2)
  clear hb2 hcv
  go_wp2_with fail
  go_ret
  exact ⟨rfl, HB3.out⟩
end

end Go.Proofs.Ytgegclilhjhnmaa.X
