/- The statement FrameSame over plain values: two frames are alike in the program just if they are in the reference; no further condition. -/
import Derived.Test.YthhkdabajikckaaGFrameSame
import Derived.Test.YthhkdabajikckaaSpecFrame
set_option linter.unusedVariables false
namespace Go.Proofs.Ythhkdabajikckaa.Pure
open Go.RowKit Go.Proofs.YthhkdabajikckaaW.PrintWords Go.Proofs.YthhkdabajikckaaW.PrintMore Go.Proofs.Ythhkdabajikckaa.Math Go.Proofs.Ythhkdabajikckaa.X Go.Proofs.Ythhkdabajikckaa
theorem same_both (a0 a1 a2 a3 a4 a5 a6 a7 : Int) (l : List Int) (b0 b1 b2 b3 b4 b5 b6 b7 : Int) (m : List Int) : ∃ r, frame_Same.f a0 a1 a2 a3 a4 a5 a6 a7 l b0 b1 b2 b3 b4 b5 b6 b7 m = some r ∧ courierref15_Same.f a0 a1 a2 a3 a4 a5 a6 a7 l b0 b1 b2 b3 b4 b5 b6 b7 m = some r := by
  have e : frame_Same.f a0 a1 a2 a3 a4 a5 a6 a7 l b0 b1 b2 b3 b4 b5 b6 b7 m = courierref15_Same.f a0 a1 a2 a3 a4 a5 a6 a7 l b0 b1 b2 b3 b4 b5 b6 b7 m := by
    unfold frame_Same.f courierref15_Same.f bytes_Equal.f
    simp only [bsome]
  rw [e]
  unfold courierref15_Same.f
  repeat' split
  all_goals exact ⟨_, rfl, rfl⟩
theorem same_self (a0 a1 a2 a3 a4 a5 a6 a7 : Int) (l : List Int) : frame_Same.f a0 a1 a2 a3 a4 a5 a6 a7 l a0 a1 a2 a3 a4 a5 a6 a7 l = some true := by
  unfold frame_Same.f bytes_Equal.f
  simp only [if_true, bsome, beq_self_eq_true]
theorem FrameSame : courierlaw15_FrameSame.Pure := by
  intro y0 y1 _ _
  obtain ⟨a0, a1, a2, a3, a4, a5, a6, a7, l⟩ := y0
  obtain ⟨b0, b1, b2, b3, b4, b5, b6, b7, m⟩ := y1
  refine ⟨42001, ?_⟩
  simp only
  obtain ⟨r, e1, e2⟩ := same_both a0 a1 a2 a3 a4 a5 a6 a7 l b0 b1 b2 b3 b4 b5 b6 b7 m
  have e3 := same_self a0 a1 a2 a3 a4 a5 a6 a7 l
  have j0 : ∀ c, courierlaw15_FrameSame.j0 42001 c a0 a1 a2 a3 a4 a5 a6 a7 l b0 b1 b2 b3 b4 b5 b6 b7 m = some true := by
    intro c
    rw [show 42001 = 42000 + 1 from rfl]
    simp only [courierlaw15_FrameSame.j0]
    rw [e1, bsome, e2, bsome, e3, bsome, frame_awake _ (by omega), bsome, beq_self_eq_true]
    simp only [if_true]
    split <;> rfl
  unfold courierlaw15_FrameSame.f courierlaw15_Few.f
  rw [frame_awake _ (by omega)]
  simp only [bsome, j0, if_true]
  split <;> rfl
end Go.Proofs.Ythhkdabajikckaa.Pure
