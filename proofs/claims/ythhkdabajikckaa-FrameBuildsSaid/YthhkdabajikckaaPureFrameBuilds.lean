/- The statement FrameBuilds over plain values: any frame has the bytes that the reference gives it, or none; no further condition. -/
import Derived.Test.YthhkdabajikckaaGFrameBuilds
import Derived.Test.YthhkdabajikckaaSpecFrame
set_option linter.unusedVariables false
namespace Go.Proofs.Ythhkdabajikckaa.Pure
open Go.RowKit Go.Proofs.YthhkdabajikckaaW.PrintWords Go.Proofs.YthhkdabajikckaaW.PrintMore Go.Proofs.Ythhkdabajikckaa.Math Go.Proofs.Ythhkdabajikckaa.X Go.Proofs.Ythhkdabajikckaa
theorem FrameBuilds : courierlaw15_FrameBuilds.Pure := by
  intro y0 ⟨b, h0, h1, h2, h3, h4, h5, h6, h7, h8, h9, h10⟩
  obtain ⟨a0, a1, a2, a3, a4, a5, a6, a7, l⟩ := y0
  simp only [Opens.gInt] at h0 h1 h2 h3 h4 h5 h6 h7 h10
  have hb : Bytes l := Bytes.of_wf h10
  rw [wf_u64] at h2 h4
  refine ⟨42001, ?_⟩
  simp only
  unfold courierlaw15_FrameBuilds.f
  rw [frame_awake _ (by omega), bsome, if_pos rfl]
  unfold courierlaw15_Few.f
  rw [bsome, show 42001 = 42000 + 1 from rfl]
  simp only [courierlaw15_FrameBuilds.j0]
  by_cases hl : (l.length : Int) ≤ 6000
  · rw [decide_eq_true hl, if_neg (by decide)]
    by_cases hf : FormedP a0 a1 a2 a3 a4 a5 a6 a7 (l.length : Int)
    · rw [frame_build_yes hb h2.2 hf _ (by omega), bsome, ref_build_yes hb h2.2 hf _ (by omega), bsome]
      simp only [if_true]
      rw [frame_formed h2.1 h4.1 _ (by omega), bsome, X.ref_formed h2.1 h4.1 _ (by omega), bsome, beq_self_eq_true]
    · rw [frame_build_no h2.1 h4.1 hf _ (by omega), bsome, ref_build_no h2.1 h4.1 hf _ (by omega), bsome]
      simp only [if_true]
      rw [frame_formed h2.1 h4.1 _ (by omega), bsome, X.ref_formed h2.1 h4.1 _ (by omega), bsome, beq_self_eq_true]
  · rw [decide_eq_false hl, if_pos (by decide), frame_awake _ (by omega), bsome]
end Go.Proofs.Ythhkdabajikckaa.Pure
