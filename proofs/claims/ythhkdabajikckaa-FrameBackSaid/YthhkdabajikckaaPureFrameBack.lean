/- The statement FrameBack over plain values: what was built is parsed as it was; no further condition. -/
import Derived.Test.YthhkdabajikckaaGFrameBack
import Derived.Test.YthhkdabajikckaaSpecParse
set_option linter.unusedVariables false
namespace Go.Proofs.Ythhkdabajikckaa.Pure
open Go.RowKit Go.Proofs.YthhkdabajikckaaW.PrintWords Go.Proofs.YthhkdabajikckaaW.PrintMore Go.Proofs.Ythhkdabajikckaa.Math Go.Proofs.Ythhkdabajikckaa.X Go.Proofs.Ythhkdabajikckaa
theorem same_back (a0 a1 a2 a3 a4 a5 a6 a7 : Int) (l : List Int) : frame_Same.f a0 a1 a2 a3 a4 a5 a6 a7 l a0 a1 a2 a3 a4 a5 a6 a7 l = some true := by
  unfold frame_Same.f bytes_Equal.f
  simp only [if_true, bsome, beq_self_eq_true]
theorem ref_same_back (a0 a1 a2 a3 a4 a5 a6 a7 : Int) (l : List Int) : courierref15_Same.f a0 a1 a2 a3 a4 a5 a6 a7 l a0 a1 a2 a3 a4 a5 a6 a7 l = some true := by
  unfold courierref15_Same.f
  simp only [if_true, beq_self_eq_true]
theorem FrameBack : courierlaw15_FrameBack.Pure := by
  intro y0 ⟨b, h0, h1, h2, h3, h4, h5, h6, h7, h8, h9, h10⟩
  obtain ⟨a0, a1, a2, a3, a4, a5, a6, a7, l⟩ := y0
  simp only [Opens.gInt] at h0 h1 h2 h3 h4 h5 h6 h7 h10
  have hb : Bytes l := Bytes.of_wf h10
  rw [wf_u64] at h2 h4
  refine ⟨42001, ?_⟩
  simp only
  unfold courierlaw15_FrameBack.f
  rw [frame_awake _ (by omega), bsome, if_pos rfl]
  unfold courierlaw15_Few.f
  rw [bsome, show 42001 = 42000 + 1 from rfl]
  simp only [courierlaw15_FrameBack.j0]
  by_cases hl : (l.length : Int) ≤ 6000
  · rw [decide_eq_true hl, if_neg (by decide)]
    by_cases hf : FormedP a0 a1 a2 a3 a4 a5 a6 a7 (l.length : Int)
    · have hG : GoodFrame (a0, a1, a2, a3, a4, a5, a6, a7, l) := ⟨hf, h2.2, hb⟩
      have hp : frame_Parse.f 42000 (frameV a0 a1 a2 a3 a4 a5 a6 a7 l) = some (okT (a0, a1, a2, a3, a4, a5, a6, a7, l)) := parse_back hG (by omega)
      rw [frame_build_yes hb h2.2 hf _ (by omega), bsome]
      simp only [if_true, hp, bsome, okT, same_back, ref_same_back]
    · rw [frame_build_no h2.1 h4.1 hf _ (by omega), bsome]
      simp
  · rw [decide_eq_false hl, if_pos (by decide), frame_awake _ (by omega), bsome]
end Go.Proofs.Ythhkdabajikckaa.Pure
