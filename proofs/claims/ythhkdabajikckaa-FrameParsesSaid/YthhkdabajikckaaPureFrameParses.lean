/- The statement FrameParses over lists: of any bytes the program and the reference parse the same frame, or none; no further condition. -/
import Derived.Test.YthhkdabajikckaaX21
import Derived.Test.YthhkdabajikckaaSpecRefParse
set_option linter.unusedVariables false
namespace Go.Proofs.Ythhkdabajikckaa.Pure
open Go.RowKit Go.Proofs.YthhkdabajikckaaW.PrintWords Go.Proofs.YthhkdabajikckaaW.PrintLast Go.Proofs.YthhkdabajikckaaW.PrintMore Go.Proofs.Ythhkdabajikckaa.Math Go.Proofs.Ythhkdabajikckaa.X Go.Proofs.Ythhkdabajikckaa
theorem same_self (a0 a1 a2 a3 a4 a5 a6 a7 : Int) (l : List Int) : courierref15_Same.f a0 a1 a2 a3 a4 a5 a6 a7 l a0 a1 a2 a3 a4 a5 a6 a7 l = some true := by
  unfold courierref15_Same.f
  simp only [if_true, beq_self_eq_true]
theorem FrameParses : courierlaw15_FrameParses.Pure := by
  intro l _ _ hw
  have hb : Bytes l := Bytes.of_wf hw
  refine ⟨60001, ?_⟩
  unfold courierlaw15_FrameParses.f
  rw [frame_awake _ (by omega), bsome, if_pos rfl, show 60001 = 60000 + 1 from rfl]
  simp only [courierlaw15_FrameParses.j0]
  by_cases hl : (l.length : Int) > 6000
  · rw [decide_eq_true hl, if_pos rfl, frame_awake _ (by omega), bsome]
  · rw [decide_eq_false hl, if_neg (by decide)]
    rcases parse_any hb (by omega) (k := 60000) (by omega) with ⟨f, hf, e, hp⟩ | ⟨hn, hp⟩
    · have hr := refparse_back hf (k := 60000) (by omega)
      rw [← e] at hr
      rw [hp, bsome, hr, bsome]
      obtain ⟨a0, a1, a2, a3, a4, a5, a6, a7, p⟩ := f
      simp only [okT, same_self, bsome, if_true, beq_self_eq_true]
    · rcases refparse_any hb (by omega) (k := 60000) (by omega) with ⟨f, hf, e, _⟩ | ⟨_, hr⟩
      · exact absurd e (hn f hf)
      · rw [hp, bsome, hr, bsome]
        simp only [badT, same_self, bsome, if_true, beq_self_eq_true]
end Go.Proofs.Ythhkdabajikckaa.Pure
