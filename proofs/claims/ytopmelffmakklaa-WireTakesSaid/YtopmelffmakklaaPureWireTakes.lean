/- The statement WireTakes over lists: of any bytes the program's Take takes the field that the reference takes, or has its error; no further condition. -/
import Derived.Test.YtopmelffmakklaaX17
import Derived.Test.YtopmelffmakklaaSpecWire
namespace Go.Proofs.Ytopmelffmakklaa.Pure
open Go.RowKit Go.Proofs.Ytopmelffmakklaa.X Go.Proofs.YtopmelffmakklaaW.PrintWords Go.Proofs.YtopmelffmakklaaW.PrintLast Go.Proofs.Ytopmelffmakklaa.Math

theorem WireTakes : courierlaw02_WireTakes.Pure := by
  intro l hm hl hw
  have hB := Bytes.of_wf hw
  obtain ⟨K1, h1⟩ := wire_take l hB (by omega)
  obtain ⟨K2, h2⟩ := ref_takeField l hB (by omega)
  refine ⟨K1 + K2, ?_⟩
  unfold courierlaw02_WireTakes.f
  rw [h1 _ (by omega), h2 _ (by omega), show courierlaw02_awake.f = some true from rfl, bsome, if_pos rfl, bsome, bsome]
  generalize fieldV l = v
  unfold courierlaw02_ours.f courierref01_Same.f
  simp

end Go.Proofs.Ytopmelffmakklaa.Pure
