/- The statement VarintTakes over lists: of any bytes the program takes the same number, the same length and the same error as the reference; no further condition. -/
import Derived.Test.YtnmdgbfkeghboaaX12
import Derived.Test.YtnmdgbfkeghboaaSpecTake
namespace Go.Proofs.Ytnmdgbfkeghboaa.Pure
open Go.RowKit Go.Proofs.Ytnmdgbfkeghboaa.X Go.Proofs.YtnmdgbfkeghboaaW.PrintWords Go.Proofs.YtnmdgbfkeghboaaW.PrintLast Go.Proofs.Ytnmdgbfkeghboaa.Math

theorem VarintTakes : courierlaw01_VarintTakes.Pure := by
  intro l _ _ hw
  obtain ⟨K1, h1⟩ := varint_take l (Bytes.of_wf hw)
  obtain ⟨K2, h2⟩ := ref_take l (Bytes.of_wf hw)
  obtain ⟨K3, h3⟩ := varint_take [1] (Bytes.cons (by omega) (by omega) Bytes.nil)
  refine ⟨K1 + K2 + K3, ?_⟩
  unfold courierlaw01_VarintTakes.f
  rw [h1 _ (by omega), h2 _ (by omega), h3 _ (by omega)]
  simp [takeV]

end Go.Proofs.Ytnmdgbfkeghboaa.Pure
