/- The statement CrcSums over lists: the program's sum of any bytes is the reference's; no further condition. -/
import Derived.Test.YtnmdgbfkeghboaaX26
import Derived.Test.YtnmdgbfkeghboaaSpecCrc
namespace Go.Proofs.Ytnmdgbfkeghboaa.Pure
open Go.RowKit Go.Proofs.Ytnmdgbfkeghboaa.X Go.Proofs.YtnmdgbfkeghboaaW.PrintWords Go.Proofs.YtnmdgbfkeghboaaW.PrintLast Go.Proofs.Ytnmdgbfkeghboaa.Math

theorem CrcSums : courierlaw14_CrcSums.Pure := by
  intro l _ hl hw
  obtain ⟨K, h⟩ := ref_sum (Bytes.of_wf hw) (by omega)
  exact ⟨K, _, crc_sum (Bytes.of_wf hw), h K (Nat.le_refl _)⟩

end Go.Proofs.Ytnmdgbfkeghboaa.Pure
