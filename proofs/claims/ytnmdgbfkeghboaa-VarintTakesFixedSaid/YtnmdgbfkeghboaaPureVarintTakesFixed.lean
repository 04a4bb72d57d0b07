/- The statement VarintTakesFixed over lists: of any bytes the program takes fixed numbers as the reference reckons them, if they are long enough; no further condition. -/
import Derived.Test.YtnmdgbfkeghboaaX18
import Derived.Test.YtnmdgbfkeghboaaSpecFixed
namespace Go.Proofs.Ytnmdgbfkeghboaa.Pure
open Go.RowKit Go.Proofs.Ytnmdgbfkeghboaa.X Go.Proofs.YtnmdgbfkeghboaaW.PrintWords Go.Proofs.YtnmdgbfkeghboaaW.PrintLast Go.Proofs.Ytnmdgbfkeghboaa.Math

theorem VarintTakesFixed : courierlaw01_VarintTakesFixed.Pure := by
  intro l _ _ hw
  have hb := Bytes.of_wf hw
  obtain ⟨K1, h1⟩ := ref_number (l.take 4) (hb.take 4) (by simp; omega)
  obtain ⟨K2, h2⟩ := ref_number (l.take 8) (hb.take 8) (by simp; omega)
  refine ⟨K1 + K2 + 2, ?_⟩
  unfold courierlaw01_VarintTakesFixed.f
  by_cases c4 : l.length < 4
  · rw [varint_take32_short c4, varint_take64_short (by omega)]
    simp only [bsome]
    rw [if_pos (by omega)]
    simp
  · rw [varint_take32 hb (by omega)]
    have hlt : numL (l.take 4) < 256 ^ 4 := by
      have := numL_lt _ (hb.take 4)
      rwa [show (l.take 4).length = 4 by simp; omega] at this
    by_cases c8 : l.length < 8
    · rw [varint_take64_short c8]
      simp only [bsome]
      rw [if_neg (by omega), if_pos (by omega), h1 _ (by omega)]
      simp only [bsome]
      rw [u64_id (by omega) (by omega), if_pos rfl]
      simp only [courierlaw01_VarintTakesFixed.j0]
      rw [if_neg (by simp), if_pos (by omega)]
      simp
    · rw [varint_take64 hb (by omega)]
      simp only [bsome]
      rw [if_neg (by omega), if_pos (by omega), h1 _ (by omega)]
      simp only [bsome]
      rw [u64_id (by omega) (by omega), if_pos rfl]
      simp only [courierlaw01_VarintTakesFixed.j0]
      rw [if_neg (by simp), if_neg (by omega), if_pos (by omega), h2 _ (by omega)]
      simp

end Go.Proofs.Ytnmdgbfkeghboaa.Pure
