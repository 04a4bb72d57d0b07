/- The statement VarintFixed over lists: fixed numbers are written behind any bytes as the reference writes them, and are taken back as they were; no further condition. -/
import Derived.Test.YtnmdgbfkeghboaaX20
import Derived.Test.YtnmdgbfkeghboaaSpecFixed
namespace Go.Proofs.Ytnmdgbfkeghboaa.Pure
open Go.RowKit Go.Proofs.Ytnmdgbfkeghboaa.X Go.Proofs.YtnmdgbfkeghboaaW.PrintWords Go.Proofs.YtnmdgbfkeghboaaW.PrintLast Go.Proofs.Ytnmdgbfkeghboaa.Math

theorem VarintFixed : courierlaw01_VarintFixed.Pure := by
  intro l n u hm hl hw hn hu
  have hb := Bytes.of_wf hw
  rw [wf_u32] at hn
  rw [wf_u64] at hu
  obtain ⟨n, rfl⟩ := Int.eq_ofNat_of_zero_le hn.1
  obtain ⟨u, rfl⟩ := Int.eq_ofNat_of_zero_le hu.1
  obtain ⟨K1, h1⟩ := ref_low n 4 (by omega)
  obtain ⟨K2, h2⟩ := ref_low u 8 (by omega)
  refine ⟨K1 + K2 + 2, ?_⟩
  unfold courierlaw01_VarintFixed.f
  rw [varint_append32 n l (by omega), varint_append64 u l (by omega) (by omega), u64_id (by omega) (by omega)]
  simp only [bsome]
  have e4 : courierref01_Low.f (K1 + K2 + 2) (n : Int) 4 = some (lowV 4 n) := h1 _ (by omega)
  have e8 : courierref01_Low.f (K1 + K2 + 2) (u : Int) 8 = some (lowV 8 u) := h2 _ (by omega)
  rw [e4, e8]
  simp only [bsome]
  rw [if_pos (by rw [strOfNums_size, strOfNums_size, lowV_length]; omega), if_pos (by rw [strOfNums_size, strOfNums_size, lowV_length]; omega), ← str_append, ← str_append, if_pos rfl]
  simp only [courierlaw01_VarintFixed.j0]
  rw [if_neg (by simp), if_pos (by omega), if_pos (by rw [List.length_append]; omega)]
  have d4 : (l ++ lowV 4 n).drop ((l.length : Int) : Int).toNat = lowV 4 n := by simp
  have d8 : (l ++ lowV 8 u).drop ((l.length : Int) : Int).toNat = lowV 8 u := by simp
  rw [d4, d8, varint_take32 (lowV_bytes 4 n) (by rw [lowV_length]; omega)]
  simp only [bsome]
  rw [if_pos (by rw [List.length_append]; omega), varint_take64 (lowV_bytes 8 u) (by rw [lowV_length]; omega)]
  simp only [bsome]
  rw [show (lowV 4 n).take 4 = lowV 4 n from List.take_of_length_le (by rw [lowV_length]; omega), show (lowV 8 u).take 8 = lowV 8 u from List.take_of_length_le (by rw [lowV_length]; omega), numL_lowV, numL_lowV,
    Nat.mod_eq_of_lt (by omega), Nat.mod_eq_of_lt (by omega)]
  simp

end Go.Proofs.Ytnmdgbfkeghboaa.Pure
