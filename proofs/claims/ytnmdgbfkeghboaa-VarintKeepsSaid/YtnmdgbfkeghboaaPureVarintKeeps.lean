/- The statement VarintKeeps over lists: what is appended has the lengths that the law asks; no further condition. -/
import Derived.Test.YtnmdgbfkeghboaaX4
import Derived.Test.YtnmdgbfkeghboaaSpecWrite
import Derived.Test.YtnmdgbfkeghboaaSpecFixed
namespace Go.Proofs.Ytnmdgbfkeghboaa.Pure
open Go.RowKit Go.Proofs.YtnmdgbfkeghboaaW.PrintWords Go.Proofs.YtnmdgbfkeghboaaW.PrintLast Go.Proofs.Ytnmdgbfkeghboaa.Math Go.Proofs.Ytnmdgbfkeghboaa.X Go.Proofs.Ytnmdgbfkeghboaa

theorem VarintKeeps : courierlaw01_VarintKeeps.Pure := by
  intro l n hm hl hw hn
  rw [wf_u64] at hn
  obtain ⟨n, rfl⟩ := Int.eq_ofNat_of_zero_le hn.1
  have h10 := encV_len10 (n := n) (by omega)
  have hp : 0 < (encV n).length := by
    by_cases h : n < 128
    · rw [encV_small h]; simp
    · rw [encV_big h]; simp
  obtain ⟨K, h1⟩ := varint_append n l (by omega)
  have h2 : varint_Append32.f l 1 = some (l ++ lowV 4 1) := varint_append32 1 l (by omega)
  have h3 : varint_Append64.f l 2 = some (l ++ lowV 8 2) := varint_append64 2 l (by omega) (by omega)
  refine ⟨K, ?_⟩
  unfold courierlaw01_VarintKeeps.f
  rw [h1 _ (Nat.le_refl _), h2, h3]
  simp only [bsome]
  rw [if_pos (by rw [List.length_append, List.length_append, List.length_append, lowV_length, lowV_length]; omega)]

end Go.Proofs.Ytnmdgbfkeghboaa.Pure
