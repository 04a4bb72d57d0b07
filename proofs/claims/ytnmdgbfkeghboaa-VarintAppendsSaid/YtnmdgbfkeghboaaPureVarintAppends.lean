/- The statement VarintAppends over lists: any number is appended as the reference's shortest varint, and has its size; no further condition. -/
import Derived.Test.YtnmdgbfkeghboaaX33
import Derived.Test.YtnmdgbfkeghboaaX30
import Derived.Test.YtnmdgbfkeghboaaX31
import Derived.Test.YtnmdgbfkeghboaaX32
import Derived.Test.YtnmdgbfkeghboaaSpecWrite
import Derived.Lib.ItoaNum
namespace Go.Proofs.Ytnmdgbfkeghboaa.Pure
open Go.RowKit Go.Proofs.Ytnmdgbfkeghboaa.X Go.Proofs.YtnmdgbfkeghboaaW.PrintWords Go.Proofs.YtnmdgbfkeghboaaW.PrintLast Go.Proofs.Ytnmdgbfkeghboaa.Math

/-- How many bytes the shortest varint has, by its bits. -/
theorem encV_bits (n : Nat) : ∀ j : Nat, 2 ^ j ≤ n → n < 2 ^ (j + 1) → (encV n).length = j / 7 + 1 := by
  induction n using encV.induct with
  | case1 n h =>
    intro j h1 h2
    rw [encV_small h]
    have hj : j < 7 := by
      rcases Nat.lt_or_ge j 7 with h7 | h7
      · exact h7
      · have := Nat.pow_le_pow_right (n := 2) (by omega) h7
        omega
    simp
    omega
  | case2 n h ih =>
    intro j h1 h2
    rw [encV_big h]
    have hj : 7 ≤ j := by
      rcases Nat.lt_or_ge j 7 with h7 | h7
      · have := Nat.pow_le_pow_right (n := 2) (by omega) (show j + 1 ≤ 7 by omega)
        omega
      · exact h7
    obtain ⟨i, rfl⟩ : ∃ i, j = i + 7 := ⟨j - 7, by omega⟩
    have e1 : 2 ^ (i + 7) = 2 ^ i * 128 := by rw [Nat.pow_add]
    have e2 : 2 ^ (i + 7 + 1) = 2 ^ (i + 1) * 128 := by rw [show i + 7 + 1 = i + 1 + 7 by omega, Nat.pow_add]
    rw [e1] at h1
    rw [e2] at h2
    have := ih i (by rw [Nat.le_div_iff_mul_le (by omega)]; exact h1) (by rw [Nat.div_lt_iff_lt_mul (by omega)]; exact h2)
    simp only [List.length_cons, this]
    omega
theorem or1_u64 {n : Nat} (h : n < 18446744073709551616) : Go.bits .or .u64 (n : Int) 1 = ((n / 2 * 2 + 1 : Nat) : Int) := by
  have h1 := (bits_nat .u64 64 (by decide) wraps_u64 n 1 (by omega) (by omega)).2
  have e : n ||| 1 = n / 2 * 2 + 1 := by
    apply Nat.eq_of_testBit_eq
    intro i
    rw [Nat.testBit_or]
    cases i with
    | zero => simp [Nat.testBit_zero]
    | succ i =>
      rw [Nat.testBit_succ, Nat.testBit_succ, Nat.testBit_succ, show (n / 2 * 2 + 1) / 2 = n / 2 by omega]
      simp
  rw [show ((1 : Nat) : Int) = 1 from rfl] at h1
  rw [h1, e]
theorem size_f {n : Nat} (h : n < 18446744073709551616) : varint_Size.f (n : Int) = some ((encV n).length : Int) := by
  unfold varint_Size.f bits_Len64.f
  rw [or1_u64 h, if_pos (by omega), bsome, Int.toNat_natCast]
  have hs := Go.Lib.bitLenAux_bounds 64 (n / 2 * 2 + 1) (by omega) (by omega)
  unfold Lib.bitLen
  generalize hb : Lib.bitLenAux 64 (n / 2 * 2 + 1) = b at hs
  obtain ⟨hb1, h2', h1⟩ := hs
  have hb64 : b ≤ 64 := by
    rcases Nat.lt_or_ge 64 b with h6 | h6
    · have := Nat.pow_le_pow_right (n := 2) (by omega) (show 64 ≤ b - 1 by omega)
      omega
    · exact h6
  have hl : (encV n).length = (b - 1) / 7 + 1 := by
    by_cases hn : n = 0
    · subst hn
      have : b = 1 := by
        rcases Nat.lt_or_ge b 2 with h6 | h6
        · omega
        · have := Nat.pow_le_pow_right (n := 2) (by omega) (show 1 ≤ b - 1 by omega)
          omega
      subst this
      rw [encV_small (by omega)]
      rfl
    · by_cases hb2 : b = 1
      · subst hb2
        rw [encV_small (by omega)]
        rfl
      · have e : 2 ^ b = 2 * 2 ^ (b - 1) := by rw [← Nat.pow_succ']; congr 1; omega
        have e2 : 2 ^ (b - 1) = 2 * 2 ^ (b - 2) := by rw [← Nat.pow_succ']; congr 1; omega
        refine encV_bits n (b - 1) (by omega) ?_
        rw [show b - 1 + 1 = b by omega]
        omega
  rw [hl, wrap64_id (n := (b : Int) + 6) (by omega) (by omega), Int.tdiv_eq_ediv_of_nonneg (by omega), wrap64_id (by omega) (by omega)]
  congr 1
  omega

theorem VarintAppends : courierlaw01_VarintAppends.Pure := by
  intro l n hm hl hw hn
  rw [wf_u64] at hn
  obtain ⟨n, rfl⟩ := Int.eq_ofNat_of_zero_le hn.1
  have h10 := encV_len10 (n := n) (by omega)
  obtain ⟨K1, h1⟩ := varint_append n l (by omega)
  obtain ⟨K2, h2⟩ := ref_varint n l (by omega)
  obtain ⟨K3, h3⟩ := ref_varint n [] (by simp; omega)
  refine ⟨K1 + K2 + K3, ?_⟩
  unfold courierlaw01_VarintAppends.f
  rw [h1 _ (by omega)]
  simp only [bsome, List.nil_append, List.length_nil, Nat.zero_add]
  rw [if_pos (by omega), h2 _ (by omega)]
  simp only [bsome]
  rw [if_pos trivial, size_f (by omega)]
  simp only [bsome]
  unfold courierref01_Size.f
  rw [h3 _ (by omega)]
  simp only [bsome, List.nil_append]
  simp

end Go.Proofs.Ytnmdgbfkeghboaa.Pure
