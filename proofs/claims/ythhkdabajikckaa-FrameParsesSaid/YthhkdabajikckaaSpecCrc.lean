/- What sums of bytes come to in the reference and in the program: the CRC-32 of any bytes; the register is any number below 2^32. -/
import Derived.Test.YthhkdabajikckaaX4
import Derived.Test.YthhkdabajikckaaX8
import Derived.Test.YthhkdabajikckaaX9
import Derived.Test.YthhkdabajikckaaX10
import Derived.Test.YthhkdabajikckaaCrcTable
set_option linter.unusedVariables false
namespace Go.Proofs.Ythhkdabajikckaa.X
open Go.RowKit Go.Proofs.YthhkdabajikckaaW.PrintWords Go.Proofs.YthhkdabajikckaaW.PrintLast Go.Proofs.YthhkdabajikckaaW.PrintMore Go.Proofs.Ythhkdabajikckaa.Math

theorem crc_update {s : Nat} (hs : s < 4294967296) {l : List Int} (hb : Bytes l) : crc_Update.f (s : Int) l = some ((crcUpd s l : Nat) : Int) := by
  unfold crc_Update.f
  rw [if_pos ⟨by omega, okBytes_iff.mpr hb⟩, Int.toNat_natCast]
theorem crc_sum {l : List Int} (hb : Bytes l) : crc_Sum.f l = some ((crcUpd 0 l : Nat) : Int) := by
  unfold crc_Sum.f
  rw [show crc_Update.f 0 l = some ((crcUpd 0 l : Nat) : Int) from crc_update (s := 0) (by omega) hb, bsome]
theorem ref_shift {c : Nat} (hc : c < 4294967296) : courierref15_shift.f (c : Int) = some ((sh c : Nat) : Int) := by
  unfold courierref15_shift.f sh
  rw [and1_u32 hc, show (c : Int) / 2 = ((c / 2 : Nat) : Int) by omega]
  by_cases h : c % 2 = 1
  · rw [if_pos (by omega), if_pos h, show (3988292384 : Int) = ((poly : Nat) : Int) from rfl, xor_nat_u32 (by omega) (by decide)]
  · rw [if_neg (by omega), if_neg h]
theorem ref_update_l1 (l : List Int) (len : Int) (i : Nat) (hi : i < 4611686018427387904) : ∀ (d j x k : Nat), 8 - j = d → j ≤ 8 → x < 4294967296 →
    courierref15_Update.l1 (k + d + 1) (x : Int) l len (i : Int) (j : Int) = courierref15_Update.l0 k ((shN d x : Nat) : Int) l len ((i + 1 : Nat) : Int) := by
  intro d
  induction d with
  | zero =>
    intro j x k hd hj hx
    simp only [courierref15_Update.l1]
    rw [if_neg (by omega), wrap64_id (by omega) (by omega)]
    rfl
  | succ d ih =>
    intro j x k hd hj hx
    rw [show k + (d + 1) + 1 = (k + d + 1) + 1 by omega, courierref15_Update.l1, if_pos (by omega), ref_shift hx, bsome, wrap64_id (by omega) (by omega), show (j : Int) + 1 = ((j + 1 : Nat) : Int) by omega, ih (j + 1) (sh x) k (by omega) (by omega) (sh_lt hx)]
    rfl
theorem ref_update_l0 (l : List Int) (hb : Bytes l) (hl : l.length < 4611686018427387904) : ∀ (d i x : Nat), l.length - i = d → i ≤ l.length → x < 4294967296 → ∀ k, 10 * d + 1 ≤ k →
    courierref15_Update.l0 k (x : Int) l (l.length : Int) (i : Int) = some ((inv32 (crcFold x (l.drop i)) : Nat) : Int) := by
  intro d
  induction d with
  | zero =>
    intro i x hd hi hx k hk
    obtain ⟨k, rfl⟩ : ∃ m, k = m + 1 := ⟨k - 1, by omega⟩
    simp only [courierref15_Update.l0]
    rw [if_neg (by omega), List.drop_eq_nil_of_le (by omega), inv_u32 hx]
    rfl
  | succ d ih =>
    intro i x hd hi hx k hk
    obtain ⟨k, rfl⟩ : ∃ m, k = m + 10 := ⟨k - 10, by omega⟩
    have hlt : i < l.length := by omega
    rw [show k + 10 = (k + 8 + 1) + 1 by omega, courierref15_Update.l0]
    obtain ⟨h0, h1⟩ := rd_bytes hb hlt
    rw [if_pos (by omega), if_pos (by omega), if_pos (by omega), drop_rd hlt]
    generalize rd l (i : Int) = c at h0 h1
    obtain ⟨c, rfl⟩ := Int.eq_ofNat_of_zero_le h0
    rw [show (c : Int) % 4294967296 = (c : Int) by omega, xor_nat_u32 hx (by omega)]
    have h8 := ref_update_l1 l (l.length : Int) i (by omega) 8 0 (x ^^^ c) k (by omega) (by omega) (xor_lt hx (by omega))
    rw [show ((0 : Nat) : Int) = 0 from rfl] at h8
    rw [h8, ih (i + 1) _ (by omega) (by omega) (shN_lt 8 (xor_lt hx (by omega))) k (by omega)]
    rfl
theorem ref_update {s : Nat} (hs : s < 4294967296) {l : List Int} (hb : Bytes l) (hl : l.length < 4611686018427387904) : ∃ K, ∀ k, K ≤ k → courierref15_Update.f k (s : Int) l = some ((crcUpd s l : Nat) : Int) := by
  refine ⟨10 * l.length + 1, fun k hk => ?_⟩
  unfold courierref15_Update.f
  rw [inv_u32 hs]
  exact ref_update_l0 l hb hl l.length 0 (inv32 s) (by omega) (by omega) (inv32_lt hs) k hk
theorem ref_sum {l : List Int} (hb : Bytes l) (hl : l.length < 4611686018427387904) : ∃ K, ∀ k, K ≤ k → courierref15_Sum.f k l = some ((crcUpd 0 l : Nat) : Int) := by
  obtain ⟨K, h⟩ := ref_update (s := 0) (by omega) hb hl
  refine ⟨K, fun k hk => ?_⟩
  unfold courierref15_Sum.f
  rw [show courierref15_Update.f k 0 l = some ((crcUpd 0 l : Nat) : Int) from h k hk, bsome]
end Go.Proofs.Ythhkdabajikckaa.X
