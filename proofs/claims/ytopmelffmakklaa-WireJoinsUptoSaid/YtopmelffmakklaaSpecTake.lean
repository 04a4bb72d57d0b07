/- What Take of a varint comes to in the program and in the reference: the varint that any bytes begin with, or the error; for every list of bytes below 2^62 long. -/
import Derived.Test.YtopmelffmakklaaX6
import Derived.Test.YtopmelffmakklaaX9
import Derived.Test.YtopmelffmakklaaMathVarint
namespace Go.Proofs.Ytopmelffmakklaa.X
open Go.RowKit Go.Proofs.YtopmelffmakklaaW.PrintWords Go.Proofs.YtopmelffmakklaaW.PrintLast Go.Proofs.YtopmelffmakklaaW.PrintMore Go.Proofs.Ytopmelffmakklaa.Math

theorem take_room {acc i c : Nat} (hi : i ≤ 9) (hacc : acc < 2 ^ (7 * i)) (hov : i = 9 → c ≤ 1) (hc : c < 128) : 2 ^ (7 * i) * c + acc < 2 ^ 64 := by
  rcases Nat.lt_or_ge i 9 with h | h
  · have h1 : 2 ^ (7 * i) * (c + 1) ≤ 2 ^ (7 * i) * 128 := Nat.mul_le_mul_left _ (by omega)
    have h2 : 2 ^ (7 * i) * 128 = 2 ^ (7 * i + 7) := by rw [Nat.pow_add]
    have h3 : 2 ^ (7 * i + 7) ≤ 2 ^ 63 := Nat.pow_le_pow_right (by omega) (by omega)
    rw [Nat.mul_add] at h1
    omega
  · have h9 : i = 9 := by omega
    subst h9
    have := hov rfl
    have h1 : 2 ^ (7 * 9) * c ≤ 2 ^ (7 * 9) * 1 := Nat.mul_le_mul_left _ this
    omega
theorem take_next {acc i c : Nat} (hacc : acc < 2 ^ (7 * i)) (hc : c < 128) : acc + 2 ^ (7 * i) * c < 2 ^ (7 * (i + 1)) := by
  have e1 : 2 ^ (7 * (i + 1)) = 2 ^ (7 * i) * 128 := by rw [show 7 * (i + 1) = 7 * i + 7 by omega, Nat.pow_add]
  have h1 : 2 ^ (7 * i) * (c + 1) ≤ 2 ^ (7 * i) * 128 := Nat.mul_le_mul_left _ (by omega)
  rw [Nat.mul_add] at h1
  omega
theorem take_or {acc i c : Nat} (hi : i ≤ 9) (hacc : acc < 2 ^ (7 * i)) (hov : i = 9 → c ≤ 1) (hc : c < 256) :
    Go.bits .or .u64 (acc : Int) (shl .u64 (IntKind.u64.wrap (Go.bits .and .u8 (c : Int) 127)) ((7 * i : Nat) : Int)) = ((acc + 2 ^ (7 * i) * (c % 128) : Nat) : Int) := by
  have hm : c % 128 < 128 := Nat.mod_lt _ (by omega)
  have hov' : i = 9 → c % 128 ≤ 1 := fun h => Nat.le_trans (Nat.mod_le _ _) (hov h)
  have hr := take_room hi hacc hov' hm
  rw [and127_u8 hc, u64_id (by omega) (by omega), shl_u64 (7 * i) (by omega) (by rw [Nat.mul_comm]; omega), or_u64 (7 * i) hacc hr, Nat.add_comm]

theorem varint_take_j1 (k : Nat) {acc i c : Nat} (l : List Int) (len : Int) (hi : i ≤ 9) (hacc : acc < 2 ^ (7 * i)) (hov : i = 9 → c ≤ 1) (hc : c < 256) :
    varint_Take.j1 (k + 1) (acc : Int) (i : Int) (c : Int) l len (i : Int) false = if c < 128 then some (((acc + 2 ^ (7 * i) * c : Nat) : Int), ((i + 1 : Nat) : Int), 0) else varint_Take.l0 k ((acc + 2 ^ (7 * i) * (c % 128) : Nat) : Int) l len ((i + 1 : Nat) : Int) := by
  simp only [varint_Take.j1]
  rw [if_neg (by simp), show wrap64 (7 * (i : Int)) = ((7 * i : Nat) : Int) by rw [wrap64_id (by omega) (by omega)]; omega, if_pos (by omega), and128_u8 hc, take_or hi hacc hov hc, wrap64_id (n := (i : Int) + 1) (by omega) (by omega)]
  by_cases h : c < 128
  · rw [if_pos (by omega), if_pos h, Nat.mod_eq_of_lt h]
    rfl
  · rw [if_neg (by omega), if_neg h]
    rfl
theorem varint_take_l0 (l : List Int) (hb : Bytes l) : ∀ (d i acc : Nat), l.length - i = d → i ≤ l.length → i ≤ 9 → acc < 2 ^ (7 * i) → ∀ k, 2 * d + 2 ≤ k →
    varint_Take.l0 k (acc : Int) l (l.length : Int) (i : Int) = some (takeV i acc (l.drop i)) := by
  intro d
  induction d with
  | zero =>
    intro i acc hd hil _ _ k hk
    obtain ⟨k, rfl⟩ : ∃ m, k = m + 1 := ⟨k - 1, by omega⟩
    simp only [varint_Take.l0]
    rw [if_neg (by omega), List.drop_eq_nil_of_le (by omega)]
    rfl
  | succ d ih =>
    intro i acc hd hil hi hacc k hk
    obtain ⟨k, rfl⟩ : ∃ m, k = m + 2 := ⟨k - 2, by omega⟩
    have hlt : i < l.length := by omega
    simp only [varint_Take.l0]
    rw [if_pos (by omega), if_pos (by omega), if_pos (by omega), drop_rd hlt]
    obtain ⟨h0, h1⟩ := rd_bytes hb hlt
    generalize rd l (i : Int) = c at h0 h1
    obtain ⟨c, rfl⟩ := Int.eq_ofNat_of_zero_le h0
    have hc : c < 256 := by omega
    simp only [takeV, Int.toNat_natCast]
    have go : (i = 9 → c ≤ 1) → varint_Take.j1 (k + 1) (acc : Int) (i : Int) (c : Int) l (l.length : Int) (i : Int) false = some (if (c : Int) < 128 then (((acc + 2 ^ (7 * i) * c : Nat) : Int), ((i + 1 : Nat) : Int), 0) else takeV (i + 1) (acc + 2 ^ (7 * i) * (c % 128)) (l.drop (i + 1))) := by
      intro hov
      rw [varint_take_j1 k l _ hi hacc hov hc]
      by_cases h : c < 128
      · rw [if_pos h, if_pos (by omega)]
      · have hi8 : i < 9 := by
          rcases Nat.lt_or_ge i 9 with h9 | h9
          · exact h9
          · have := hov (by omega)
            omega
        rw [if_neg h, if_neg (by omega), ih (i + 1) _ (by omega) (by omega) (by omega) (take_next hacc (Nat.mod_lt _ (by omega))) k (by omega)]
    by_cases h9 : i = 9
    · rw [if_pos (by omega)]
      by_cases hc1 : 1 < c
      · rw [show decide ((c : Int) > 1) = true from decide_eq_true (by omega), if_pos ⟨h9, by omega⟩]
        simp [varint_Take.j1]
      · rw [show decide ((c : Int) > 1) = false from decide_eq_false (by omega), if_neg (by omega), go (fun _ => by omega)]
    · rw [if_neg (by omega), if_neg (by omega), go (fun h => absurd h h9)]
theorem varint_take (l : List Int) (hb : Bytes l) : ∃ K, ∀ k, K ≤ k → varint_Take.f k l = some (takeV 0 0 l) :=
  ⟨2 * l.length + 2, fun k hk => varint_take_l0 l hb l.length 0 0 (by omega) (by omega) (by omega) (by omega) k hk⟩

theorem ref_take_j1 (k : Nat) {acc i c : Nat} (l : List Int) (len : Int) (hil : i < l.length) (hrd : rd l (i : Int) = (c : Int)) (hi : i ≤ 9) (hacc : acc < 2 ^ (7 * i)) (hov : i = 9 → c ≤ 1) (hc : c < 256) :
    courierref01_Take.j1 (k + 1) l (acc : Int) (i : Int) len (i : Int) false = if c < 128 then some (((acc + 2 ^ (7 * i) * c : Nat) : Int), ((i + 1 : Nat) : Int), 0) else courierref01_Take.l0 k l ((acc + 2 ^ (7 * i) * (c % 128) : Nat) : Int) len ((i + 1 : Nat) : Int) := by
  simp only [courierref01_Take.j1]
  rw [if_neg (by simp), if_pos (by omega), if_pos (by omega), hrd, show IntKind.u64.wrap (wrap64 (7 * (i : Int))) = ((7 * i : Nat) : Int) by rw [wrap64_id (by omega) (by omega), u64_id (by omega) (by omega)]; omega, if_pos (by omega), take_or hi hacc hov hc, wrap64_id (n := (i : Int) + 1) (by omega) (by omega)]
  by_cases h : c < 128
  · rw [if_pos (by omega), if_pos h, Nat.mod_eq_of_lt h]
    rfl
  · rw [if_neg (by omega), if_neg h]
    rfl
theorem ref_take_l0 (l : List Int) (hb : Bytes l) : ∀ (d i acc : Nat), l.length - i = d → i ≤ l.length → i ≤ 9 → acc < 2 ^ (7 * i) → ∀ k, 2 * d + 2 ≤ k →
    courierref01_Take.l0 k l (acc : Int) (l.length : Int) (i : Int) = some (takeV i acc (l.drop i)) := by
  intro d
  induction d with
  | zero =>
    intro i acc hd hil _ _ k hk
    obtain ⟨k, rfl⟩ : ∃ m, k = m + 1 := ⟨k - 1, by omega⟩
    simp only [courierref01_Take.l0]
    rw [if_neg (by omega), List.drop_eq_nil_of_le (by omega)]
    rfl
  | succ d ih =>
    intro i acc hd hil hi hacc k hk
    obtain ⟨k, rfl⟩ : ∃ m, k = m + 2 := ⟨k - 2, by omega⟩
    have hlt : i < l.length := by omega
    simp only [courierref01_Take.l0]
    rw [if_pos (by omega), drop_rd hlt]
    obtain ⟨h0, h1⟩ := rd_bytes hb hlt
    generalize hrd : rd l (i : Int) = c at h0 h1
    obtain ⟨c, rfl⟩ := Int.eq_ofNat_of_zero_le h0
    have hc : c < 256 := by omega
    simp only [takeV, Int.toNat_natCast]
    have go : (i = 9 → c ≤ 1) → courierref01_Take.j1 (k + 1) l (acc : Int) (i : Int) (l.length : Int) (i : Int) false = some (if (c : Int) < 128 then (((acc + 2 ^ (7 * i) * c : Nat) : Int), ((i + 1 : Nat) : Int), 0) else takeV (i + 1) (acc + 2 ^ (7 * i) * (c % 128)) (l.drop (i + 1))) := by
      intro hov
      rw [ref_take_j1 k l _ hlt hrd hi hacc hov hc]
      by_cases h : c < 128
      · rw [if_pos h, if_pos (by omega)]
      · have hi8 : i < 9 := by
          rcases Nat.lt_or_ge i 9 with h9 | h9
          · exact h9
          · have := hov (by omega)
            omega
        rw [if_neg h, if_neg (by omega), ih (i + 1) _ (by omega) (by omega) (by omega) (take_next hacc (Nat.mod_lt _ (by omega))) k (by omega)]
    by_cases h9 : i = 9
    · rw [if_pos (by omega), if_pos (by omega), if_pos (by omega)]
      by_cases hc1 : 1 < c
      · rw [show decide ((c : Int) > 1) = true from decide_eq_true (by omega), if_pos ⟨h9, by omega⟩]
        simp [courierref01_Take.j1]
      · rw [show decide ((c : Int) > 1) = false from decide_eq_false (by omega), if_neg (by omega), go (fun _ => by omega)]
    · rw [if_neg (by omega), if_neg (by omega), go (fun h => absurd h h9)]
theorem ref_take (l : List Int) (hb : Bytes l) : ∃ K, ∀ k, K ≤ k → courierref01_Take.f k l = some (takeV 0 0 l) :=
  ⟨2 * l.length + 2, fun k hk => ref_take_l0 l hb l.length 0 0 (by omega) (by omega) (by omega) (by omega) k hk⟩
end Go.Proofs.Ytopmelffmakklaa.X
