/- The statement VarintLong over lists: a number's varint with up to nine bytes more than it needs is taken as the same number; no further condition. -/
import Derived.Test.YtnmdgbfkeghboaaX14
import Derived.Test.YtnmdgbfkeghboaaSpecTake
import Derived.Test.YtnmdgbfkeghboaaSpecWrite
set_option linter.unusedVariables false
namespace Go.Proofs.Ytnmdgbfkeghboaa.Pure
open Go.RowKit Go.Proofs.Ytnmdgbfkeghboaa.X Go.Proofs.YtnmdgbfkeghboaaW.PrintWords Go.Proofs.YtnmdgbfkeghboaaW.PrintLast Go.Proofs.Ytnmdgbfkeghboaa.Math

/-- Bytes with their highest bit set, and one without behind them: what a varint of any length looks like; its number. -/
def accV : Nat → Nat → List Int → Nat
  | _, acc, [] => acc
  | i, acc, c :: l => accV (i + 1) (acc + 2 ^ (7 * i) * (c.toNat % 128)) l
theorem accV_snoc (p : List Int) (c : Int) : ∀ (i acc : Nat), accV i acc (p ++ [c]) = accV i acc p + 2 ^ (7 * (i + p.length)) * (c.toNat % 128) := by
  induction p with
  | nil => intro i acc; simp [accV]
  | cons d p ih =>
    intro i acc
    simp only [List.cons_append, accV, ih, List.length_cons]
    congr 3
    omega
theorem takeV_long (p : List Int) (c : Nat) (hc : c < 128) : ∀ (i acc : Nat), (∀ x ∈ p, 128 ≤ x ∧ x < 256) → i + p.length ≤ 9 → (i + p.length = 9 → c ≤ 1) →
    takeV i acc (p ++ [(c : Int)]) = (((accV i acc p + 2 ^ (7 * (i + p.length)) * c : Nat) : Int), ((i + p.length + 1 : Nat) : Int), 0) := by
  induction p with
  | nil =>
    intro i acc _ hi h9
    have h9' : i = 9 → c ≤ 1 := h9
    rw [List.nil_append, takeV, if_neg (by omega), if_pos (by omega)]
    rfl
  | cons d p ih =>
    intro i acc hp hi h9
    have hd := hp d List.mem_cons_self
    simp only [List.length_cons] at hi h9 ⊢
    simp only [List.cons_append, takeV, accV]
    rw [if_neg (by omega), if_neg (by omega), ih (i + 1) _ (fun x hx => hp x (List.mem_cons_of_mem _ hx)) (by omega) (by omega)]
    rw [show i + 1 + p.length = i + (p.length + 1) by omega]
theorem encV_shape (n : Nat) : ∃ (p : List Int) (c : Nat), encV n = p ++ [(c : Int)] ∧ c < 128 ∧ (∀ x ∈ p, 128 ≤ x ∧ x < 256) ∧ ∀ i acc, accV i acc p + 2 ^ (7 * (i + p.length)) * c = acc + 2 ^ (7 * i) * n := by
  induction n using encV.induct with
  | case1 n h => exact ⟨[], n, by rw [encV_small h]; rfl, h, (fun x hx => by cases hx), fun i acc => rfl⟩
  | case2 n h ih =>
    obtain ⟨p, c, he, hc, hp, hv⟩ := ih
    refine ⟨((n % 128 + 128 : Nat) : Int) :: p, c, by rw [encV_big h, he]; rfl, hc, fun x hx => ?_, fun i acc => ?_⟩
    · rcases List.mem_cons.mp hx with rfl | hx
      · omega
      · exact hp x hx
    · simp only [accV, List.length_cons]
      have e3 : (((n % 128 + 128 : Nat) : Int)).toNat % 128 = n % 128 := by omega
      have e1 : 2 ^ (7 * (i + 1)) = 2 ^ (7 * i) * 128 := by rw [show 7 * (i + 1) = 7 * i + 7 by omega, Nat.pow_add]
      have := hv (i + 1) (acc + 2 ^ (7 * i) * (n % 128))
      rw [show i + 1 + p.length = i + (p.length + 1) by omega] at this
      rw [e3, this, e1, Nat.mul_assoc, Nat.add_assoc, ← Nat.mul_add, Nat.mod_add_div]
/-- A varint of n, of any length that is let. -/
def Long (n : Nat) (l : List Int) : Prop := ∃ (p : List Int) (c : Nat), l = p ++ [(c : Int)] ∧ c < 128 ∧ (∀ x ∈ p, 128 ≤ x ∧ x < 256) ∧ accV 0 0 p + 2 ^ (7 * p.length) * c = n ∧ p.length ≤ 9 ∧ (p.length = 9 → c ≤ 1)
theorem Long.takes {n : Nat} {l : List Int} (h : Long n l) : takeV 0 0 l = ((n : Int), (l.length : Int), 0) ∧ Bytes l ∧ 1 ≤ l.length ∧ l.length ≤ 10 := by
  obtain ⟨p, c, rfl, hc, hp, hv, h9, h91⟩ := h
  refine ⟨?_, ?_, by simp, by simp; omega⟩
  · rw [takeV_long p c hc 0 0 hp (by omega) (by omega)]
    simp only [Nat.zero_add, hv]
    simp
  · exact Bytes.append (fun x hx => by have := hp x hx; omega) (Bytes.cons (by omega) (by omega) Bytes.nil)
theorem Long.more {n : Nat} {l : List Int} (h : Long n l) (hl : l.length < 9) : Long n (l.set (l.length - 1) (Go.bits .or .u8 (rd l ((l.length - 1 : Nat) : Int)) 128) ++ [0]) := by
  obtain ⟨p, c, rfl, hc, hp, hv, h9, h91⟩ := h
  have e1 : (p ++ [(c : Int)]).length - 1 = p.length := by simp
  have e2 : rd (p ++ [(c : Int)]) ((p.length : Nat) : Int) = (c : Int) := by simp [rd]
  rw [e1, e2, or128_u8 (by omega), List.set_append_right _ _ (Nat.le_refl _), Nat.sub_self]
  simp only [List.set_cons_zero]
  simp only [List.length_append, List.length_cons, List.length_nil] at hl
  refine ⟨p ++ [((c % 128 + 128 : Nat) : Int)], 0, by simp, by omega, fun x hx => ?_, ?_, by simp; omega, by simp⟩
  · rcases List.mem_append.mp hx with hx | hx
    · exact hp x hx
    · rw [List.mem_singleton.mp hx]
      omega
  · rw [accV_snoc, Nat.mul_zero, Nat.add_zero, Nat.zero_add, show (((c % 128 + 128 : Nat) : Int)).toNat % 128 = c by omega, hv]

theorem long_l0 (n : Nat) (m : Nat) : ∀ (d j : Nat) (l : List Int), m - j = d → j ≤ m → m ≤ 9 → Long n l → ∃ K, ∀ k, K ≤ k → courierlaw01_VarintLong.l0 k (n : Int) l (m : Int) (j : Int) = some true := by
  intro d
  induction d with
  | zero =>
    intro j l hd hj hm hL
    obtain ⟨ht, hb, _, _⟩ := hL.takes
    obtain ⟨K, hK⟩ := varint_take l hb
    rw [ht] at hK
    refine ⟨K + 1, fun k hk => ?_⟩
    obtain ⟨k, rfl⟩ : ∃ m, k = m + 1 := ⟨k - 1, by omega⟩
    simp only [courierlaw01_VarintLong.l0]
    rw [if_neg (by omega), hK _ (by omega)]
    simp
  | succ d ih =>
    intro j l hd hj hm hL
    obtain ⟨ht, hb, h1, h10⟩ := hL.takes
    by_cases h9 : 9 ≤ l.length
    · obtain ⟨K, hK⟩ := varint_take l hb
      rw [ht] at hK
      refine ⟨K + 1, fun k hk => ?_⟩
      obtain ⟨k, rfl⟩ : ∃ m, k = m + 1 := ⟨k - 1, by omega⟩
      simp only [courierlaw01_VarintLong.l0]
      rw [if_pos (by omega), if_pos (by omega), hK _ (by omega)]
      simp
    · have hL' := hL.more (by omega)
      obtain ⟨K, hK⟩ := ih (j + 1) _ (by omega) (by omega) hm hL'
      refine ⟨K + 1, fun k hk => ?_⟩
      obtain ⟨k, rfl⟩ : ∃ m, k = m + 1 := ⟨k - 1, by omega⟩
      simp only [courierlaw01_VarintLong.l0]
      rw [if_pos (by omega), if_neg (by omega), show wrap64 ((l.length : Int) - 1) = ((l.length - 1 : Nat) : Int) by rw [wrap64_id (by omega) (by omega)]; omega, if_pos (by omega), if_pos (by omega)]
      simp only [bsome, Int.toNat_natCast]
      rw [if_pos (by rw [List.length_set]; omega), show ((j : Int) + 1) % 256 = ((j + 1 : Nat) : Int) by omega]
      exact hK k (by omega)

theorem VarintLong : courierlaw01_VarintLong.Pure := by
  intro n m hn hm
  rw [wf_u64] at hn
  rw [wf_u8] at hm
  obtain ⟨n, rfl⟩ := Int.eq_ofNat_of_zero_le hn.1
  obtain ⟨m, rfl⟩ := Int.eq_ofNat_of_zero_le hm.1
  have h10 := encV_len10 (n := n) (by omega)
  obtain ⟨K1, h1⟩ := ref_varint n [] (by simp; omega)
  have hL : Long n (encV n) := by
    obtain ⟨p, c, he, hc, hp, hv⟩ := encV_shape n
    have hv0 := hv 0 0
    simp only [Nat.zero_add, Nat.mul_zero, Nat.pow_zero, Nat.one_mul] at hv0
    rw [he] at h10
    simp only [List.length_append, List.length_cons, List.length_nil] at h10
    refine ⟨p, c, he, hc, hp, hv0, by omega, fun h9 => ?_⟩
    rw [h9] at hv0
    rcases Nat.lt_or_ge c 2 with h | h
    · omega
    · have : 2 ^ (7 * 9) * 2 ≤ 2 ^ (7 * 9) * c := Nat.mul_le_mul_left _ h
      omega
  obtain ⟨K2, h2⟩ := long_l0 n (m % 10) (m % 10) 0 (encV n) (by omega) (by omega) (by omega) hL
  refine ⟨K1 + K2, ?_⟩
  unfold courierlaw01_VarintLong.f
  rw [h1 _ (by omega)]
  simp only [bsome, List.nil_append]
  rw [Int.tmod_eq_emod_of_nonneg (by omega)]
  exact h2 _ (by omega)

end Go.Proofs.Ytnmdgbfkeghboaa.Pure
