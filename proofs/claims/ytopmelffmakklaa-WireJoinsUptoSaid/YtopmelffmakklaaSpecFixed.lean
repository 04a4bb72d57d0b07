/- What fixed numbers come to in the program and in the reference: four and eight bytes, the lowest first, written and taken; for lists that stay below 2^47 bytes. -/
import Derived.Test.YtopmelffmakklaaX2
import Derived.Test.YtopmelffmakklaaX3
import Derived.Test.YtopmelffmakklaaX7
import Derived.Test.YtopmelffmakklaaX10
import Derived.Test.YtopmelffmakklaaMathNum
set_option linter.unusedVariables false
namespace Go.Proofs.Ytopmelffmakklaa.X
open Go.RowKit Go.Proofs.YtopmelffmakklaaW.PrintWords Go.Proofs.YtopmelffmakklaaW.PrintLast Go.Proofs.YtopmelffmakklaaW.PrintMore Go.Proofs.Ytopmelffmakklaa.Math

theorem varint_append32 (n : Nat) (l : List Int) (h : l.length + 4 < 140737488355328) : varint_Append32.f l (n : Int) = some (l ++ lowV 4 n) := by
  unfold varint_Append32.f
  simp only [bsome, List.nil_append, List.length_nil, Nat.zero_add, List.length_cons]
  rw [if_pos (by omega), if_pos (by omega)]
  simp only [lowV]
  have e : ∀ a b c d a' b' c' d' : Int, a = a' → b = b' → c = c' → d = d' → some (l ++ [a, b, c, d]) = some (l ++ [a', b', c', d']) := by rintro _ _ _ _ _ _ _ _ rfl rfl rfl rfl; rfl
  exact e _ _ _ _ _ _ _ _ (by omega) (by omega) (by omega) (by omega)
theorem varint_append64 (n : Nat) (l : List Int) (hn : n < 2 ^ 64) (h : l.length + 8 < 140737488355328) : varint_Append64.f l (n : Int) = some (l ++ lowV 8 n) := by
  unfold varint_Append64.f
  rw [show (n : Int) % 4294967296 = ((n % 4294967296 : Nat) : Int) by omega, varint_append32 _ l (by omega)]
  simp only [bsome]
  rw [show (n : Int) / 4294967296 % 4294967296 = ((n / 4294967296 : Nat) : Int) by omega, varint_append32 _ _ (by simp [lowV_length]; omega)]
  simp only [bsome]
  rw [show (8 : Nat) = 4 + 4 from rfl, lowV_add 4 4 n, List.append_assoc, show lowV 4 (n % 4294967296) = lowV 4 n from lowV_mod 4 n 0]

theorem or4 {a b c d : Nat} (ha : a < 256) (hb : b < 256) (hc : c < 256) (hd : d < 256) :
    Go.bits .or .u32 (Go.bits .or .u32 (Go.bits .or .u32 ((a : Int) % 4294967296) ((((b : Int) % 4294967296) * 256) % 4294967296)) ((((c : Int) % 4294967296) * 65536) % 4294967296)) ((((d : Int) % 4294967296) * 16777216) % 4294967296) = ((a + 256 * (b + 256 * (c + 256 * d)) : Nat) : Int) := by
  rw [show (a : Int) % 4294967296 = (a : Int) by omega, show (((b : Int) % 4294967296) * 256) % 4294967296 = ((2 ^ 8 * b : Nat) : Int) by omega, or_u32 8 ha (by omega),
    show (((c : Int) % 4294967296) * 65536) % 4294967296 = ((2 ^ 16 * c : Nat) : Int) by omega, or_u32 16 (by omega) (by omega),
    show (((d : Int) % 4294967296) * 16777216) % 4294967296 = ((2 ^ 24 * d : Nat) : Int) by omega, or_u32 24 (by omega) (by omega)]
  omega
theorem rd_at {l : List Int} (i : Nat) : rd l (i : Int) = l.getD i 0 := rfl
theorem varint_take32_short {l : List Int} (h : l.length < 4) : varint_Take32.f l = some (0, 5) := by
  unfold varint_Take32.f
  rw [if_pos (by omega)]
theorem varint_take32 {l : List Int} (hb : Bytes l) (h : 4 ≤ l.length) : varint_Take32.f l = some (((numL (l.take 4) : Nat) : Int), 0) := by
  unfold varint_Take32.f
  rw [if_neg (by omega), if_pos (by omega), if_pos (by omega), if_pos (by omega), if_pos (by omega)]
  match l, hb, h with
  | a :: b :: c :: d :: l, hb, _ =>
    have ha := hb a (by simp)
    have h2 := hb b (by simp)
    have h3 := hb c (by simp)
    have h4 := hb d (by simp)
    obtain ⟨a, rfl⟩ := Int.eq_ofNat_of_zero_le ha.1
    obtain ⟨b, rfl⟩ := Int.eq_ofNat_of_zero_le h2.1
    obtain ⟨c, rfl⟩ := Int.eq_ofNat_of_zero_le h3.1
    obtain ⟨d, rfl⟩ := Int.eq_ofNat_of_zero_le h4.1
    show some (Go.bits .or .u32 (Go.bits .or .u32 (Go.bits .or .u32 ((a : Int) % 4294967296) ((((b : Int) % 4294967296) * 256) % 4294967296)) ((((c : Int) % 4294967296) * 65536) % 4294967296)) ((((d : Int) % 4294967296) * 16777216) % 4294967296), (0 : Int)) = _
    rw [or4 (by omega) (by omega) (by omega) (by omega)]
    simp [numL]
theorem varint_take64_short {l : List Int} (h : l.length < 8) : varint_Take64.f l = some (0, 5) := by
  unfold varint_Take64.f
  rw [if_pos (by omega)]
theorem numL_append (a b : List Int) : numL (a ++ b) = numL a + 256 ^ a.length * numL b := by
  induction a with
  | nil => simp [numL]
  | cons c a ih =>
    simp only [List.cons_append, numL, ih, List.length_cons, Nat.pow_succ, Nat.mul_add]
    rw [Nat.mul_comm (256 ^ a.length) 256, Nat.mul_assoc]
    omega
theorem varint_take64 {l : List Int} (hb : Bytes l) (h : 8 ≤ l.length) : varint_Take64.f l = some (((numL (l.take 8) : Nat) : Int), 0) := by
  unfold varint_Take64.f
  rw [if_neg (by omega), varint_take32 hb (by omega)]
  simp only [bsome]
  rw [if_pos (by omega), varint_take32 (hb.drop 4) (by simp; omega)]
  simp only [bsome]
  have h1 : numL (l.take 4) < 256 ^ 4 := by
    have := numL_lt _ (hb.take 4)
    rwa [show (l.take 4).length = 4 by simp; omega] at this
  have h2 : numL ((l.drop 4).take 4) < 256 ^ 4 := by
    have := numL_lt _ ((hb.drop 4).take 4)
    rwa [show ((l.drop 4).take 4).length = 4 by simp; omega] at this
  generalize e1 : numL (l.take 4) = a at h1
  generalize e2 : numL ((l.drop 4).take 4) = b at h2
  have e : numL (l.take 8) = a + 256 ^ 4 * b := by
    rw [show (8 : Nat) = 4 + 4 from rfl, List.take_add, numL_append, e1, e2, show (l.take 4).length = 4 by simp; omega]
  rw [u64_id (n := (b : Int)) (by omega) (by omega), u64_id (n := (a : Int)) (by omega) (by omega), u64_id (by omega) (by omega), show (b : Int) * 4294967296 = ((2 ^ 32 * b : Nat) : Int) by omega, or_hi_u64 32 (by omega) (by omega), e]
  congr 2
  omega

theorem ref_number_l0 (l : List Int) (hb : Bytes l) (hl : l.length ≤ 8) : ∀ (d i acc : Nat), l.length - i = d → i ≤ l.length → acc < 2 ^ (8 * i) → ∀ k, d < k →
    courierref01_Number.l0 k l (acc : Int) (l.length : Int) (i : Int) = some (((acc + 2 ^ (8 * i) * numL (l.drop i) : Nat) : Int)) := by
  intro d
  induction d with
  | zero =>
    intro i acc hd hil _ k hk
    obtain ⟨k, rfl⟩ : ∃ m, k = m + 1 := ⟨k - 1, by omega⟩
    simp only [courierref01_Number.l0]
    rw [if_neg (by omega), List.drop_eq_nil_of_le (by omega)]
    simp [numL]
  | succ d ih =>
    intro i acc hd hil hacc k hk
    obtain ⟨k, rfl⟩ : ∃ m, k = m + 1 := ⟨k - 1, by omega⟩
    have hlt : i < l.length := by omega
    simp only [courierref01_Number.l0]
    obtain ⟨h0, h1⟩ := rd_bytes hb hlt
    rw [if_pos (by omega), if_pos (by omega), if_pos (by omega), drop_rd hlt]
    generalize rd l (i : Int) = c at h0 h1
    obtain ⟨c, rfl⟩ := Int.eq_ofNat_of_zero_le h0
    have e1 : 2 ^ (8 * (i + 1)) = 2 ^ (8 * i) * 256 := by rw [show 8 * (i + 1) = 8 * i + 8 by omega, Nat.pow_add]
    have h3 : 2 ^ (8 * i) * (c + 1) ≤ 2 ^ (8 * i) * 256 := Nat.mul_le_mul_left _ (by omega)
    have h4 : 2 ^ (8 * (i + 1)) ≤ 2 ^ 64 := Nat.pow_le_pow_right (by omega) (by omega)
    rw [Nat.mul_add] at h3
    rw [show IntKind.u64.wrap (wrap64 (8 * (i : Int))) = ((8 * i : Nat) : Int) by rw [wrap64_id (by omega) (by omega), u64_id (by omega) (by omega)]; omega, if_pos (by omega), u64_id (n := (c : Int)) (by omega) (by omega),
      shl_u64 (8 * i) (by omega) (by rw [Nat.mul_comm]; omega), or_u64 (8 * i) hacc (by omega), wrap64_id (n := (i : Int) + 1) (by omega) (by omega)]
    have := ih (i + 1) (2 ^ (8 * i) * c + acc) (by omega) (by omega) (by omega) k (by omega)
    rw [show ((i + 1 : Nat) : Int) = (i : Int) + 1 by omega] at this
    rw [this]
    congr 2
    simp only [numL, Int.toNat_natCast]
    rw [e1, Nat.mul_add, Nat.mul_assoc]
    omega
theorem ref_number (l : List Int) (hb : Bytes l) (hl : l.length ≤ 8) : ∃ K, ∀ k, K ≤ k → courierref01_Number.f k l = some ((numL l : Nat) : Int) := by
  refine ⟨l.length + 1, fun k hk => ?_⟩
  have := ref_number_l0 l hb hl l.length 0 0 (by omega) (by omega) (by omega) k (by omega)
  unfold courierref01_Number.f
  simpa using this

end Go.Proofs.Ytopmelffmakklaa.X
