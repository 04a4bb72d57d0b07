/- Plain arithmetic of Go's bit operations on whole numbers: what and, or, xor and shifts come to, under bounds on the numbers. -/
import Derived.Laws.BitsLemmas
import Derived.Test.YtbhfecciegfdjaaDoorWMore
namespace Go.Proofs.YtbhfecciegfdjaaDoor.Math
open Go.Proofs.YtbhfecciegfdjaaDoorW.PrintWords Go.Proofs.YtbhfecciegfdjaaDoorW.PrintMore

/-- As Option.bind_some, but no definitional step: the kernel is spared long unfoldings. -/
theorem bsome {α β : Type} (a : α) (f : α → Option β) : (some a).bind f = f a := (Option.bind_some a f).trans rfl

theorem wf_u8 {x : Int} : (Lit.int .u8 x).wf = true ↔ 0 ≤ x ∧ x < 256 := by
  simp [Lit.wf, IntKind.min, IntKind.max, IntKind.bits, IntKind.signed]
  omega
theorem wf_u32 {x : Int} : (Lit.int .u32 x).wf = true ↔ 0 ≤ x ∧ x < 4294967296 := by
  simp [Lit.wf, IntKind.min, IntKind.max, IntKind.bits, IntKind.signed]
  omega
theorem wf_u64 {x : Int} : (Lit.int .u64 x).wf = true ↔ 0 ≤ x ∧ x < 18446744073709551616 := by
  simp [Lit.wf, IntKind.min, IntKind.max, IntKind.bits, IntKind.signed]
  omega
theorem wf_i64 {x : Int} : (Lit.int .i64 x).wf = true ↔ -9223372036854775808 ≤ x ∧ x < 9223372036854775808 := by
  simp [Lit.wf, IntKind.min, IntKind.max, IntKind.bits, IntKind.signed]
  omega
theorem wf_i32 {x : Int} : (Lit.int .i32 x).wf = true ↔ -2147483648 ≤ x ∧ x < 2147483648 := by
  simp [Lit.wf, IntKind.min, IntKind.max, IntKind.bits, IntKind.signed]
  omega

theorem wrap_u64 (n : Int) : IntKind.u64.wrap n = n % 18446744073709551616 := by simp [IntKind.wrap, IntKind.bits, IntKind.signed]
theorem u64_id {n : Int} (h0 : 0 ≤ n) (h1 : n < 18446744073709551616) : IntKind.u64.wrap n = n := by rw [wrap_u64]; omega
theorem wraps_u64 (n : Int) (h0 : 0 ≤ n) (h1 : n < 2 ^ 64) : IntKind.u64.wrap n = n := u64_id h0 (by omega)
theorem wraps_u32 (n : Int) (h0 : 0 ≤ n) (h1 : n < 2 ^ 32) : IntKind.u32.wrap n = n := by rw [IntKind.wrap_u32]; omega
theorem wrap64_id {n : Int} (h0 : -9223372036854775808 ≤ n) (h1 : n < 9223372036854775808) : Go.RowKit.wrap64 n = n := by
  unfold Go.RowKit.wrap64
  omega

/-- or of a low part and a higher part is their sum. -/
theorem or_u64 {a h : Nat} (i : Nat) (ha : a < 2 ^ i) (hh : 2 ^ i * h + a < 2 ^ 64) : Go.bits .or .u64 (a : Int) ((2 ^ i * h : Nat) : Int) = ((2 ^ i * h + a : Nat) : Int) := by
  rw [(bits_nat .u64 64 (by decide) wraps_u64 a (2 ^ i * h) (by omega) (by omega)).2, Nat.or_comm, ← Nat.two_pow_add_eq_or_of_lt ha h]
theorem or_u32 {a h : Nat} (i : Nat) (ha : a < 2 ^ i) (hh : 2 ^ i * h + a < 2 ^ 32) : Go.bits .or .u32 (a : Int) ((2 ^ i * h : Nat) : Int) = ((2 ^ i * h + a : Nat) : Int) := by
  rw [(bits_nat .u32 32 (by decide) wraps_u32 a (2 ^ i * h) (by omega) (by omega)).2, Nat.or_comm, ← Nat.two_pow_add_eq_or_of_lt ha h]
theorem or_hi_u64 {a h : Nat} (i : Nat) (ha : a < 2 ^ i) (hh : 2 ^ i * h + a < 2 ^ 64) : Go.bits .or .u64 ((2 ^ i * h : Nat) : Int) (a : Int) = ((2 ^ i * h + a : Nat) : Int) := by
  rw [(bits_nat .u64 64 (by decide) wraps_u64 (2 ^ i * h) a (by omega) (by omega)).2, ← Nat.two_pow_add_eq_or_of_lt ha h]
theorem or128_u8 {a : Nat} (ha : a < 256) : Go.bits .or .u8 (a : Int) 128 = ((a % 128 + 128 : Nat) : Int) := by
  rw [show (128 : Int) = ((128 : Nat) : Int) from rfl, (bits_nat .u8 8 (by decide) wraps_u8 a 128 (by omega) (by omega)).2]
  have : ∀ a : Fin 256, a.val ||| 128 = a.val % 128 + 128 := by decide +kernel
  rw [this ⟨a, ha⟩]
theorem and127_u8 {a : Nat} (ha : a < 256) : Go.bits .and .u8 (a : Int) 127 = ((a % 128 : Nat) : Int) := by
  rw [show (127 : Int) = ((127 : Nat) : Int) from rfl, (bits_nat .u8 8 (by decide) wraps_u8 a 127 (by omega) (by omega)).1]
  have : ∀ a : Fin 256, a.val &&& 127 = a.val % 128 := by decide +kernel
  rw [this ⟨a, ha⟩]
theorem and128_u8 {a : Nat} (ha : a < 256) : Go.bits .and .u8 (a : Int) 128 = ((a / 128 * 128 : Nat) : Int) := by
  rw [show (128 : Int) = ((128 : Nat) : Int) from rfl, (bits_nat .u8 8 (by decide) wraps_u8 a 128 (by omega) (by omega)).1]
  have : ∀ a : Fin 256, a.val &&& 128 = a.val / 128 * 128 := by decide +kernel
  rw [this ⟨a, ha⟩]
theorem shl_u64 {x : Nat} (y : Nat) (hy : y ≤ 64) (h : x * 2 ^ y < 2 ^ 64) : shl .u64 (x : Int) (y : Int) = ((2 ^ y * x : Nat) : Int) := by
  unfold shl
  rw [show min ((y : Int).toNat) IntKind.u64.bits = y by simp [IntKind.bits]; omega]
  rw [show ((x : Int) * 2 ^ y) = ((2 ^ y * x : Nat) : Int) by rw [Nat.mul_comm]; simp]
  exact u64_id (by omega) (by rw [Nat.mul_comm]; omega)
theorem shr_u64 (x y : Nat) (hy : y ≤ 64) : shr .u64 (x : Int) (y : Int) = ((x / 2 ^ y : Nat) : Int) := by
  unfold shr
  rw [show min ((y : Int).toNat) IntKind.u64.bits = y by simp [IntKind.bits]; omega]
  simp

theorem xor_nat_u32 {a b : Nat} (ha : a < 4294967296) (hb : b < 4294967296) : Go.bits .xor .u32 (a : Int) (b : Int) = ((a ^^^ b : Nat) : Int) := by
  have hx : a ^^^ b < 4294967296 := Nat.xor_lt_two_pow (n := 32) ha hb
  show IntKind.u32.wrap (((BitVec.ofInt 32 (a : Int)) ^^^ (BitVec.ofInt 32 (b : Int))).toNat : Int) = _
  rw [BitVec.ofInt_natCast, BitVec.ofInt_natCast, BitVec.toNat_xor, BitVec.toNat_ofNat, BitVec.toNat_ofNat, Nat.mod_eq_of_lt (show a < 2 ^ 32 from ha), Nat.mod_eq_of_lt (show b < 2 ^ 32 from hb), IntKind.wrap_u32]
  omega
theorem xor_nat_u8 {a b : Nat} (ha : a < 256) (hb : b < 256) : Go.bits .xor .u8 (a : Int) (b : Int) = ((a ^^^ b : Nat) : Int) := by
  have hx : a ^^^ b < 256 := Nat.xor_lt_two_pow (n := 8) ha hb
  show IntKind.u8.wrap (((BitVec.ofInt 8 (a : Int)) ^^^ (BitVec.ofInt 8 (b : Int))).toNat : Int) = _
  rw [BitVec.ofInt_natCast, BitVec.ofInt_natCast, BitVec.toNat_xor, BitVec.toNat_ofNat, BitVec.toNat_ofNat, Nat.mod_eq_of_lt (show a < 2 ^ 8 from ha), Nat.mod_eq_of_lt (show b < 2 ^ 8 from hb), IntKind.wrap_u8]
  omega
theorem and_nat_u32 {a b : Nat} (ha : a < 4294967296) (hb : b < 4294967296) : Go.bits .and .u32 (a : Int) (b : Int) = ((a &&& b : Nat) : Int) := (bits_nat .u32 32 (by decide) wraps_u32 a b ha hb).1
theorem and1_u32 {c : Nat} (hc : c < 4294967296) : Go.bits .and .u32 (c : Int) 1 = ((c % 2 : Nat) : Int) := by
  have := bits_mask .u32 32 (by decide) wraps_u32 1 (by decide) (c : Int) (by omega) (by omega)
  rw [show ((2 : Int) ^ 1 - 1) = 1 from rfl] at this
  rw [this]
  omega
/-- xor of 64 bits with all bits set, and with none. -/
theorem xor_u64_0 {x : Int} (h0 : 0 ≤ x) (h1 : x < 18446744073709551616) : Go.bits .xor .u64 x 0 = x := by
  obtain ⟨a, rfl⟩ := Int.eq_ofNat_of_zero_le h0
  have ha : a < 2 ^ 64 := by omega
  show IntKind.u64.wrap (((BitVec.ofInt 64 (a : Int)) ^^^ 0#64).toNat : Int) = a
  rw [BitVec.ofInt_natCast, BitVec.xor_zero, BitVec.toNat_ofNat, Nat.mod_eq_of_lt ha]
  exact u64_id h0 h1
theorem xor_u64_ones {x : Int} (h0 : 0 ≤ x) (h1 : x < 18446744073709551616) : Go.bits .xor .u64 x 18446744073709551615 = 18446744073709551615 - x := by
  obtain ⟨a, rfl⟩ := Int.eq_ofNat_of_zero_le h0
  have ha : a < 2 ^ 64 := by omega
  show IntKind.u64.wrap (((BitVec.ofInt 64 (a : Int)) ^^^ (BitVec.ofInt 64 18446744073709551615)).toNat : Int) = _
  rw [BitVec.ofInt_natCast, show BitVec.ofInt 64 18446744073709551615 = BitVec.allOnes 64 from by decide, BitVec.xor_allOnes, BitVec.toNat_not, BitVec.toNat_ofNat, Nat.mod_eq_of_lt ha]
  rw [u64_id (by omega) (by omega)]
  omega
theorem xor_i64_0 {x : Int} (h0 : 0 ≤ x) (h1 : x < 9223372036854775808) : Go.bits .xor .i64 x 0 = x := by
  obtain ⟨a, rfl⟩ := Int.eq_ofNat_of_zero_le h0
  have ha : a < 2 ^ 64 := by omega
  show IntKind.i64.wrap (((BitVec.ofInt 64 (a : Int)) ^^^ 0#64).toNat : Int) = a
  rw [BitVec.ofInt_natCast, BitVec.xor_zero, BitVec.toNat_ofNat, Nat.mod_eq_of_lt ha, IntKind.wrap_i64]
  omega
theorem xor_i64_ones {x : Int} (h0 : 0 ≤ x) (h1 : x < 9223372036854775808) : Go.bits .xor .i64 x (-1) = -1 - x := by
  obtain ⟨a, rfl⟩ := Int.eq_ofNat_of_zero_le h0
  have ha : a < 2 ^ 64 := by omega
  show IntKind.i64.wrap (((BitVec.ofInt 64 (a : Int)) ^^^ (BitVec.ofInt 64 (-1))).toNat : Int) = _
  rw [BitVec.ofInt_natCast, show BitVec.ofInt 64 (-1) = BitVec.allOnes 64 from by decide, BitVec.xor_allOnes, BitVec.toNat_not, BitVec.toNat_ofNat, Nat.mod_eq_of_lt ha, IntKind.wrap_i64]
  omega
theorem and1_u64 {x : Int} (h0 : 0 ≤ x) (h1 : x < 18446744073709551616) : Go.bits .and .u64 x 1 = x % 2 := bits_mask .u64 64 (by decide) wraps_u64 1 (by decide) x h0 (by omega)
end Go.Proofs.YtbhfecciegfdjaaDoor.Math
