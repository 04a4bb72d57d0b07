/- Sums of bytes (CRC-32) in plain numbers: the shift is linear and loses nothing; a table of eight shifts serves as well; one bit turned makes another sum; sums of two parts are joined. -/
import Derived.Test.YthhkdabajikckaaMathVarint
set_option linter.unusedVariables false
namespace Go.Proofs.Ythhkdabajikckaa.Math
open Go.Proofs.YthhkdabajikckaaW.PrintWords

def poly : Nat := 3988292384
def sh (s : Nat) : Nat := if s % 2 = 1 then s / 2 ^^^ poly else s / 2
def shN : Nat → Nat → Nat
  | 0, s => s
  | k + 1, s => shN k (sh s)
/-- What a byte does to the register. -/
def crcByte (s c : Nat) : Nat := shN 8 (s ^^^ c)
def crcFold : Nat → List Int → Nat
  | s, [] => s
  | s, c :: l => crcFold (crcByte s c.toNat) l
def ones32 : Nat := 4294967295
def inv32 (s : Nat) : Nat := s ^^^ ones32
def crcUpd (s : Nat) (l : List Int) : Nat := inv32 (crcFold (inv32 s) l)

theorem xor_lt {a b : Nat} (ha : a < 4294967296) (hb : b < 4294967296) : a ^^^ b < 4294967296 := Nat.xor_lt_two_pow (n := 32) ha hb
theorem sh_lt {s : Nat} (h : s < 4294967296) : sh s < 4294967296 := by
  unfold sh
  split
  · exact xor_lt (by omega) (by decide)
  · omega
theorem shN_lt (k : Nat) : ∀ {s : Nat}, s < 4294967296 → shN k s < 4294967296 := by
  induction k with
  | zero => intro s h; exact h
  | succ k ih => intro s h; exact ih (sh_lt h)
theorem xor_half (a b : Nat) : (a ^^^ b) / 2 = a / 2 ^^^ b / 2 := by
  have := Nat.shiftRight_xor_distrib (a := a) (b := b) (i := 1)
  simpa [Nat.shiftRight_eq_div_pow] using this
theorem xor_odd (a b : Nat) : (a ^^^ b) % 2 = (a % 2 + b % 2) % 2 := by
  have h := Nat.testBit_xor a b 0
  simp only [Nat.testBit_zero] at h
  have h1 : (a ^^^ b) % 2 < 2 := Nat.mod_lt _ (by omega)
  rcases Nat.mod_two_eq_zero_or_one a with ha | ha <;> rcases Nat.mod_two_eq_zero_or_one b with hb | hb <;> rcases Nat.mod_two_eq_zero_or_one (a ^^^ b) with hc | hc <;> simp [ha, hb, hc] at h ⊢
theorem sh_xor (a b : Nat) : sh (a ^^^ b) = sh a ^^^ sh b := by
  unfold sh
  rw [xor_half, xor_odd]
  rcases Nat.mod_two_eq_zero_or_one a with ha | ha <;> rcases Nat.mod_two_eq_zero_or_one b with hb | hb <;> rw [ha, hb]
  · rfl
  · simp [Nat.xor_assoc]
  · simp only [Nat.add_zero, Nat.one_mod, if_true, if_neg (show ¬ (0 = 1) by omega)]
    rw [Nat.xor_assoc, Nat.xor_assoc, Nat.xor_comm (b / 2)]
  · simp only [if_true, show (1 + 1) % 2 = 0 by rfl, if_neg (show ¬ (0 = 1) by omega)]
    rw [Nat.xor_assoc, Nat.xor_comm (b / 2) poly, ← Nat.xor_assoc poly, Nat.xor_self, Nat.zero_xor]
theorem sh_zero : sh 0 = 0 := rfl
theorem shN_zero (k : Nat) : shN k 0 = 0 := by
  induction k with
  | zero => rfl
  | succ k ih => exact ih
theorem shN_xor (k : Nat) : ∀ (a b : Nat), shN k (a ^^^ b) = shN k a ^^^ shN k b := by
  induction k with
  | zero => intro a b; rfl
  | succ k ih => intro a b; simp only [shN, sh_xor, ih]
theorem shN_add (j k : Nat) : ∀ s, shN (j + k) s = shN k (shN j s) := by
  induction j with
  | zero => intro s; rw [Nat.zero_add]; rfl
  | succ j ih => intro s; rw [show j + 1 + k = (j + k) + 1 by omega]; exact ih (sh s)
theorem shN_succ (j s : Nat) : shN (j + 1) s = sh (shN j s) := shN_add j 1 s
/-- The program's branchless shift. -/
theorem crc_step {c : Nat} (hc : c < 4294967296) : Go.bits .xor .u32 ((c : Int) / 2) (Go.bits .and .u32 3988292384 (-Go.bits .and .u32 (c : Int) 1 % 4294967296)) = ((sh c : Nat) : Int) := by
  rw [and1_u32 hc, show (c : Int) / 2 = ((c / 2 : Nat) : Int) by omega]
  unfold sh
  rcases Nat.mod_two_eq_zero_or_one c with h | h
  · rw [h, if_neg (by omega), show (-((0 : Nat) : Int) % 4294967296) = ((0 : Nat) : Int) from by decide, show (3988292384 : Int) = ((poly : Nat) : Int) from rfl, and_nat_u32 (by decide) (by decide), Nat.and_zero, xor_nat_u32 (by omega) (by decide), Nat.xor_zero]
  · rw [h, if_pos rfl, show (-((1 : Nat) : Int) % 4294967296) = ((4294967295 : Nat) : Int) from by decide, show (3988292384 : Int) = ((poly : Nat) : Int) from rfl, and_nat_u32 (by decide) (by decide), show poly &&& 4294967295 = poly from by decide, xor_nat_u32 (by omega) (by decide)]
/-- Nothing is lost: what becomes nought was nought. -/
theorem sh_inj {s : Nat} (h : s < 4294967296) (h0 : sh s = 0) : s = 0 := by
  unfold sh at h0
  split at h0
  · have h1 := congrArg (fun x => x ^^^ poly) h0
    simp only [Nat.xor_assoc, Nat.xor_self, Nat.xor_zero, Nat.zero_xor] at h1
    unfold poly at h1
    omega
  · omega
theorem shN_inj (k : Nat) : ∀ {s : Nat}, s < 4294967296 → shN k s = 0 → s = 0 := by
  induction k with
  | zero => intro s _ h; exact h
  | succ k ih => intro s h h0; exact sh_inj h (ih (sh_lt h) h0)
theorem sh_double (y : Nat) : sh (2 * y) = y := by
  unfold sh
  rw [if_neg (by omega)]
  omega
theorem shN_pow (k : Nat) : ∀ y, shN k (2 ^ k * y) = y := by
  induction k with
  | zero => intro y; simp [shN]
  | succ k ih => intro y; rw [shN, show 2 ^ (k + 1) * y = 2 * (2 ^ k * y) by rw [Nat.pow_succ, Nat.mul_comm (2 ^ k) 2, Nat.mul_assoc], sh_double, ih]
/-- Eight shifts, by a table of the lowest eight bits. -/
theorem shN8 (x : Nat) : shN 8 x = shN 8 (x % 256) ^^^ x / 256 := by
  have e : x = x % 256 ^^^ 2 ^ 8 * (x / 256) := by
    have h := Nat.two_pow_add_eq_or_of_lt (i := 8) (show x % 256 < 2 ^ 8 by omega) (x / 256)
    have h2 : 2 ^ 8 * (x / 256) ^^^ x % 256 = 2 ^ 8 * (x / 256) ||| x % 256 := by
      apply Nat.eq_of_testBit_eq
      intro i
      rw [Nat.testBit_xor, Nat.testBit_or, Nat.testBit_two_pow_mul]
      by_cases hi : 8 ≤ i
      · rw [Nat.testBit_lt_two_pow (x := x % 256) (Nat.lt_of_lt_of_le (show x % 256 < 2 ^ 8 by omega) (Nat.pow_le_pow_right (by omega) hi))]
        simp
      · simp [hi]
    rw [Nat.xor_comm, h2, ← h]
    omega
  conv => lhs; rw [e]
  rw [shN_xor, shN_pow]
theorem crcByte_tab {s c : Nat} (hc : c < 256) : crcByte s c = shN 8 ((s % 256) ^^^ c) ^^^ s / 256 := by
  unfold crcByte
  have h1 : (s ^^^ c) % 256 = s % 256 ^^^ c := by
    have := Nat.xor_mod_two_pow (a := s) (b := c) (n := 8)
    rw [show (2 : Nat) ^ 8 = 256 from rfl] at this
    rw [this, Nat.mod_eq_of_lt hc]
  have h2 : (s ^^^ c) / 256 = s / 256 := by
    have := Nat.shiftRight_xor_distrib (a := s) (b := c) (i := 8)
    simp only [Nat.shiftRight_eq_div_pow] at this
    rw [show (2 : Nat) ^ 8 = 256 from rfl] at this
    rw [this, Nat.div_eq_of_lt hc, Nat.xor_zero]
  rw [shN8, h1, h2]
theorem crcByte_lt {s c : Nat} (hs : s < 4294967296) (hc : c < 256) : crcByte s c < 4294967296 := shN_lt 8 (xor_lt hs (by omega))
theorem crcByte_xor (s t c : Nat) : crcByte (s ^^^ t) c = crcByte s c ^^^ shN 8 t := by
  unfold crcByte
  rw [← shN_xor]
  congr 1
  rw [Nat.xor_assoc, Nat.xor_comm t c, Nat.xor_assoc]
theorem crcFold_lt (l : List Int) (hb : Bytes l) : ∀ {s : Nat}, s < 4294967296 → crcFold s l < 4294967296 := by
  induction l with
  | nil => intro s h; exact h
  | cons c l ih =>
    intro s h
    have := hb c List.mem_cons_self
    exact ih (fun x hx => hb x (List.mem_cons_of_mem _ hx)) (crcByte_lt h (by omega))
theorem crcFold_append (a b : List Int) : ∀ s, crcFold s (a ++ b) = crcFold (crcFold s a) b := by
  induction a with
  | nil => intro s; rfl
  | cons c a ih => intro s; exact ih _
theorem crcFold_xor_nil (s t : Nat) : crcFold (s ^^^ t) [] = crcFold s [] ^^^ shN (8 * ([] : List Int).length) t := by
  show s ^^^ t = s ^^^ t
  rfl
theorem shN_byte (n t : Nat) : shN (8 * (n + 1)) t = shN (8 * n) (shN 8 t) := by
  have h := shN_add 8 (8 * n) t
  have e : 8 * (n + 1) = 8 + 8 * n := by omega
  exact (congrArg (fun z => shN z t) e).trans h
theorem crcFold_xor_cons (c : Int) (l : List Int) (ih : ∀ s t, crcFold (s ^^^ t) l = crcFold s l ^^^ shN (8 * l.length) t) (s t : Nat) : crcFold (s ^^^ t) (c :: l) = crcFold s (c :: l) ^^^ shN (8 * (l.length + 1)) t :=
  (congrArg (fun z => crcFold z l) (crcByte_xor s t c.toNat)).trans ((ih (crcByte s c.toNat) (shN 8 t)).trans (congrArg (fun z => crcFold (crcByte s c.toNat) l ^^^ z) (shN_byte l.length t).symm))
theorem crcFold_xor (l : List Int) : ∀ s t, crcFold (s ^^^ t) l = crcFold s l ^^^ shN (8 * l.length) t := by
  induction l with
  | nil => exact crcFold_xor_nil
  | cons c l ih => exact crcFold_xor_cons c l ih
theorem inv32_inv (s : Nat) : inv32 (inv32 s) = s := by
  unfold inv32
  rw [Nat.xor_assoc, Nat.xor_self, Nat.xor_zero]
theorem inv32_lt {s : Nat} (h : s < 4294967296) : inv32 s < 4294967296 := xor_lt h (by decide)
theorem crcUpd_lt {s : Nat} (hs : s < 4294967296) (l : List Int) (hb : Bytes l) : crcUpd s l < 4294967296 := inv32_lt (crcFold_lt l hb (inv32_lt hs))
theorem crcUpd_append (s : Nat) (a b : List Int) : crcUpd s (a ++ b) = crcUpd (crcUpd s a) b := by
  unfold crcUpd
  rw [inv32_inv, crcFold_append]
theorem crcUpd_nil (s : Nat) : crcUpd s [] = s := inv32_inv s
/-- The sum of both: the first one's moved on by as many shifts as the second has bits. -/
theorem crcUpd_join (a b : List Int) : crcUpd 0 (a ++ b) = shN (8 * b.length) (crcUpd 0 a) ^^^ crcUpd 0 b := by
  rw [crcUpd_append]
  generalize crcUpd 0 a = x
  have e1 : inv32 x = inv32 0 ^^^ x := by unfold inv32; rw [Nat.zero_xor, Nat.xor_comm]
  unfold crcUpd
  rw [e1, crcFold_xor]
  generalize crcFold (inv32 0) b = y
  generalize shN (8 * b.length) x = z
  unfold inv32
  rw [Nat.xor_comm y z, Nat.xor_assoc]
theorem xor_cancel {y z : Nat} (h : y ^^^ z = y) : z = 0 := by
  have h2 := congrArg (fun x => y ^^^ x) h
  simp only [← Nat.xor_assoc, Nat.xor_self, Nat.zero_xor] at h2
  exact h2
theorem xor_eq_zero {a b : Nat} (h : a ^^^ b = 0) : a = b := by
  have h4 := congrArg (fun z => z ^^^ b) h
  simp only [Nat.xor_assoc, Nat.xor_self, Nat.xor_zero, Nat.zero_xor] at h4
  exact h4
theorem crcByte_turn (x c d : Nat) : crcByte x c = crcByte x d ^^^ shN 8 (c ^^^ d) := by
  unfold crcByte
  rw [← shN_xor]
  congr 1
  rw [Nat.xor_comm c, ← Nat.xor_assoc, Nat.xor_assoc x, Nat.xor_self, Nat.xor_zero]
theorem crcFold_turn (x : Nat) (q : List Int) (c d : Nat) (hc : c < 256) (hd : d < 256) (h : crcFold (crcByte x c) q = crcFold (crcByte x d) q) : c = d := by
  have e2 : crcFold (crcByte x c) q = crcFold (crcByte x d) q ^^^ shN (8 * q.length) (shN 8 (c ^^^ d)) := (congrArg (fun z => crcFold z q) (crcByte_turn x c d)).trans (crcFold_xor q _ _)
  have h2 := xor_cancel (e2.symm.trans h)
  have hx : c ^^^ d < 4294967296 := xor_lt (by omega) (by omega)
  exact xor_eq_zero (shN_inj 8 hx (shN_inj (8 * q.length) (shN_lt 8 hx) h2))
/-- One byte turned makes another sum. -/
theorem crcUpd_turn (s : Nat) (p q : List Int) (c d : Int) (hc : 0 ≤ c ∧ c < 256) (hd : 0 ≤ d ∧ d < 256) (h : crcUpd s (p ++ c :: q) = crcUpd s (p ++ d :: q)) : c = d := by
  have h1 := congrArg inv32 h
  unfold crcUpd at h1
  rw [inv32_inv, inv32_inv, crcFold_append, crcFold_append] at h1
  have := crcFold_turn _ q c.toNat d.toNat (by omega) (by omega) h1
  omega
end Go.Proofs.Ythhkdabajikckaa.Math
