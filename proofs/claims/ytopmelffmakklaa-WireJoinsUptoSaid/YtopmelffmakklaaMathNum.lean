/- Fixed numbers as lists of bytes, the lowest first, in plain numbers; and lists of bytes as texts. -/
import Derived.Test.YtopmelffmakklaaMathVarint
namespace Go.Proofs.Ytopmelffmakklaa.Math
open Go.Proofs.YtopmelffmakklaaW.PrintWords

/-- The number of bytes, the lowest first. -/
def numL : List Int → Nat
  | [] => 0
  | c :: l => c.toNat + 256 * numL l
/-- So many bytes of a number, the lowest first. -/
def lowV : Nat → Nat → List Int
  | 0, _ => []
  | k + 1, n => ((n % 256 : Nat) : Int) :: lowV k (n / 256)
theorem lowV_length (k n : Nat) : (lowV k n).length = k := by
  induction k generalizing n with
  | zero => rfl
  | succ k ih => simp [lowV, ih]
theorem lowV_bytes (k n : Nat) : Bytes (lowV k n) := by
  induction k generalizing n with
  | zero => exact Bytes.nil
  | succ k ih => exact Bytes.cons (by omega) (by omega) (ih _)
theorem numL_lowV (k n : Nat) : numL (lowV k n) = n % 256 ^ k := by
  induction k generalizing n with
  | zero => simp [lowV, numL, Nat.mod_one]
  | succ k ih =>
    simp only [lowV, numL, ih, Int.toNat_natCast]
    rw [Nat.pow_succ, Nat.mul_comm (256 ^ k) 256, Nat.mod_mul]
theorem numL_lt (l : List Int) (hb : Bytes l) : numL l < 256 ^ l.length := by
  induction l with
  | nil => simp [numL]
  | cons c l ih =>
    have h1 := ih (fun x hx => hb x (List.mem_cons_of_mem _ hx))
    have h2 := hb c List.mem_cons_self
    simp only [numL, List.length_cons, Nat.pow_succ]
    omega
theorem lowV_snoc (k n : Nat) : lowV (k + 1) n = lowV k n ++ [((n / 256 ^ k % 256 : Nat) : Int)] := by
  induction k generalizing n with
  | zero => simp [lowV]
  | succ k ih =>
    rw [lowV, ih, lowV]
    simp only [List.cons_append]
    rw [Nat.div_div_eq_div_mul, Nat.pow_succ, Nat.mul_comm 256]
theorem lowV_add (j k n : Nat) : lowV (j + k) n = lowV j n ++ lowV k (n / 256 ^ j) := by
  induction j generalizing n with
  | zero => simp [lowV]
  | succ j ih =>
    rw [show j + 1 + k = (j + k) + 1 by omega, lowV, ih, lowV, Nat.div_div_eq_div_mul, Nat.pow_succ, Nat.mul_comm 256]
    rfl
theorem lowV_mod (k n m : Nat) : lowV k (n % 256 ^ (k + m)) = lowV k n := by
  induction k generalizing n with
  | zero => rfl
  | succ k ih =>
    simp only [lowV]
    have e : 256 ^ (k + 1 + m) = 256 * 256 ^ (k + m) := by rw [show k + 1 + m = (k + m) + 1 by omega, Nat.pow_succ, Nat.mul_comm]
    rw [e, Nat.mod_mul_right_mod, Nat.mod_mul_right_div_self, ih]

theorem toList_data (s : ByteArray) : s.toList = s.data.toList := by
  have key : ∀ (d i : Nat) (r : List UInt8), s.size - i = d → i ≤ s.size → ByteArray.toList.loop s i r = r.reverse ++ s.data.toList.drop i := by
    intro d
    induction d with
    | zero =>
      intro i r hd hi
      rw [ByteArray.toList.loop, if_neg (by omega), List.drop_eq_nil_of_le (by rw [Array.length_toList]; show s.size ≤ i; omega), List.append_nil]
    | succ d ih =>
      intro i r hd hi
      rw [ByteArray.toList.loop, if_pos (by omega), ih (i + 1) _ (by omega) (by omega), List.reverse_cons, List.append_assoc]
      have hlt : i < s.data.toList.length := by rw [Array.length_toList]; show i < s.size; omega
      rw [List.drop_eq_getElem_cons hlt]
      congr 1
      simp only [List.singleton_append, List.cons.injEq, and_true, Array.getElem_toList]
      show s.data[i]! = _
      rw [getElem!_pos s.data i (by simpa using hlt)]
  unfold ByteArray.toList
  rw [key s.size 0 [] (by omega) (by omega)]
  simp
theorem str_append (a b : List Int) : Go.strOfNums (a ++ b) = Go.strOfNums a ++ Go.strOfNums b := by
  apply ByteArray.ext
  simp [Go.strOfNums]
theorem str_inj {a b : List Int} (ha : Bytes a) (hb : Bytes b) (h : Go.strOfNums a = Go.strOfNums b) : a = b := by
  have h' := congrArg (fun s : ByteArray => s.data.toList) h
  simp only [Go.strOfNums_data] at h'
  clear h
  induction a generalizing b with
  | nil => cases b with
    | nil => rfl
    | cons c b => simp at h'
  | cons c a ih => cases b with
    | nil => simp at h'
    | cons d b =>
      simp only [List.map_cons, List.cons.injEq] at h'
      have h1 := ha c List.mem_cons_self
      have h2 := hb d List.mem_cons_self
      have h3 := congrArg UInt8.toNat h'.1
      rw [UInt8.toNat_ofNat', UInt8.toNat_ofNat'] at h3
      rw [ih (fun x hx => ha x (List.mem_cons_of_mem _ hx)) (fun x hx => hb x (List.mem_cons_of_mem _ hx)) h'.2, show c = d by omega]
theorem str_eq_iff {a b : List Int} (ha : Bytes a) (hb : Bytes b) : (Go.strOfNums a).toList = (Go.strOfNums b).toList ↔ a = b := by
  constructor
  · intro h
    rw [toList_data, toList_data] at h
    exact str_inj ha hb (ByteArray.ext (Array.toList_inj.mp h))
  · rintro rfl
    rfl
end Go.Proofs.Ytopmelffmakklaa.Math
