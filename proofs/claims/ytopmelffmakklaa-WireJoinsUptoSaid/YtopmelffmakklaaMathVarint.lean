/- Varints as lists of bytes, in plain numbers: how they are taken and written, and that one undoes the other. -/
import Derived.Test.YtopmelffmakklaaMathBits
namespace Go.Proofs.Ytopmelffmakklaa.Math
open Go.Proofs.YtopmelffmakklaaW.PrintWords

/-- All members are bytes. -/
def Bytes (l : List Int) : Prop := ∀ x ∈ l, 0 ≤ x ∧ x < 256
theorem Bytes.of_wf {l : List Int} (h : ∀ x ∈ l, (Lit.int .u8 x).wf = true) : Bytes l := fun x hx => wf_u8.mp (h x hx)
theorem Bytes.drop {l : List Int} (h : Bytes l) (i : Nat) : Bytes (l.drop i) := fun x hx => h x (List.mem_of_mem_drop hx)
theorem Bytes.take {l : List Int} (h : Bytes l) (i : Nat) : Bytes (l.take i) := fun x hx => h x (List.mem_of_mem_take hx)
theorem Bytes.append {l m : List Int} (h : Bytes l) (h' : Bytes m) : Bytes (l ++ m) := fun x hx => (List.mem_append.mp hx).elim (h x) (h' x)
theorem Bytes.nil : Bytes [] := fun _ h => by cases h
theorem Bytes.cons {c : Int} {l : List Int} (h0 : 0 ≤ c) (h1 : c < 256) (h : Bytes l) : Bytes (c :: l) := fun x hx => by
  rcases List.mem_cons.mp hx with rfl | hx
  · exact ⟨h0, h1⟩
  · exact h x hx
theorem rd_nat {l : List Int} {i : Nat} : rd l (i : Int) = l.getD i 0 := rfl
theorem drop_rd {l : List Int} {i : Nat} (h : i < l.length) : l.drop i = rd l (i : Int) :: l.drop (i + 1) := by
  rw [List.drop_eq_getElem_cons h, rd_nat, List.getD_eq_getElem?_getD, List.getElem?_eq_getElem h]
  rfl
theorem rd_bytes {l : List Int} (hb : Bytes l) {i : Nat} (h : i < l.length) : 0 ≤ rd l (i : Int) ∧ rd l (i : Int) < 256 := by
  apply hb
  rw [rd_nat, List.getD_eq_getElem?_getD, List.getElem?_eq_getElem h]
  exact List.getElem_mem h

/-- A varint taken: behind i bytes that came to acc. -/
def takeV : Nat → Nat → List Int → Int × Int × Int
  | _, _, [] => (0, 0, 5)
  | i, acc, c :: l => if i = 9 ∧ 1 < c then (0, 0, 2) else if c < 128 then (((acc + 2 ^ (7 * i) * c.toNat : Nat) : Int), ((i + 1 : Nat) : Int), 0) else takeV (i + 1) (acc + 2 ^ (7 * i) * (c.toNat % 128)) l

/-- The shortest varint. -/
def encV (n : Nat) : List Int := if n < 128 then [(n : Int)] else ((n % 128 + 128 : Nat) : Int) :: encV (n / 128)
theorem encV_small {n : Nat} (h : n < 128) : encV n = [(n : Int)] := by rw [encV, if_pos h]
theorem encV_big {n : Nat} (h : ¬ n < 128) : encV n = ((n % 128 + 128 : Nat) : Int) :: encV (n / 128) := by rw [encV, if_neg h]
theorem encV_bytes (n : Nat) : Bytes (encV n) := by
  induction n using encV.induct with
  | case1 n h => rw [encV_small h]; exact Bytes.cons (by omega) (by omega) Bytes.nil
  | case2 n h ih => rw [encV_big h]; exact Bytes.cons (by omega) (by omega) ih
theorem encV_pos (n : Nat) : 0 < (encV n).length := by
  rw [encV]
  split <;> simp
theorem encV_len (j n : Nat) (h : n < 2 ^ (7 * (j + 1))) : (encV n).length ≤ j + 1 := by
  induction j generalizing n with
  | zero => rw [encV_small (by omega)]; simp
  | succ j ih =>
    by_cases h1 : n < 128
    · rw [encV_small h1]; simp
    · rw [encV_big h1]
      have := ih (n / 128) (by rw [Nat.div_lt_iff_lt_mul (by omega)]; rw [show 7 * (j + 1 + 1) = 7 * (j + 1) + 7 by omega, Nat.pow_add] at h; exact h)
      simp only [List.length_cons]
      omega
theorem encV_len10 {n : Nat} (h : n < 18446744073709551616) : (encV n).length ≤ 10 := encV_len 9 n (by omega)

theorem takeV_back (rest : List Int) (n : Nat) : ∀ (i acc : Nat), acc + 2 ^ (7 * i) * n < 18446744073709551616 → i ≤ 9 → takeV i acc (encV n ++ rest) = (((acc + 2 ^ (7 * i) * n : Nat) : Int), ((i + (encV n).length : Nat) : Int), 0) := by
  induction n using encV.induct with
  | case1 n h =>
    intro i acc hlt hi
    rw [encV_small h]
    have hc : ¬ (i = 9 ∧ 1 < (n : Int)) := by
      rintro ⟨rfl, h2⟩
      have : 2 ^ (7 * 9) * 2 ≤ 2 ^ (7 * 9) * n := Nat.mul_le_mul_left _ (by omega)
      omega
    simp only [List.singleton_append, takeV]
    rw [if_neg hc, if_pos (by omega)]
    simp
  | case2 n h ih =>
    intro i acc hlt hi
    rw [encV_big h]
    have hi9 : i < 9 := by
      rcases Nat.lt_or_ge i 9 with h9 | h9
      · exact h9
      · have : i = 9 := by omega
        subst this
        have : 2 ^ (7 * 9) * 2 ≤ 2 ^ (7 * 9) * n := Nat.mul_le_mul_left _ (by omega)
        omega
    have e1 : 2 ^ (7 * (i + 1)) = 2 ^ (7 * i) * 128 := by rw [show 7 * (i + 1) = 7 * i + 7 by omega, Nat.pow_add]
    have e2 : acc + 2 ^ (7 * i) * (n % 128) + 2 ^ (7 * (i + 1)) * (n / 128) = acc + 2 ^ (7 * i) * n := by
      rw [e1, Nat.mul_assoc, Nat.add_assoc, ← Nat.mul_add, Nat.mod_add_div]
    simp only [List.cons_append, takeV]
    rw [if_neg (by omega), if_neg (by omega)]
    have e3 : (((n % 128 + 128 : Nat) : Int)).toNat % 128 = n % 128 := by omega
    rw [e3, ih (i + 1) _ (by rw [e2]; exact hlt) (by omega), e2]
    simp only [List.length_cons]
    congr 2
    omega

theorem takeV_cut (n : Nat) : ∀ (i acc : Nat) (m : Nat), acc + 2 ^ (7 * i) * n < 18446744073709551616 → i ≤ 9 → m < (encV n).length → takeV i acc ((encV n).take m) = (0, 0, 5) := by
  induction n using encV.induct with
  | case1 n h =>
    intro i acc m _ _ hm
    rw [encV_small h] at hm ⊢
    obtain rfl : m = 0 := by simp at hm; omega
    rfl
  | case2 n h ih =>
    intro i acc m hlt hi hm
    rw [encV_big h] at hm ⊢
    cases m with
    | zero => rfl
    | succ m =>
      have hi9 : i < 9 := by
        rcases Nat.lt_or_ge i 9 with h9 | h9
        · exact h9
        · have : i = 9 := by omega
          subst this
          have : 2 ^ (7 * 9) * 2 ≤ 2 ^ (7 * 9) * n := Nat.mul_le_mul_left _ (by omega)
          omega
      have e1 : 2 ^ (7 * (i + 1)) = 2 ^ (7 * i) * 128 := by rw [show 7 * (i + 1) = 7 * i + 7 by omega, Nat.pow_add]
      have e2 : acc + 2 ^ (7 * i) * (n % 128) + 2 ^ (7 * (i + 1)) * (n / 128) = acc + 2 ^ (7 * i) * n := by
        rw [e1, Nat.mul_assoc, Nat.add_assoc, ← Nat.mul_add, Nat.mod_add_div]
      simp only [List.take_succ_cons, takeV]
      rw [if_neg (by omega), if_neg (by omega)]
      have e3 : (((n % 128 + 128 : Nat) : Int)).toNat % 128 = n % 128 := by omega
      rw [e3]
      exact ih (i + 1) _ m (by rw [e2]; exact hlt) (by omega) (by simpa using hm)
end Go.Proofs.Ytopmelffmakklaa.Math
