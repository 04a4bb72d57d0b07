/- Runes of few bytes written and read again; names are of letters. -/
import Derived.Test.YtbhfecciegfdjaaDoorRefName
set_option linter.unusedVariables false
set_option linter.unusedSimpArgs false
namespace Go.Proofs.YtbhfecciegfdjaaDoor.X
open Go.RowKit
/-- The bytes of runes, one behind the other. -/
def encAll : List Nat → List UInt8
  | [] => []
  | x :: l => Lib.encodeRune (x : Int) ++ encAll l
theorem encAll_nil : encAll [] = [] := rfl
theorem encAll_cons (x : Nat) (l : List Nat) : encAll (x :: l) = Lib.encodeRune (x : Int) ++ encAll l := rfl
theorem encAll_append : ∀ l m : List Nat, encAll (l ++ m) = encAll l ++ encAll m
  | [], _ => rfl
  | x :: l, m => by rw [List.cons_append, encAll_cons, encAll_cons, encAll_append l m, List.append_assoc]
theorem enc1 {x : Nat} (h : x < 128) : Lib.encodeRune (x : Int) = [UInt8.ofNat x] := by
  unfold Lib.encodeRune
  rw [Lib.encodeRuneZ_one (by omega) (by omega)]
  rfl
theorem enc2 {x : Nat} (h : 128 ≤ x) (h2 : x < 2048) : Lib.encodeRune (x : Int) = [UInt8.ofNat (192 + x / 64), UInt8.ofNat (128 + x % 64)] := by
  unfold Lib.encodeRune
  rw [Lib.encodeRuneZ_two (by omega) (by omega)]
  have e1 : (192 + (x : Int) / 64).toNat = 192 + x / 64 := by omega
  have e2 : (128 + (x : Int) % 64).toNat = 128 + x % 64 := by omega
  simp only [List.map_cons, List.map_nil, e1, e2]; try rfl
theorem u8n {x : Nat} (h : x < 256) : (UInt8.ofNat x).toNat = x := by simp [UInt8.toNat_ofNat']; omega
theorem dec_enc {x : Nat} (h : x < 2048) (t : List UInt8) : Lib.decodeL (Lib.encodeRune (x : Int) ++ t) = (x, (Lib.encodeRune (x : Int)).length) := by
  by_cases h1 : x < 128
  · rw [enc1 h1]
    show Lib.decodeL (UInt8.ofNat x :: t) = _
    rw [Lib.decodeL_ascii _ _ (by rw [u8n (by omega)]; exact h1), u8n (by omega)]
    rfl
  · rw [enc2 (by omega) h, Lib.decodeL_N]
    have b0 : (([UInt8.ofNat (192 + x / 64), UInt8.ofNat (128 + x % 64)] ++ t).getD 0 0).toNat = 192 + x / 64 := u8n (by omega)
    have b1 : (([UInt8.ofNat (192 + x / 64), UInt8.ofNat (128 + x % 64)] ++ t).getD 1 0).toNat = 128 + x % 64 := u8n (by omega)
    have hl : 1 < ([UInt8.ofNat (192 + x / 64), UInt8.ofNat (128 + x % 64)] ++ t).length := by simp
    rw [b0, b1]
    unfold Lib.decodeN
    rw [if_neg (by omega), if_pos ⟨by omega, hl, by omega⟩, if_pos (by omega)]
    have e : (192 + x / 64) % 32 * 64 + (128 + x % 64) % 64 = x := by omega
    rw [e]
    rfl
theorem enc_pos (x : Int) : 0 < (Lib.encodeRune x).length := by
  have := (Lib.runeCells_le x).1
  rw [Lib.runeCells_length] at this
  omega
theorem encAll_le : ∀ l : List Nat, (encAll l).length ≤ 4 * l.length
  | [] => by simp [encAll_nil]
  | x :: l => by
    have := (Lib.runeCells_le (x : Int)).2
    rw [Lib.runeCells_length] at this
    have ih := encAll_le l
    rw [encAll_cons, List.length_append, List.length_cons]
    omega
theorem enc_ne (x : Int) (t : List UInt8) : Lib.encodeRune x ++ t ≠ [] := by
  intro h
  have h1 := congrArg List.length h
  rw [List.length_append, List.length_nil] at h1
  have := enc_pos x
  omega
theorem runesFrom_enc (s : ByteArray) : ∀ (l : List Nat) (f pos : Nat), (∀ x ∈ l, x < 2048) → s.data.toList.drop pos = encAll l → (encAll l).length ≤ f → runesFrom s f pos = l
  | [], f, pos, _, hd, _ => runesFrom_end s f pos (by
      have h1 := congrArg List.length hd
      simp [encAll_nil] at h1
      have h2 : s.data.size = s.size := rfl
      omega)
  | x :: l, f, pos, hx, hd, hf => by
    have hx0 := hx x List.mem_cons_self
    have hp := enc_pos (x : Int)
    rw [encAll_cons] at hd hf
    rw [List.length_append] at hf
    obtain ⟨f, rfl⟩ : ∃ g, f = g + 1 := ⟨f - 1, by omega⟩
    have hlt : pos < s.size := by
      have h1 := congrArg List.length hd
      rw [List.length_append, List.length_drop] at h1
      have h2 : s.data.toList.length = s.size := by rw [Array.length_toList]; rfl
      omega
    have hdec := dec_enc hx0 (encAll l)
    rw [← hd, Lib.decodeL_drop] at hdec
    rw [runesFrom_next s f pos hlt, hdec]
    congr 1
    refine runesFrom_enc s l f _ (fun y hy => hx y (List.mem_cons_of_mem _ hy)) ?_ (by omega)
    rw [← List.drop_drop, hd, List.drop_left]
theorem runesOf_enc {l : List Nat} (h : ∀ x ∈ l, x < 2048) : runesOf ⟨(encAll l).toArray⟩ = l := by
  refine runesFrom_enc _ l _ 0 h (by simp) ?_
  exact Nat.le_refl _
theorem valid_enc : ∀ {l : List Nat}, (∀ x ∈ l, x < 2048) → Lib.validD (encAll l) = true
  | [], _ => Lib.validD_nil
  | x :: l, h => by
    have hx0 := h x List.mem_cons_self
    rw [encAll_cons, Lib.validD_step _ (enc_ne _ _), dec_enc hx0, if_neg (fun e => by have h1 : x = 65533 := e.1; omega), List.drop_left]
    exact valid_enc (fun y hy => h y (List.mem_cons_of_mem _ hy))
theorem inside_small {x : Nat} (h : insideV x = true) : x < 2048 := by
  unfold insideV letterV at h
  simp only [Bool.or_eq_true, decide_eq_true_eq] at h
  omega
theorem nameV_all {l : List Nat} (h : nameV l = true) : (∀ x ∈ l, insideV x = true) ∧ l.length ≤ 40 ∧ 0 < l.length := by
  cases l with
  | nil => rw [nameV_nil] at h; cases h
  | cons x l =>
    rw [nameV_cons] at h
    simp only [Bool.and_eq_true, decide_eq_true_eq, List.all_eq_true] at h
    refine ⟨fun y hy => ?_, by simp; omega, by simp⟩
    rcases List.mem_cons.mp hy with rfl | hy
    · rw [inside_eq, h.1, Bool.true_or]
    · exact h.2.1 y hy
theorem nameV_of {x : Nat} {l : List Nat} (hx : letterV x = true) (h : ∀ y ∈ l, insideV y = true) (hl : l.length < 40) : nameV (x :: l) = true := by
  rw [nameV_cons, hx, decide_eq_true (show 1 + l.length ≤ 40 by omega), List.all_eq_true.mpr h]
  rfl
end Go.Proofs.YtbhfecciegfdjaaDoor.X
