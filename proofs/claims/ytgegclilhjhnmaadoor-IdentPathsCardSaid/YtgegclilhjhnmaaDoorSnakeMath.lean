/- Names as runes: their bytes give them back; the small form, the great form, and what the one makes of the other. -/
import Derived.Test.YtgegclilhjhnmaaDoorCamel
import Derived.Test.YtgegclilhjhnmaaDoorRefName
set_option linter.unusedVariables false
set_option linter.unusedSimpArgs false
namespace Go.Proofs.YtgegclilhjhnmaaDoor.X
open Go.RowKit
/-- The bytes of runes, one behind the other. -/
def encAll : List Nat → List UInt8
  | [] => []
  | x :: l => Lib.encodeRune (x : Int) ++ encAll l
theorem encAll_nil : encAll [] = [] := rfl
theorem encAll_cons (x : Nat) (l : List Nat) : encAll (x :: l) = Lib.encodeRune (x : Int) ++ encAll l := rfl
theorem encAll_append : ∀ l m : List Nat, encAll (l ++ m) = encAll l ++ encAll m
  | [], _ => rfl
  | x :: l, m => by rw [List.cons_append, encAll_cons, encAll_cons, encAll_append l m, List.append_assoc]
theorem enc1 {x : Nat} (h : x < 128) : Lib.encodeRune (x : Int) = [UInt8.ofNat x] := by
  unfold Lib.encodeRune
  rw [Lib.encodeRuneZ_one (by omega) (by omega)]
  rfl
theorem enc2 {x : Nat} (h : 128 ≤ x) (h2 : x < 2048) : Lib.encodeRune (x : Int) = [UInt8.ofNat (192 + x / 64), UInt8.ofNat (128 + x % 64)] := by
  unfold Lib.encodeRune
  rw [Lib.encodeRuneZ_two (by omega) (by omega)]
  have e1 : (192 + (x : Int) / 64).toNat = 192 + x / 64 := by omega
  have e2 : (128 + (x : Int) % 64).toNat = 128 + x % 64 := by omega
  simp only [List.map_cons, List.map_nil, e1, e2]; try rfl
theorem u8n {x : Nat} (h : x < 256) : (UInt8.ofNat x).toNat = x := by simp [UInt8.toNat_ofNat']; omega
theorem dec_enc {x : Nat} (h : x < 2048) (t : List UInt8) : Lib.decodeL (Lib.encodeRune (x : Int) ++ t) = (x, (Lib.encodeRune (x : Int)).length) := by
  by_cases h1 : x < 128
  · rw [enc1 h1]
    show Lib.decodeL (UInt8.ofNat x :: t) = _
    rw [Lib.decodeL_ascii _ _ (by rw [u8n (by omega)]; exact h1), u8n (by omega)]
    rfl
  · rw [enc2 (by omega) h, Lib.decodeL_N]
    have b0 : (([UInt8.ofNat (192 + x / 64), UInt8.ofNat (128 + x % 64)] ++ t).getD 0 0).toNat = 192 + x / 64 := u8n (by omega)
    have b1 : (([UInt8.ofNat (192 + x / 64), UInt8.ofNat (128 + x % 64)] ++ t).getD 1 0).toNat = 128 + x % 64 := u8n (by omega)
    have hl : 1 < ([UInt8.ofNat (192 + x / 64), UInt8.ofNat (128 + x % 64)] ++ t).length := by simp
    rw [b0, b1]
    unfold Lib.decodeN
    rw [if_neg (by omega), if_pos ⟨by omega, hl, by omega⟩, if_pos (by omega)]
    have e : (192 + x / 64) % 32 * 64 + (128 + x % 64) % 64 = x := by omega
    rw [e]
    rfl
theorem enc_pos (x : Int) : 0 < (Lib.encodeRune x).length := by
  have := (Lib.runeCells_le x).1
  rw [Lib.runeCells_length] at this
  omega
theorem encAll_le : ∀ l : List Nat, (encAll l).length ≤ 4 * l.length
  | [] => by simp [encAll_nil]
  | x :: l => by
    have := (Lib.runeCells_le (x : Int)).2
    rw [Lib.runeCells_length] at this
    have ih := encAll_le l
    rw [encAll_cons, List.length_append, List.length_cons]
    omega
theorem enc_ne (x : Int) (t : List UInt8) : Lib.encodeRune x ++ t ≠ [] := by
  intro h
  have h1 := congrArg List.length h
  rw [List.length_append, List.length_nil] at h1
  have := enc_pos x
  omega
theorem runesFrom_enc (s : ByteArray) : ∀ (l : List Nat) (f pos : Nat), (∀ x ∈ l, x < 2048) → s.data.toList.drop pos = encAll l → (encAll l).length ≤ f → runesFrom s f pos = l
  | [], f, pos, _, hd, _ => runesFrom_end s f pos (by
      have h1 := congrArg List.length hd
      simp [encAll_nil] at h1
      have h2 : s.data.size = s.size := rfl
      omega)
  | x :: l, f, pos, hx, hd, hf => by
    have hx0 := hx x List.mem_cons_self
    have hp := enc_pos (x : Int)
    rw [encAll_cons] at hd hf
    rw [List.length_append] at hf
    obtain ⟨f, rfl⟩ : ∃ g, f = g + 1 := ⟨f - 1, by omega⟩
    have hlt : pos < s.size := by
      have h1 := congrArg List.length hd
      rw [List.length_append, List.length_drop] at h1
      have h2 : s.data.toList.length = s.size := by rw [Array.length_toList]; rfl
      omega
    have hdec := dec_enc hx0 (encAll l)
    rw [← hd, Lib.decodeL_drop] at hdec
    rw [runesFrom_next s f pos hlt, hdec]
    congr 1
    refine runesFrom_enc s l f _ (fun y hy => hx y (List.mem_cons_of_mem _ hy)) ?_ (by omega)
    rw [← List.drop_drop, hd, List.drop_left]
theorem runesOf_enc {l : List Nat} (h : ∀ x ∈ l, x < 2048) : runesOf ⟨(encAll l).toArray⟩ = l := by
  refine runesFrom_enc _ l _ 0 h (by simp) ?_
  exact Nat.le_refl _
theorem valid_enc : ∀ {l : List Nat}, (∀ x ∈ l, x < 2048) → Lib.validD (encAll l) = true
  | [], _ => Lib.validD_nil
  | x :: l, h => by
    have hx0 := h x List.mem_cons_self
    rw [encAll_cons, Lib.validD_step _ (enc_ne _ _), dec_enc hx0, if_neg (fun e => by have h1 : x = 65533 := e.1; omega), List.drop_left]
    exact valid_enc (fun y hy => h y (List.mem_cons_of_mem _ hy))
theorem inside_small {x : Nat} (h : insideV x = true) : x < 2048 := by
  unfold insideV letterV at h
  simp only [Bool.or_eq_true, decide_eq_true_eq] at h
  omega
theorem nameV_all {l : List Nat} (h : nameV l = true) : (∀ x ∈ l, insideV x = true) ∧ l.length ≤ 40 ∧ 0 < l.length := by
  cases l with
  | nil => rw [nameV_nil] at h; cases h
  | cons x l =>
    rw [nameV_cons] at h
    simp only [Bool.and_eq_true, decide_eq_true_eq, List.all_eq_true] at h
    refine ⟨fun y hy => ?_, by simp; omega, by simp⟩
    rcases List.mem_cons.mp hy with rfl | hy
    · rw [inside_eq, h.1, Bool.true_or]
    · exact h.2.1 y hy
theorem nameV_of {x : Nat} {l : List Nat} (hx : letterV x = true) (h : ∀ y ∈ l, insideV y = true) (hl : l.length < 40) : nameV (x :: l) = true := by
  rw [nameV_cons, hx, decide_eq_true (show 1 + l.length ≤ 40 by omega), List.all_eq_true.mpr h]
  rfl
/-- The great form, as runes. -/
def camelR : Bool → List Nat → List Nat
  | _, [] => []
  | g, x :: l => if x = 95 then camelR true l else (if g = true ∧ 97 ≤ x ∧ x ≤ 122 then x - 32 else x) :: camelR false l
theorem camelGo_R : ∀ (g : Bool) (l : List Nat), camelGo g l = encAll (camelR g l)
  | _, [] => rfl
  | g, x :: l => by
    rw [camelGo, camelR]
    by_cases hx : x = 95
    · rw [if_pos hx, if_pos hx, camelGo_R true l]
    · rw [if_neg hx, if_neg hx, encAll_cons, camelGo_R false l]
      congr 2
      by_cases h : g = true ∧ 97 ≤ x ∧ x ≤ 122
      · rw [if_pos h, if_pos h]; omega
      · rw [if_neg h, if_neg h]
/-- The small form, as runes; at the beginning: true. -/
def snakeR : Bool → List Nat → List Nat
  | _, [] => []
  | a, x :: l => (if 65 ≤ x ∧ x ≤ 90 then (if a = true then [x + 32] else [95, x + 32]) else [x]) ++ snakeR false l
def snakeV (s : ByteArray) : List UInt8 := if nameV (runesOf s) = true then (if (snakeR true (runesOf s)).length ≤ 40 then encAll (snakeR true (runesOf s)) else []) else []
theorem snakeR_len : ∀ (a : Bool) (l : List Nat), (snakeR a l).length ≤ 2 * l.length
  | _, [] => by simp [snakeR]
  | a, x :: l => by
    have := snakeR_len false l
    rw [snakeR, List.length_append, List.length_cons]
    split <;> (try split) <;> simp <;> omega
theorem inside_low {x : Nat} (h1 : 65 ≤ x) (h2 : x ≤ 90) : insideV (x + 32) = true := by
  unfold insideV letterV
  simp only [Bool.or_eq_true, decide_eq_true_eq]
  omega
theorem snakeR_inside : ∀ (a : Bool) (l : List Nat), (∀ x ∈ l, insideV x = true) → ∀ y ∈ snakeR a l, insideV y = true
  | _, [], _, y, hy => by simp [snakeR] at hy
  | a, x :: l, h, y, hy => by
    rw [snakeR, List.mem_append] at hy
    rcases hy with hy | hy
    · split at hy
      · rename_i hx
        split at hy
        · rw [List.mem_singleton] at hy; rw [hy]; exact inside_low hx.1 hx.2
        · rcases List.mem_cons.mp hy with rfl | hy
          · decide
          · rw [List.mem_singleton] at hy; rw [hy]; exact inside_low hx.1 hx.2
      · rw [List.mem_singleton] at hy; rw [hy]; exact h x List.mem_cons_self
    · exact snakeR_inside false l (fun z hz => h z (List.mem_cons_of_mem _ hz)) y hy
/-- Of a small form's bytes, that many runes come back. -/
theorem snake_runes {s : ByteArray} (h : nameV (runesOf s) = true) : runesZ ⟨(encAll (snakeR true (runesOf s))).toArray⟩ = (snakeR true (runesOf s)).map (fun r : Nat => (r : Int)) := by
  have hs : ∀ x ∈ snakeR true (runesOf s), x < 2048 := fun x hx => inside_small (snakeR_inside true _ (nameV_all h).1 x hx)
  unfold runesZ validV
  rw [if_pos (by rw [List.toList_toArray]; exact valid_enc hs), runesOf_enc hs]
theorem camelR_facts : ∀ (g : Bool) (l : List Nat), (∀ x ∈ l, insideV x = true) → (∀ y ∈ camelR g l, insideV y = true ∧ y ≠ 95) ∧ (camelR g l).length ≤ l.length
  | _, [], _ => by simp [camelR]
  | g, x :: l, h => by
    have hx := h x List.mem_cons_self
    have hl : ∀ z ∈ l, insideV z = true := fun z hz => h z (List.mem_cons_of_mem _ hz)
    rw [camelR]
    by_cases h95 : x = 95
    · rw [if_pos h95]
      have := camelR_facts true l hl
      exact ⟨this.1, by rw [List.length_cons]; omega⟩
    · rw [if_neg h95]
      have ih := camelR_facts false l hl
      refine ⟨fun y hy => ?_, by rw [List.length_cons, List.length_cons]; omega⟩
      rcases List.mem_cons.mp hy with rfl | hy
      · by_cases hc : g = true ∧ 97 ≤ x ∧ x ≤ 122
        · rw [if_pos hc]
          refine ⟨?_, by omega⟩
          unfold insideV letterV
          simp only [Bool.or_eq_true, decide_eq_true_eq]
          omega
        · rw [if_neg hc]
          exact ⟨hx, h95⟩
      · exact ih.1 y hy
/-- Made small and great again: behind the beginning. -/
theorem camel_snake : ∀ l : List Nat, (∀ x ∈ l, x ≠ 95) → camelR false (snakeR false l) = l
  | [], _ => rfl
  | x :: l, h => by
    have hx := h x List.mem_cons_self
    have ih := camel_snake l (fun z hz => h z (List.mem_cons_of_mem _ hz))
    rw [snakeR]
    by_cases hu : 65 ≤ x ∧ x ≤ 90
    · rw [if_pos hu, if_neg (by decide)]
      show camelR false (95 :: (x + 32) :: snakeR false l) = _
      rw [camelR, if_pos rfl, camelR, if_neg (by omega), if_pos ⟨rfl, by omega, by omega⟩, ih]
      rfl
    · rw [if_neg hu]
      show camelR false (x :: snakeR false l) = _
      rw [camelR, if_neg hx, if_neg (by simp), ih]
theorem camel_again {x : Nat} {l : List Nat} (h1 : 65 ≤ x) (h2 : x ≤ 90) (h : ∀ y ∈ l, y ≠ 95) : camelR true (snakeR true (x :: l)) = x :: l := by
  rw [snakeR, if_pos ⟨h1, h2⟩, if_pos rfl]
  show camelR true ((x + 32) :: snakeR false l) = _
  rw [camelR, if_neg (by omega), if_pos ⟨rfl, by omega, by omega⟩, camel_snake l h]
  rfl
/-- The bytes that a text's own bytes are, as a text. -/
def txt (l : List UInt8) : ByteArray := ⟨l.toArray⟩
/-- What IdentSnakes says, plainly. -/
theorem snakes_pure (s : ByteArray) (hc : camelV s ≠ []) (ht : snakeV (txt (camelV s)) ≠ []) (hA : 65 ≤ ((camelV s).getD 0 0).toNat) (hZ : ((camelV s).getD 0 0).toNat ≤ 90) :
    camelV (txt (snakeV (txt (camelV s)))) = camelV s := by
  have hn : nameV (runesOf s) = true := by
    by_cases h : nameV (runesOf s) = true
    · exact h
    · exact absurd (by unfold camelV; rw [if_neg h]) hc
  have hce : camelV s = encAll (camelR true (runesOf s)) := by unfold camelV; rw [if_pos hn, camelGo_R]
  have hf := camelR_facts true (runesOf s) (nameV_all hn).1
  have hlen := (nameV_all hn).2.1
  generalize camelR true (runesOf s) = c at hce hf
  have hcs : ∀ x ∈ c, x < 2048 := fun x hx => inside_small (hf.1 x hx).1
  have hro : runesOf (txt (encAll c)) = c := runesOf_enc hcs
  rw [hce] at hc ht hA hZ ⊢
  have hn2 : nameV c = true := by
    by_cases h : nameV (runesOf (txt (encAll c))) = true
    · rw [hro] at h; exact h
    · exact absurd (by unfold snakeV; rw [if_neg h]) ht
  have hl2 : (snakeR true c).length ≤ 40 := by
    by_cases h : (snakeR true c).length ≤ 40
    · exact h
    · exact absurd (by unfold snakeV; rw [hro, if_pos hn2, if_neg h]) ht
  have hse : snakeV (txt (encAll c)) = encAll (snakeR true c) := by unfold snakeV; rw [hro, if_pos hn2, if_pos hl2]
  cases c with
  | nil => exact absurd rfl hc
  | cons x c =>
    have hx0 := hcs x List.mem_cons_self
    have h128 : x < 128 := by
      apply Classical.byContradiction
      intro h
      rw [encAll_cons, enc2 (by omega) hx0] at hZ
      have : ((([UInt8.ofNat (192 + x / 64), UInt8.ofNat (128 + x % 64)] ++ encAll c).getD 0 0).toNat) = 192 + x / 64 := u8n (by omega)
      omega
    rw [encAll_cons, enc1 h128] at hA hZ
    have e : ((([UInt8.ofNat x] ++ encAll c).getD 0 0).toNat) = x := u8n (by omega)
    rw [e] at hA hZ
    have hall := (nameV_all hn2).1
    have h95 : ∀ y ∈ c, y ≠ 95 := fun y hy => (hf.1 y (List.mem_cons_of_mem _ hy)).2
    have hin := snakeR_inside true (x :: c) hall
    have hsm : ∀ y ∈ snakeR true (x :: c), y < 2048 := fun y hy => inside_small (hin y hy)
    have hro2 : runesOf (txt (encAll (snakeR true (x :: c)))) = snakeR true (x :: c) := runesOf_enc hsm
    have hn3 : nameV (snakeR true (x :: c)) = true := by
      have es : snakeR true (x :: c) = (x + 32) :: snakeR false c := by
        rw [snakeR, if_pos ⟨hA, hZ⟩, if_pos rfl]
        rfl
      rw [es] at hin hl2 ⊢
      refine nameV_of ?_ (fun y hy => hin y (List.mem_cons_of_mem _ hy)) (by rw [List.length_cons] at hl2; omega)
      unfold letterV
      simp only [decide_eq_true_eq]
      omega
    rw [hse]
    unfold camelV
    rw [hro2, if_pos hn3, camelGo_R, camel_again hA hZ h95]
end Go.Proofs.YtgegclilhjhnmaaDoor.X
