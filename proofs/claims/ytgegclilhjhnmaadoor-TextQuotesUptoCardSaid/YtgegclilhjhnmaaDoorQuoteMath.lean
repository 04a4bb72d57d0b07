/- Quoted texts, plainly. -/
import Derived.Test.YtgegclilhjhnmaaDoorConv03
set_option linter.unusedVariables false
set_option linter.unusedSimpArgs false
namespace Go.Proofs.YtgegclilhjhnmaaDoor.X
open Go.RowKit Go.Shelf Go.Proofs.YtgegclilhjhnmaaDoorW.PrintWords Go.Proofs.YtgegclilhjhnmaaDoorW.PrintLast Go.Proofs.YtgegclilhjhnmaaDoorW.PrintMore
def hexd (d : Nat) : UInt8 := UInt8.ofNat (if d < 10 then 48 + d else 87 + d)
def quoteR (x : Nat) : List UInt8 :=
  if x = 34 ∨ x = 92 then 92 :: Lib.encodeRune (x : Int) else if x = 10 then [92, 110]
  else if x < 32 ∨ x = 127 then [92, 117, 48, 48, hexd (x / 16), hexd (x % 16)] else Lib.encodeRune (x : Int)
def quoteGo : List Nat → List UInt8
  | [] => []
  | x :: l => quoteR x ++ quoteGo l
def quoteV (s : ByteArray) : List UInt8 := if validV s = true then 34 :: (quoteGo (runesOf s) ++ [34]) else []
theorem quote_lit {x : Nat} (h : x = 34 ∨ x = 92) : quoteR x = 92 :: Lib.encodeRune (x : Int) := if_pos h
theorem quote_lf {x : Nat} (h : x = 10) : quoteR x = [92, 110] := by unfold quoteR; rw [if_neg (by omega), if_pos h]
theorem quote_hex {x : Nat} (h0 : x ≠ 10) (h : x < 32 ∨ x = 127) : quoteR x = [92, 117, 48, 48, hexd (x / 16), hexd (x % 16)] := by unfold quoteR; rw [if_neg (by omega), if_neg h0, if_pos h]
theorem quote_any {x : Nat} (h1 : ¬ (x = 34 ∨ x = 92)) (h2 : x ≠ 10) (h3 : ¬ (x < 32 ∨ x = 127)) : quoteR x = Lib.encodeRune (x : Int) := by unfold quoteR; rw [if_neg h1, if_neg h2, if_neg h3]
theorem cat3 (X a b c : ByteArray) : (X ++ a ++ b ++ c).data.toList = X.data.toList ++ (a.data.toList ++ b.data.toList ++ c.data.toList) := by simp [ByteArray.data_append]
theorem lf_size {X : ByteArray} {j : Nat} (h : X.size ≤ 6 * j + 1) {a b : UInt8} : (X ++ ⟨#[a, b]⟩ : ByteArray).size ≤ 6 * (j + 1) + 1 := by
  rw [ByteArray.size_append]
  have : (⟨#[a, b]⟩ : ByteArray).size = 2 := rfl
  omega
theorem any_size {X : ByteArray} {j : Nat} (h : X.size ≤ 6 * j + 1) {l : List UInt8} (hl : 1 ≤ l.length ∧ l.length ≤ 4) : (X ++ ⟨l.toArray⟩ : ByteArray).size ≤ 6 * (j + 1) + 1 := by
  rw [ByteArray.size_append]
  have : (⟨l.toArray⟩ : ByteArray).size = l.length := by show l.toArray.size = _; simp
  omega
theorem lit_size {X : ByteArray} {j : Nat} (h : X.size ≤ 6 * j + 1) {a : UInt8} {l : List UInt8} (hl : 1 ≤ l.length ∧ l.length ≤ 4) : (X ++ ⟨#[a]⟩ ++ ⟨l.toArray⟩ : ByteArray).size ≤ 6 * (j + 1) + 1 := by
  rw [ByteArray.size_append, ByteArray.size_append]
  have : (⟨l.toArray⟩ : ByteArray).size = l.length := by show l.toArray.size = _; simp
  have : (⟨#[a]⟩ : ByteArray).size = 1 := rfl
  omega
theorem hex_size {X : ByteArray} {j : Nat} (h : X.size ≤ 6 * j + 1) {a b : Nat} {s t : ByteArray} {p q r u : UInt8} (hs : (s.extract a (a + 1)).size ≤ 1) (ht : (t.extract b (b + 1)).size ≤ 1) : (X ++ ⟨#[p, q, r, u]⟩ ++ s.extract a (a + 1) ++ t.extract b (b + 1) : ByteArray).size ≤ 6 * (j + 1) + 1 := by
  rw [ByteArray.size_append, ByteArray.size_append, ByteArray.size_append]
  have : (⟨#[p, q, r, u]⟩ : ByteArray).size = 4 := rfl
  omega
def hexs : ByteArray := ⟨#[48, 49, 50, 51, 52, 53, 54, 55, 56, 57, 97, 98, 99, 100, 101, 102]⟩
theorem hexd_all : ∀ r, r < 16 → (hexs.extract r (r + 1)).data.toList = [hexd r] := by decide +kernel
theorem hexd_at {r : Nat} (h : r < 16) : (ByteArray.extract ⟨#[48, 49, 50, 51, 52, 53, 54, 55, 56, 57, 97, 98, 99, 100, 101, 102]⟩ r (r + 1)).data.toList = [hexd r] := hexd_all r h
theorem hexd_idx_all : ∀ r : Fin 16, (hexs[r.val]'(r.isLt)) = hexd r.val := by decide +kernel
theorem hexd_idx {r : Nat} (hr : r < 16) : ∀ h, ((⟨#[48, 49, 50, 51, 52, 53, 54, 55, 56, 57, 97, 98, 99, 100, 101, 102]⟩ : ByteArray)[r]'h) = hexd r := fun h => hexd_idx_all ⟨r, hr⟩
theorem hex_one {r : Nat} (h : r < 16) : (ByteArray.extract ⟨#[48, 49, 50, 51, 52, 53, 54, 55, 56, 57, 97, 98, 99, 100, 101, 102]⟩ r (r + 1)).size ≤ 1 := by
  have := congrArg List.length (hexd_at h)
  rw [Array.length_toList] at this
  exact Nat.le_of_eq this
theorem and15_all : ∀ x : Nat, x < 128 → Go.bits .and .i32 (x : Int) 15 = ((x % 16 : Nat) : Int) := by decide +kernel
theorem and15 {x : Nat} (h : x < 128) : Go.bits .and .i32 (x : Int) 15 = ((x % 16 : Nat) : Int) := and15_all x h
theorem runesFrom_le (s : ByteArray) : ∀ f pos, ∀ x ∈ runesFrom s f pos, x ≤ 1114111
  | 0, _, x, h => by cases h
  | f + 1, pos, x, h => by
    unfold runesFrom at h
    split at h
    · rcases List.mem_cons.mp h with rfl | h
      · rw [← Lib.decodeL_drop]; exact Lib.decodeL_rune _
      · exact runesFrom_le s f _ x h
    · cases h
/-- One rune's own bytes, from a row of one. -/
theorem conv_one (W : World) (x : Nat) : (convert 28 9 (.slice (some ⟨W.heap.size, 0, none⟩) 1 1)).run Tryd.prog (W.alloc (.cells #[.int .i32 (x : Int)] 21)) = .ok (.string ⟨(Lib.encodeRune (x : Int)).toArray⟩) (W.alloc (.cells #[.int .i32 (x : Int)] 21)) := by
  have hcv := run_convert_runes (P := Tryd.prog) (W.alloc (.cells #[.int .i32 (x : Int)] 21)) 28 9 21 ⟨W.heap.size, 0, none⟩ 1 1 [(x : Int)] (by simp) Tryd.underlying28 Tryd.underlying21 Tryd.underlying9 (fun j hj => by
    have hj0 : j = 0 := by simp at hj; omega
    subst hj0
    exact blk_cell (heap_alloc_new W _) 0)
  rw [hcv]
  have := runesBytes_of [x]
  rw [encAll_cons, encAll_nil, List.append_nil] at this
  rw [← this]
  rfl
theorem quoteR_len (x : Nat) : 1 ≤ (quoteR x).length ∧ (quoteR x).length ≤ 6 := by
  have h := Lib.runeCells_le (x : Int)
  rw [Lib.runeCells_length] at h
  unfold quoteR
  split
  · rw [List.length_cons]; omega
  · split
    · simp
    · split
      · simp
      · omega
theorem quoteGo_len : ∀ l : List Nat, (quoteGo l).length ≤ 6 * l.length
  | [] => by simp [quoteGo]
  | x :: l => by
    have h1 := (quoteR_len x).2
    have h2 := quoteGo_len l
    rw [quoteGo, List.length_append, List.length_cons]
    omega
end Go.Proofs.YtgegclilhjhnmaaDoor.X
