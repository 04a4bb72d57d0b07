/- The laws' first question to lex, answered yes; the words of a row, read. -/
import Derived.Test.YthnnleibngbclaaDoorLexWords
set_option linter.unusedVariables false
set_option linter.unusedSimpArgs false
namespace Go.Proofs.YthnnleibngbclaaDoor.X
open Go.RowKit Go.Shelf Go.Proofs.YthnnleibngbclaaDoorW.PrintWords Go.Proofs.YthnnleibngbclaaDoorW.PrintLast Go.Proofs.YthnnleibngbclaaDoorW.PrintMore
def awakeText : ByteArray := { data := #[97, 61, 49, 59, 47, 47, 32, 120] }
set_option maxRecDepth 100000 in
theorem awake_facts : (wordsP awakeText).1.length = 4 ∧ (wordsP awakeText).2.2.2 = 0 ∧ ((wordsP awakeText).1.getD 2 ⟨0, emptyB, 0, 0⟩).kind = 2 ∧ ((wordsP awakeText).1.getD 2 ⟨0, emptyB, 0, 0⟩).text = ⟨#[49]⟩ := by decide +kernel
theorem rowCells_at : ∀ (l : List Wd) (i k : Nat) (h : i < l.length), k < 4 → (rowCells l)[i * 4 + k]? = (wdCells (l[i]'h))[k]?
  | [], i, k, h, _ => by simp at h
  | x :: l, 0, k, h, hk => by
    show (wdCells x ++ rowCells l)[0 * 4 + k]? = _
    rw [Nat.zero_mul, Nat.zero_add, List.getElem?_append_left (by simpa [wdCells] using hk)]
    rfl
  | x :: l, i + 1, k, h, hk => by
    show (wdCells x ++ rowCells l)[(i + 1) * 4 + k]? = _
    have hl : (wdCells x).length = 4 := rfl
    rw [List.getElem?_append_right (by rw [hl]; omega), hl, show (i + 1) * 4 + k - 4 = i * 4 + k by omega, rowCells_at l i k (by simpa using h) hk]
    rfl
/-- The words of a row, at their places. -/
theorem word_at {w : World} {B n : Nat} {v : Value} {l : List Wd} (h : w.ownsRow B 30 4 v n (rowCells l)) (hl : l.length = n) (hn : 0 < n) : ∃ g cap, v = .slice (some ⟨g, 0, none⟩) n cap ∧ ∀ i (hi : i < l.length), w.cell? ⟨g, i * 4 + 0, none⟩ = some (.int .i64 (l[i]'hi).kind) ∧ w.cell? ⟨g, i * 4 + 1, none⟩ = some (.string (l[i]'hi).text) ∧ w.cell? ⟨g, i * 4 + 2, none⟩ = some (.int .i64 (l[i]'hi).line) ∧ w.cell? ⟨g, i * 4 + 3, none⟩ = some (.int .i64 (l[i]'hi).col) := by
  have hq := q_of_own h
  obtain ⟨A, c, rfl, _⟩ := q_slice hq
  obtain ⟨ad, hA, hc⟩ := q_cells hq hn
  have hg : ∃ g, A = some ⟨g, 0, none⟩ := by
    rcases h.2 with ⟨hv, h0⟩ | ⟨g, cap, cur, hv, _⟩
    · omega
    · injection hv with h1 h2 h3
      exact ⟨g, h1⟩
  obtain ⟨g, hg⟩ := hg
  subst hg
  obtain rfl := Option.some.inj hA
  refine ⟨g, c, rfl, fun i hi => ?_⟩
  have hk : ∀ k (hk : k < 4) u, (wdCells (l[i]'hi))[k]? = some u → w.cell? ⟨g, i * 4 + k, none⟩ = some u := by
    intro k hk u hu
    have h1 := hc (i * 4 + k) u (by rw [rowCells_at l i k hi hk]; exact hu)
    rw [add_plain] at h1
    exact h1
  exact ⟨hk 0 (by decide) _ rfl, hk 1 (by decide) _ rfl, hk 2 (by decide) _ rfl, hk 3 (by decide) _ rfl⟩
set_option maxHeartbeats 4000000 in
set_option maxRecDepth 100000 in
theorem awake04.calls (w : World) (hT : LexTabs w) : Calls Tryd.prog 8 #[] w fun e w' => e = .returned (.bool true) ∧ Below w.heap.size w w' := by
  have hf := awake_facts
  go_enter Tryd.func8, Tryd.ntmps8
  go_wp2_with fail
  refine (lex_Words.calls awakeText _ hT).mono ?_
  rintro e w1 ⟨v, rfl, hown, _, hb⟩
  generalize wordsP awakeText = r at *
  obtain ⟨l, a, b, e⟩ := r
  simp only at hf hown ⊢
  obtain ⟨h4, he, hk, ht⟩ := hf
  subst he
  rw [h4] at hown
  obtain ⟨g, cap, rfl, hc⟩ := word_at hown h4 (by decide)
  have h2 := hc 2 (by omega)
  have hg : l.getD 2 ⟨0, emptyB, 0, 0⟩ = l[2]'(by omega) := by simp [List.getD, show 2 < l.length by omega]
  rw [hg] at hk ht
  have c0 : w1.cell? ⟨g, 8, none⟩ = some (.int .i64 2) := by have := h2.1; rw [hk] at this; exact this
  have c1 : w1.cell? ⟨g, 9, none⟩ = some (.string ⟨#[49]⟩) := by have := h2.2.1; rw [ht] at this; exact this
  have HB := Aside0.mk hb
  have hgl : g < w1.heap.size := by
    have := World.block_lt_of_cell? w1 _ c0
    exact this
  clear hown hc h2 hk ht hg h4 hb hT
  go_wp2_with fail
  go_ret
  exact ⟨rfl, by repeat (first | exact HB.out | refine below_drew ?_ | refine below_alloc ?_ _)⟩
end Go.Proofs.YthnnleibngbclaaDoor.X
