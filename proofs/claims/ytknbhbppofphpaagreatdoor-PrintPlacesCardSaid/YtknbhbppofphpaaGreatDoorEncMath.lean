/- Runes of few bytes written and read again; names are of letters. -/
import Derived.Test.YtknbhbppofphpaaGreatDoorRefName
set_option linter.unusedVariables false
set_option linter.unusedSimpArgs false
namespace Go.Proofs.YtknbhbppofphpaaGreatDoor.X
open Go.RowKit
theorem enc1 {x : Nat} (h : x < 128) : Lib.encodeRune (x : Int) = [UInt8.ofNat x] := by
  unfold Lib.encodeRune
  rw [Lib.encodeRuneZ_one (by omega) (by omega)]
  rfl
theorem enc2 {x : Nat} (h : 128 ≤ x) (h2 : x < 2048) : Lib.encodeRune (x : Int) = [UInt8.ofNat (192 + x / 64), UInt8.ofNat (128 + x % 64)] := by
  unfold Lib.encodeRune
  rw [Lib.encodeRuneZ_two (by omega) (by omega)]
  have e1 : (192 + (x : Int) / 64).toNat = 192 + x / 64 := by omega
  have e2 : (128 + (x : Int) % 64).toNat = 128 + x % 64 := by omega
  simp only [List.map_cons, List.map_nil, e1, e2]; try rfl
theorem inside_small {x : Nat} (h : insideV x = true) : x < 2048 := by
  unfold insideV letterV at h
  simp only [Bool.or_eq_true, decide_eq_true_eq] at h
  omega
theorem nameV_all {l : List Nat} (h : nameV l = true) : (∀ x ∈ l, insideV x = true) ∧ l.length ≤ 40 ∧ 0 < l.length := by
  cases l with
  | nil => rw [nameV_nil] at h; cases h
  | cons x l =>
    rw [nameV_cons] at h
    simp only [Bool.and_eq_true, decide_eq_true_eq, List.all_eq_true] at h
    refine ⟨fun y hy => ?_, by simp; omega, by simp⟩
    rcases List.mem_cons.mp hy with rfl | hy
    · rw [inside_eq, h.1, Bool.true_or]
    · exact h.2.1 y hy
end Go.Proofs.YtknbhbppofphpaaGreatDoor.X
