/- Reserved words: the reference answers the same of any text. -/
import Derived.Test.YtknbhbppofphpaaGreatDoorReserved
import Derived.Laws.Strings
import Derived.Lib.Strings
set_option linter.unusedVariables false
set_option linter.unusedSimpArgs false
namespace Go.Proofs.YtknbhbppofphpaaGreatDoor.X
open Go.RowKit Go.Shelf
theorem text_of {s : ByteArray} {l : List UInt8} (h : s.toList = l) : s = { data := l.toArray } := by
  rw [Lib.toList_data] at h
  cases s
  simp only at h
  rw [← h]
theorem refReserved_f (s : ByteArray) : courierref03_Reserved.f s = some (resV s) := by
  by_cases h1 : s ∈ resWords
  · simp only [resWords, List.mem_cons, List.mem_nil_iff, or_false] at h1
    rcases h1 with rfl | rfl | rfl | rfl | rfl | rfl <;> decide +kernel
  by_cases h2 : s ∈ scalWords
  · simp only [scalWords, List.mem_cons, List.mem_nil_iff, or_false] at h2
    rcases h2 with rfl | rfl | rfl | rfl | rfl | rfl | rfl | rfl | rfl <;> decide +kernel
  have hr : resV s = false := by
    unfold resV
    rw [Bool.eq_false_iff.mpr (fun h => h1 ((Lib.containsS_iff _ _).mp h)), Bool.eq_false_iff.mpr (fun h => h2 ((Lib.containsS_iff _ _).mp h))]
    split <;> rfl
  have n1 : ∀ l : List UInt8, ({ data := l.toArray } : ByteArray) ∈ resWords → ¬ s.toList = l := fun l hl h => h1 (by rw [text_of h]; exact hl)
  have n2 : ∀ l : List UInt8, ({ data := l.toArray } : ByteArray) ∈ scalWords → ¬ s.toList = l := fun l hl h => h2 (by rw [text_of h]; exact hl)
  rw [hr]
  unfold courierref03_Reserved.f courierref03_Scalar.f
  rw [if_neg (n1 _ (by simp [resWords])), if_neg (n1 _ (by simp [resWords])), if_neg (n1 _ (by simp [resWords])), if_neg (n1 _ (by simp [resWords])), if_neg (n1 _ (by simp [resWords])), if_neg (n1 _ (by simp [resWords])),
    if_neg (n2 _ (by simp [scalWords])), if_neg (n2 _ (by simp [scalWords])), if_neg (n2 _ (by simp [scalWords])), if_neg (n2 _ (by simp [scalWords])), if_neg (n2 _ (by simp [scalWords])), if_neg (n2 _ (by simp [scalWords])), if_neg (n2 _ (by simp [scalWords])), if_neg (n2 _ (by simp [scalWords]))]
  rfl
end Go.Proofs.YtknbhbppofphpaaGreatDoor.X
