/- The statement IdentLetters over numbers: any rune is a letter just if the reference says so; a letter alone is a name; no further condition. -/
import Derived.Test.YtgegclilhjhnmaaX14
import Derived.Test.YtgegclilhjhnmaaX1
import Derived.Test.YtgegclilhjhnmaaX13
namespace Go.Proofs.Ytgegclilhjhnmaa.Pure
open Go.RowKit Go.Proofs.Ytgegclilhjhnmaa.X
theorem ref_letter (r : Int) : courierref03_Letter.f r = ident_Letter.f r := by
  unfold courierref03_Letter.f ident_Letter.f
  simp only [ge_iff_le]
theorem letter_neg {r : Int} (h : r < 0) : ident_Letter.f r = some false := by
  unfold ident_Letter.f
  rw [if_neg (by omega), if_neg (by omega), if_neg (by omega)]
theorem letter_bad {n : Nat} (h : ¬ Utf8.valid (n : Int) = true) : letterV n = false := by
  unfold letterV
  rw [decide_eq_false_iff_not]
  intro h2
  apply h
  unfold Utf8.valid
  simp only [Bool.or_eq_true, Bool.and_eq_true, decide_eq_true_eq]
  omega
theorem IdentLetters : courierlaw03_IdentLetters.Pure := by
  intro r _
  have hn : nameV (runesOf (Utf8.encode r)) = letterV (runeV r) := by rw [runes_encode, name_one]
  unfold courierlaw03_IdentLetters.f
  rw [ref_letter, hn]
  by_cases h : r < 0
  · refine ⟨false, letter_neg h, letter_neg h, ?_⟩
    unfold runeV
    rw [if_neg (by unfold Utf8.valid; simp only [Bool.or_eq_true, Bool.and_eq_true, decide_eq_true_eq]; omega)]
    rfl
  · obtain ⟨n, rfl⟩ := Int.eq_ofNat_of_zero_le (Int.not_lt.mp h)
    refine ⟨letterV n, letter_f n, letter_f n, ?_⟩
    unfold runeV
    by_cases hv : Utf8.valid (n : Int) = true
    · rw [if_pos hv]; rfl
    · rw [if_neg hv, letter_bad hv]; rfl
end Go.Proofs.Ytgegclilhjhnmaa.Pure
