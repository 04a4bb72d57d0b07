/- What the writers of numbers come to in the program and in the reference: the shortest varint, and four or eight bytes, the lowest first; for lists that stay below 2^47 bytes. -/
import Derived.Test.YtopmelffmakklaaX2
import Derived.Test.YtopmelffmakklaaMathVarint
set_option linter.unusedVariables false
namespace Go.Proofs.Ytopmelffmakklaa.X
open Go.RowKit Go.Proofs.YtopmelffmakklaaW.PrintWords Go.Proofs.YtopmelffmakklaaW.PrintLast Go.Proofs.YtopmelffmakklaaW.PrintMore Go.Proofs.Ytopmelffmakklaa.Math

theorem byte128 (n : Nat) : Go.bits .or .u8 ((n : Int) % 256) 128 = ((n % 128 + 128 : Nat) : Int) := by
  rw [show (n : Int) % 256 = ((n % 256 : Nat) : Int) by omega, or128_u8 (by omega), show n % 256 % 128 = n % 128 by omega]

theorem varint_append_l0 (n : Nat) : ∀ (l : List Int), l.length + (encV n).length < 140737488355328 → ∀ k, (encV n).length < k → varint_Append.l0 k (n : Int) l = some (l ++ encV n) := by
  induction n using encV.induct with
  | case1 n h =>
    intro l hl k hk
    obtain ⟨k, rfl⟩ : ∃ m, k = m + 1 := ⟨k - 1, by omega⟩
    rw [encV_small h] at hl ⊢
    simp only [varint_Append.l0]
    rw [if_neg (by omega), if_pos (by simp at hl; omega), show (n : Int) % 256 = n by omega]
  | case2 n h ih =>
    intro l hl k hk
    obtain ⟨k, rfl⟩ : ∃ m, k = m + 1 := ⟨k - 1, by omega⟩
    rw [encV_big h] at hl hk ⊢
    simp only [List.length_cons] at hl hk
    simp only [varint_Append.l0]
    rw [if_pos (by omega), if_pos (by omega), byte128, show (n : Int) / 128 = ((n / 128 : Nat) : Int) by omega, ih _ (by simp; omega) k (by omega)]
    simp
theorem varint_append (n : Nat) (l : List Int) (h : l.length + (encV n).length < 140737488355328) : ∃ K, ∀ k, K ≤ k → varint_Append.f k l (n : Int) = some (l ++ encV n) := by
  refine ⟨(encV n).length + 1, fun k hk => ?_⟩
  unfold varint_Append.f
  have hp := encV_pos n
  rw [wrap64_id (by omega) (by omega), if_pos (by omega), if_pos (by omega)]
  simp only [List.replicate_zero, bsome, List.nil_append, List.length_nil, Nat.zero_add]
  rw [if_pos (by omega)]
  exact varint_append_l0 n l h k (by omega)
end Go.Proofs.Ytopmelffmakklaa.X
