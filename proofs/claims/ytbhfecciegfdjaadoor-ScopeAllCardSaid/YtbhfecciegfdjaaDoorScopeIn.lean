/- (*Finder).in: what is declared right in a scope. -/
import Derived.Test.YtbhfecciegfdjaaDoorScopeNew
set_option linter.unusedVariables false
set_option linter.unusedSimpArgs false
namespace Go.Proofs.YtbhfecciegfdjaaDoor.X
open Go.RowKit Go.Proofs.YtbhfecciegfdjaaDoorW.PrintWords Go.Proofs.YtbhfecciegfdjaaDoorW.PrintLast Go.Proofs.YtbhfecciegfdjaaDoorW.PrintMore
def kd0 (g : ByteArray → Option Int) (s : ByteArray) : Int := (g s).getD 0
def inN (scope name : ByteArray) : ByteArray := if scope.size = 0 then name else scope ++ dot ++ name
def inOk (g : ByteArray → Option Int) (s : ByteArray) : Bool := kd0 g s == 1 || kd0 g s == 2
theorem size_zero {s : ByteArray} (h : s.size = 0) : s = ⟨#[]⟩ := by
  have : s.data = #[] := Array.eq_empty_of_size_eq_zero h
  exact ByteArray.ext this
theorem ne_isEmpty {s : ByteArray} (h0 : ¬ s.size = 0) : s.toList.isEmpty = false := by
  rw [ByteArray.toList_eq]
  cases hh : s.data.toList with
  | nil => exact absurd (by rw [← data_length, hh]; rfl) h0
  | cons a l => rfl
set_option maxHeartbeats 4000000 in
set_option maxRecDepth 100000 in
theorem finder_in.calls (bf bm n : Nat) (g : ByteArray → Option Int) (scope name : ByteArray) (w : World) (h : FinderAt w bf bm n g) (hs : scope.size + name.size ≤ 1000000000) :
    Calls Tryd.prog 23 #[.pointer (some ⟨bf, 0, none⟩), .string scope, .string name] w fun e w' => e = .returned (.tuple #[.string (inN scope name), .bool (inOk g (inN scope name))]) ∧ w = w' := by
  have d0 : w.cell? ⟨bf, 0, none⟩ = some (.map (some bm)) := blk_cell h.1 0
  have hz : (inN scope name).size ≤ maxLen := by
    unfold inN maxLen
    split
    · omega
    · rw [ByteArray.size_append, ByteArray.size_append]
      have : dot.size = 1 := rfl
      omega
  have hlk := h.2.look (inN scope name) hz
  have hke : (g (inN scope name)).getD 0 = kd0 g (inN scope name) := rfl
  rw [hke] at hlk
  have HO : Aside0 (inOk g (inN scope name) = (kd0 g (inN scope name) == 1 || kd0 g (inN scope name) == 2)) := ⟨rfl⟩
  by_cases h0 : scope.size = 0
  · have e : inN scope name = name := if_pos h0
    rw [e] at hlk HO ⊢
    obtain rfl := size_zero h0
    clear hz hke e h h0
    generalize kd0 g name = k at *
    go_enter Tryd.func23, Tryd.ntmps23
    by_cases h1 : k = 1
    · have t1 : (k == 1) = true := beq_iff_eq.mpr h1
      rw [t1, Bool.true_or] at HO
      go_wp2_with fail
      go_ret2
      exact ⟨by rw [HO.out]; rfl, rfl⟩
    · have t1 : (k == 1) = false := beq_eq_false_iff_ne.mpr h1
      rw [t1, Bool.false_or] at HO
      go_wp2_with fail
      go_ret2
      exact ⟨by rw [HO.out]; rfl, rfl⟩
  · have e : inN scope name = scope ++ dot ++ name := if_neg h0
    rw [e] at hlk HO ⊢
    have k1 : (9223372036854775807 < scope.size + 1) = False := eq_false (by omega)
    have k2 : (9223372036854775807 < scope.size + 1 + name.size) = False := eq_false (by omega)
    have hdd : scope ++ dot ++ name = scope ++ ⟨#[46]⟩ ++ name := rfl
    rw [hdd] at hlk HO ⊢
    clear hz hke e h hdd
    generalize kd0 g (scope ++ ⟨#[46]⟩ ++ name) = k at *
    have he := ne_isEmpty h0
    go_enter Tryd.func23, Tryd.ntmps23
    by_cases h1 : k = 1
    · have t1 : (k == 1) = true := beq_iff_eq.mpr h1
      rw [t1, Bool.true_or] at HO
      go_wp2_with fail
      go_ret2
      exact ⟨by rw [HO.out]; rfl, rfl⟩
    · have t1 : (k == 1) = false := beq_eq_false_iff_ne.mpr h1
      rw [t1, Bool.false_or] at HO
      go_wp2_with fail
      go_ret2
      exact ⟨by rw [HO.out]; rfl, rfl⟩
end Go.Proofs.YtbhfecciegfdjaaDoor.X
