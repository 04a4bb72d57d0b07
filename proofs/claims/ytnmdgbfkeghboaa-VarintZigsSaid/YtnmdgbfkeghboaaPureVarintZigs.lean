/- The statement VarintZigs over whole numbers: zigzag as the program has it is the reference's, and goes back, for every int64 and every uint64; no further condition. -/
import Derived.Test.YtnmdgbfkeghboaaX1
import Derived.Test.YtnmdgbfkeghboaaX3
import Derived.Test.YtnmdgbfkeghboaaX2
import Derived.Test.YtnmdgbfkeghboaaX4
import Derived.Test.YtnmdgbfkeghboaaX5
import Derived.Test.YtnmdgbfkeghboaaMathBits
namespace Go.Proofs.Ytnmdgbfkeghboaa.Pure
open Go.RowKit Go.Proofs.Ytnmdgbfkeghboaa.X Go.Proofs.YtnmdgbfkeghboaaW.PrintWords Go.Proofs.YtnmdgbfkeghboaaW.PrintLast Go.Proofs.Ytnmdgbfkeghboaa.Math

def zigOf (a : Int) : Int := if a < 0 then -1 - 2 * a else 2 * a
def zagOf (u : Int) : Int := if u % 2 = 1 then -1 - u / 2 else u / 2
theorem zig_f {a : Int} (h0 : -9223372036854775808 ≤ a) (h1 : a < 9223372036854775808) : varint_Zig.f a = some (zigOf a) := by
  unfold varint_Zig.f zigOf
  by_cases h : a < 0
  · rw [if_pos h, show IntKind.u64.wrap (a / 9223372036854775808) = 18446744073709551615 by rw [wrap_u64]; omega, xor_u64_ones (by rw [wrap_u64]; omega) (by rw [wrap_u64]; omega)]
    simp only [wrap_u64]
    congr 1
    omega
  · rw [if_neg h, show IntKind.u64.wrap (a / 9223372036854775808) = 0 by rw [wrap_u64]; omega, xor_u64_0 (by rw [wrap_u64]; omega) (by rw [wrap_u64]; omega)]
    simp only [wrap_u64]
    congr 1
    omega
theorem refzig_f {a : Int} (h0 : -9223372036854775808 ≤ a) (h1 : a < 9223372036854775808) : courierref01_Zig.f a = some (zigOf a) := by
  unfold courierref01_Zig.f zigOf
  by_cases h : a < 0
  · rw [if_pos h, if_pos h, wrap64_id (n := a + 1) (by omega) (by omega), wrap64_id (by omega) (by omega)]
    simp only [wrap_u64]
    congr 1
    omega
  · rw [if_neg h, if_neg h]
    simp only [wrap_u64]
    congr 1
    omega
theorem zag_f {u : Int} (h0 : 0 ≤ u) (h1 : u < 18446744073709551616) : varint_Zag.f u = some (zagOf u) := by
  unfold varint_Zag.f zagOf
  rw [and1_u64 h0 h1, wrap64_id (n := u % 2) (by omega) (by omega), wrap64_id (n := -(u % 2)) (by omega) (by omega), wrap64_id (n := u / 2) (by omega) (by omega)]
  by_cases h : u % 2 = 1
  · rw [if_pos h, h, xor_i64_ones (by omega) (by omega)]
  · rw [if_neg h, show -(u % 2) = 0 by omega, xor_i64_0 (by omega) (by omega)]
theorem refzag_f {u : Int} (h0 : 0 ≤ u) (h1 : u < 18446744073709551616) : courierref01_Zag.f u = some (zagOf u) := by
  unfold courierref01_Zag.f zagOf
  rw [Int.tmod_eq_emod_of_nonneg h0, Int.tdiv_eq_ediv_of_nonneg h0, u64_id (n := u / 2) (by omega) (by omega), wrap64_id (n := u / 2) (by omega) (by omega), wrap64_id (n := -(u / 2)) (by omega) (by omega), wrap64_id (n := -(u / 2) - 1) (by omega) (by omega)]
  by_cases h : u % 2 = 1
  · rw [if_pos h, if_pos h]
    congr 1
    omega
  · rw [if_neg h, if_neg h]

theorem VarintZigs : courierlaw01_VarintZigs.Pure := by
  intro a u ha hu
  rw [wf_i64] at ha
  rw [wf_u64] at hu
  have za : 0 ≤ zigOf a ∧ zigOf a < 18446744073709551616 := by unfold zigOf; split <;> omega
  have zu : -9223372036854775808 ≤ zagOf u ∧ zagOf u < 9223372036854775808 := by unfold zagOf; split <;> omega
  have back : zagOf (zigOf a) = a := by unfold zagOf zigOf; split <;> split <;> omega
  have forth : zigOf (zagOf u) = u := by unfold zagOf zigOf; split <;> split <;> omega
  exact ⟨zigOf a, zagOf u, zig_f ha.1 ha.2, refzig_f ha.1 ha.2, zag_f hu.1 hu.2, refzag_f hu.1 hu.2, by rw [zag_f za.1 za.2, back], by rw [zig_f zu.1 zu.2, forth], zig_f (a := -1) (by omega) (by omega)⟩

end Go.Proofs.Ytnmdgbfkeghboaa.Pure
