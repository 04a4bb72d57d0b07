/- print.formed, print.Formed: what they answer of declarations of few bytes. -/
import Derived.Test.YtknbhbppofphpaaGreatDoorPfMath
set_option linter.unusedVariables false
set_option linter.unusedSimpArgs false
namespace Go.Proofs.YtknbhbppofphpaaGreatDoor.X
open Go.RowKit Go.Shelf Go.Proofs.YtknbhbppofphpaaGreatDoorW.PrintWords Go.Proofs.YtknbhbppofphpaaGreatDoorW.PrintLast Go.Proofs.YtknbhbppofphpaaGreatDoorW.PrintMore
set_option maxHeartbeats 4000000 in
set_option maxRecDepth 100000 in
theorem formed4.calls (d : PD) (A4 A5 A6 A7 : Option Addr) (c4 c5 c6 c7 : Nat) (bd : Nat) (dep : Int) (r : Bool) (w : World) (hb : w.cell? ⟨bd, 0, none⟩ = some (.int .i64 dep)) (h0 : 0 ≤ dep) (h1 : dep ≤ 1000000)
    (hp : ∀ W, Below w.heap.size w W → Calls Tryz.prog 26 #[.agg #[.int .i64 d.f0, .string d.f1, .int .i64 d.f2.f0, .int .i64 d.f2.f1, .slice A4 d.f3.length c4, .slice A5 d.f4.length c5, .slice A6 d.f5.length c6, .slice A7 d.f6.length c7], .int .i64 (dep + 1)] W fun e w' => e = .returned (.bool r) ∧ Below W.heap.size W w') :
    Calls Tryz.prog 52 #[.agg #[.int .i64 d.f0, .string d.f1, .int .i64 d.f2.f0, .int .i64 d.f2.f1, .slice A4 d.f3.length c4, .slice A5 d.f4.length c5, .slice A6 d.f5.length c6, .slice A7 d.f6.length c7], .pointer (some ⟨bd, 0, none⟩)] w fun e w' => e = .returned (.bool (!r)) ∧ Below w.heap.size w w' := by
  have HP := Aside0.mk hp
  clear hp
  have hbo : ∀ o, (w.alloc o).cell? ⟨bd, 0, none⟩ = some (.int .i64 dep) := fun o => pw_cell_below (below_alloc (Below.refl _ _) o) hb
  clear hb
  have tw : IntKind.i64.wrap (dep + 1) = dep + 1 := by rw [IntKind.wrap_i64]; omega
  go_enter Tryz.func52, Tryz.ntmps52
  go_wp2_with fail
  refine (HP.out _ (below_alloc (Below.refl _ _) _)).mono ?_
  rintro e w2 ⟨rfl, hb2⟩
  have HB := Aside0.mk (below_step (below_alloc (Below.refl _ _) _) hb2)
  clear hb2
  go_wp2_with fail
  go_ret
  exact ⟨rfl, HB.out⟩
set_option maxHeartbeats 4000000 in
set_option maxRecDepth 100000 in
theorem Formed1.calls (d : PD) (A4 A5 A6 A7 : Option Addr) (c4 c5 c6 c7 : Nat) (r : Bool) (w : World)
    (hp : ∀ W, Below w.heap.size w W → Calls Tryz.prog 26 #[.agg #[.int .i64 d.f0, .string d.f1, .int .i64 d.f2.f0, .int .i64 d.f2.f1, .slice A4 d.f3.length c4, .slice A5 d.f4.length c5, .slice A6 d.f5.length c6, .slice A7 d.f6.length c7], .int .i64 1] W fun e w' => e = .returned (.bool r) ∧ Below W.heap.size W w') :
    Calls Tryz.prog 25 #[.agg #[.int .i64 d.f0, .string d.f1, .int .i64 d.f2.f0, .int .i64 d.f2.f1, .slice A4 d.f3.length c4, .slice A5 d.f4.length c5, .slice A6 d.f5.length c6, .slice A7 d.f6.length c7]] w fun e w' => e = .returned (.bool (!r)) ∧ Below w.heap.size w w' := by
  have HP := Aside0.mk hp
  clear hp
  go_enter Tryz.func25, Tryz.ntmps25
  go_wp2_with fail
  refine (HP.out _ (below_alloc (Below.refl _ _) _)).mono ?_
  rintro e w2 ⟨rfl, hb2⟩
  have HB := Aside0.mk (below_step (below_alloc (Below.refl _ _) _) hb2)
  clear hb2
  go_wp2_with fail
  go_ret
  exact ⟨rfl, HB.out⟩
end Go.Proofs.YtknbhbppofphpaaGreatDoor.X
