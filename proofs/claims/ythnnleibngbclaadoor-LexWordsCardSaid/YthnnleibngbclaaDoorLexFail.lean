/- lex's scanner: fail. -/
import Derived.Test.YthnnleibngbclaaDoorLexState
import Derived.BigRegion
import Derived.RegionTactic
import Derived.ChangeAlike
set_option linter.unusedVariables false
set_option linter.unusedSimpArgs false
namespace Go.Proofs.YthnnleibngbclaaDoor.X
open Go.RowKit Go.Shelf Go.Proofs.YthnnleibngbclaaDoorW.PrintWords Go.Proofs.YthnnleibngbclaaDoorW.PrintLast Go.Proofs.YthnnleibngbclaaDoorW.PrintMore
set_option maxHeartbeats 4000000 in
set_option maxRecDepth 100000 in
theorem lex_fail.calls (B b : Nat) (v : Value) (σ : Sc) (e l c : Int) (w : World) (hw : B ≤ w.heap.size) (h : ScAt B b v σ w) :
    Calls Tryd.prog 15 #[.pointer (some ⟨b, 0, none⟩), .int .i64 e, .agg #[.int .i64 l, .int .i64 c]] w fun e' w' => e' = .returned (.tuple #[]) ∧ ScAt B b v (failS σ e l c) w' ∧ Below B w w' ∧ Lib.OthersKept 30 (some b) w w' := by
  obtain ⟨hB, hbk, hown, hl4⟩ := h
  have HK := Aside0.mk hbk
  have HO := Aside0.mk hown
  have HL := Aside0.mk hl4
  have hlt := blk_lt hbk
  have hne := own_ne hown hbk (by decide)
  have HNE := Aside0.mk hne
  have d12 : w.cell? ⟨b, 12, none⟩ = some (.int .i64 σ.end_) := blk_cell hbk 12
  have f12 := blk_frozen hbk 12
  have d13 : w.cell? ⟨b, 13, none⟩ = some (.int .i64 σ.pl) := blk_cell hbk 13
  have f13 := blk_frozen hbk 13
  have d14 : w.cell? ⟨b, 14, none⟩ = some (.int .i64 σ.pc) := blk_cell hbk 14
  have f14 := blk_frozen hbk 14
  clear hbk hown hne hl4
  have HBB := Aside0.mk (Below.refl B w)
  have HOT := Aside0.mk (Lib.OthersKept.refl 30 (some b) w)
  go_enter Tryd.func15, Tryd.ntmps15
  by_cases he : σ.end_ = 0
  · have t0 : (σ.end_ == 0) = true := beq_iff_eq.mpr he
    have HS : Aside0 (failS σ e l c = { σ with end_ := e, pl := l, pc := c }) := ⟨if_pos he⟩
    clear he
    go_wp2_with fail
    go_region
    go_end0
    rw [HS.out]
    exact ⟨rfl, ⟨hB, (by apply blk_as; (case hh1 => with_reducible repeat (first | exact HK.out | apply blk_drewN | apply blk_drew | apply blk_alloc | apply blk_set)); (case hh2 => rfl)), (by with_reducible repeat (first | exact HO.out | refine row_set ?_ HNE.out _ | refine row_alloc ?_ _ | refine row_drew ?_ | refine row_drewN ?_ _)), HL.out⟩, (by with_reducible repeat (first | exact HBB.out | refine bel_set ?_ hB _ | refine below_drew ?_ | refine pw_below_drewN ?_ _ | refine bel_alloc ?_ hw _)), (by with_reducible repeat (first | exact HOT.out | refine oth_set ?_ _ | refine oth_alloc ?_ _ | refine oth_drew ?_ | refine oth_drewN ?_ _))⟩
  · have t0 : (σ.end_ == 0) = false := beq_eq_false_iff_ne.mpr he
    have HS : Aside0 (failS σ e l c = σ) := ⟨if_neg he⟩
    clear he
    go_wp2_with fail
    go_end0
    rw [HS.out]
    exact ⟨rfl, ⟨hB, (by apply blk_as; (case hh1 => with_reducible repeat (first | exact HK.out | apply blk_drewN | apply blk_drew | apply blk_alloc | apply blk_set)); (case hh2 => rfl)), (by with_reducible repeat (first | exact HO.out | refine row_set ?_ HNE.out _ | refine row_alloc ?_ _ | refine row_drew ?_ | refine row_drewN ?_ _)), HL.out⟩, (by with_reducible repeat (first | exact HBB.out | refine bel_set ?_ hB _ | refine below_drew ?_ | refine pw_below_drewN ?_ _ | refine bel_alloc ?_ hw _)), (by with_reducible repeat (first | exact HOT.out | refine oth_set ?_ _ | refine oth_alloc ?_ _ | refine oth_drew ?_ | refine oth_drewN ?_ _))⟩
end Go.Proofs.YthnnleibngbclaaDoor.X
