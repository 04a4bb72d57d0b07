/- lex's scanner: rune. -/
import Derived.Test.YthnnleibngbclaaDoorLexShut
import Derived.Test.YthnnleibngbclaaDoorContains
import Derived.Deep.QuietTactic
import Derived.BigQuiet
set_option linter.unusedVariables false
set_option linter.unusedSimpArgs false
namespace Go.Proofs.YthnnleibngbclaaDoor.X
open Go.RowKit Go.Shelf Go.Proofs.YthnnleibngbclaaDoorW.PrintWords Go.Proofs.YthnnleibngbclaaDoorW.PrintLast Go.Proofs.YthnnleibngbclaaDoorW.PrintMore
def digitZ (r : Int) : Bool := decide (48 ≤ r ∧ r ≤ 57)
def letterZ (r : Int) : Bool := decide ((97 ≤ r ∧ r ≤ 122) ∨ (65 ≤ r ∧ r ≤ 90) ∨ (913 ≤ r ∧ r ≤ 969))
theorem letterZ_f (r : Int) : ident_Letter.f r = some (letterZ r) := by
  unfold ident_Letter.f letterZ
  repeat' split
  all_goals
    rw [Option.some.injEq, Bool.eq_iff_iff]
    simp only [decide_eq_true_eq, true_iff, Bool.false_eq_true, false_iff]
    omega
theorem digitZ_f (r : Int) : ident_Digit.f r = some (digitZ r) := by
  unfold ident_Digit.f digitZ
  repeat' split
  all_goals
    rw [Option.some.injEq, Bool.eq_iff_iff]
    simp only [decide_eq_true_eq, true_iff, Bool.false_eq_true, false_iff]
    omega
def emptyB : ByteArray := ⟨#[]⟩
/-- What the scanner does at a rune that is in no word. -/
def runeS (σ : Sc) (i r : Int) : Sc :=
  if r = 32 ∨ r = 9 ∨ r = 10 then σ
  else if letterZ r = true then { σ with from_ := i, ok := ⟨1, emptyB, σ.line, σ.col⟩ }
  else if digitZ r = true then { σ with from_ := i, ok := ⟨2, emptyB, σ.line, σ.col⟩ }
  else if signV r = true then addS σ ⟨3, Utf8.encode r, σ.line, σ.col⟩
  else if r = 47 then { σ with slash := true, bl := σ.line, bc := σ.col }
  else failS σ 6 σ.line σ.col
set_option maxHeartbeats 4000000 in
set_option maxRecDepth 100000 in
theorem lex_rune.calls (B b : Nat) (v : Value) (σ : Sc) (i r : Int) (w : World) (hw : B ≤ w.heap.size) (h : ScAt B b v σ w) (hr0 : -2147483648 ≤ r) (hr1 : r ≤ 2147483647) :
    Calls Tryd.prog 23 #[.pointer (some ⟨b, 0, none⟩), .int .i64 i, .int .i32 r] w (ScPost B b (runeS σ i r) w) := by
  have HAT := Aside0.mk h
  obtain ⟨hB, hbk, hown, hl4⟩ := h
  have HK := Aside0.mk hbk
  have HO := Aside0.mk hown
  have HL := Aside0.mk hl4
  have hlt := blk_lt hbk
  have hne := own_ne hown hbk (by decide)
  have HNE := Aside0.mk hne
  have d1 : w.cell? ⟨b, 1, none⟩ = some (.int .i64 σ.line) := blk_cell hbk 1
  have f1 := blk_frozen hbk 1
  have d2 : w.cell? ⟨b, 2, none⟩ = some (.int .i64 σ.col) := blk_cell hbk 2
  have f2 := blk_frozen hbk 2
  have d3 : w.cell? ⟨b, 3, none⟩ = some (.int .i64 σ.from_) := blk_cell hbk 3
  have f3 := blk_frozen hbk 3
  have d4 : w.cell? ⟨b, 4, none⟩ = some (.int .i64 σ.ok.kind) := blk_cell hbk 4
  have f4 := blk_frozen hbk 4
  have d5 : w.cell? ⟨b, 5, none⟩ = some (.string σ.ok.text) := blk_cell hbk 5
  have f5 := blk_frozen hbk 5
  have d6 : w.cell? ⟨b, 6, none⟩ = some (.int .i64 σ.ok.line) := blk_cell hbk 6
  have f6 := blk_frozen hbk 6
  have d7 : w.cell? ⟨b, 7, none⟩ = some (.int .i64 σ.ok.col) := blk_cell hbk 7
  have f7 := blk_frozen hbk 7
  have d9 : w.cell? ⟨b, 9, none⟩ = some (.bool σ.slash) := blk_cell hbk 9
  have f9 := blk_frozen hbk 9
  have d10 : w.cell? ⟨b, 10, none⟩ = some (.int .i64 σ.bl) := blk_cell hbk 10
  have f10 := blk_frozen hbk 10
  have d11 : w.cell? ⟨b, 11, none⟩ = some (.int .i64 σ.bc) := blk_cell hbk 11
  have f11 := blk_frozen hbk 11
  clear hbk hown hne hl4
  have HBB := Aside0.mk (Below.refl B w)
  have HOT := Aside0.mk (Lib.OthersKept.refl 30 (some b) w)
  have HR0 : Aside0 (runeS σ i r = if r = 32 ∨ r = 9 ∨ r = 10 then σ else if letterZ r = true then { σ with from_ := i, ok := ⟨1, emptyB, σ.line, σ.col⟩ } else if digitZ r = true then { σ with from_ := i, ok := ⟨2, emptyB, σ.line, σ.col⟩ } else if signV r = true then addS σ ⟨3, Utf8.encode r, σ.line, σ.col⟩ else if r = 47 then { σ with slash := true, bl := σ.line, bc := σ.col } else failS σ 6 σ.line σ.col) := ⟨rfl⟩
  by_cases hbl : r = 32 ∨ r = 9 ∨ r = 10
  · rw [if_pos hbl] at HR0
    go_enter Tryd.func23, Tryd.ntmps23
    rcases hbl with rfl | rfl | rfl
    all_goals
      go_wp2_with fail
      go_end0
      rw [HR0.out]
      exact ⟨rfl, ⟨v, HAT.out⟩, HBB.out, HOT.out⟩
  rw [if_neg hbl] at HR0
  have t1 : (r == 32) = false := beq_eq_false_iff_ne.mpr (by omega)
  have t2 : (r == 9) = false := beq_eq_false_iff_ne.mpr (by omega)
  have t3 : (r == 10) = false := beq_eq_false_iff_ne.mpr (by omega)
  clear hbl
  have HL1 := Aside0.mk (letterZ_f r)
  have HD1 := Aside0.mk (digitZ_f r)
  generalize letterZ r = z1 at *
  generalize digitZ r = z2 at *
  obtain ⟨z3, hz3⟩ : ∃ z3, signV r = z3 := ⟨_, rfl⟩
  rw [hz3] at HR0
  have HZ3 := Aside0.mk hz3
  clear hz3
  go_enter Tryd.func23, Tryd.ntmps23
  go_wp2_with fail
  refine (ident_Letter.calls r z1 _ HL1.out).mono ?_
  rintro e w' ⟨rfl, ⟨nd, rfl⟩⟩
  cases z1 with
  | true =>
    rw [if_pos rfl] at HR0
    go_wp2_with fail
    go_end0
    rw [HR0.out]
    exact ⟨rfl, ⟨v, hB, (by apply blk_as; (case hh1 => with_reducible repeat (first | exact HK.out | apply blk_drewN | apply blk_drew | apply blk_alloc | apply blk_set)); (case hh2 => rfl)), (by with_reducible repeat (first | exact HO.out | refine row_set ?_ HNE.out _ | refine row_alloc ?_ _ | refine row_drew ?_ | refine row_drewN ?_ _)), HL.out⟩, (by with_reducible repeat (first | exact HBB.out | refine bel_set ?_ hB _ | refine below_drew ?_ | refine pw_below_drewN ?_ _ | refine bel_alloc ?_ hw _)), (by with_reducible repeat (first | exact HOT.out | refine oth_set ?_ _ | refine oth_alloc ?_ _ | refine oth_drew ?_ | refine oth_drewN ?_ _))⟩
  | false =>
    rw [if_neg (by decide)] at HR0
    go_wp2_with fail
    refine (ident_Digit.calls r z2 _ HD1.out).mono ?_
    rintro e w' ⟨rfl, ⟨nd2, rfl⟩⟩
    cases z2 with
    | true =>
      rw [if_pos rfl] at HR0
      go_wp2_with fail
      go_end0
      rw [HR0.out]
      exact ⟨rfl, ⟨v, hB, (by apply blk_as; (case hh1 => with_reducible repeat (first | exact HK.out | apply blk_drewN | apply blk_drew | apply blk_alloc | apply blk_set)); (case hh2 => rfl)), (by with_reducible repeat (first | exact HO.out | refine row_set ?_ HNE.out _ | refine row_alloc ?_ _ | refine row_drew ?_ | refine row_drewN ?_ _)), HL.out⟩, (by with_reducible repeat (first | exact HBB.out | refine bel_set ?_ hB _ | refine below_drew ?_ | refine pw_below_drewN ?_ _ | refine bel_alloc ?_ hw _)), (by with_reducible repeat (first | exact HOT.out | refine oth_set ?_ _ | refine oth_alloc ?_ _ | refine oth_drew ?_ | refine oth_drewN ?_ _))⟩
    | false =>
      rw [if_neg (by decide)] at HR0
      have HK9 : Aside0 (ScAt B b v σ (w.drewN (nd + nd2))) := ⟨hB, (by apply blk_as; (case hh1 => with_reducible repeat (first | exact HK.out | apply blk_drewN | apply blk_drew | apply blk_alloc | apply blk_set)); (case hh2 => rfl)), (by with_reducible repeat (first | exact HO.out | refine row_set ?_ HNE.out _ | refine row_alloc ?_ _ | refine row_drew ?_ | refine row_drewN ?_ _)), HL.out⟩
      have HB9 : Aside0 (Below B w (w.drewN (nd + nd2))) := ⟨(by with_reducible repeat (first | exact HBB.out | refine bel_set ?_ hB _ | refine below_drew ?_ | refine pw_below_drewN ?_ _ | refine bel_alloc ?_ hw _))⟩
      have HO9 : Aside0 (Lib.OthersKept 30 (some b) w (w.drewN (nd + nd2))) := ⟨(by with_reducible repeat (first | exact HOT.out | refine oth_set ?_ _ | refine oth_alloc ?_ _ | refine oth_drew ?_ | refine oth_drewN ?_ _))⟩
      go_wp2_with fail
      refine (contains_signs r hr0 hr1 _).mono ?_
      rintro e w2 ⟨rfl, hb2⟩
      rw [HZ3.out]
      have hat2 := HK9.out.below hb2
      have HBBx := Aside0.mk (below_then HB9.out (by simpa using hw) hb2)
      have HOTx := Aside0.mk (oth_below HO9.out hb2)
      have hw2 : B ≤ w2.heap.size := Nat.le_trans hw HBBx.out.size
      clear d1 d2 d3 d4 d5 d6 d7 d9 d10 d11 f1 f2 f3 f4 f5 f6 f7 f9 f10 f11 hb2 HK9 HB9 HO9 HK HO HBB HOT HAT
      obtain ⟨_, hbk, hown, _⟩ := id hat2
      have d1 : w2.cell? ⟨b, 1, none⟩ = some (.int .i64 σ.line) := blk_cell hbk 1
      have f1 := blk_frozen hbk 1
      have d2 : w2.cell? ⟨b, 2, none⟩ = some (.int .i64 σ.col) := blk_cell hbk 2
      have f2 := blk_frozen hbk 2
      have d9 : w2.cell? ⟨b, 9, none⟩ = some (.bool σ.slash) := blk_cell hbk 9
      have f9 := blk_frozen hbk 9
      have d10 : w2.cell? ⟨b, 10, none⟩ = some (.int .i64 σ.bl) := blk_cell hbk 10
      have f10 := blk_frozen hbk 10
      have d11 : w2.cell? ⟨b, 11, none⟩ = some (.int .i64 σ.bc) := blk_cell hbk 11
      have f11 := blk_frozen hbk 11
      have HAT2 := Aside0.mk hat2
      have HK := Aside0.mk hbk
      have HO := Aside0.mk hown
      have HBB := HBBx
      have HOT := HOTx
      clear hat2 hbk hown
      cases z3 with
      | true =>
        rw [if_pos rfl] at HR0
        go_wp2_with fail
        refine (lex_add.calls B b v σ ⟨3, Utf8.encode r, σ.line, σ.col⟩ w2 hw2 HAT2.out).mono ?_
        rintro e w3 ⟨rfl, ha, hb3, ho3⟩
        have HX : Aside0 (ScPost B b (runeS σ i r) w (.returned (.tuple #[])) w3) := ⟨by
          rw [HR0.out]
          exact ⟨rfl, ha, HBB.out.trans hb3, HOT.out.trans ho3⟩⟩
        clear ha hb3 ho3
        go_wp2_with fail
        go_end0
        exact HX.out
      | false =>
        rw [if_neg (by decide)] at HR0
        by_cases h47 : r = 47
        · have t47 : (r == 47) = true := beq_iff_eq.mpr h47
          rw [if_pos h47] at HR0
          clear h47
          go_wp2_with fail
          go_end0
          rw [HR0.out]
          exact ⟨rfl, ⟨v, hB, (by apply blk_as; (case hh1 => with_reducible repeat (first | exact HK.out | apply blk_drewN | apply blk_drew | apply blk_alloc | apply blk_set)); (case hh2 => rfl)), (by with_reducible repeat (first | exact HO.out | refine row_set ?_ HNE.out _ | refine row_alloc ?_ _ | refine row_drew ?_ | refine row_drewN ?_ _)), HL.out⟩, (by with_reducible repeat (first | exact HBB.out | refine bel_set ?_ hB _ | refine below_drew ?_ | refine pw_below_drewN ?_ _ | refine bel_alloc ?_ hw _)), (by with_reducible repeat (first | exact HOT.out | refine oth_set ?_ _ | refine oth_alloc ?_ _ | refine oth_drew ?_ | refine oth_drewN ?_ _))⟩
        · have t47 : (r == 47) = false := beq_eq_false_iff_ne.mpr h47
          rw [if_neg h47] at HR0
          go_wp2_with fail
          refine (lex_fail.calls B b v σ 6 σ.line σ.col w2 hw2 HAT2.out).mono ?_
          rintro e w3 ⟨rfl, ha, hb3, ho3⟩
          have HX : Aside0 (ScPost B b (runeS σ i r) w (.returned (.tuple #[])) w3) := ⟨by
            rw [HR0.out]
            exact ⟨rfl, ⟨_, ha⟩, HBB.out.trans hb3, HOT.out.trans ho3⟩⟩
          clear ha hb3 ho3
          go_wp2_with fail
          go_end0
          exact HX.out
end Go.Proofs.YthnnleibngbclaaDoor.X
