/- lex's scanner: shut. -/
import Derived.Test.YthnnleibngbclaaDoorLexAdd
import Derived.Test.YthnnleibngbclaaDoorLexRight
set_option linter.unusedVariables false
set_option linter.unusedSimpArgs false
namespace Go.Proofs.YthnnleibngbclaaDoor.X
open Go.RowKit Go.Shelf Go.Proofs.YthnnleibngbclaaDoorW.PrintWords Go.Proofs.YthnnleibngbclaaDoorW.PrintLast Go.Proofs.YthnnleibngbclaaDoorW.PrintMore
def shutS (σ : Sc) (text : ByteArray) (hi : Int) : Sc :=
  if σ.from_ < 0 then σ
  else
    let o : Wd := { σ.ok with text := text.extract σ.from_.toNat hi.toNat }
    let σ1 : Sc := { σ with ok := o, from_ := -1 }
    if rightV o = true then addS σ1 o else failS σ1 6 o.line o.col
theorem oth_below {b : Nat} {a w w' : World} (h : Lib.OthersKept 30 (some b) a w) (hb : Below w.heap.size w w') : Lib.OthersKept 30 (some b) a w' :=
  fun k o hk hkb ho => (hb.block k (Array.getElem?_eq_some_iff.1 (h k o hk hkb ho)).1).trans (h k o hk hkb ho)
set_option maxHeartbeats 4000000 in
set_option maxRecDepth 100000 in
theorem lex_shut.calls (w0 : World) (hT : LexTabs w0) (b : Nat) (v : Value) (σ : Sc) (text : ByteArray) (hi : Int) (w : World) (h0 : Below w0.heap.size w0 w) (h : ScAt w0.heap.size b v σ w) (hto : hi ≤ text.size) (hft : σ.from_ ≤ hi) (hts : text.size ≤ 70368744177664) :
    Calls Tryd.prog 14 #[.pointer (some ⟨b, 0, none⟩), .string text, .int .i64 hi] w (ScPost w0.heap.size b (shutS σ text hi) w) := by
  obtain ⟨B, hBe⟩ : ∃ B, B = w0.heap.size := ⟨_, rfl⟩
  rw [← hBe] at h h0 ⊢
  have hw : B ≤ w.heap.size := by rw [hBe]; rw [hBe] at h0; exact h0.size
  have HBE := Aside0.mk hBe
  have HT := Aside0.mk hT
  have H0 := Aside0.mk h0
  have HAT := Aside0.mk h
  clear hBe hT h0
  obtain ⟨hB, hbk, hown, hl4⟩ := h
  have HK := Aside0.mk hbk
  have HO := Aside0.mk hown
  have HL := Aside0.mk hl4
  have hlt := blk_lt hbk
  have hne := own_ne hown hbk (by decide)
  have HNE := Aside0.mk hne
  have d3 : w.cell? ⟨b, 3, none⟩ = some (.int .i64 σ.from_) := blk_cell hbk 3
  have f3 := blk_frozen hbk 3
  have d4 : w.cell? ⟨b, 4, none⟩ = some (.int .i64 σ.ok.kind) := blk_cell hbk 4
  have f4 := blk_frozen hbk 4
  have d5 : w.cell? ⟨b, 5, none⟩ = some (.string σ.ok.text) := blk_cell hbk 5
  have f5 := blk_frozen hbk 5
  have d6 : w.cell? ⟨b, 6, none⟩ = some (.int .i64 σ.ok.line) := blk_cell hbk 6
  have f6 := blk_frozen hbk 6
  have d7 : w.cell? ⟨b, 7, none⟩ = some (.int .i64 σ.ok.col) := blk_cell hbk 7
  have f7 := blk_frozen hbk 7
  clear hbk hown hne hl4
  have HBB := Aside0.mk (Below.refl B w)
  have HOT := Aside0.mk (Lib.OthersKept.refl 30 (some b) w)
  by_cases hf : σ.from_ < 0
  · have HS : Aside0 (shutS σ text hi = σ) := ⟨if_pos hf⟩
    have t0 : decide (σ.from_ < 0) = true := decide_eq_true hf
    clear hf
    go_enter Tryd.func14, Tryd.ntmps14
    go_wp2_with fail
    go_end0
    rw [HS.out]
    exact ⟨rfl, ⟨v, HAT.out⟩, HBB.out, HOT.out⟩
  have t0 : decide (σ.from_ < 0) = false := decide_eq_false hf
  have HS : Aside0 (shutS σ text hi = if rightV { σ.ok with text := text.extract σ.from_.toNat hi.toNat } = true then addS { σ with ok := { σ.ok with text := text.extract σ.from_.toNat hi.toNat }, from_ := -1 } { σ.ok with text := text.extract σ.from_.toNat hi.toNat } else failS { σ with ok := { σ.ok with text := text.extract σ.from_.toNat hi.toNat }, from_ := -1 } 6 σ.ok.line σ.ok.col) := ⟨if_neg hf⟩
  have hf0 : 0 ≤ σ.from_ := by omega
  have ht0 : 0 ≤ hi := by omega
  have HEX : Aside0 ((text.extract σ.from_.toNat hi.toNat).size ≤ 70368744177664) := ⟨by rw [ByteArray.size_extract]; omega⟩
  clear hf
  go_enter Tryd.func14, Tryd.ntmps14
  go_wp2_with fail
  have HK1 : Aside0 (ScAt B b v { σ with ok := { σ.ok with text := text.extract σ.from_.toNat hi.toNat }, from_ := -1 } ((w.setCell ⟨b, 5, none⟩ (.string (text.extract σ.from_.toNat hi.toNat))).setCell ⟨b, 3, none⟩ (.int .i64 (-1)))) := ⟨⟨hB, (by apply blk_as; (case hh1 => with_reducible repeat (first | exact HK.out | apply blk_drewN | apply blk_drew | apply blk_alloc | apply blk_set)); (case hh2 => rfl)), (by with_reducible repeat (first | exact HO.out | refine row_set ?_ HNE.out _ | refine row_alloc ?_ _ | refine row_drew ?_ | refine row_drewN ?_ _)), HL.out⟩⟩
  have HBB1 : Aside0 (Below B w ((w.setCell ⟨b, 5, none⟩ (.string (text.extract σ.from_.toNat hi.toNat))).setCell ⟨b, 3, none⟩ (.int .i64 (-1)))) := ⟨(by with_reducible repeat (first | exact HBB.out | refine bel_set ?_ hB _ | refine below_drew ?_ | refine pw_below_drewN ?_ _ | refine bel_alloc ?_ hw _))⟩
  have HOT1 : Aside0 (Lib.OthersKept 30 (some b) w ((w.setCell ⟨b, 5, none⟩ (.string (text.extract σ.from_.toNat hi.toNat))).setCell ⟨b, 3, none⟩ (.int .i64 (-1)))) := ⟨(by with_reducible repeat (first | exact HOT.out | refine oth_set ?_ _ | refine oth_alloc ?_ _ | refine oth_drew ?_ | refine oth_drewN ?_ _))⟩
  obtain ⟨T, hTx⟩ : ∃ T, T = text.extract σ.from_.toNat hi.toNat := ⟨_, rfl⟩
  obtain ⟨W1, hW1⟩ : ∃ W1, W1 = (w.setCell ⟨b, 5, none⟩ (.string (text.extract σ.from_.toNat hi.toNat))).setCell ⟨b, 3, none⟩ (.int .i64 (-1)) := ⟨_, rfl⟩
  rw [← hW1] at HK1 HBB1 HOT1 ⊢
  rw [← hTx] at HK1 HS HEX ⊢
  clear hW1 hTx d3 d4 d5 d6 d7 f3 f4 f5 f6 f7 HBB HOT
  have HT1 : Aside0 (LexTabs W1) := ⟨HT.out.below (by rw [← HBE.out]; exact H0.out.trans HBB1.out)⟩
  refine (lex_right.calls { σ.ok with text := T } W1 HEX.out HT1.out).mono ?_
  rintro e w2 ⟨rfl, hb⟩
  have hat2 := HK1.out.below hb
  have d4 : w2.cell? ⟨b, 4, none⟩ = some (.int .i64 σ.ok.kind) := blk_cell hat2.2.1 4
  have d5 : w2.cell? ⟨b, 5, none⟩ = some (.string T) := blk_cell hat2.2.1 5
  have d6 : w2.cell? ⟨b, 6, none⟩ = some (.int .i64 σ.ok.line) := blk_cell hat2.2.1 6
  have d7 : w2.cell? ⟨b, 7, none⟩ = some (.int .i64 σ.ok.col) := blk_cell hat2.2.1 7
  have HAT2 := Aside0.mk hat2
  have HBB2 := Aside0.mk (below_then HBB1.out (Nat.le_trans hw HBB1.out.size) hb)
  have HOT2 := Aside0.mk (oth_below HOT1.out hb)
  clear hb hat2
  obtain ⟨r, hr⟩ : ∃ r, rightV { σ.ok with text := T } = r := ⟨_, rfl⟩
  rw [hr] at HS ⊢
  clear hr
  cases r with
  | false =>
    rw [if_neg (by decide)] at HS
    go_wp2_with fail
    refine (lex_fail.calls B b v _ 6 σ.ok.line σ.ok.col w2 (Nat.le_trans hw HBB2.out.size) HAT2.out).mono ?_
    rintro e w3 ⟨rfl, ha, hb3, ho3⟩
    have HX : Aside0 (ScPost B b (shutS σ text hi) w (.returned (.tuple #[])) w3) := ⟨by
      rw [HS.out]
      exact ⟨rfl, ⟨_, ha⟩, HBB2.out.trans hb3, HOT2.out.trans ho3⟩⟩
    clear ha hb3 ho3
    go_wp2_with fail
    go_end0
    exact HX.out
  | true =>
    rw [if_pos rfl] at HS
    go_wp2_with fail
    refine (lex_add.calls B b v _ { σ.ok with text := T } w2 (Nat.le_trans hw HBB2.out.size) HAT2.out).mono ?_
    rintro e w3 ⟨rfl, ha, hb3, ho3⟩
    have HX : Aside0 (ScPost B b (shutS σ text hi) w (.returned (.tuple #[])) w3) := ⟨by
      rw [HS.out]
      exact ⟨rfl, ha, HBB2.out.trans hb3, HOT2.out.trans ho3⟩⟩
    clear ha hb3 ho3
    go_wp2_with fail
    go_end0
    exact HX.out
end Go.Proofs.YthnnleibngbclaaDoor.X
