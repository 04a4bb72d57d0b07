/- Several texts of this claim in one: what each shows stands at its head. -/
import Derived.Test.YtknbhbppofphpaaGreatDoorLexM
import Derived.Deep.RegionHeld3
import Derived.Lib.RuneCount
import Derived.Lib.DecodeN
import Derived.Lib.QuoteLoop
import Derived.Lib.TrimU
import Derived.Test.YtknbhbppofphpaaGreatDoorRefName
import Derived.BigQuiet
/-! lex's scanner: next. -/
set_option linter.unusedVariables false
set_option linter.unusedSimpArgs false
namespace Go.Proofs.YtknbhbppofphpaaGreatDoor.X
open Go.RowKit Go.Shelf Go.Proofs.YtknbhbppofphpaaGreatDoorW.PrintWords Go.Proofs.YtknbhbppofphpaaGreatDoorW.PrintLast Go.Proofs.YtknbhbppofphpaaGreatDoorW.PrintMore
def insideZ (r : Int) : Bool := letterZ r || digitZ r || decide (r = 95)
theorem insideZ_f (r : Int) : ident_Inside.f r = some (insideZ r) := by
  unfold ident_Inside.f insideZ
  rw [letterZ_f, digitZ_f]
  cases letterZ r with
  | true => rfl
  | false =>
    cases digitZ r with
    | true => rfl
    | false =>
      rw [bsomeI, if_neg (by decide), bsomeI, if_neg (by decide)]
      rw [Option.some.injEq, Bool.eq_iff_iff]
      simp
theorem failS_at (σ : Sc) (e l c : Int) : (failS σ e l c).line = σ.line ∧ (failS σ e l c).col = σ.col := by unfold failS; split <;> exact ⟨rfl, rfl⟩
theorem addS_at (σ : Sc) (x : Wd) : (addS σ x).line = σ.line ∧ (addS σ x).col = σ.col := by
  unfold addS
  split
  · exact failS_at _ _ _ _
  · exact ⟨rfl, rfl⟩
theorem shutS_at (σ : Sc) (text : ByteArray) (i : Int) : (shutS σ text i).line = σ.line ∧ (shutS σ text i).col = σ.col := by
  unfold shutS
  split
  · exact ⟨rfl, rfl⟩
  · simp only
    split
    · exact addS_at _ _
    · exact failS_at _ _ _ _
theorem runeS_at (σ : Sc) (i r : Int) : (runeS σ i r).line = σ.line ∧ (runeS σ i r).col = σ.col := by
  unfold runeS
  repeat' split
  all_goals first | exact ⟨rfl, rfl⟩ | exact addS_at _ _ | exact failS_at _ _ _ _
def preS (σ : Sc) (text : ByteArray) (i r : Int) : Sc := if 0 ≤ σ.from_ ∧ insideZ r = false then shutS σ text i else σ
def midS (σ : Sc) (i r : Int) : Sc :=
  if σ.note = true then { σ with note := decide (r ≠ 10) }
  else if σ.slash = true then (if r = 47 then { σ with note := true, slash := false } else failS σ 6 σ.bl σ.bc)
  else if σ.from_ < 0 then runeS σ i r else σ
def finS (σ : Sc) (r : Int) : Sc := if r = 10 then { σ with line := σ.line + 1, col := 1 } else { σ with col := σ.col + 1 }
def nextS (σ : Sc) (text : ByteArray) (i r : Int) : Sc := finS (midS (preS σ text i r) i r) r
theorem finS_T {σ : Sc} {r : Int} (h : r = 10) : finS σ r = { σ with line := σ.line + 1, col := 1 } := if_pos h
theorem finS_F {σ : Sc} {r : Int} (h : ¬ r = 10) : finS σ r = { σ with col := σ.col + 1 } := if_neg h
theorem dec_T {r : Int} (h : r = 10) : decide (r ≠ 10) = false := by simp [h]
theorem dec_F {r : Int} (h : ¬ r = 10) : decide (r ≠ 10) = true := by simp [h]
set_option maxHeartbeats 4000000 in
set_option maxRecDepth 100000 in
theorem lex_next.calls (w0 : World) (hT : LexTabs w0) (b : Nat) (v : Value) (σ : Sc) (text : ByteArray) (i r : Int) (w : World) (h0 : Below w0.heap.size w0 w) (h : ScAt w0.heap.size b v σ w) (hi : i ≤ text.size) (hfi : σ.from_ ≤ i) (hts : text.size ≤ 70368744177664) (hr0 : -2147483648 ≤ r) (hr1 : r ≤ 2147483647)
    (hl0 : 0 ≤ σ.line) (hl1 : σ.line ≤ 1000000000) (hc0 : 0 ≤ σ.col) (hc1 : σ.col ≤ 1000000000) :
    Calls Tryz.prog 32 #[.pointer (some ⟨b, 0, none⟩), .string text, .int .i64 i, .int .i32 r] w (ScPost w0.heap.size b (nextS σ text i r) w) := by
  obtain ⟨B, hBe⟩ : ∃ B, B = w0.heap.size := ⟨_, rfl⟩
  rw [← hBe] at h h0 ⊢
  have hw : B ≤ w.heap.size := by rw [hBe]; rw [hBe] at h0; exact h0.size
  have HBE := Aside0.mk hBe
  have HT := Aside0.mk hT
  have H0 := Aside0.mk h0
  have HAT := Aside0.mk h
  have hB := h.1
  have d3 : w.cell? ⟨b, 3, none⟩ = some (.int .i64 σ.from_) := blk_cell h.2.1 3
  have HIN := Aside0.mk (insideZ_f r)
  clear hBe hT h0 h
  by_cases h10 : r = 10
  · have t10 : (r == 10) = true := beq_iff_eq.mpr h10
    have tn10 : (r != 10) = false := bne_eq_false_iff_eq.mpr h10
    have HR := Aside0.mk h10
    clear h10
    by_cases hf : 0 ≤ σ.from_
    · have tf : decide (0 ≤ σ.from_) = true := decide_eq_true hf
      cases hz : insideZ r with
      | true =>
        rw [hz] at HIN
        obtain ⟨σ1, hσ1⟩ : ∃ σ1, σ1 = σ := ⟨_, rfl⟩
        have HS1 : Aside0 (σ1 = preS σ text i r) := ⟨by rw [preS, hz, if_neg (by simp), hσ1]⟩
        have HL1 : Aside0 (σ1.line = σ.line) := ⟨by rw [hσ1]⟩
        have HC1 : Aside0 (σ1.col = σ.col) := ⟨by rw [hσ1]⟩
        clear hz
        go_enter Tryz.func32, Tryz.ntmps32
        go_wp2_with fail
        refine (ident_Inside.calls r true _ HIN.out).mono ?_
        rintro e w' ⟨rfl, ⟨nd, rfl⟩⟩
        obtain ⟨v1, hv1⟩ : ∃ v1, v1 = v := ⟨_, rfl⟩
        have hat1 : ScAt B b v1 σ1 (w.drewN nd) := by rw [hσ1, hv1]; exact HAT.out.below (pw_below_drewN (Below.refl _ _) _)
        have HBB := Aside0.mk (pw_below_drewN (Below.refl B w) nd)
        have HOT := Aside0.mk (oth_drewN (Lib.OthersKept.refl 90 (some b) w) nd)
        clear hσ1 hv1 d3
        have HNE := Aside0.mk hat1.ne
        obtain ⟨_, hbk, hown, hl4⟩ := hat1
        have d3 : (w.drewN nd).cell? ⟨b, 3, none⟩ = some (.int .i64 σ1.from_) := blk_cell hbk 3
        have f3 := blk_frozen hbk 3
        have d8 : (w.drewN nd).cell? ⟨b, 8, none⟩ = some (.bool σ1.note) := blk_cell hbk 8
        have f8 := blk_frozen hbk 8
        have d9 : (w.drewN nd).cell? ⟨b, 9, none⟩ = some (.bool σ1.slash) := blk_cell hbk 9
        have f9 := blk_frozen hbk 9
        have d10 : (w.drewN nd).cell? ⟨b, 10, none⟩ = some (.int .i64 σ1.bl) := blk_cell hbk 10
        have f10 := blk_frozen hbk 10
        have d11 : (w.drewN nd).cell? ⟨b, 11, none⟩ = some (.int .i64 σ1.bc) := blk_cell hbk 11
        have f11 := blk_frozen hbk 11
        have d1 : (w.drewN nd).cell? ⟨b, 1, none⟩ = some (.int .i64 σ.line) := (blk_cell hbk 1).trans (congrArg (fun z => some (Value.int .i64 z)) HL1.out)
        have d2 : (w.drewN nd).cell? ⟨b, 2, none⟩ = some (.int .i64 σ.col) := (blk_cell hbk 2).trans (congrArg (fun z => some (Value.int .i64 z)) HC1.out)
        have f1 := blk_frozen hbk 1
        have f2 := blk_frozen hbk 2
        have HK := Aside0.mk hbk
        have HO := Aside0.mk hown
        have HL := Aside0.mk hl4
        clear hbk hown hl4
        cases hn : σ1.note with
        | true =>
          have HNX : Aside0 (nextS σ text i r = { ({ σ1 with note := false } : Sc) with line := σ.line + 1, col := 1 }) := ⟨by rw [nextS, ← HS1.out, midS, if_pos hn, finS_T HR.out, HL1.out, dec_T HR.out]⟩
          rw [hn] at d8
          clear hn
          go_wp2_with fail
          go_end0
          rw [HNX.out]
          exact ⟨rfl, ⟨_, hB, (by apply blk_as; (case hh1 => with_reducible repeat (first | exact HK.out | apply blk_drewN | apply blk_drew | apply blk_alloc | apply blk_set)); (case hh2 => rfl)), (by with_reducible repeat (first | exact HO.out | refine row_set ?_ HNE.out _ | refine row_alloc ?_ _ | refine row_drew ?_ | refine row_drewN ?_ _)), HL.out⟩, (by with_reducible repeat (first | exact HBB.out | refine bel_set ?_ hB _ | refine below_drew ?_ | refine pw_below_drewN ?_ _ | refine bel_alloc ?_ hw _)), (by with_reducible repeat (first | exact HOT.out | refine oth_set ?_ _ | refine oth_alloc ?_ _ | refine oth_drew ?_ | refine oth_drewN ?_ _))⟩
        | false =>
          rw [hn] at d8
          have HN0 := Aside0.mk hn
          clear hn
          cases hs : σ1.slash with
          | true =>
            rw [hs] at d9
            have HS0 := Aside0.mk hs
            clear hs
            have t47 : (r == 47) = false := beq_eq_false_iff_ne.mpr (by have := HR.out; omega)
            have HNX : Aside0 (nextS σ text i r = finS (failS σ1 6 σ1.bl σ1.bc) r) := ⟨by rw [nextS, ← HS1.out, midS, if_neg (by rw [HN0.out]; decide), if_pos HS0.out, if_neg (by have := HR.out; omega)]⟩
            go_wp2_with fail
            refine (lex_fail.calls B b v1 σ1 6 σ1.bl σ1.bc _ (Nat.le_trans hw HBB.out.size) ⟨hB, HK.out, HO.out, HL.out⟩).mono ?_
            rintro e w3 ⟨rfl, hpost, hb3, ho3⟩
            have HPO := Aside0.mk hpost
            have HB3 := Aside0.mk (HBB.out.trans hb3)
            have HO3 := Aside0.mk (HOT.out.trans ho3)
            clear hpost hb3 ho3 HBB HOT HK HO HNE HL d1 d2 d3 d8 d9 d10 d11 f1 f2 f3 f8 f9 f10 f11
            obtain ⟨v3, hat3⟩ : ∃ v3, ScAt B b v3 (failS σ1 6 σ1.bl σ1.bc) w3 := ⟨_, HPO.out⟩
            obtain ⟨σ2, hσ2⟩ : ∃ σ2, σ2 = failS σ1 6 σ1.bl σ1.bc := ⟨_, rfl⟩
            rw [← hσ2] at hat3 HNX
            have HNE := Aside0.mk hat3.ne
            obtain ⟨_, hbk, hown, hl3⟩ := hat3
            have d1 : w3.cell? ⟨b, 1, none⟩ = some (.int .i64 σ.line) := (blk_cell hbk 1).trans (by rw [hσ2]; exact congrArg (fun z => some (Value.int .i64 z)) ((failS_at σ1 _ _ _).1.trans HL1.out))
            have d2 : w3.cell? ⟨b, 2, none⟩ = some (.int .i64 σ.col) := (blk_cell hbk 2).trans (by rw [hσ2]; exact congrArg (fun z => some (Value.int .i64 z)) ((failS_at σ1 _ _ _).2.trans HC1.out))
            have f1 := blk_frozen hbk 1
            have f2 := blk_frozen hbk 2
            have hs1 : σ2.line = σ.line := by rw [hσ2]; exact (failS_at σ1 _ _ _).1.trans HL1.out
            have hs2 : σ2.col = σ.col := by rw [hσ2]; exact (failS_at σ1 _ _ _).2.trans HC1.out
            rw [finS_T HR.out, hs1] at HNX
            have HK := Aside0.mk hbk
            have HO := Aside0.mk hown
            have HL := Aside0.mk hl3
            have HBB := HB3
            have HOT := HO3
            clear hbk hown hl3 hσ2 hs1 hs2
            go_wp2_with fail
            go_end0
            rw [HNX.out]
            exact ⟨rfl, ⟨_, hB, (by apply blk_as; (case hh1 => with_reducible repeat (first | exact HK.out | apply blk_drewN | apply blk_drew | apply blk_alloc | apply blk_set)); (case hh2 => rfl)), (by with_reducible repeat (first | exact HO.out | refine row_set ?_ HNE.out _ | refine row_alloc ?_ _ | refine row_drew ?_ | refine row_drewN ?_ _)), HL.out⟩, (by with_reducible repeat (first | exact HBB.out | refine bel_set ?_ hB _ | refine below_drew ?_ | refine pw_below_drewN ?_ _ | refine bel_alloc ?_ hw _)), (by with_reducible repeat (first | exact HOT.out | refine oth_set ?_ _ | refine oth_alloc ?_ _ | refine oth_drew ?_ | refine oth_drewN ?_ _))⟩
          | false =>
            rw [hs] at d9
            have HS0 := Aside0.mk hs
            clear hs
            by_cases hf1 : σ1.from_ < 0
            · have tf1 : decide (σ1.from_ < 0) = true := decide_eq_true hf1
              have HNX : Aside0 (nextS σ text i r = finS (runeS σ1 i r) r) := ⟨by rw [nextS, ← HS1.out, midS, if_neg (by rw [HN0.out]; decide), if_neg (by rw [HS0.out]; decide), if_pos hf1]⟩
              clear hf1
              go_wp2_with fail
              refine (lex_rune.calls B b v1 σ1 i r _ (Nat.le_trans hw HBB.out.size) ⟨hB, HK.out, HO.out, HL.out⟩ hr0 hr1).mono ?_
              rintro e w3 ⟨rfl, hpost, hb3, ho3⟩
              have HPO := Aside0.mk hpost
              have HB3 := Aside0.mk (HBB.out.trans hb3)
              have HO3 := Aside0.mk (HOT.out.trans ho3)
              clear hpost hb3 ho3 HBB HOT HK HO HNE HL d1 d2 d3 d8 d9 d10 d11 f1 f2 f3 f8 f9 f10 f11
              obtain ⟨v3, hat3⟩ : ∃ v3, ScAt B b v3 (runeS σ1 i r) w3 := HPO.out
              obtain ⟨σ2, hσ2⟩ : ∃ σ2, σ2 = runeS σ1 i r := ⟨_, rfl⟩
              rw [← hσ2] at hat3 HNX
              have HNE := Aside0.mk hat3.ne
              obtain ⟨_, hbk, hown, hl3⟩ := hat3
              have d1 : w3.cell? ⟨b, 1, none⟩ = some (.int .i64 σ.line) := (blk_cell hbk 1).trans (by rw [hσ2]; exact congrArg (fun z => some (Value.int .i64 z)) ((runeS_at σ1 _ _).1.trans HL1.out))
              have d2 : w3.cell? ⟨b, 2, none⟩ = some (.int .i64 σ.col) := (blk_cell hbk 2).trans (by rw [hσ2]; exact congrArg (fun z => some (Value.int .i64 z)) ((runeS_at σ1 _ _).2.trans HC1.out))
              have f1 := blk_frozen hbk 1
              have f2 := blk_frozen hbk 2
              have hs1 : σ2.line = σ.line := by rw [hσ2]; exact (runeS_at σ1 _ _).1.trans HL1.out
              have hs2 : σ2.col = σ.col := by rw [hσ2]; exact (runeS_at σ1 _ _).2.trans HC1.out
              rw [finS_T HR.out, hs1] at HNX
              have HK := Aside0.mk hbk
              have HO := Aside0.mk hown
              have HL := Aside0.mk hl3
              have HBB := HB3
              have HOT := HO3
              clear hbk hown hl3 hσ2 hs1 hs2
              go_wp2_with fail
              go_end0
              rw [HNX.out]
              exact ⟨rfl, ⟨_, hB, (by apply blk_as; (case hh1 => with_reducible repeat (first | exact HK.out | apply blk_drewN | apply blk_drew | apply blk_alloc | apply blk_set)); (case hh2 => rfl)), (by with_reducible repeat (first | exact HO.out | refine row_set ?_ HNE.out _ | refine row_alloc ?_ _ | refine row_drew ?_ | refine row_drewN ?_ _)), HL.out⟩, (by with_reducible repeat (first | exact HBB.out | refine bel_set ?_ hB _ | refine below_drew ?_ | refine pw_below_drewN ?_ _ | refine bel_alloc ?_ hw _)), (by with_reducible repeat (first | exact HOT.out | refine oth_set ?_ _ | refine oth_alloc ?_ _ | refine oth_drew ?_ | refine oth_drewN ?_ _))⟩
            · have tf1 : decide (σ1.from_ < 0) = false := decide_eq_false hf1
              have HNX : Aside0 (nextS σ text i r = { σ1 with line := σ.line + 1, col := 1 }) := ⟨by rw [nextS, ← HS1.out, midS, if_neg (by rw [HN0.out]; decide), if_neg (by rw [HS0.out]; decide), if_neg hf1, finS_T HR.out, HL1.out]⟩
              clear hf1
              go_wp2_with fail
              go_end0
              rw [HNX.out]
              exact ⟨rfl, ⟨_, hB, (by apply blk_as; (case hh1 => with_reducible repeat (first | exact HK.out | apply blk_drewN | apply blk_drew | apply blk_alloc | apply blk_set)); (case hh2 => rfl)), (by with_reducible repeat (first | exact HO.out | refine row_set ?_ HNE.out _ | refine row_alloc ?_ _ | refine row_drew ?_ | refine row_drewN ?_ _)), HL.out⟩, (by with_reducible repeat (first | exact HBB.out | refine bel_set ?_ hB _ | refine below_drew ?_ | refine pw_below_drewN ?_ _ | refine bel_alloc ?_ hw _)), (by with_reducible repeat (first | exact HOT.out | refine oth_set ?_ _ | refine oth_alloc ?_ _ | refine oth_drew ?_ | refine oth_drewN ?_ _))⟩
      | false =>
        rw [hz] at HIN
        have HS1' : Aside0 (preS σ text i r = shutS σ text i) := ⟨by rw [preS, hz, if_pos ⟨hf, rfl⟩]⟩
        clear hz
        go_enter Tryz.func32, Tryz.ntmps32
        go_wp2_with fail
        refine (ident_Inside.calls r false _ HIN.out).mono ?_
        rintro e w' ⟨rfl, ⟨nd, rfl⟩⟩
        go_wp2_with fail
        refine (lex_shut.calls w0 HT.out b v σ text i _ (by rw [← HBE.out]; exact pw_below_drewN H0.out _) (by rw [← HBE.out]; exact HAT.out.below (pw_below_drewN (Below.refl _ _) _)) hi hfi hts).mono ?_
        rintro e w1 ⟨rfl, ⟨v1, hat0⟩, hb1, ho1⟩
        rw [← HBE.out] at hat0 hb1
        obtain ⟨σ1, hσ1⟩ : ∃ σ1, σ1 = shutS σ text i := ⟨_, rfl⟩
        rw [← hσ1] at hat0
        have HS1 : Aside0 (σ1 = preS σ text i r) := ⟨by rw [HS1'.out, hσ1]⟩
        have HL1 : Aside0 (σ1.line = σ.line) := ⟨by rw [hσ1]; exact (shutS_at σ text i).1⟩
        have HC1 : Aside0 (σ1.col = σ.col) := ⟨by rw [hσ1]; exact (shutS_at σ text i).2⟩
        have hat1 := hat0
        have HBB := Aside0.mk ((pw_below_drewN (Below.refl B w) nd).trans hb1)
        have HOT := Aside0.mk ((oth_drewN (Lib.OthersKept.refl 90 (some b) w) nd).trans ho1)
        clear hσ1 hat0 hb1 ho1 d3
        have HNE := Aside0.mk hat1.ne
        obtain ⟨_, hbk, hown, hl4⟩ := hat1
        have d3 : w1.cell? ⟨b, 3, none⟩ = some (.int .i64 σ1.from_) := blk_cell hbk 3
        have f3 := blk_frozen hbk 3
        have d8 : w1.cell? ⟨b, 8, none⟩ = some (.bool σ1.note) := blk_cell hbk 8
        have f8 := blk_frozen hbk 8
        have d9 : w1.cell? ⟨b, 9, none⟩ = some (.bool σ1.slash) := blk_cell hbk 9
        have f9 := blk_frozen hbk 9
        have d10 : w1.cell? ⟨b, 10, none⟩ = some (.int .i64 σ1.bl) := blk_cell hbk 10
        have f10 := blk_frozen hbk 10
        have d11 : w1.cell? ⟨b, 11, none⟩ = some (.int .i64 σ1.bc) := blk_cell hbk 11
        have f11 := blk_frozen hbk 11
        have d1 : w1.cell? ⟨b, 1, none⟩ = some (.int .i64 σ.line) := (blk_cell hbk 1).trans (congrArg (fun z => some (Value.int .i64 z)) HL1.out)
        have d2 : w1.cell? ⟨b, 2, none⟩ = some (.int .i64 σ.col) := (blk_cell hbk 2).trans (congrArg (fun z => some (Value.int .i64 z)) HC1.out)
        have f1 := blk_frozen hbk 1
        have f2 := blk_frozen hbk 2
        have HK := Aside0.mk hbk
        have HO := Aside0.mk hown
        have HL := Aside0.mk hl4
        clear hbk hown hl4
        cases hn : σ1.note with
        | true =>
          have HNX : Aside0 (nextS σ text i r = { ({ σ1 with note := false } : Sc) with line := σ.line + 1, col := 1 }) := ⟨by rw [nextS, ← HS1.out, midS, if_pos hn, finS_T HR.out, HL1.out, dec_T HR.out]⟩
          rw [hn] at d8
          clear hn
          go_wp2_with fail
          go_end0
          rw [HNX.out]
          exact ⟨rfl, ⟨_, hB, (by apply blk_as; (case hh1 => with_reducible repeat (first | exact HK.out | apply blk_drewN | apply blk_drew | apply blk_alloc | apply blk_set)); (case hh2 => rfl)), (by with_reducible repeat (first | exact HO.out | refine row_set ?_ HNE.out _ | refine row_alloc ?_ _ | refine row_drew ?_ | refine row_drewN ?_ _)), HL.out⟩, (by with_reducible repeat (first | exact HBB.out | refine bel_set ?_ hB _ | refine below_drew ?_ | refine pw_below_drewN ?_ _ | refine bel_alloc ?_ hw _)), (by with_reducible repeat (first | exact HOT.out | refine oth_set ?_ _ | refine oth_alloc ?_ _ | refine oth_drew ?_ | refine oth_drewN ?_ _))⟩
        | false =>
          rw [hn] at d8
          have HN0 := Aside0.mk hn
          clear hn
          cases hs : σ1.slash with
          | true =>
            rw [hs] at d9
            have HS0 := Aside0.mk hs
            clear hs
            have t47 : (r == 47) = false := beq_eq_false_iff_ne.mpr (by have := HR.out; omega)
            have HNX : Aside0 (nextS σ text i r = finS (failS σ1 6 σ1.bl σ1.bc) r) := ⟨by rw [nextS, ← HS1.out, midS, if_neg (by rw [HN0.out]; decide), if_pos HS0.out, if_neg (by have := HR.out; omega)]⟩
            go_wp2_with fail
            refine (lex_fail.calls B b v1 σ1 6 σ1.bl σ1.bc _ (Nat.le_trans hw HBB.out.size) ⟨hB, HK.out, HO.out, HL.out⟩).mono ?_
            rintro e w3 ⟨rfl, hpost, hb3, ho3⟩
            have HPO := Aside0.mk hpost
            have HB3 := Aside0.mk (HBB.out.trans hb3)
            have HO3 := Aside0.mk (HOT.out.trans ho3)
            clear hpost hb3 ho3 HBB HOT HK HO HNE HL d1 d2 d3 d8 d9 d10 d11 f1 f2 f3 f8 f9 f10 f11
            obtain ⟨v3, hat3⟩ : ∃ v3, ScAt B b v3 (failS σ1 6 σ1.bl σ1.bc) w3 := ⟨_, HPO.out⟩
            obtain ⟨σ2, hσ2⟩ : ∃ σ2, σ2 = failS σ1 6 σ1.bl σ1.bc := ⟨_, rfl⟩
            rw [← hσ2] at hat3 HNX
            have HNE := Aside0.mk hat3.ne
            obtain ⟨_, hbk, hown, hl3⟩ := hat3
            have d1 : w3.cell? ⟨b, 1, none⟩ = some (.int .i64 σ.line) := (blk_cell hbk 1).trans (by rw [hσ2]; exact congrArg (fun z => some (Value.int .i64 z)) ((failS_at σ1 _ _ _).1.trans HL1.out))
            have d2 : w3.cell? ⟨b, 2, none⟩ = some (.int .i64 σ.col) := (blk_cell hbk 2).trans (by rw [hσ2]; exact congrArg (fun z => some (Value.int .i64 z)) ((failS_at σ1 _ _ _).2.trans HC1.out))
            have f1 := blk_frozen hbk 1
            have f2 := blk_frozen hbk 2
            have hs1 : σ2.line = σ.line := by rw [hσ2]; exact (failS_at σ1 _ _ _).1.trans HL1.out
            have hs2 : σ2.col = σ.col := by rw [hσ2]; exact (failS_at σ1 _ _ _).2.trans HC1.out
            rw [finS_T HR.out, hs1] at HNX
            have HK := Aside0.mk hbk
            have HO := Aside0.mk hown
            have HL := Aside0.mk hl3
            have HBB := HB3
            have HOT := HO3
            clear hbk hown hl3 hσ2 hs1 hs2
            go_wp2_with fail
            go_end0
            rw [HNX.out]
            exact ⟨rfl, ⟨_, hB, (by apply blk_as; (case hh1 => with_reducible repeat (first | exact HK.out | apply blk_drewN | apply blk_drew | apply blk_alloc | apply blk_set)); (case hh2 => rfl)), (by with_reducible repeat (first | exact HO.out | refine row_set ?_ HNE.out _ | refine row_alloc ?_ _ | refine row_drew ?_ | refine row_drewN ?_ _)), HL.out⟩, (by with_reducible repeat (first | exact HBB.out | refine bel_set ?_ hB _ | refine below_drew ?_ | refine pw_below_drewN ?_ _ | refine bel_alloc ?_ hw _)), (by with_reducible repeat (first | exact HOT.out | refine oth_set ?_ _ | refine oth_alloc ?_ _ | refine oth_drew ?_ | refine oth_drewN ?_ _))⟩
          | false =>
            rw [hs] at d9
            have HS0 := Aside0.mk hs
            clear hs
            by_cases hf1 : σ1.from_ < 0
            · have tf1 : decide (σ1.from_ < 0) = true := decide_eq_true hf1
              have HNX : Aside0 (nextS σ text i r = finS (runeS σ1 i r) r) := ⟨by rw [nextS, ← HS1.out, midS, if_neg (by rw [HN0.out]; decide), if_neg (by rw [HS0.out]; decide), if_pos hf1]⟩
              clear hf1
              go_wp2_with fail
              refine (lex_rune.calls B b v1 σ1 i r _ (Nat.le_trans hw HBB.out.size) ⟨hB, HK.out, HO.out, HL.out⟩ hr0 hr1).mono ?_
              rintro e w3 ⟨rfl, hpost, hb3, ho3⟩
              have HPO := Aside0.mk hpost
              have HB3 := Aside0.mk (HBB.out.trans hb3)
              have HO3 := Aside0.mk (HOT.out.trans ho3)
              clear hpost hb3 ho3 HBB HOT HK HO HNE HL d1 d2 d3 d8 d9 d10 d11 f1 f2 f3 f8 f9 f10 f11
              obtain ⟨v3, hat3⟩ : ∃ v3, ScAt B b v3 (runeS σ1 i r) w3 := HPO.out
              obtain ⟨σ2, hσ2⟩ : ∃ σ2, σ2 = runeS σ1 i r := ⟨_, rfl⟩
              rw [← hσ2] at hat3 HNX
              have HNE := Aside0.mk hat3.ne
              obtain ⟨_, hbk, hown, hl3⟩ := hat3
              have d1 : w3.cell? ⟨b, 1, none⟩ = some (.int .i64 σ.line) := (blk_cell hbk 1).trans (by rw [hσ2]; exact congrArg (fun z => some (Value.int .i64 z)) ((runeS_at σ1 _ _).1.trans HL1.out))
              have d2 : w3.cell? ⟨b, 2, none⟩ = some (.int .i64 σ.col) := (blk_cell hbk 2).trans (by rw [hσ2]; exact congrArg (fun z => some (Value.int .i64 z)) ((runeS_at σ1 _ _).2.trans HC1.out))
              have f1 := blk_frozen hbk 1
              have f2 := blk_frozen hbk 2
              have hs1 : σ2.line = σ.line := by rw [hσ2]; exact (runeS_at σ1 _ _).1.trans HL1.out
              have hs2 : σ2.col = σ.col := by rw [hσ2]; exact (runeS_at σ1 _ _).2.trans HC1.out
              rw [finS_T HR.out, hs1] at HNX
              have HK := Aside0.mk hbk
              have HO := Aside0.mk hown
              have HL := Aside0.mk hl3
              have HBB := HB3
              have HOT := HO3
              clear hbk hown hl3 hσ2 hs1 hs2
              go_wp2_with fail
              go_end0
              rw [HNX.out]
              exact ⟨rfl, ⟨_, hB, (by apply blk_as; (case hh1 => with_reducible repeat (first | exact HK.out | apply blk_drewN | apply blk_drew | apply blk_alloc | apply blk_set)); (case hh2 => rfl)), (by with_reducible repeat (first | exact HO.out | refine row_set ?_ HNE.out _ | refine row_alloc ?_ _ | refine row_drew ?_ | refine row_drewN ?_ _)), HL.out⟩, (by with_reducible repeat (first | exact HBB.out | refine bel_set ?_ hB _ | refine below_drew ?_ | refine pw_below_drewN ?_ _ | refine bel_alloc ?_ hw _)), (by with_reducible repeat (first | exact HOT.out | refine oth_set ?_ _ | refine oth_alloc ?_ _ | refine oth_drew ?_ | refine oth_drewN ?_ _))⟩
            · have tf1 : decide (σ1.from_ < 0) = false := decide_eq_false hf1
              have HNX : Aside0 (nextS σ text i r = { σ1 with line := σ.line + 1, col := 1 }) := ⟨by rw [nextS, ← HS1.out, midS, if_neg (by rw [HN0.out]; decide), if_neg (by rw [HS0.out]; decide), if_neg hf1, finS_T HR.out, HL1.out]⟩
              clear hf1
              go_wp2_with fail
              go_end0
              rw [HNX.out]
              exact ⟨rfl, ⟨_, hB, (by apply blk_as; (case hh1 => with_reducible repeat (first | exact HK.out | apply blk_drewN | apply blk_drew | apply blk_alloc | apply blk_set)); (case hh2 => rfl)), (by with_reducible repeat (first | exact HO.out | refine row_set ?_ HNE.out _ | refine row_alloc ?_ _ | refine row_drew ?_ | refine row_drewN ?_ _)), HL.out⟩, (by with_reducible repeat (first | exact HBB.out | refine bel_set ?_ hB _ | refine below_drew ?_ | refine pw_below_drewN ?_ _ | refine bel_alloc ?_ hw _)), (by with_reducible repeat (first | exact HOT.out | refine oth_set ?_ _ | refine oth_alloc ?_ _ | refine oth_drew ?_ | refine oth_drewN ?_ _))⟩
    · have tf : decide (0 ≤ σ.from_) = false := decide_eq_false hf
      obtain ⟨σ1, hσ1⟩ : ∃ σ1, σ1 = σ := ⟨_, rfl⟩
      have HS1 : Aside0 (σ1 = preS σ text i r) := ⟨by rw [preS, if_neg (fun h => hf h.1), hσ1]⟩
      have HL1 : Aside0 (σ1.line = σ.line) := ⟨by rw [hσ1]⟩
      have HC1 : Aside0 (σ1.col = σ.col) := ⟨by rw [hσ1]⟩
      obtain ⟨v1, hv1⟩ : ∃ v1, v1 = v := ⟨_, rfl⟩
      have hat1 : ScAt B b v1 σ1 w := by rw [hσ1, hv1]; exact HAT.out
      have d3' : w.cell? ⟨b, 3, none⟩ = some (.int .i64 σ1.from_) := by rw [hσ1]; exact d3
      have tf' : decide (0 ≤ σ1.from_) = false := by rw [hσ1]; exact tf
      have HBB := Aside0.mk (Below.refl B w)
      have HOT := Aside0.mk (Lib.OthersKept.refl 90 (some b) w)
      clear hσ1 hv1 d3 d3' tf
      have HNE := Aside0.mk hat1.ne
      obtain ⟨_, hbk, hown, hl4⟩ := hat1
      have d3 : w.cell? ⟨b, 3, none⟩ = some (.int .i64 σ1.from_) := blk_cell hbk 3
      have f3 := blk_frozen hbk 3
      have d8 : w.cell? ⟨b, 8, none⟩ = some (.bool σ1.note) := blk_cell hbk 8
      have f8 := blk_frozen hbk 8
      have d9 : w.cell? ⟨b, 9, none⟩ = some (.bool σ1.slash) := blk_cell hbk 9
      have f9 := blk_frozen hbk 9
      have d10 : w.cell? ⟨b, 10, none⟩ = some (.int .i64 σ1.bl) := blk_cell hbk 10
      have f10 := blk_frozen hbk 10
      have d11 : w.cell? ⟨b, 11, none⟩ = some (.int .i64 σ1.bc) := blk_cell hbk 11
      have f11 := blk_frozen hbk 11
      have d1 : w.cell? ⟨b, 1, none⟩ = some (.int .i64 σ.line) := (blk_cell hbk 1).trans (congrArg (fun z => some (Value.int .i64 z)) HL1.out)
      have d2 : w.cell? ⟨b, 2, none⟩ = some (.int .i64 σ.col) := (blk_cell hbk 2).trans (congrArg (fun z => some (Value.int .i64 z)) HC1.out)
      have f1 := blk_frozen hbk 1
      have f2 := blk_frozen hbk 2
      have HK := Aside0.mk hbk
      have HO := Aside0.mk hown
      have HL := Aside0.mk hl4
      clear hbk hown hl4
      go_enter Tryz.func32, Tryz.ntmps32
      cases hn : σ1.note with
      | true =>
        have HNX : Aside0 (nextS σ text i r = { ({ σ1 with note := false } : Sc) with line := σ.line + 1, col := 1 }) := ⟨by rw [nextS, ← HS1.out, midS, if_pos hn, finS_T HR.out, HL1.out, dec_T HR.out]⟩
        rw [hn] at d8
        clear hn
        go_wp2_with fail
        go_end0
        rw [HNX.out]
        exact ⟨rfl, ⟨_, hB, (by apply blk_as; (case hh1 => with_reducible repeat (first | exact HK.out | apply blk_drewN | apply blk_drew | apply blk_alloc | apply blk_set)); (case hh2 => rfl)), (by with_reducible repeat (first | exact HO.out | refine row_set ?_ HNE.out _ | refine row_alloc ?_ _ | refine row_drew ?_ | refine row_drewN ?_ _)), HL.out⟩, (by with_reducible repeat (first | exact HBB.out | refine bel_set ?_ hB _ | refine below_drew ?_ | refine pw_below_drewN ?_ _ | refine bel_alloc ?_ hw _)), (by with_reducible repeat (first | exact HOT.out | refine oth_set ?_ _ | refine oth_alloc ?_ _ | refine oth_drew ?_ | refine oth_drewN ?_ _))⟩
      | false =>
        rw [hn] at d8
        have HN0 := Aside0.mk hn
        clear hn
        cases hs : σ1.slash with
        | true =>
          rw [hs] at d9
          have HS0 := Aside0.mk hs
          clear hs
          have t47 : (r == 47) = false := beq_eq_false_iff_ne.mpr (by have := HR.out; omega)
          have HNX : Aside0 (nextS σ text i r = finS (failS σ1 6 σ1.bl σ1.bc) r) := ⟨by rw [nextS, ← HS1.out, midS, if_neg (by rw [HN0.out]; decide), if_pos HS0.out, if_neg (by have := HR.out; omega)]⟩
          go_wp2_with fail
          refine (lex_fail.calls B b v1 σ1 6 σ1.bl σ1.bc _ (Nat.le_trans hw HBB.out.size) ⟨hB, HK.out, HO.out, HL.out⟩).mono ?_
          rintro e w3 ⟨rfl, hpost, hb3, ho3⟩
          have HPO := Aside0.mk hpost
          have HB3 := Aside0.mk (HBB.out.trans hb3)
          have HO3 := Aside0.mk (HOT.out.trans ho3)
          clear hpost hb3 ho3 HBB HOT HK HO HNE HL d1 d2 d3 d8 d9 d10 d11 f1 f2 f3 f8 f9 f10 f11
          obtain ⟨v3, hat3⟩ : ∃ v3, ScAt B b v3 (failS σ1 6 σ1.bl σ1.bc) w3 := ⟨_, HPO.out⟩
          obtain ⟨σ2, hσ2⟩ : ∃ σ2, σ2 = failS σ1 6 σ1.bl σ1.bc := ⟨_, rfl⟩
          rw [← hσ2] at hat3 HNX
          have HNE := Aside0.mk hat3.ne
          obtain ⟨_, hbk, hown, hl3⟩ := hat3
          have d1 : w3.cell? ⟨b, 1, none⟩ = some (.int .i64 σ.line) := (blk_cell hbk 1).trans (by rw [hσ2]; exact congrArg (fun z => some (Value.int .i64 z)) ((failS_at σ1 _ _ _).1.trans HL1.out))
          have d2 : w3.cell? ⟨b, 2, none⟩ = some (.int .i64 σ.col) := (blk_cell hbk 2).trans (by rw [hσ2]; exact congrArg (fun z => some (Value.int .i64 z)) ((failS_at σ1 _ _ _).2.trans HC1.out))
          have f1 := blk_frozen hbk 1
          have f2 := blk_frozen hbk 2
          have hs1 : σ2.line = σ.line := by rw [hσ2]; exact (failS_at σ1 _ _ _).1.trans HL1.out
          have hs2 : σ2.col = σ.col := by rw [hσ2]; exact (failS_at σ1 _ _ _).2.trans HC1.out
          rw [finS_T HR.out, hs1] at HNX
          have HK := Aside0.mk hbk
          have HO := Aside0.mk hown
          have HL := Aside0.mk hl3
          have HBB := HB3
          have HOT := HO3
          clear hbk hown hl3 hσ2 hs1 hs2
          go_wp2_with fail
          go_end0
          rw [HNX.out]
          exact ⟨rfl, ⟨_, hB, (by apply blk_as; (case hh1 => with_reducible repeat (first | exact HK.out | apply blk_drewN | apply blk_drew | apply blk_alloc | apply blk_set)); (case hh2 => rfl)), (by with_reducible repeat (first | exact HO.out | refine row_set ?_ HNE.out _ | refine row_alloc ?_ _ | refine row_drew ?_ | refine row_drewN ?_ _)), HL.out⟩, (by with_reducible repeat (first | exact HBB.out | refine bel_set ?_ hB _ | refine below_drew ?_ | refine pw_below_drewN ?_ _ | refine bel_alloc ?_ hw _)), (by with_reducible repeat (first | exact HOT.out | refine oth_set ?_ _ | refine oth_alloc ?_ _ | refine oth_drew ?_ | refine oth_drewN ?_ _))⟩
        | false =>
          rw [hs] at d9
          have HS0 := Aside0.mk hs
          clear hs
          by_cases hf1 : σ1.from_ < 0
          · have tf1 : decide (σ1.from_ < 0) = true := decide_eq_true hf1
            have HNX : Aside0 (nextS σ text i r = finS (runeS σ1 i r) r) := ⟨by rw [nextS, ← HS1.out, midS, if_neg (by rw [HN0.out]; decide), if_neg (by rw [HS0.out]; decide), if_pos hf1]⟩
            clear hf1
            go_wp2_with fail
            refine (lex_rune.calls B b v1 σ1 i r _ (Nat.le_trans hw HBB.out.size) ⟨hB, HK.out, HO.out, HL.out⟩ hr0 hr1).mono ?_
            rintro e w3 ⟨rfl, hpost, hb3, ho3⟩
            have HPO := Aside0.mk hpost
            have HB3 := Aside0.mk (HBB.out.trans hb3)
            have HO3 := Aside0.mk (HOT.out.trans ho3)
            clear hpost hb3 ho3 HBB HOT HK HO HNE HL d1 d2 d3 d8 d9 d10 d11 f1 f2 f3 f8 f9 f10 f11
            obtain ⟨v3, hat3⟩ : ∃ v3, ScAt B b v3 (runeS σ1 i r) w3 := HPO.out
            obtain ⟨σ2, hσ2⟩ : ∃ σ2, σ2 = runeS σ1 i r := ⟨_, rfl⟩
            rw [← hσ2] at hat3 HNX
            have HNE := Aside0.mk hat3.ne
            obtain ⟨_, hbk, hown, hl3⟩ := hat3
            have d1 : w3.cell? ⟨b, 1, none⟩ = some (.int .i64 σ.line) := (blk_cell hbk 1).trans (by rw [hσ2]; exact congrArg (fun z => some (Value.int .i64 z)) ((runeS_at σ1 _ _).1.trans HL1.out))
            have d2 : w3.cell? ⟨b, 2, none⟩ = some (.int .i64 σ.col) := (blk_cell hbk 2).trans (by rw [hσ2]; exact congrArg (fun z => some (Value.int .i64 z)) ((runeS_at σ1 _ _).2.trans HC1.out))
            have f1 := blk_frozen hbk 1
            have f2 := blk_frozen hbk 2
            have hs1 : σ2.line = σ.line := by rw [hσ2]; exact (runeS_at σ1 _ _).1.trans HL1.out
            have hs2 : σ2.col = σ.col := by rw [hσ2]; exact (runeS_at σ1 _ _).2.trans HC1.out
            rw [finS_T HR.out, hs1] at HNX
            have HK := Aside0.mk hbk
            have HO := Aside0.mk hown
            have HL := Aside0.mk hl3
            have HBB := HB3
            have HOT := HO3
            clear hbk hown hl3 hσ2 hs1 hs2
            go_wp2_with fail
            go_end0
            rw [HNX.out]
            exact ⟨rfl, ⟨_, hB, (by apply blk_as; (case hh1 => with_reducible repeat (first | exact HK.out | apply blk_drewN | apply blk_drew | apply blk_alloc | apply blk_set)); (case hh2 => rfl)), (by with_reducible repeat (first | exact HO.out | refine row_set ?_ HNE.out _ | refine row_alloc ?_ _ | refine row_drew ?_ | refine row_drewN ?_ _)), HL.out⟩, (by with_reducible repeat (first | exact HBB.out | refine bel_set ?_ hB _ | refine below_drew ?_ | refine pw_below_drewN ?_ _ | refine bel_alloc ?_ hw _)), (by with_reducible repeat (first | exact HOT.out | refine oth_set ?_ _ | refine oth_alloc ?_ _ | refine oth_drew ?_ | refine oth_drewN ?_ _))⟩
          · have tf1 : decide (σ1.from_ < 0) = false := decide_eq_false hf1
            have HNX : Aside0 (nextS σ text i r = { σ1 with line := σ.line + 1, col := 1 }) := ⟨by rw [nextS, ← HS1.out, midS, if_neg (by rw [HN0.out]; decide), if_neg (by rw [HS0.out]; decide), if_neg hf1, finS_T HR.out, HL1.out]⟩
            clear hf1
            go_wp2_with fail
            go_end0
            rw [HNX.out]
            exact ⟨rfl, ⟨_, hB, (by apply blk_as; (case hh1 => with_reducible repeat (first | exact HK.out | apply blk_drewN | apply blk_drew | apply blk_alloc | apply blk_set)); (case hh2 => rfl)), (by with_reducible repeat (first | exact HO.out | refine row_set ?_ HNE.out _ | refine row_alloc ?_ _ | refine row_drew ?_ | refine row_drewN ?_ _)), HL.out⟩, (by with_reducible repeat (first | exact HBB.out | refine bel_set ?_ hB _ | refine below_drew ?_ | refine pw_below_drewN ?_ _ | refine bel_alloc ?_ hw _)), (by with_reducible repeat (first | exact HOT.out | refine oth_set ?_ _ | refine oth_alloc ?_ _ | refine oth_drew ?_ | refine oth_drewN ?_ _))⟩
  · have t10 : (r == 10) = false := beq_eq_false_iff_ne.mpr h10
    have tn10 : (r != 10) = true := bne_iff_ne.mpr h10
    have HR := Aside0.mk h10
    clear h10
    by_cases hf : 0 ≤ σ.from_
    · have tf : decide (0 ≤ σ.from_) = true := decide_eq_true hf
      cases hz : insideZ r with
      | true =>
        rw [hz] at HIN
        obtain ⟨σ1, hσ1⟩ : ∃ σ1, σ1 = σ := ⟨_, rfl⟩
        have HS1 : Aside0 (σ1 = preS σ text i r) := ⟨by rw [preS, hz, if_neg (by simp), hσ1]⟩
        have HL1 : Aside0 (σ1.line = σ.line) := ⟨by rw [hσ1]⟩
        have HC1 : Aside0 (σ1.col = σ.col) := ⟨by rw [hσ1]⟩
        clear hz
        go_enter Tryz.func32, Tryz.ntmps32
        go_wp2_with fail
        refine (ident_Inside.calls r true _ HIN.out).mono ?_
        rintro e w' ⟨rfl, ⟨nd, rfl⟩⟩
        obtain ⟨v1, hv1⟩ : ∃ v1, v1 = v := ⟨_, rfl⟩
        have hat1 : ScAt B b v1 σ1 (w.drewN nd) := by rw [hσ1, hv1]; exact HAT.out.below (pw_below_drewN (Below.refl _ _) _)
        have HBB := Aside0.mk (pw_below_drewN (Below.refl B w) nd)
        have HOT := Aside0.mk (oth_drewN (Lib.OthersKept.refl 90 (some b) w) nd)
        clear hσ1 hv1 d3
        have HNE := Aside0.mk hat1.ne
        obtain ⟨_, hbk, hown, hl4⟩ := hat1
        have d3 : (w.drewN nd).cell? ⟨b, 3, none⟩ = some (.int .i64 σ1.from_) := blk_cell hbk 3
        have f3 := blk_frozen hbk 3
        have d8 : (w.drewN nd).cell? ⟨b, 8, none⟩ = some (.bool σ1.note) := blk_cell hbk 8
        have f8 := blk_frozen hbk 8
        have d9 : (w.drewN nd).cell? ⟨b, 9, none⟩ = some (.bool σ1.slash) := blk_cell hbk 9
        have f9 := blk_frozen hbk 9
        have d10 : (w.drewN nd).cell? ⟨b, 10, none⟩ = some (.int .i64 σ1.bl) := blk_cell hbk 10
        have f10 := blk_frozen hbk 10
        have d11 : (w.drewN nd).cell? ⟨b, 11, none⟩ = some (.int .i64 σ1.bc) := blk_cell hbk 11
        have f11 := blk_frozen hbk 11
        have d1 : (w.drewN nd).cell? ⟨b, 1, none⟩ = some (.int .i64 σ.line) := (blk_cell hbk 1).trans (congrArg (fun z => some (Value.int .i64 z)) HL1.out)
        have d2 : (w.drewN nd).cell? ⟨b, 2, none⟩ = some (.int .i64 σ.col) := (blk_cell hbk 2).trans (congrArg (fun z => some (Value.int .i64 z)) HC1.out)
        have f1 := blk_frozen hbk 1
        have f2 := blk_frozen hbk 2
        have HK := Aside0.mk hbk
        have HO := Aside0.mk hown
        have HL := Aside0.mk hl4
        clear hbk hown hl4
        cases hn : σ1.note with
        | true =>
          have HNX : Aside0 (nextS σ text i r = { ({ σ1 with note := true } : Sc) with col := σ.col + 1 }) := ⟨by rw [nextS, ← HS1.out, midS, if_pos hn, finS_F HR.out, HC1.out, dec_F HR.out]⟩
          rw [hn] at d8
          clear hn
          go_wp2_with fail
          go_end0
          rw [HNX.out]
          exact ⟨rfl, ⟨_, hB, (by apply blk_as; (case hh1 => with_reducible repeat (first | exact HK.out | apply blk_drewN | apply blk_drew | apply blk_alloc | apply blk_set)); (case hh2 => rfl)), (by with_reducible repeat (first | exact HO.out | refine row_set ?_ HNE.out _ | refine row_alloc ?_ _ | refine row_drew ?_ | refine row_drewN ?_ _)), HL.out⟩, (by with_reducible repeat (first | exact HBB.out | refine bel_set ?_ hB _ | refine below_drew ?_ | refine pw_below_drewN ?_ _ | refine bel_alloc ?_ hw _)), (by with_reducible repeat (first | exact HOT.out | refine oth_set ?_ _ | refine oth_alloc ?_ _ | refine oth_drew ?_ | refine oth_drewN ?_ _))⟩
        | false =>
          rw [hn] at d8
          have HN0 := Aside0.mk hn
          clear hn
          cases hs : σ1.slash with
          | true =>
            rw [hs] at d9
            have HS0 := Aside0.mk hs
            clear hs
            by_cases h47 : r = 47
            · have t47 : (r == 47) = true := beq_iff_eq.mpr h47
              have HNX : Aside0 (nextS σ text i r = { ({ σ1 with note := true, slash := false } : Sc) with col := σ.col + 1 }) := ⟨by rw [nextS, ← HS1.out, midS, if_neg (by rw [HN0.out]; decide), if_pos HS0.out, if_pos h47, finS_F HR.out, HC1.out]⟩
              clear h47
              go_wp2_with fail
              go_end0
              rw [HNX.out]
              exact ⟨rfl, ⟨_, hB, (by apply blk_as; (case hh1 => with_reducible repeat (first | exact HK.out | apply blk_drewN | apply blk_drew | apply blk_alloc | apply blk_set)); (case hh2 => rfl)), (by with_reducible repeat (first | exact HO.out | refine row_set ?_ HNE.out _ | refine row_alloc ?_ _ | refine row_drew ?_ | refine row_drewN ?_ _)), HL.out⟩, (by with_reducible repeat (first | exact HBB.out | refine bel_set ?_ hB _ | refine below_drew ?_ | refine pw_below_drewN ?_ _ | refine bel_alloc ?_ hw _)), (by with_reducible repeat (first | exact HOT.out | refine oth_set ?_ _ | refine oth_alloc ?_ _ | refine oth_drew ?_ | refine oth_drewN ?_ _))⟩
            · have t47 : (r == 47) = false := beq_eq_false_iff_ne.mpr h47
              have HNX : Aside0 (nextS σ text i r = finS (failS σ1 6 σ1.bl σ1.bc) r) := ⟨by rw [nextS, ← HS1.out, midS, if_neg (by rw [HN0.out]; decide), if_pos HS0.out, if_neg h47]⟩
              clear h47
              go_wp2_with fail
              refine (lex_fail.calls B b v1 σ1 6 σ1.bl σ1.bc _ (Nat.le_trans hw HBB.out.size) ⟨hB, HK.out, HO.out, HL.out⟩).mono ?_
              rintro e w3 ⟨rfl, hpost, hb3, ho3⟩
              have HPO := Aside0.mk hpost
              have HB3 := Aside0.mk (HBB.out.trans hb3)
              have HO3 := Aside0.mk (HOT.out.trans ho3)
              clear hpost hb3 ho3 HBB HOT HK HO HNE HL d1 d2 d3 d8 d9 d10 d11 f1 f2 f3 f8 f9 f10 f11
              obtain ⟨v3, hat3⟩ : ∃ v3, ScAt B b v3 (failS σ1 6 σ1.bl σ1.bc) w3 := ⟨_, HPO.out⟩
              obtain ⟨σ2, hσ2⟩ : ∃ σ2, σ2 = failS σ1 6 σ1.bl σ1.bc := ⟨_, rfl⟩
              rw [← hσ2] at hat3 HNX
              have HNE := Aside0.mk hat3.ne
              obtain ⟨_, hbk, hown, hl3⟩ := hat3
              have d1 : w3.cell? ⟨b, 1, none⟩ = some (.int .i64 σ.line) := (blk_cell hbk 1).trans (by rw [hσ2]; exact congrArg (fun z => some (Value.int .i64 z)) ((failS_at σ1 _ _ _).1.trans HL1.out))
              have d2 : w3.cell? ⟨b, 2, none⟩ = some (.int .i64 σ.col) := (blk_cell hbk 2).trans (by rw [hσ2]; exact congrArg (fun z => some (Value.int .i64 z)) ((failS_at σ1 _ _ _).2.trans HC1.out))
              have f1 := blk_frozen hbk 1
              have f2 := blk_frozen hbk 2
              have hs1 : σ2.line = σ.line := by rw [hσ2]; exact (failS_at σ1 _ _ _).1.trans HL1.out
              have hs2 : σ2.col = σ.col := by rw [hσ2]; exact (failS_at σ1 _ _ _).2.trans HC1.out
              rw [finS_F HR.out, hs2] at HNX
              have HK := Aside0.mk hbk
              have HO := Aside0.mk hown
              have HL := Aside0.mk hl3
              have HBB := HB3
              have HOT := HO3
              clear hbk hown hl3 hσ2 hs1 hs2
              go_wp2_with fail
              go_end0
              rw [HNX.out]
              exact ⟨rfl, ⟨_, hB, (by apply blk_as; (case hh1 => with_reducible repeat (first | exact HK.out | apply blk_drewN | apply blk_drew | apply blk_alloc | apply blk_set)); (case hh2 => rfl)), (by with_reducible repeat (first | exact HO.out | refine row_set ?_ HNE.out _ | refine row_alloc ?_ _ | refine row_drew ?_ | refine row_drewN ?_ _)), HL.out⟩, (by with_reducible repeat (first | exact HBB.out | refine bel_set ?_ hB _ | refine below_drew ?_ | refine pw_below_drewN ?_ _ | refine bel_alloc ?_ hw _)), (by with_reducible repeat (first | exact HOT.out | refine oth_set ?_ _ | refine oth_alloc ?_ _ | refine oth_drew ?_ | refine oth_drewN ?_ _))⟩
          | false =>
            rw [hs] at d9
            have HS0 := Aside0.mk hs
            clear hs
            by_cases hf1 : σ1.from_ < 0
            · have tf1 : decide (σ1.from_ < 0) = true := decide_eq_true hf1
              have HNX : Aside0 (nextS σ text i r = finS (runeS σ1 i r) r) := ⟨by rw [nextS, ← HS1.out, midS, if_neg (by rw [HN0.out]; decide), if_neg (by rw [HS0.out]; decide), if_pos hf1]⟩
              clear hf1
              go_wp2_with fail
              refine (lex_rune.calls B b v1 σ1 i r _ (Nat.le_trans hw HBB.out.size) ⟨hB, HK.out, HO.out, HL.out⟩ hr0 hr1).mono ?_
              rintro e w3 ⟨rfl, hpost, hb3, ho3⟩
              have HPO := Aside0.mk hpost
              have HB3 := Aside0.mk (HBB.out.trans hb3)
              have HO3 := Aside0.mk (HOT.out.trans ho3)
              clear hpost hb3 ho3 HBB HOT HK HO HNE HL d1 d2 d3 d8 d9 d10 d11 f1 f2 f3 f8 f9 f10 f11
              obtain ⟨v3, hat3⟩ : ∃ v3, ScAt B b v3 (runeS σ1 i r) w3 := HPO.out
              obtain ⟨σ2, hσ2⟩ : ∃ σ2, σ2 = runeS σ1 i r := ⟨_, rfl⟩
              rw [← hσ2] at hat3 HNX
              have HNE := Aside0.mk hat3.ne
              obtain ⟨_, hbk, hown, hl3⟩ := hat3
              have d1 : w3.cell? ⟨b, 1, none⟩ = some (.int .i64 σ.line) := (blk_cell hbk 1).trans (by rw [hσ2]; exact congrArg (fun z => some (Value.int .i64 z)) ((runeS_at σ1 _ _).1.trans HL1.out))
              have d2 : w3.cell? ⟨b, 2, none⟩ = some (.int .i64 σ.col) := (blk_cell hbk 2).trans (by rw [hσ2]; exact congrArg (fun z => some (Value.int .i64 z)) ((runeS_at σ1 _ _).2.trans HC1.out))
              have f1 := blk_frozen hbk 1
              have f2 := blk_frozen hbk 2
              have hs1 : σ2.line = σ.line := by rw [hσ2]; exact (runeS_at σ1 _ _).1.trans HL1.out
              have hs2 : σ2.col = σ.col := by rw [hσ2]; exact (runeS_at σ1 _ _).2.trans HC1.out
              rw [finS_F HR.out, hs2] at HNX
              have HK := Aside0.mk hbk
              have HO := Aside0.mk hown
              have HL := Aside0.mk hl3
              have HBB := HB3
              have HOT := HO3
              clear hbk hown hl3 hσ2 hs1 hs2
              go_wp2_with fail
              go_end0
              rw [HNX.out]
              exact ⟨rfl, ⟨_, hB, (by apply blk_as; (case hh1 => with_reducible repeat (first | exact HK.out | apply blk_drewN | apply blk_drew | apply blk_alloc | apply blk_set)); (case hh2 => rfl)), (by with_reducible repeat (first | exact HO.out | refine row_set ?_ HNE.out _ | refine row_alloc ?_ _ | refine row_drew ?_ | refine row_drewN ?_ _)), HL.out⟩, (by with_reducible repeat (first | exact HBB.out | refine bel_set ?_ hB _ | refine below_drew ?_ | refine pw_below_drewN ?_ _ | refine bel_alloc ?_ hw _)), (by with_reducible repeat (first | exact HOT.out | refine oth_set ?_ _ | refine oth_alloc ?_ _ | refine oth_drew ?_ | refine oth_drewN ?_ _))⟩
            · have tf1 : decide (σ1.from_ < 0) = false := decide_eq_false hf1
              have HNX : Aside0 (nextS σ text i r = { σ1 with col := σ.col + 1 }) := ⟨by rw [nextS, ← HS1.out, midS, if_neg (by rw [HN0.out]; decide), if_neg (by rw [HS0.out]; decide), if_neg hf1, finS_F HR.out, HC1.out]⟩
              clear hf1
              go_wp2_with fail
              go_end0
              rw [HNX.out]
              exact ⟨rfl, ⟨_, hB, (by apply blk_as; (case hh1 => with_reducible repeat (first | exact HK.out | apply blk_drewN | apply blk_drew | apply blk_alloc | apply blk_set)); (case hh2 => rfl)), (by with_reducible repeat (first | exact HO.out | refine row_set ?_ HNE.out _ | refine row_alloc ?_ _ | refine row_drew ?_ | refine row_drewN ?_ _)), HL.out⟩, (by with_reducible repeat (first | exact HBB.out | refine bel_set ?_ hB _ | refine below_drew ?_ | refine pw_below_drewN ?_ _ | refine bel_alloc ?_ hw _)), (by with_reducible repeat (first | exact HOT.out | refine oth_set ?_ _ | refine oth_alloc ?_ _ | refine oth_drew ?_ | refine oth_drewN ?_ _))⟩
      | false =>
        rw [hz] at HIN
        have HS1' : Aside0 (preS σ text i r = shutS σ text i) := ⟨by rw [preS, hz, if_pos ⟨hf, rfl⟩]⟩
        clear hz
        go_enter Tryz.func32, Tryz.ntmps32
        go_wp2_with fail
        refine (ident_Inside.calls r false _ HIN.out).mono ?_
        rintro e w' ⟨rfl, ⟨nd, rfl⟩⟩
        go_wp2_with fail
        refine (lex_shut.calls w0 HT.out b v σ text i _ (by rw [← HBE.out]; exact pw_below_drewN H0.out _) (by rw [← HBE.out]; exact HAT.out.below (pw_below_drewN (Below.refl _ _) _)) hi hfi hts).mono ?_
        rintro e w1 ⟨rfl, ⟨v1, hat0⟩, hb1, ho1⟩
        rw [← HBE.out] at hat0 hb1
        obtain ⟨σ1, hσ1⟩ : ∃ σ1, σ1 = shutS σ text i := ⟨_, rfl⟩
        rw [← hσ1] at hat0
        have HS1 : Aside0 (σ1 = preS σ text i r) := ⟨by rw [HS1'.out, hσ1]⟩
        have HL1 : Aside0 (σ1.line = σ.line) := ⟨by rw [hσ1]; exact (shutS_at σ text i).1⟩
        have HC1 : Aside0 (σ1.col = σ.col) := ⟨by rw [hσ1]; exact (shutS_at σ text i).2⟩
        have hat1 := hat0
        have HBB := Aside0.mk ((pw_below_drewN (Below.refl B w) nd).trans hb1)
        have HOT := Aside0.mk ((oth_drewN (Lib.OthersKept.refl 90 (some b) w) nd).trans ho1)
        clear hσ1 hat0 hb1 ho1 d3
        have HNE := Aside0.mk hat1.ne
        obtain ⟨_, hbk, hown, hl4⟩ := hat1
        have d3 : w1.cell? ⟨b, 3, none⟩ = some (.int .i64 σ1.from_) := blk_cell hbk 3
        have f3 := blk_frozen hbk 3
        have d8 : w1.cell? ⟨b, 8, none⟩ = some (.bool σ1.note) := blk_cell hbk 8
        have f8 := blk_frozen hbk 8
        have d9 : w1.cell? ⟨b, 9, none⟩ = some (.bool σ1.slash) := blk_cell hbk 9
        have f9 := blk_frozen hbk 9
        have d10 : w1.cell? ⟨b, 10, none⟩ = some (.int .i64 σ1.bl) := blk_cell hbk 10
        have f10 := blk_frozen hbk 10
        have d11 : w1.cell? ⟨b, 11, none⟩ = some (.int .i64 σ1.bc) := blk_cell hbk 11
        have f11 := blk_frozen hbk 11
        have d1 : w1.cell? ⟨b, 1, none⟩ = some (.int .i64 σ.line) := (blk_cell hbk 1).trans (congrArg (fun z => some (Value.int .i64 z)) HL1.out)
        have d2 : w1.cell? ⟨b, 2, none⟩ = some (.int .i64 σ.col) := (blk_cell hbk 2).trans (congrArg (fun z => some (Value.int .i64 z)) HC1.out)
        have f1 := blk_frozen hbk 1
        have f2 := blk_frozen hbk 2
        have HK := Aside0.mk hbk
        have HO := Aside0.mk hown
        have HL := Aside0.mk hl4
        clear hbk hown hl4
        cases hn : σ1.note with
        | true =>
          have HNX : Aside0 (nextS σ text i r = { ({ σ1 with note := true } : Sc) with col := σ.col + 1 }) := ⟨by rw [nextS, ← HS1.out, midS, if_pos hn, finS_F HR.out, HC1.out, dec_F HR.out]⟩
          rw [hn] at d8
          clear hn
          go_wp2_with fail
          go_end0
          rw [HNX.out]
          exact ⟨rfl, ⟨_, hB, (by apply blk_as; (case hh1 => with_reducible repeat (first | exact HK.out | apply blk_drewN | apply blk_drew | apply blk_alloc | apply blk_set)); (case hh2 => rfl)), (by with_reducible repeat (first | exact HO.out | refine row_set ?_ HNE.out _ | refine row_alloc ?_ _ | refine row_drew ?_ | refine row_drewN ?_ _)), HL.out⟩, (by with_reducible repeat (first | exact HBB.out | refine bel_set ?_ hB _ | refine below_drew ?_ | refine pw_below_drewN ?_ _ | refine bel_alloc ?_ hw _)), (by with_reducible repeat (first | exact HOT.out | refine oth_set ?_ _ | refine oth_alloc ?_ _ | refine oth_drew ?_ | refine oth_drewN ?_ _))⟩
        | false =>
          rw [hn] at d8
          have HN0 := Aside0.mk hn
          clear hn
          cases hs : σ1.slash with
          | true =>
            rw [hs] at d9
            have HS0 := Aside0.mk hs
            clear hs
            by_cases h47 : r = 47
            · have t47 : (r == 47) = true := beq_iff_eq.mpr h47
              have HNX : Aside0 (nextS σ text i r = { ({ σ1 with note := true, slash := false } : Sc) with col := σ.col + 1 }) := ⟨by rw [nextS, ← HS1.out, midS, if_neg (by rw [HN0.out]; decide), if_pos HS0.out, if_pos h47, finS_F HR.out, HC1.out]⟩
              clear h47
              go_wp2_with fail
              go_end0
              rw [HNX.out]
              exact ⟨rfl, ⟨_, hB, (by apply blk_as; (case hh1 => with_reducible repeat (first | exact HK.out | apply blk_drewN | apply blk_drew | apply blk_alloc | apply blk_set)); (case hh2 => rfl)), (by with_reducible repeat (first | exact HO.out | refine row_set ?_ HNE.out _ | refine row_alloc ?_ _ | refine row_drew ?_ | refine row_drewN ?_ _)), HL.out⟩, (by with_reducible repeat (first | exact HBB.out | refine bel_set ?_ hB _ | refine below_drew ?_ | refine pw_below_drewN ?_ _ | refine bel_alloc ?_ hw _)), (by with_reducible repeat (first | exact HOT.out | refine oth_set ?_ _ | refine oth_alloc ?_ _ | refine oth_drew ?_ | refine oth_drewN ?_ _))⟩
            · have t47 : (r == 47) = false := beq_eq_false_iff_ne.mpr h47
              have HNX : Aside0 (nextS σ text i r = finS (failS σ1 6 σ1.bl σ1.bc) r) := ⟨by rw [nextS, ← HS1.out, midS, if_neg (by rw [HN0.out]; decide), if_pos HS0.out, if_neg h47]⟩
              clear h47
              go_wp2_with fail
              refine (lex_fail.calls B b v1 σ1 6 σ1.bl σ1.bc _ (Nat.le_trans hw HBB.out.size) ⟨hB, HK.out, HO.out, HL.out⟩).mono ?_
              rintro e w3 ⟨rfl, hpost, hb3, ho3⟩
              have HPO := Aside0.mk hpost
              have HB3 := Aside0.mk (HBB.out.trans hb3)
              have HO3 := Aside0.mk (HOT.out.trans ho3)
              clear hpost hb3 ho3 HBB HOT HK HO HNE HL d1 d2 d3 d8 d9 d10 d11 f1 f2 f3 f8 f9 f10 f11
              obtain ⟨v3, hat3⟩ : ∃ v3, ScAt B b v3 (failS σ1 6 σ1.bl σ1.bc) w3 := ⟨_, HPO.out⟩
              obtain ⟨σ2, hσ2⟩ : ∃ σ2, σ2 = failS σ1 6 σ1.bl σ1.bc := ⟨_, rfl⟩
              rw [← hσ2] at hat3 HNX
              have HNE := Aside0.mk hat3.ne
              obtain ⟨_, hbk, hown, hl3⟩ := hat3
              have d1 : w3.cell? ⟨b, 1, none⟩ = some (.int .i64 σ.line) := (blk_cell hbk 1).trans (by rw [hσ2]; exact congrArg (fun z => some (Value.int .i64 z)) ((failS_at σ1 _ _ _).1.trans HL1.out))
              have d2 : w3.cell? ⟨b, 2, none⟩ = some (.int .i64 σ.col) := (blk_cell hbk 2).trans (by rw [hσ2]; exact congrArg (fun z => some (Value.int .i64 z)) ((failS_at σ1 _ _ _).2.trans HC1.out))
              have f1 := blk_frozen hbk 1
              have f2 := blk_frozen hbk 2
              have hs1 : σ2.line = σ.line := by rw [hσ2]; exact (failS_at σ1 _ _ _).1.trans HL1.out
              have hs2 : σ2.col = σ.col := by rw [hσ2]; exact (failS_at σ1 _ _ _).2.trans HC1.out
              rw [finS_F HR.out, hs2] at HNX
              have HK := Aside0.mk hbk
              have HO := Aside0.mk hown
              have HL := Aside0.mk hl3
              have HBB := HB3
              have HOT := HO3
              clear hbk hown hl3 hσ2 hs1 hs2
              go_wp2_with fail
              go_end0
              rw [HNX.out]
              exact ⟨rfl, ⟨_, hB, (by apply blk_as; (case hh1 => with_reducible repeat (first | exact HK.out | apply blk_drewN | apply blk_drew | apply blk_alloc | apply blk_set)); (case hh2 => rfl)), (by with_reducible repeat (first | exact HO.out | refine row_set ?_ HNE.out _ | refine row_alloc ?_ _ | refine row_drew ?_ | refine row_drewN ?_ _)), HL.out⟩, (by with_reducible repeat (first | exact HBB.out | refine bel_set ?_ hB _ | refine below_drew ?_ | refine pw_below_drewN ?_ _ | refine bel_alloc ?_ hw _)), (by with_reducible repeat (first | exact HOT.out | refine oth_set ?_ _ | refine oth_alloc ?_ _ | refine oth_drew ?_ | refine oth_drewN ?_ _))⟩
          | false =>
            rw [hs] at d9
            have HS0 := Aside0.mk hs
            clear hs
            by_cases hf1 : σ1.from_ < 0
            · have tf1 : decide (σ1.from_ < 0) = true := decide_eq_true hf1
              have HNX : Aside0 (nextS σ text i r = finS (runeS σ1 i r) r) := ⟨by rw [nextS, ← HS1.out, midS, if_neg (by rw [HN0.out]; decide), if_neg (by rw [HS0.out]; decide), if_pos hf1]⟩
              clear hf1
              go_wp2_with fail
              refine (lex_rune.calls B b v1 σ1 i r _ (Nat.le_trans hw HBB.out.size) ⟨hB, HK.out, HO.out, HL.out⟩ hr0 hr1).mono ?_
              rintro e w3 ⟨rfl, hpost, hb3, ho3⟩
              have HPO := Aside0.mk hpost
              have HB3 := Aside0.mk (HBB.out.trans hb3)
              have HO3 := Aside0.mk (HOT.out.trans ho3)
              clear hpost hb3 ho3 HBB HOT HK HO HNE HL d1 d2 d3 d8 d9 d10 d11 f1 f2 f3 f8 f9 f10 f11
              obtain ⟨v3, hat3⟩ : ∃ v3, ScAt B b v3 (runeS σ1 i r) w3 := HPO.out
              obtain ⟨σ2, hσ2⟩ : ∃ σ2, σ2 = runeS σ1 i r := ⟨_, rfl⟩
              rw [← hσ2] at hat3 HNX
              have HNE := Aside0.mk hat3.ne
              obtain ⟨_, hbk, hown, hl3⟩ := hat3
              have d1 : w3.cell? ⟨b, 1, none⟩ = some (.int .i64 σ.line) := (blk_cell hbk 1).trans (by rw [hσ2]; exact congrArg (fun z => some (Value.int .i64 z)) ((runeS_at σ1 _ _).1.trans HL1.out))
              have d2 : w3.cell? ⟨b, 2, none⟩ = some (.int .i64 σ.col) := (blk_cell hbk 2).trans (by rw [hσ2]; exact congrArg (fun z => some (Value.int .i64 z)) ((runeS_at σ1 _ _).2.trans HC1.out))
              have f1 := blk_frozen hbk 1
              have f2 := blk_frozen hbk 2
              have hs1 : σ2.line = σ.line := by rw [hσ2]; exact (runeS_at σ1 _ _).1.trans HL1.out
              have hs2 : σ2.col = σ.col := by rw [hσ2]; exact (runeS_at σ1 _ _).2.trans HC1.out
              rw [finS_F HR.out, hs2] at HNX
              have HK := Aside0.mk hbk
              have HO := Aside0.mk hown
              have HL := Aside0.mk hl3
              have HBB := HB3
              have HOT := HO3
              clear hbk hown hl3 hσ2 hs1 hs2
              go_wp2_with fail
              go_end0
              rw [HNX.out]
              exact ⟨rfl, ⟨_, hB, (by apply blk_as; (case hh1 => with_reducible repeat (first | exact HK.out | apply blk_drewN | apply blk_drew | apply blk_alloc | apply blk_set)); (case hh2 => rfl)), (by with_reducible repeat (first | exact HO.out | refine row_set ?_ HNE.out _ | refine row_alloc ?_ _ | refine row_drew ?_ | refine row_drewN ?_ _)), HL.out⟩, (by with_reducible repeat (first | exact HBB.out | refine bel_set ?_ hB _ | refine below_drew ?_ | refine pw_below_drewN ?_ _ | refine bel_alloc ?_ hw _)), (by with_reducible repeat (first | exact HOT.out | refine oth_set ?_ _ | refine oth_alloc ?_ _ | refine oth_drew ?_ | refine oth_drewN ?_ _))⟩
            · have tf1 : decide (σ1.from_ < 0) = false := decide_eq_false hf1
              have HNX : Aside0 (nextS σ text i r = { σ1 with col := σ.col + 1 }) := ⟨by rw [nextS, ← HS1.out, midS, if_neg (by rw [HN0.out]; decide), if_neg (by rw [HS0.out]; decide), if_neg hf1, finS_F HR.out, HC1.out]⟩
              clear hf1
              go_wp2_with fail
              go_end0
              rw [HNX.out]
              exact ⟨rfl, ⟨_, hB, (by apply blk_as; (case hh1 => with_reducible repeat (first | exact HK.out | apply blk_drewN | apply blk_drew | apply blk_alloc | apply blk_set)); (case hh2 => rfl)), (by with_reducible repeat (first | exact HO.out | refine row_set ?_ HNE.out _ | refine row_alloc ?_ _ | refine row_drew ?_ | refine row_drewN ?_ _)), HL.out⟩, (by with_reducible repeat (first | exact HBB.out | refine bel_set ?_ hB _ | refine below_drew ?_ | refine pw_below_drewN ?_ _ | refine bel_alloc ?_ hw _)), (by with_reducible repeat (first | exact HOT.out | refine oth_set ?_ _ | refine oth_alloc ?_ _ | refine oth_drew ?_ | refine oth_drewN ?_ _))⟩
    · have tf : decide (0 ≤ σ.from_) = false := decide_eq_false hf
      obtain ⟨σ1, hσ1⟩ : ∃ σ1, σ1 = σ := ⟨_, rfl⟩
      have HS1 : Aside0 (σ1 = preS σ text i r) := ⟨by rw [preS, if_neg (fun h => hf h.1), hσ1]⟩
      have HL1 : Aside0 (σ1.line = σ.line) := ⟨by rw [hσ1]⟩
      have HC1 : Aside0 (σ1.col = σ.col) := ⟨by rw [hσ1]⟩
      obtain ⟨v1, hv1⟩ : ∃ v1, v1 = v := ⟨_, rfl⟩
      have hat1 : ScAt B b v1 σ1 w := by rw [hσ1, hv1]; exact HAT.out
      have d3' : w.cell? ⟨b, 3, none⟩ = some (.int .i64 σ1.from_) := by rw [hσ1]; exact d3
      have tf' : decide (0 ≤ σ1.from_) = false := by rw [hσ1]; exact tf
      have HBB := Aside0.mk (Below.refl B w)
      have HOT := Aside0.mk (Lib.OthersKept.refl 90 (some b) w)
      clear hσ1 hv1 d3 d3' tf
      have HNE := Aside0.mk hat1.ne
      obtain ⟨_, hbk, hown, hl4⟩ := hat1
      have d3 : w.cell? ⟨b, 3, none⟩ = some (.int .i64 σ1.from_) := blk_cell hbk 3
      have f3 := blk_frozen hbk 3
      have d8 : w.cell? ⟨b, 8, none⟩ = some (.bool σ1.note) := blk_cell hbk 8
      have f8 := blk_frozen hbk 8
      have d9 : w.cell? ⟨b, 9, none⟩ = some (.bool σ1.slash) := blk_cell hbk 9
      have f9 := blk_frozen hbk 9
      have d10 : w.cell? ⟨b, 10, none⟩ = some (.int .i64 σ1.bl) := blk_cell hbk 10
      have f10 := blk_frozen hbk 10
      have d11 : w.cell? ⟨b, 11, none⟩ = some (.int .i64 σ1.bc) := blk_cell hbk 11
      have f11 := blk_frozen hbk 11
      have d1 : w.cell? ⟨b, 1, none⟩ = some (.int .i64 σ.line) := (blk_cell hbk 1).trans (congrArg (fun z => some (Value.int .i64 z)) HL1.out)
      have d2 : w.cell? ⟨b, 2, none⟩ = some (.int .i64 σ.col) := (blk_cell hbk 2).trans (congrArg (fun z => some (Value.int .i64 z)) HC1.out)
      have f1 := blk_frozen hbk 1
      have f2 := blk_frozen hbk 2
      have HK := Aside0.mk hbk
      have HO := Aside0.mk hown
      have HL := Aside0.mk hl4
      clear hbk hown hl4
      go_enter Tryz.func32, Tryz.ntmps32
      cases hn : σ1.note with
      | true =>
        have HNX : Aside0 (nextS σ text i r = { ({ σ1 with note := true } : Sc) with col := σ.col + 1 }) := ⟨by rw [nextS, ← HS1.out, midS, if_pos hn, finS_F HR.out, HC1.out, dec_F HR.out]⟩
        rw [hn] at d8
        clear hn
        go_wp2_with fail
        go_end0
        rw [HNX.out]
        exact ⟨rfl, ⟨_, hB, (by apply blk_as; (case hh1 => with_reducible repeat (first | exact HK.out | apply blk_drewN | apply blk_drew | apply blk_alloc | apply blk_set)); (case hh2 => rfl)), (by with_reducible repeat (first | exact HO.out | refine row_set ?_ HNE.out _ | refine row_alloc ?_ _ | refine row_drew ?_ | refine row_drewN ?_ _)), HL.out⟩, (by with_reducible repeat (first | exact HBB.out | refine bel_set ?_ hB _ | refine below_drew ?_ | refine pw_below_drewN ?_ _ | refine bel_alloc ?_ hw _)), (by with_reducible repeat (first | exact HOT.out | refine oth_set ?_ _ | refine oth_alloc ?_ _ | refine oth_drew ?_ | refine oth_drewN ?_ _))⟩
      | false =>
        rw [hn] at d8
        have HN0 := Aside0.mk hn
        clear hn
        cases hs : σ1.slash with
        | true =>
          rw [hs] at d9
          have HS0 := Aside0.mk hs
          clear hs
          by_cases h47 : r = 47
          · have t47 : (r == 47) = true := beq_iff_eq.mpr h47
            have HNX : Aside0 (nextS σ text i r = { ({ σ1 with note := true, slash := false } : Sc) with col := σ.col + 1 }) := ⟨by rw [nextS, ← HS1.out, midS, if_neg (by rw [HN0.out]; decide), if_pos HS0.out, if_pos h47, finS_F HR.out, HC1.out]⟩
            clear h47
            go_wp2_with fail
            go_end0
            rw [HNX.out]
            exact ⟨rfl, ⟨_, hB, (by apply blk_as; (case hh1 => with_reducible repeat (first | exact HK.out | apply blk_drewN | apply blk_drew | apply blk_alloc | apply blk_set)); (case hh2 => rfl)), (by with_reducible repeat (first | exact HO.out | refine row_set ?_ HNE.out _ | refine row_alloc ?_ _ | refine row_drew ?_ | refine row_drewN ?_ _)), HL.out⟩, (by with_reducible repeat (first | exact HBB.out | refine bel_set ?_ hB _ | refine below_drew ?_ | refine pw_below_drewN ?_ _ | refine bel_alloc ?_ hw _)), (by with_reducible repeat (first | exact HOT.out | refine oth_set ?_ _ | refine oth_alloc ?_ _ | refine oth_drew ?_ | refine oth_drewN ?_ _))⟩
          · have t47 : (r == 47) = false := beq_eq_false_iff_ne.mpr h47
            have HNX : Aside0 (nextS σ text i r = finS (failS σ1 6 σ1.bl σ1.bc) r) := ⟨by rw [nextS, ← HS1.out, midS, if_neg (by rw [HN0.out]; decide), if_pos HS0.out, if_neg h47]⟩
            clear h47
            go_wp2_with fail
            refine (lex_fail.calls B b v1 σ1 6 σ1.bl σ1.bc _ (Nat.le_trans hw HBB.out.size) ⟨hB, HK.out, HO.out, HL.out⟩).mono ?_
            rintro e w3 ⟨rfl, hpost, hb3, ho3⟩
            have HPO := Aside0.mk hpost
            have HB3 := Aside0.mk (HBB.out.trans hb3)
            have HO3 := Aside0.mk (HOT.out.trans ho3)
            clear hpost hb3 ho3 HBB HOT HK HO HNE HL d1 d2 d3 d8 d9 d10 d11 f1 f2 f3 f8 f9 f10 f11
            obtain ⟨v3, hat3⟩ : ∃ v3, ScAt B b v3 (failS σ1 6 σ1.bl σ1.bc) w3 := ⟨_, HPO.out⟩
            obtain ⟨σ2, hσ2⟩ : ∃ σ2, σ2 = failS σ1 6 σ1.bl σ1.bc := ⟨_, rfl⟩
            rw [← hσ2] at hat3 HNX
            have HNE := Aside0.mk hat3.ne
            obtain ⟨_, hbk, hown, hl3⟩ := hat3
            have d1 : w3.cell? ⟨b, 1, none⟩ = some (.int .i64 σ.line) := (blk_cell hbk 1).trans (by rw [hσ2]; exact congrArg (fun z => some (Value.int .i64 z)) ((failS_at σ1 _ _ _).1.trans HL1.out))
            have d2 : w3.cell? ⟨b, 2, none⟩ = some (.int .i64 σ.col) := (blk_cell hbk 2).trans (by rw [hσ2]; exact congrArg (fun z => some (Value.int .i64 z)) ((failS_at σ1 _ _ _).2.trans HC1.out))
            have f1 := blk_frozen hbk 1
            have f2 := blk_frozen hbk 2
            have hs1 : σ2.line = σ.line := by rw [hσ2]; exact (failS_at σ1 _ _ _).1.trans HL1.out
            have hs2 : σ2.col = σ.col := by rw [hσ2]; exact (failS_at σ1 _ _ _).2.trans HC1.out
            rw [finS_F HR.out, hs2] at HNX
            have HK := Aside0.mk hbk
            have HO := Aside0.mk hown
            have HL := Aside0.mk hl3
            have HBB := HB3
            have HOT := HO3
            clear hbk hown hl3 hσ2 hs1 hs2
            go_wp2_with fail
            go_end0
            rw [HNX.out]
            exact ⟨rfl, ⟨_, hB, (by apply blk_as; (case hh1 => with_reducible repeat (first | exact HK.out | apply blk_drewN | apply blk_drew | apply blk_alloc | apply blk_set)); (case hh2 => rfl)), (by with_reducible repeat (first | exact HO.out | refine row_set ?_ HNE.out _ | refine row_alloc ?_ _ | refine row_drew ?_ | refine row_drewN ?_ _)), HL.out⟩, (by with_reducible repeat (first | exact HBB.out | refine bel_set ?_ hB _ | refine below_drew ?_ | refine pw_below_drewN ?_ _ | refine bel_alloc ?_ hw _)), (by with_reducible repeat (first | exact HOT.out | refine oth_set ?_ _ | refine oth_alloc ?_ _ | refine oth_drew ?_ | refine oth_drewN ?_ _))⟩
        | false =>
          rw [hs] at d9
          have HS0 := Aside0.mk hs
          clear hs
          by_cases hf1 : σ1.from_ < 0
          · have tf1 : decide (σ1.from_ < 0) = true := decide_eq_true hf1
            have HNX : Aside0 (nextS σ text i r = finS (runeS σ1 i r) r) := ⟨by rw [nextS, ← HS1.out, midS, if_neg (by rw [HN0.out]; decide), if_neg (by rw [HS0.out]; decide), if_pos hf1]⟩
            clear hf1
            go_wp2_with fail
            refine (lex_rune.calls B b v1 σ1 i r _ (Nat.le_trans hw HBB.out.size) ⟨hB, HK.out, HO.out, HL.out⟩ hr0 hr1).mono ?_
            rintro e w3 ⟨rfl, hpost, hb3, ho3⟩
            have HPO := Aside0.mk hpost
            have HB3 := Aside0.mk (HBB.out.trans hb3)
            have HO3 := Aside0.mk (HOT.out.trans ho3)
            clear hpost hb3 ho3 HBB HOT HK HO HNE HL d1 d2 d3 d8 d9 d10 d11 f1 f2 f3 f8 f9 f10 f11
            obtain ⟨v3, hat3⟩ : ∃ v3, ScAt B b v3 (runeS σ1 i r) w3 := HPO.out
            obtain ⟨σ2, hσ2⟩ : ∃ σ2, σ2 = runeS σ1 i r := ⟨_, rfl⟩
            rw [← hσ2] at hat3 HNX
            have HNE := Aside0.mk hat3.ne
            obtain ⟨_, hbk, hown, hl3⟩ := hat3
            have d1 : w3.cell? ⟨b, 1, none⟩ = some (.int .i64 σ.line) := (blk_cell hbk 1).trans (by rw [hσ2]; exact congrArg (fun z => some (Value.int .i64 z)) ((runeS_at σ1 _ _).1.trans HL1.out))
            have d2 : w3.cell? ⟨b, 2, none⟩ = some (.int .i64 σ.col) := (blk_cell hbk 2).trans (by rw [hσ2]; exact congrArg (fun z => some (Value.int .i64 z)) ((runeS_at σ1 _ _).2.trans HC1.out))
            have f1 := blk_frozen hbk 1
            have f2 := blk_frozen hbk 2
            have hs1 : σ2.line = σ.line := by rw [hσ2]; exact (runeS_at σ1 _ _).1.trans HL1.out
            have hs2 : σ2.col = σ.col := by rw [hσ2]; exact (runeS_at σ1 _ _).2.trans HC1.out
            rw [finS_F HR.out, hs2] at HNX
            have HK := Aside0.mk hbk
            have HO := Aside0.mk hown
            have HL := Aside0.mk hl3
            have HBB := HB3
            have HOT := HO3
            clear hbk hown hl3 hσ2 hs1 hs2
            go_wp2_with fail
            go_end0
            rw [HNX.out]
            exact ⟨rfl, ⟨_, hB, (by apply blk_as; (case hh1 => with_reducible repeat (first | exact HK.out | apply blk_drewN | apply blk_drew | apply blk_alloc | apply blk_set)); (case hh2 => rfl)), (by with_reducible repeat (first | exact HO.out | refine row_set ?_ HNE.out _ | refine row_alloc ?_ _ | refine row_drew ?_ | refine row_drewN ?_ _)), HL.out⟩, (by with_reducible repeat (first | exact HBB.out | refine bel_set ?_ hB _ | refine below_drew ?_ | refine pw_below_drewN ?_ _ | refine bel_alloc ?_ hw _)), (by with_reducible repeat (first | exact HOT.out | refine oth_set ?_ _ | refine oth_alloc ?_ _ | refine oth_drew ?_ | refine oth_drewN ?_ _))⟩
          · have tf1 : decide (σ1.from_ < 0) = false := decide_eq_false hf1
            have HNX : Aside0 (nextS σ text i r = { σ1 with col := σ.col + 1 }) := ⟨by rw [nextS, ← HS1.out, midS, if_neg (by rw [HN0.out]; decide), if_neg (by rw [HS0.out]; decide), if_neg hf1, finS_F HR.out, HC1.out]⟩
            clear hf1
            go_wp2_with fail
            go_end0
            rw [HNX.out]
            exact ⟨rfl, ⟨_, hB, (by apply blk_as; (case hh1 => with_reducible repeat (first | exact HK.out | apply blk_drewN | apply blk_drew | apply blk_alloc | apply blk_set)); (case hh2 => rfl)), (by with_reducible repeat (first | exact HO.out | refine row_set ?_ HNE.out _ | refine row_alloc ?_ _ | refine row_drew ?_ | refine row_drewN ?_ _)), HL.out⟩, (by with_reducible repeat (first | exact HBB.out | refine bel_set ?_ hB _ | refine below_drew ?_ | refine pw_below_drewN ?_ _ | refine bel_alloc ?_ hw _)), (by with_reducible repeat (first | exact HOT.out | refine oth_set ?_ _ | refine oth_alloc ?_ _ | refine oth_drew ?_ | refine oth_drewN ?_ _))⟩
end Go.Proofs.YtknbhbppofphpaaGreatDoor.X

/-! lex.Words: what it answers of any text. -/
set_option linter.unusedVariables false
set_option linter.unusedSimpArgs false
namespace Go.Proofs.YtknbhbppofphpaaGreatDoor.X
open Go.RowKit Go.Shelf Go.Proofs.YtknbhbppofphpaaGreatDoorW.PrintWords Go.Proofs.YtknbhbppofphpaaGreatDoorW.PrintLast Go.Proofs.YtknbhbppofphpaaGreatDoorW.PrintMore
def lxRune (s : ByteArray) (pos : Nat) : Int := if (Utf8.decode s pos).1 = 65533 ∧ (s.extract pos s.size).data.toList.take 3 ≠ [239, 191, 189] then -1 else ((Utf8.decode s pos).1 : Int)
def lxInit : Sc := ⟨[], 1, 1, -1, ⟨0, emptyB, 0, 0⟩, false, false, 0, 0, 0, 0, 0⟩
def scan (s : ByteArray) : Nat → Nat → Sc → Sc
  | 0, _, σ => σ
  | f + 1, pos, σ => if pos < s.size then (if (nextS σ s pos (lxRune s pos)).end_ = 0 then scan s f (pos + (Utf8.decode s pos).2) (nextS σ s pos (lxRune s pos)) else nextS σ s pos (lxRune s pos)) else σ
/-- Behind the last rune. -/
def lastS (σ : Sc) : Sc := if σ.slash = true then failS σ 6 σ.bl σ.bc else σ
def outS (σ : Sc) : List Wd × Int × Int × Int := if σ.end_ = 0 then (σ.words, 0, 0, 0) else ([], σ.pl, σ.pc, σ.end_)
def wordsP (s : ByteArray) : List Wd × Int × Int × Int :=
  if 20000 < s.size then ([], 1, 1, 4)
  else if (scan s s.size 0 lxInit).end_ = 0 then outS (lastS (shutS (scan s s.size 0 lxInit) s s.size)) else outS (scan s s.size 0 lxInit)
def WordsPost (r : List Wd × Int × Int × Int) (w : World) (e : Ending) (w' : World) : Prop :=
  ∃ v, e = .returned (.tuple #[v, .agg #[.int .i64 r.2.1, .int .i64 r.2.2.1], .int .i64 r.2.2.2]) ∧ w'.ownsRow w.heap.size 90 4 v r.1.length (rowCells r.1) ∧ r.1.length ≤ 4000 ∧ Below w.heap.size w w'
theorem succ_ne2 (n : Nat) : n + 1 + 1 ≠ n + 1 := by omega
theorem some_ne1 (n : Nat) : some n ≠ some (n + 1) := by intro e; injection e with e; omega
theorem next_bounds {f l c l0 c0 : Int} {pos pos2 : Nat} (h : f ≤ (pos : Int) ∧ 0 ≤ l ∧ l ≤ l0 + 1 ∧ 0 ≤ c ∧ c ≤ c0 + 1) {f0 : Int} (h0 : f0 ≤ (pos : Int) ∧ 0 ≤ l0 ∧ l0 ≤ pos + 1 ∧ 0 ≤ c0 ∧ c0 ≤ pos + 1) (hp : pos < pos2) : f ≤ (pos2 : Int) ∧ 0 ≤ l ∧ l ≤ pos2 + 1 ∧ 0 ≤ c ∧ c ≤ pos2 + 1 := by omega
theorem iter_sc {B b k pos : Nat} {v : Value} {σ : Sc} {w : World} {s : ByteArray} (h : ScAt B b v σ w) (hk : w.heap[k]? = some (.stringIter s pos)) (hkb : k ≠ b) : ∀ p, ScAt B b v σ (w.iterAt k s p) := by
  intro p
  refine ⟨h.1, (Lib.iterAt_other w k b s p (fun e => hkb e.symm)).trans h.2.1, ⟨h.2.2.1.1, ?_⟩, h.2.2.2⟩
  rcases h.2.2.1.2 with hn | ⟨g, cap, cur, hv, hg, hh, r⟩
  · exact .inl hn
  · refine .inr ⟨g, cap, cur, hv, hg, (Lib.iterAt_other w k g s p ?_).trans hh, r⟩
    intro e
    rw [e, hk] at hh
    cases hh
theorem failS_from (σ : Sc) (e l c : Int) : (failS σ e l c).from_ = σ.from_ := by unfold failS; split <;> rfl
theorem addS_from (σ : Sc) (x : Wd) : (addS σ x).from_ = σ.from_ := by
  unfold addS
  split
  · exact failS_from _ _ _ _
  · rfl
theorem shutS_from (σ : Sc) (s : ByteArray) (i : Int) (h : -1 ≤ i) (hf : σ.from_ ≤ i) : (shutS σ s i).from_ ≤ i := by
  unfold shutS
  split
  · exact hf
  · simp only
    split
    · rw [addS_from]; exact h
    · rw [failS_from]; exact h
theorem runeS_from (σ : Sc) (i r : Int) (hf : σ.from_ ≤ i) : (runeS σ i r).from_ ≤ i := by
  unfold runeS
  repeat' split
  all_goals first | exact hf | exact Int.le_refl _ | (rw [addS_from]; exact hf) | (rw [failS_from]; exact hf)
theorem midS_at (σ : Sc) (i r : Int) : (midS σ i r).line = σ.line ∧ (midS σ i r).col = σ.col := by
  unfold midS
  repeat' split
  all_goals first | exact ⟨rfl, rfl⟩ | exact failS_at _ _ _ _ | exact runeS_at _ _ _
theorem midS_from (σ : Sc) (i r : Int) (hf : σ.from_ ≤ i) : (midS σ i r).from_ ≤ i := by
  unfold midS
  repeat' split
  all_goals first | exact hf | (rw [failS_from]; exact hf) | exact runeS_from _ _ _ hf
theorem preS_at (σ : Sc) (s : ByteArray) (i r : Int) : (preS σ s i r).line = σ.line ∧ (preS σ s i r).col = σ.col := by
  unfold preS
  split
  · exact shutS_at _ _ _
  · exact ⟨rfl, rfl⟩
theorem nextS_facts (σ : Sc) (s : ByteArray) (i r : Int) (h0 : 0 ≤ i) (hf : σ.from_ ≤ i) (hl : 0 ≤ σ.line) (hc : 0 ≤ σ.col) : (nextS σ s i r).from_ ≤ i ∧ 0 ≤ (nextS σ s i r).line ∧ (nextS σ s i r).line ≤ σ.line + 1 ∧ 0 ≤ (nextS σ s i r).col ∧ (nextS σ s i r).col ≤ σ.col + 1 := by
  have h1 : (preS σ s i r).from_ ≤ i := by
    unfold preS
    split
    · exact shutS_from σ s i (by omega) hf
    · exact hf
  have h2 := midS_from (preS σ s i r) i r h1
  have h3 := midS_at (preS σ s i r) i r
  have h4 := preS_at σ s i r
  rw [h4.1, h4.2] at h3
  unfold nextS finS
  split
  · simp only; omega
  · simp only; omega
theorem prefix3 (t : ByteArray) : ([239, 191, 189] : List UInt8).isPrefixOf t.data.toList = decide (t.data.toList.take 3 = [239, 191, 189]) := by
  generalize t.data.toList = l
  match l with
  | [] => rfl
  | [a] => simp [List.isPrefixOf]
  | [a, b] => simp [List.isPrefixOf]
  | a :: b :: c :: l =>
    rw [Bool.eq_iff_iff]
    simp [List.isPrefixOf]
    constructor
    · rintro ⟨rfl, rfl, rfl⟩; exact ⟨rfl, rfl, rfl⟩
    · rintro ⟨rfl, rfl, rfl⟩; exact ⟨rfl, rfl, rfl⟩
set_option maxHeartbeats 4000000 in
set_option maxRecDepth 100000 in
theorem lex_Words.calls (s : ByteArray) (w : World) (hT : LexTabs w) :
    Calls Tryz.prog 17 #[.string s] w (WordsPost (wordsP s) w) := by
  have HT := Aside0.mk hT
  clear hT
  have HW0 : Aside0 (wordsP s = if 20000 < s.size then ([], 1, 1, 4) else if (scan s s.size 0 lxInit).end_ = 0 then outS (lastS (shutS (scan s s.size 0 lxInit) s s.size)) else outS (scan s s.size 0 lxInit)) := ⟨rfl⟩
  by_cases h20 : 20000 < s.size
  · have t0 : decide (20000 < (s.size : Int)) = true := decide_eq_true (by omega)
    have t0n : decide (20000 < s.size) = true := decide_eq_true h20
    rw [if_pos h20] at HW0
    clear h20
    go_enter Tryz.func17, Tryz.ntmps17
    go_wp2_with fail
    refine bodyPost_ret (v := .tuple #[.slice none 0 0, .agg #[.int .i64 1, .int .i64 1], .int .i64 4]) (by simp [results, Tryz.results17, go_sem]) rfl ?_
    rw [HW0.out]
    exact ⟨.slice none 0 0, rfl, own_nil _ _ _ _, by simp, by repeat (first | exact Below.refl _ _ | refine bel_set ?_ (Nat.le_refl _) _ | refine below_alloc ?_ _)⟩
  · have t0 : decide (20000 < (s.size : Int)) = false := decide_eq_false (by omega)
    have t0n : decide (20000 < s.size) = false := decide_eq_false h20
    rw [if_neg h20] at HW0
    have hs : s.size ≤ 70368744177664 := by omega
    go_enter Tryz.func17, Tryz.ntmps17
    go_wp2_with fail
    have hat0 : ScAt w.heap.size (w.heap.size + 1) (.slice none 0 0) lxInit (w.alloc (.cells #[.int .i64 0, .int .i64 0] 34) |>.alloc (.cells (scCells (.slice none 0 0) lxInit) 92)) := ⟨by omega, (blk_new (w.alloc (.cells #[.int .i64 0, .int .i64 0] 34)) _).trans rfl |> fun h => by simpa using h, own_nil _ _ _ _, by simp [lxInit]⟩
    go_loopw [] (fun wr => ∃ (pos fuel : Nat) (v : Value) (σ : Sc), Aside0 (ScAt w.heap.size (w.heap.size + 1) v σ wr) ∧ Aside0 (wr.heap[w.heap.size + 1 + 1]? = some (.stringIter s pos)) ∧ Aside0 (wr.heap[w.heap.size]? = some (.cells #[.int .i64 0, .int .i64 0] 34 (0, 0))) ∧ Aside0 (Below w.heap.size w wr) ∧ Aside0 (scan s fuel pos σ = scan s s.size 0 lxInit) ∧ s.size ≤ pos + fuel ∧ Aside0 (σ.end_ = 0) ∧ Aside0 (pos ≤ s.size) ∧ Aside0 (σ.from_ ≤ pos ∧ 0 ≤ σ.line ∧ σ.line ≤ pos + 1 ∧ 0 ≤ σ.col ∧ σ.col ≤ pos + 1)) (fun wr => s.size - wr.iterPos (w.heap.size + 1 + 1))
    case atStart =>
      refine ⟨0, s.size, .slice none 0 0, lxInit, ⟨hat0.below (below_alloc (Below.refl _ _) _)⟩, ⟨?_⟩, ⟨?_⟩, ⟨below_alloc (below_alloc (below_alloc (Below.refl _ _) _) _) _⟩, ⟨rfl⟩, by omega, ⟨rfl⟩, ⟨Nat.zero_le _⟩, ⟨by decide⟩⟩
      · have h1 := World.iter_heap ((w.alloc (.cells #[.int .i64 0, .int .i64 0] 34)).alloc (.cells (scCells (.slice none 0 0) lxInit) 92)) s 0
        have h2 : ((w.alloc (.cells #[.int .i64 0, .int .i64 0] 34)).alloc (.cells (scCells (.slice none 0 0) lxInit) 92)).heap.size = w.heap.size + 1 + 1 := by simp
        rw [h2] at h1
        exact h1
      · exact blk_alloc (blk_alloc (blk_new w _) _) _
    case round =>
      clear hat0
      obtain ⟨pos, fuel, v, σ, HAT, HI, HRS, HB, HA, hfu, HE, HPS, HF⟩ := hrel
      have hsz : w.heap.size + 1 + 1 < wr.heap.size := (Array.getElem?_eq_some_iff.1 HI.out).1
      by_cases hp : pos < s.size
      · have hnx : ∀ ty, (Instr.next (.pointer (some ⟨w.heap.size + 1 + 1, 0, none⟩)) true ty).run Tryz.prog wr = _ := fun ty => Lib.run_next_any_at wr (w.heap.size + 1 + 1) s pos ty HI.out hp
        have hwd := width_pos s pos hp
        have hd1 := decode_le s pos
        have hdle := Lib.decodeL_le (s.data.toList.drop pos) (by
          intro e
          have := congrArg List.length e
          simp at this
          have h2 : s.data.size = s.size := rfl
          omega)
        rw [Lib.decodeL_drop, List.length_drop, data_length] at hdle
        have HAT2 : Aside0 (ScAt w.heap.size (w.heap.size + 1) v σ (wr.iterAt (w.heap.size + 1 + 1) s (pos + (Utf8.decode s pos).2))) := ⟨iter_sc HAT.out HI.out (by omega) _⟩
        have HI2 := Aside0.mk (Lib.iterAt_heap wr (w.heap.size + 1 + 1) s pos (pos + (Utf8.decode s pos).2) HI.out)
        have HB2 := Aside0.mk (Lib.below_iterAt HB.out (k := w.heap.size + 1 + 1) (by omega) s (pos + (Utf8.decode s pos).2))
        have HRS2 : Aside0 ((wr.iterAt (w.heap.size + 1 + 1) s (pos + (Utf8.decode s pos).2)).heap[w.heap.size]? = some (.cells #[.int .i64 0, .int .i64 0] 34 (0, 0))) := ⟨(Lib.iterAt_other wr _ _ s _ (by omega)).trans HRS.out⟩
        obtain ⟨f, rfl⟩ : ∃ f, fuel = f + 1 := ⟨fuel - 1, by omega⟩
        have hfu2 : s.size ≤ pos + (Utf8.decode s pos).2 + f := by omega
        have hadv : pos < pos + (Utf8.decode s pos).2 := by omega
        have hp2 : pos + (Utf8.decode s pos).2 ≤ s.size := by omega
        have HM : Aside0 (wr.iterPos (w.heap.size + 1 + 1) = pos) := ⟨by simp only [World.iterPos, HI.out]⟩
        have HSC : Aside0 (scan s (f + 1) pos σ = if (nextS σ s pos (lxRune s pos)).end_ = 0 then scan s f (pos + (Utf8.decode s pos).2) (nextS σ s pos (lxRune s pos)) else nextS σ s pos (lxRune s pos)) := ⟨by rw [scan, if_pos hp]⟩
        have HLX : Aside0 (lxRune s pos = if (Utf8.decode s pos).1 = 65533 ∧ (s.extract pos s.size).data.toList.take 3 ≠ [239, 191, 189] then -1 else ((Utf8.decode s pos).1 : Int)) := ⟨rfl⟩
        generalize (Utf8.decode s pos).1 = x at *
        generalize pos + (Utf8.decode s pos).2 = pos2 at *
        have hx31 : x ≤ 2147483647 := hd1
        have hF := HF.out
        have HQ : Aside0 ((pos : Int) ≤ s.size ∧ σ.from_ ≤ pos ∧ -2147483648 ≤ (x : Int) ∧ (x : Int) ≤ 2147483647 ∧ 0 ≤ σ.line ∧ σ.line ≤ 1000000000 ∧ 0 ≤ σ.col ∧ σ.col ≤ 1000000000) := ⟨by omega⟩
        have HMS : Aside0 (s.size - pos2 < s.size - pos) := ⟨by omega⟩
        have HHF := Aside0.mk hF
        have HADV := Aside0.mk hadv
        have hps : pos ≤ s.size := by omega
        clear HI HRS HB HAT hdle hwd hd1 HF hF hadv hx31
        by_cases h65 : x = 65533
        · have t65 : ((x : Int) == 65533) = true := beq_iff_eq.mpr (by omega)
          have hpf := prefix3 (s.extract pos s.size)
          obtain ⟨p3, hp3⟩ : ∃ p3, decide ((s.extract pos s.size).data.toList.take 3 = [239, 191, 189]) = p3 := ⟨_, rfl⟩
          rw [hp3] at hpf
          have HPF : Aside0 (Lib.hasPrefix (s.extract pos s.size).data.toList ({ data := #[239, 191, 189] } : ByteArray).data.toList = p3) := ⟨hpf⟩
          cases p3 with
          | true =>
            have HLR : Aside0 (lxRune s pos = (x : Int)) := ⟨by rw [HLX.out, if_neg (fun h => h.2 (of_decide_eq_true hp3))]⟩
            clear hpf hp3 h65
            go_wp2_with fail
            refine (Tryz.strings_HasPrefix _ _ _).mono ?_
            rintro e w' ⟨rfl, rfl⟩
            rw [HPF.out]
            go_wp2_with fail
            refine (lex_next.calls w HT.out (w.heap.size + 1) v σ s pos ((x : Int)) _ HB2.out HAT2.out HQ.out.1 HQ.out.2.1 hs HQ.out.2.2.1 HQ.out.2.2.2.1 HQ.out.2.2.2.2.1 HQ.out.2.2.2.2.2.1 HQ.out.2.2.2.2.2.2.1 HQ.out.2.2.2.2.2.2.2).mono ?_
            rintro e w3 ⟨rfl, ⟨v3, hat3⟩, hb3, ho3⟩
            have hnf := nextS_facts σ s pos ((x : Int)) (Int.natCast_nonneg _) HQ.out.2.1 HQ.out.2.2.2.2.1 HQ.out.2.2.2.2.2.2.1
            have HB3 := Aside0.mk (HB2.out.trans hb3)
            have HI3 := Aside0.mk (ho3.iter HI2.out (succ_ne2 _))
            have hrs := ho3 w.heap.size _ HRS2.out (some_ne1 _) (by intro c fz e; injection e with _ e2; exact absurd e2 (by decide))
            rw [HLR.out] at HSC
            obtain ⟨σ3, hσ3⟩ : ∃ σ3, σ3 = nextS σ s pos ((x : Int)) := ⟨_, rfl⟩
            rw [← hσ3] at hat3 hnf HSC
            have HNF := Aside0.mk hnf
            have HRS3 := Aside0.mk hrs
            have HAT3 := Aside0.mk hat3
            obtain ⟨_, hbk, hown, hl4⟩ := hat3
            have d12 : w3.cell? ⟨w.heap.size + 1, 12, none⟩ = some (.int .i64 σ3.end_) := blk_cell hbk 12
            have d13 : w3.cell? ⟨w.heap.size + 1, 13, none⟩ = some (.int .i64 σ3.pl) := blk_cell hbk 13
            have d14 : w3.cell? ⟨w.heap.size + 1, 14, none⟩ = some (.int .i64 σ3.pc) := blk_cell hbk 14
            have r0 : w3.cell? ⟨w.heap.size, 0, none⟩ = some (.int .i64 0) := blk_cell hrs 0
            have r1 : w3.cell? ⟨w.heap.size, 1, none⟩ = some (.int .i64 0) := blk_cell hrs 1
            have rf0 := blk_frozen hrs 0
            have rf1 := blk_frozen hrs 1
            clear hσ3 hnf hrs hbk hown hl4 hb3 ho3 HB2 HI2 HRS2 HAT2
            by_cases he : σ3.end_ = 0
            · have te : (σ3.end_ != 0) = false := bne_eq_false_iff_eq.mpr he
              rw [if_pos he] at HSC
              have HE3 := Aside0.mk he
              clear he
              go_wp2_with fail
              go_roundw
              case rel => exact ⟨pos2, f, v3, σ3, HAT3, HI3, HRS3, HB3, ⟨HSC.out.symm.trans HA.out⟩, hfu2, HE3, ⟨hp2⟩, ⟨next_bounds HNF.out HHF.out HADV.out⟩⟩
              case measure =>
                have h1 : World.iterPos w3 (w.heap.size + 1 + 1) = pos2 := by simp only [World.iterPos, HI3.out]
                rw [h1, HM.out]
                exact HMS.out
            · have te : (σ3.end_ != 0) = true := bne_iff_ne.mpr he
              rw [if_neg he] at HSC
              have HW1 : Aside0 (wordsP s = ([], σ3.pl, σ3.pc, σ3.end_)) := ⟨by rw [HW0.out, ← HA.out, HSC.out, if_neg he, outS, if_neg he]⟩
              clear he
              go_wp2_with fail
              go_region
              go_wp2_with fail
              refine bodyPost_ret (v := .tuple #[.slice none 0 0, .agg #[.int .i64 σ3.pl, .int .i64 σ3.pc], .int .i64 σ3.end_]) (by simp [results, Tryz.results17, go_sem, r0, r1, rf0, rf1]) rfl ?_
              rw [HW1.out]
              exact ⟨.slice none 0 0, rfl, own_nil _ _ _ _, by simp, by repeat (first | exact HB3.out | refine below_drew ?_ | refine bel_set ?_ (Nat.le_refl _) _ | refine below_alloc ?_ _)⟩
          | false =>
            have HLR : Aside0 (lxRune s pos = -1) := ⟨by rw [HLX.out, if_pos ⟨h65, of_decide_eq_false hp3⟩]⟩
            clear hpf hp3 h65
            go_wp2_with fail
            refine (Tryz.strings_HasPrefix _ _ _).mono ?_
            rintro e w' ⟨rfl, rfl⟩
            rw [HPF.out]
            go_wp2_with fail
            refine (lex_next.calls w HT.out (w.heap.size + 1) v σ s pos (-1) _ HB2.out HAT2.out HQ.out.1 HQ.out.2.1 hs (by decide) (by decide) HQ.out.2.2.2.2.1 HQ.out.2.2.2.2.2.1 HQ.out.2.2.2.2.2.2.1 HQ.out.2.2.2.2.2.2.2).mono ?_
            rintro e w3 ⟨rfl, ⟨v3, hat3⟩, hb3, ho3⟩
            have hnf := nextS_facts σ s pos (-1) (Int.natCast_nonneg _) HQ.out.2.1 HQ.out.2.2.2.2.1 HQ.out.2.2.2.2.2.2.1
            have HB3 := Aside0.mk (HB2.out.trans hb3)
            have HI3 := Aside0.mk (ho3.iter HI2.out (succ_ne2 _))
            have hrs := ho3 w.heap.size _ HRS2.out (some_ne1 _) (by intro c fz e; injection e with _ e2; exact absurd e2 (by decide))
            rw [HLR.out] at HSC
            obtain ⟨σ3, hσ3⟩ : ∃ σ3, σ3 = nextS σ s pos (-1) := ⟨_, rfl⟩
            rw [← hσ3] at hat3 hnf HSC
            have HNF := Aside0.mk hnf
            have HRS3 := Aside0.mk hrs
            have HAT3 := Aside0.mk hat3
            obtain ⟨_, hbk, hown, hl4⟩ := hat3
            have d12 : w3.cell? ⟨w.heap.size + 1, 12, none⟩ = some (.int .i64 σ3.end_) := blk_cell hbk 12
            have d13 : w3.cell? ⟨w.heap.size + 1, 13, none⟩ = some (.int .i64 σ3.pl) := blk_cell hbk 13
            have d14 : w3.cell? ⟨w.heap.size + 1, 14, none⟩ = some (.int .i64 σ3.pc) := blk_cell hbk 14
            have r0 : w3.cell? ⟨w.heap.size, 0, none⟩ = some (.int .i64 0) := blk_cell hrs 0
            have r1 : w3.cell? ⟨w.heap.size, 1, none⟩ = some (.int .i64 0) := blk_cell hrs 1
            have rf0 := blk_frozen hrs 0
            have rf1 := blk_frozen hrs 1
            clear hσ3 hnf hrs hbk hown hl4 hb3 ho3 HB2 HI2 HRS2 HAT2
            by_cases he : σ3.end_ = 0
            · have te : (σ3.end_ != 0) = false := bne_eq_false_iff_eq.mpr he
              rw [if_pos he] at HSC
              have HE3 := Aside0.mk he
              clear he
              go_wp2_with fail
              go_roundw
              case rel => exact ⟨pos2, f, v3, σ3, HAT3, HI3, HRS3, HB3, ⟨HSC.out.symm.trans HA.out⟩, hfu2, HE3, ⟨hp2⟩, ⟨next_bounds HNF.out HHF.out HADV.out⟩⟩
              case measure =>
                have h1 : World.iterPos w3 (w.heap.size + 1 + 1) = pos2 := by simp only [World.iterPos, HI3.out]
                rw [h1, HM.out]
                exact HMS.out
            · have te : (σ3.end_ != 0) = true := bne_iff_ne.mpr he
              rw [if_neg he] at HSC
              have HW1 : Aside0 (wordsP s = ([], σ3.pl, σ3.pc, σ3.end_)) := ⟨by rw [HW0.out, ← HA.out, HSC.out, if_neg he, outS, if_neg he]⟩
              clear he
              go_wp2_with fail
              go_region
              go_wp2_with fail
              refine bodyPost_ret (v := .tuple #[.slice none 0 0, .agg #[.int .i64 σ3.pl, .int .i64 σ3.pc], .int .i64 σ3.end_]) (by simp [results, Tryz.results17, go_sem, r0, r1, rf0, rf1]) rfl ?_
              rw [HW1.out]
              exact ⟨.slice none 0 0, rfl, own_nil _ _ _ _, by simp, by repeat (first | exact HB3.out | refine below_drew ?_ | refine bel_set ?_ (Nat.le_refl _) _ | refine below_alloc ?_ _)⟩
        · have t65 : ((x : Int) == 65533) = false := beq_eq_false_iff_ne.mpr (by omega)
          have HLR : Aside0 (lxRune s pos = (x : Int)) := ⟨by rw [HLX.out, if_neg (fun h => h65 h.1)]⟩
          go_wp2_with fail
          refine (lex_next.calls w HT.out (w.heap.size + 1) v σ s pos ((x : Int)) _ HB2.out HAT2.out HQ.out.1 HQ.out.2.1 hs HQ.out.2.2.1 HQ.out.2.2.2.1 HQ.out.2.2.2.2.1 HQ.out.2.2.2.2.2.1 HQ.out.2.2.2.2.2.2.1 HQ.out.2.2.2.2.2.2.2).mono ?_
          rintro e w3 ⟨rfl, ⟨v3, hat3⟩, hb3, ho3⟩
          have hnf := nextS_facts σ s pos ((x : Int)) (Int.natCast_nonneg _) HQ.out.2.1 HQ.out.2.2.2.2.1 HQ.out.2.2.2.2.2.2.1
          have HB3 := Aside0.mk (HB2.out.trans hb3)
          have HI3 := Aside0.mk (ho3.iter HI2.out (succ_ne2 _))
          have hrs := ho3 w.heap.size _ HRS2.out (some_ne1 _) (by intro c fz e; injection e with _ e2; exact absurd e2 (by decide))
          rw [HLR.out] at HSC
          obtain ⟨σ3, hσ3⟩ : ∃ σ3, σ3 = nextS σ s pos ((x : Int)) := ⟨_, rfl⟩
          rw [← hσ3] at hat3 hnf HSC
          have HNF := Aside0.mk hnf
          have HRS3 := Aside0.mk hrs
          have HAT3 := Aside0.mk hat3
          obtain ⟨_, hbk, hown, hl4⟩ := hat3
          have d12 : w3.cell? ⟨w.heap.size + 1, 12, none⟩ = some (.int .i64 σ3.end_) := blk_cell hbk 12
          have d13 : w3.cell? ⟨w.heap.size + 1, 13, none⟩ = some (.int .i64 σ3.pl) := blk_cell hbk 13
          have d14 : w3.cell? ⟨w.heap.size + 1, 14, none⟩ = some (.int .i64 σ3.pc) := blk_cell hbk 14
          have r0 : w3.cell? ⟨w.heap.size, 0, none⟩ = some (.int .i64 0) := blk_cell hrs 0
          have r1 : w3.cell? ⟨w.heap.size, 1, none⟩ = some (.int .i64 0) := blk_cell hrs 1
          have rf0 := blk_frozen hrs 0
          have rf1 := blk_frozen hrs 1
          clear hσ3 hnf hrs hbk hown hl4 hb3 ho3 HB2 HI2 HRS2 HAT2
          by_cases he : σ3.end_ = 0
          · have te : (σ3.end_ != 0) = false := bne_eq_false_iff_eq.mpr he
            rw [if_pos he] at HSC
            have HE3 := Aside0.mk he
            clear he
            go_wp2_with fail
            go_roundw
            case rel => exact ⟨pos2, f, v3, σ3, HAT3, HI3, HRS3, HB3, ⟨HSC.out.symm.trans HA.out⟩, hfu2, HE3, ⟨hp2⟩, ⟨next_bounds HNF.out HHF.out HADV.out⟩⟩
            case measure =>
              have h1 : World.iterPos w3 (w.heap.size + 1 + 1) = pos2 := by simp only [World.iterPos, HI3.out]
              rw [h1, HM.out]
              exact HMS.out
          · have te : (σ3.end_ != 0) = true := bne_iff_ne.mpr he
            rw [if_neg he] at HSC
            have HW1 : Aside0 (wordsP s = ([], σ3.pl, σ3.pc, σ3.end_)) := ⟨by rw [HW0.out, ← HA.out, HSC.out, if_neg he, outS, if_neg he]⟩
            clear he
            go_wp2_with fail
            go_region
            go_wp2_with fail
            refine bodyPost_ret (v := .tuple #[.slice none 0 0, .agg #[.int .i64 σ3.pl, .int .i64 σ3.pc], .int .i64 σ3.end_]) (by simp [results, Tryz.results17, go_sem, r0, r1, rf0, rf1]) rfl ?_
            rw [HW1.out]
            exact ⟨.slice none 0 0, rfl, own_nil _ _ _ _, by simp, by repeat (first | exact HB3.out | refine below_drew ?_ | refine bel_set ?_ (Nat.le_refl _) _ | refine below_alloc ?_ _)⟩
      · have hnx : ∀ ty, (Instr.next (.pointer (some ⟨w.heap.size + 1 + 1, 0, none⟩)) true ty).run Tryz.prog wr = _ := fun ty => Lib.run_next_end_at wr (w.heap.size + 1 + 1) s pos ty HI.out hp
        have HSE : Aside0 (scan s s.size 0 lxInit = σ) := ⟨by
          rw [← HA.out]
          cases fuel with
          | zero => rfl
          | succ f => rw [scan, if_neg hp]⟩
        have HW1 : Aside0 (wordsP s = outS (lastS (shutS σ s s.size))) := ⟨by rw [HW0.out, HSE.out, if_pos HE.out]⟩
        have hF := HF.out
        have hps := HPS.out
        go_wp2_with fail
        refine (lex_shut.calls w HT.out (w.heap.size + 1) v σ s s.size wr HB.out HAT.out (by omega) (by omega) hs).mono ?_
        rintro e w1 ⟨rfl, ⟨v1, hat1⟩, hb1, ho1⟩
        have HB1 := Aside0.mk (HB.out.trans hb1)
        have hrs := ho1 w.heap.size _ HRS.out (some_ne1 _) (by intro c fz e; injection e with _ e2; exact absurd e2 (by decide))
        obtain ⟨σ1, hσ1⟩ : ∃ σ1, σ1 = shutS σ s s.size := ⟨_, rfl⟩
        rw [← hσ1] at hat1 HW1
        clear hσ1 hb1 ho1 HAT HI HRS HB HSE HA HE HPS hF hps hnx hp hfu HF
        have hbk := hat1.2.1
        have d9 : w1.cell? ⟨w.heap.size + 1, 9, none⟩ = some (.bool σ1.slash) := blk_cell hbk 9
        have d10 : w1.cell? ⟨w.heap.size + 1, 10, none⟩ = some (.int .i64 σ1.bl) := blk_cell hbk 10
        have d11 : w1.cell? ⟨w.heap.size + 1, 11, none⟩ = some (.int .i64 σ1.bc) := blk_cell hbk 11
        clear hbk
        cases hsl : σ1.slash with
        | true =>
          rw [hsl] at d9
          have HAT1 := Aside0.mk hat1
          have HRS1 := Aside0.mk hrs
          have HW2 : Aside0 (wordsP s = outS (failS σ1 6 σ1.bl σ1.bc)) := ⟨by rw [HW1.out, lastS, if_pos hsl]⟩
          clear hat1 hrs hsl
          go_wp2_with fail
          refine (lex_fail.calls w.heap.size (w.heap.size + 1) v1 σ1 6 σ1.bl σ1.bc w1 HB1.out.size HAT1.out).mono ?_
          rintro e w2 ⟨rfl, hat2, hb2, ho2⟩
          have HB2 := Aside0.mk (HB1.out.trans hb2)
          have hrs := ho2 w.heap.size _ HRS1.out (some_ne1 _) (by intro c fz e; injection e with _ e2; exact absurd e2 (by decide))
          obtain ⟨σ2, hσ2⟩ : ∃ σ2, σ2 = failS σ1 6 σ1.bl σ1.bc := ⟨_, rfl⟩
          rw [← hσ2] at hat2 HW2
          clear hσ2 hb2 ho2 HAT1 HRS1 HB1 HW1 d9 d10 d11
          obtain ⟨_, hbk, hown, hl4⟩ := hat2
          have HNV := Aside0.mk (own_ne hown hrs (by decide))
          have d0 : w2.cell? ⟨w.heap.size + 1, 0, none⟩ = some v1 := blk_cell hbk 0
          have d12 : w2.cell? ⟨w.heap.size + 1, 12, none⟩ = some (.int .i64 σ2.end_) := blk_cell hbk 12
          have d13 : w2.cell? ⟨w.heap.size + 1, 13, none⟩ = some (.int .i64 σ2.pl) := blk_cell hbk 13
          have d14 : w2.cell? ⟨w.heap.size + 1, 14, none⟩ = some (.int .i64 σ2.pc) := blk_cell hbk 14
          have r0 : w2.cell? ⟨w.heap.size, 0, none⟩ = some (.int .i64 0) := blk_cell hrs 0
          have r1 : w2.cell? ⟨w.heap.size, 1, none⟩ = some (.int .i64 0) := blk_cell hrs 1
          have rf0 := blk_frozen hrs 0
          have rf1 := blk_frozen hrs 1
          have HO := Aside0.mk hown
          have HL4 := Aside0.mk hl4
          clear hbk hown hrs hl4
          by_cases he : σ2.end_ = 0
          · have te : (σ2.end_ != 0) = false := bne_eq_false_iff_eq.mpr he
            have HWF : Aside0 (wordsP s = (σ2.words, 0, 0, 0)) := ⟨by rw [HW2.out, outS, if_pos he]⟩
            clear he
            go_wp2_with fail
            refine bodyPost_ret (v := .tuple #[v1, .agg #[.int .i64 0, .int .i64 0], .int .i64 0]) (by simp [results, Tryz.results17, go_sem, r0, r1, rf0, rf1]) rfl ?_
            rw [HWF.out]
            exact ⟨v1, rfl, by with_reducible repeat (first | exact HO.out | refine row_set ?_ HNV.out _ | refine row_alloc ?_ _ | refine row_drew ?_), HL4.out, by repeat (first | exact HB2.out | refine below_drew ?_ | refine bel_set ?_ (Nat.le_refl _) _ | refine below_alloc ?_ _)⟩
          · have te : (σ2.end_ != 0) = true := bne_iff_ne.mpr he
            have HWF : Aside0 (wordsP s = ([], σ2.pl, σ2.pc, σ2.end_)) := ⟨by rw [HW2.out, outS, if_neg he]⟩
            clear he
            go_wp2_with fail
            go_region
            go_wp2_with fail
            refine bodyPost_ret (v := .tuple #[.slice none 0 0, .agg #[.int .i64 σ2.pl, .int .i64 σ2.pc], .int .i64 σ2.end_]) (by simp [results, Tryz.results17, go_sem, r0, r1, rf0, rf1]) rfl ?_
            rw [HWF.out]
            exact ⟨.slice none 0 0, rfl, own_nil _ _ _ _, by simp, by repeat (first | exact HB2.out | refine below_drew ?_ | refine bel_set ?_ (Nat.le_refl _) _ | refine below_alloc ?_ _)⟩
        | false =>
          rw [hsl] at d9
          have HW2 : Aside0 (wordsP s = outS σ1) := ⟨by rw [HW1.out, lastS, if_neg (by rw [hsl]; decide)]⟩
          clear hsl HW1 d10 d11
          obtain ⟨_, hbk, hown, hl4⟩ := hat1
          have HNV := Aside0.mk (own_ne hown hrs (by decide))
          have d0 : w1.cell? ⟨w.heap.size + 1, 0, none⟩ = some v1 := blk_cell hbk 0
          have d12 : w1.cell? ⟨w.heap.size + 1, 12, none⟩ = some (.int .i64 σ1.end_) := blk_cell hbk 12
          have d13 : w1.cell? ⟨w.heap.size + 1, 13, none⟩ = some (.int .i64 σ1.pl) := blk_cell hbk 13
          have d14 : w1.cell? ⟨w.heap.size + 1, 14, none⟩ = some (.int .i64 σ1.pc) := blk_cell hbk 14
          have r0 : w1.cell? ⟨w.heap.size, 0, none⟩ = some (.int .i64 0) := blk_cell hrs 0
          have r1 : w1.cell? ⟨w.heap.size, 1, none⟩ = some (.int .i64 0) := blk_cell hrs 1
          have rf0 := blk_frozen hrs 0
          have rf1 := blk_frozen hrs 1
          have HO := Aside0.mk hown
          have HL4 := Aside0.mk hl4
          clear hbk hown hrs hl4
          by_cases he : σ1.end_ = 0
          · have te : (σ1.end_ != 0) = false := bne_eq_false_iff_eq.mpr he
            have HWF : Aside0 (wordsP s = (σ1.words, 0, 0, 0)) := ⟨by rw [HW2.out, outS, if_pos he]⟩
            clear he
            go_wp2_with fail
            refine bodyPost_ret (v := .tuple #[v1, .agg #[.int .i64 0, .int .i64 0], .int .i64 0]) (by simp [results, Tryz.results17, go_sem, r0, r1, rf0, rf1]) rfl ?_
            rw [HWF.out]
            exact ⟨v1, rfl, by with_reducible repeat (first | exact HO.out | refine row_set ?_ HNV.out _ | refine row_alloc ?_ _ | refine row_drew ?_), HL4.out, by repeat (first | exact HB1.out | refine below_drew ?_ | refine bel_set ?_ (Nat.le_refl _) _ | refine below_alloc ?_ _)⟩
          · have te : (σ1.end_ != 0) = true := bne_iff_ne.mpr he
            have HWF : Aside0 (wordsP s = ([], σ1.pl, σ1.pc, σ1.end_)) := ⟨by rw [HW2.out, outS, if_neg he]⟩
            clear he
            go_wp2_with fail
            go_region
            go_wp2_with fail
            refine bodyPost_ret (v := .tuple #[.slice none 0 0, .agg #[.int .i64 σ1.pl, .int .i64 σ1.pc], .int .i64 σ1.end_]) (by simp [results, Tryz.results17, go_sem, r0, r1, rf0, rf1]) rfl ?_
            rw [HWF.out]
            exact ⟨.slice none 0 0, rfl, own_nil _ _ _ _, by simp, by repeat (first | exact HB1.out | refine below_drew ?_ | refine bel_set ?_ (Nat.le_refl _) _ | refine below_alloc ?_ _)⟩
end Go.Proofs.YtknbhbppofphpaaGreatDoor.X

/-! Behind a line feed all words are the same, one line further down: the plain law. -/
set_option linter.unusedVariables false
set_option linter.unusedSimpArgs false
namespace Go.Proofs.YtknbhbppofphpaaGreatDoor.X
open Go.RowKit Go.Shelf Go.Proofs.YtknbhbppofphpaaGreatDoorW.PrintWords Go.Proofs.YtknbhbppofphpaaGreatDoorW.PrintLast Go.Proofs.YtknbhbppofphpaaGreatDoorW.PrintMore
def upW (x : Wd) : Wd := { x with line := x.line + 1 }
structure Up (σ τ : Sc) : Prop where
  words : τ.words = σ.words.map upW
  line : τ.line = σ.line + 1
  col : τ.col = σ.col
  note : τ.note = σ.note
  slash : τ.slash = σ.slash
  fr : (σ.from_ < 0 ∧ τ.from_ < 0) ∨ (0 ≤ σ.from_ ∧ τ.from_ = σ.from_ + 1 ∧ τ.ok = upW σ.ok)
  bl : σ.slash = true → τ.bl = σ.bl + 1 ∧ τ.bc = σ.bc
  en : τ.end_ = σ.end_
  pl : σ.end_ ≠ 0 → τ.pl = σ.pl + 1 ∧ τ.pc = σ.pc
theorem shutS_eq {σ : Sc} (h : 0 ≤ σ.from_) (s : ByteArray) (i : Int) (o : Wd) (ho : { σ.ok with text := s.extract σ.from_.toNat i.toNat } = o) :
    shutS σ s i = if rightV o = true then addS { σ with ok := o, from_ := -1 } o else failS { σ with ok := o, from_ := -1 } 6 o.line o.col := by
  subst ho
  unfold shutS
  rw [if_neg (show ¬ σ.from_ < 0 by omega)]
/-- Every line that the scanner keeps lies at or above the one it stands in. -/
structure Bd (σ : Sc) : Prop where
  line : 0 ≤ σ.line
  words : ∀ x ∈ σ.words, 0 ≤ x.line ∧ x.line ≤ σ.line
  ok : 0 ≤ σ.ok.line ∧ σ.ok.line ≤ σ.line
  bl : 0 ≤ σ.bl ∧ σ.bl ≤ σ.line
  pl : 0 ≤ σ.pl ∧ σ.pl ≤ σ.line
end Go.Proofs.YtknbhbppofphpaaGreatDoor.X

/-! A text's head that ends in a plain byte is scanned by itself; a text behind any head is scanned as if it stood alone. -/
set_option linter.unusedVariables false
set_option linter.unusedSimpArgs false
namespace Go.Proofs.YtknbhbppofphpaaGreatDoor.X
open Go.RowKit Go.Shelf Go.Proofs.YtknbhbppofphpaaGreatDoorW.PrintWords Go.Proofs.YtknbhbppofphpaaGreatDoorW.PrintLast Go.Proofs.YtknbhbppofphpaaGreatDoorW.PrintMore
/-! ### behind a head -/
theorem get_hd (X s : ByteArray) (i : Nat) : (X ++ s).get! (i + X.size) = s.get! i := by
  have e : (X ++ s).data = X.data ++ s.data := ByteArray.data_append
  have ez : X.data.size = X.size := rfl
  show (X ++ s).data[i + X.size]! = s.data[i]!
  rw [e]
  simp only [getElem!_def]
  rw [Array.getElem?_append_right (by omega), ez, Nat.add_sub_cancel]
theorem decode_hd (X s : ByteArray) (pos : Nat) : Utf8.decode (X ++ s) (pos + X.size) = Utf8.decode s pos := by
  have e : ∀ k, pos + X.size + k = pos + k + X.size := fun k => by omega
  rw [Lib.decode_at, Lib.decode_at, e 1, e 2, e 3, get_hd, get_hd, get_hd, get_hd, ByteArray.size_append]
  congr 1
  omega
theorem extract_hd (X s : ByteArray) (i j : Nat) : (X ++ s).extract (i + X.size) (j + X.size) = s.extract i j := by
  have := @ByteArray.extract_append_size_add X s i j
  rw [Nat.add_comm X.size i, Nat.add_comm X.size j] at this
  exact this
/-! ### ahead of a tail -/
/-- The last byte of the head is plain. -/
def EndsPlain (X : ByteArray) : Prop := 0 < X.size ∧ (X.get! (X.size - 1)).toNat < 128
theorem width_in {X : ByteArray} {pos : Nat} (h : pos < X.size) : pos + (Utf8.decode X pos).2 ≤ X.size := by
  have := Lib.decodeN_width_le (X.size - pos) (X.get! pos).toNat (X.get! (pos + 1)).toNat (X.get! (pos + 2)).toNat (X.get! (pos + 3)).toNat (by omega)
  rw [← Lib.decode_at] at this
  omega
/-! ### the fuel -/
theorem scan_fuel (s : ByteArray) : ∀ (f g pos : Nat) (σ : Sc), s.size ≤ pos + f → s.size ≤ pos + g → scan s f pos σ = scan s g pos σ
  | 0, 0, _, _, _, _ => rfl
  | 0, g + 1, pos, σ, hf, _ => by rw [scan, scan, if_neg (by omega)]
  | f + 1, 0, pos, σ, _, hg => by rw [scan, scan, if_neg (by omega)]
  | f + 1, g + 1, pos, σ, hf, hg => by
    have hw := Lib.width_pos s pos
    rw [scan, scan, scan_fuel s f g (pos + (Utf8.decode s pos).2) (nextS σ s pos (lxRune s pos)) (by omega) (by omega)]
/-- The scan from a place to the text's end. -/
def scanC (s : ByteArray) (pos : Nat) (σ : Sc) : Sc := scan s (s.size - pos) pos σ
theorem scanC_end {s : ByteArray} {pos : Nat} (h : s.size ≤ pos) (σ : Sc) : scanC s pos σ = σ := by
  unfold scanC
  rw [show s.size - pos = 0 by omega]
  rfl
theorem scanC_step {s : ByteArray} {pos : Nat} (h : pos < s.size) (σ : Sc) : scanC s pos σ = if (nextS σ s pos (lxRune s pos)).end_ = 0 then scanC s (pos + (Utf8.decode s pos).2) (nextS σ s pos (lxRune s pos)) else nextS σ s pos (lxRune s pos) := by
  have hw := Lib.width_pos s pos
  unfold scanC
  rw [show s.size - pos = (s.size - pos - 1) + 1 by omega, scan, if_pos h, scan_fuel s (s.size - pos - 1) (s.size - (pos + (Utf8.decode s pos).2)) _ _ (by omega) (by omega)]
theorem scan_scanC (s : ByteArray) (σ : Sc) : scan s s.size 0 σ = scanC s 0 σ := rfl
theorem ext_list (s : ByteArray) (pos : Nat) : (s.extract pos s.size).data.toList = s.data.toList.drop pos := by
  have e : s.size = s.data.toList.length := by rw [Array.length_toList]; rfl
  rw [ByteArray.data_extract, Array.toList_extract, List.extract_eq_take_drop, e, ← List.length_drop, List.take_length]
/-! ### the same words behind another head -/
def kt (x : Wd) : Int × ByteArray := (x.kind, x.text)
structure Sh (d : Nat) (σ τ : Sc) : Prop where
  words : τ.words.map kt = σ.words.map kt
  note : τ.note = σ.note
  slash : τ.slash = σ.slash
  fr : (σ.from_ < 0 ∧ τ.from_ < 0) ∨ (0 ≤ σ.from_ ∧ τ.from_ = σ.from_ + d ∧ τ.ok.kind = σ.ok.kind)
  en : τ.end_ = σ.end_
theorem Sh.len {d : Nat} {σ τ : Sc} (h : Sh d σ τ) : τ.words.length = σ.words.length := by
  have := congrArg List.length h.words
  simpa using this
end Go.Proofs.YtknbhbppofphpaaGreatDoor.X

/-! A remark says nothing: the plain law of LexRemarks. -/
set_option linter.unusedVariables false
set_option linter.unusedSimpArgs false
namespace Go.Proofs.YtknbhbppofphpaaGreatDoor.X
open Go.RowKit Go.Shelf Go.Proofs.YtknbhbppofphpaaGreatDoorW.PrintWords Go.Proofs.YtknbhbppofphpaaGreatDoorW.PrintLast Go.Proofs.YtknbhbppofphpaaGreatDoorW.PrintMore
theorem decodeN_ten (n b0 b1 b2 b3 : Nat) (h : (Lib.decodeN n b0 b1 b2 b3).1 = 10) : b0 = 10 := by
  unfold Lib.decodeN at h
  repeat' split at h
  all_goals (dsimp only at h; omega)
theorem decode_plain {X : ByteArray} {pos b : Nat} (hb : (X.get! pos).toNat = b) (hlt : b < 128) : Utf8.decode X pos = (b, 1) := by
  rw [Lib.decode_at, hb]
  unfold Lib.decodeN
  rw [if_pos hlt]
theorem lxRune_plain {X : ByteArray} {pos b : Nat} (hb : (X.get! pos).toNat = b) (hlt : b < 128) : lxRune X pos = (b : Int) := by
  unfold lxRune
  rw [decode_plain hb hlt]
  rw [if_neg (fun h => by have := h.1; dsimp only at this; omega)]
theorem lxRune_ten {X : ByteArray} {pos : Nat} (h : lxRune X pos = 10) : (X.get! pos).toNat = 10 := by
  unfold lxRune at h
  split at h
  · omega
  · have h1 : (Utf8.decode X pos).1 = 10 := by omega
    rw [Lib.decode_at] at h1
    exact decodeN_ten _ _ _ _ _ h1
def Nd (σ : Sc) : Prop := σ.note = false ∧ σ.slash = false ∧ σ.from_ < 0
def EndsTen (X : ByteArray) : Prop := 0 < X.size ∧ (X.get! (X.size - 1)).toNat = 10
theorem EndsTen.plain {X : ByteArray} (h : EndsTen X) : EndsPlain X := ⟨h.1, by rw [h.2]; decide⟩
/-- What is left when the scan has ended. -/
def wordsOf (s : ByteArray) (σ : Sc) : List Wd × Int × Int × Int := if σ.end_ = 0 then outS (lastS (shutS σ s s.size)) else outS σ
theorem wordsP_of {s : ByteArray} (h : s.size ≤ 20000) : wordsP s = wordsOf s (scanC s 0 lxInit) := by
  unfold wordsP wordsOf
  rw [if_neg (by omega), scan_scanC]
def Kt (a b : List Wd × Int × Int × Int) : Prop := b.1.map kt = a.1.map kt ∧ b.2.2.2 = a.2.2.2
theorem Kt.symm {a b : List Wd × Int × Int × Int} (h : Kt a b) : Kt b a := ⟨h.1.symm, h.2.symm⟩
theorem Kt.trans {a b c : List Wd × Int × Int × Int} (h : Kt a b) (h2 : Kt b c) : Kt a c := ⟨h2.1.trans h.1, h2.2.trans h.2⟩
end Go.Proofs.YtknbhbppofphpaaGreatDoor.X

/-! What is written of the words, a blank behind each, has the same words: the plain law of LexAgain. -/
set_option linter.unusedVariables false
set_option linter.unusedSimpArgs false
namespace Go.Proofs.YtknbhbppofphpaaGreatDoor.X
open Go.RowKit Go.Shelf Go.Proofs.YtknbhbppofphpaaGreatDoorW.PrintWords Go.Proofs.YtknbhbppofphpaaGreatDoorW.PrintLast Go.Proofs.YtknbhbppofphpaaGreatDoorW.PrintMore
/-! ### what a word is -/
def GoodW (n : Nat) (x : Wd) : Prop := x.text.size ≤ n + 1 ∧ ((x.kind = 1 ∧ nameV (runesOf x.text) = true) ∨ (x.kind = 2 ∧ numP x.text = true) ∨ (x.kind = 3 ∧ ∃ r : Int, signV r = true ∧ x.text = Utf8.encode r))
structure Gd (n : Nat) (σ : Sc) : Prop where
  words : ∀ x ∈ σ.words, GoodW n x
  kind : 0 ≤ σ.from_ → σ.ok.kind = 1 ∨ σ.ok.kind = 2
  len : σ.words.length ≤ 4000
theorem sign_cases {r : Int} (h : signV r = true) : r = 123 ∨ r = 125 ∨ r = 40 ∨ r = 41 ∨ r = 61 ∨ r = 59 ∨ r = 46 := of_decide_eq_true h
/-! ### a word and a blank -/
theorem inside_ne10 {r : Int} (h : insideZ r = true) : ¬ r = 10 := by
  intro e
  rw [e] at h
  exact absurd h (by decide)
theorem nextS_ins {σ : Sc} (s : ByteArray) (i r : Int) (h : insideZ r = true) (h1 : σ.note = false) (h2 : σ.slash = false) (h3 : 0 ≤ σ.from_) : nextS σ s i r = { σ with col := σ.col + 1 } := by
  unfold nextS preS midS
  rw [if_neg (show ¬ (0 ≤ σ.from_ ∧ insideZ r = false) by rw [h]; simp), if_neg (show ¬ σ.note = true by rw [h1]; decide), if_neg (show ¬ σ.slash = true by rw [h2]; decide), if_neg (by omega), finS_F (inside_ne10 h)]
theorem decDigits_dig : ∀ (u : Nat), ∀ c ∈ Lib.decDigits u, 48 ≤ c.toNat ∧ c.toNat ≤ 57 := by
  intro u
  induction u using Nat.strongRecOn with
  | _ u ih =>
    intro c hc
    rw [Lib.decDigits] at hc
    split at hc
    · rename_i h
      simp at hc
      subst hc
      simp
      omega
    · rename_i h
      rcases List.mem_append.1 hc with hc | hc
      · exact ih (u / 10) (by omega) c hc
      · simp at hc
        subst hc
        have : u % 10 < 10 := Nat.mod_lt _ (by decide)
        simp
        omega
/-! ### all of them -/
end Go.Proofs.YtknbhbppofphpaaGreatDoor.X

/-! The reference's words, plainly; they are the program's. -/
set_option linter.unusedVariables false
set_option linter.unusedSimpArgs false
namespace Go.Proofs.YtknbhbppofphpaaGreatDoor.X
open Go.RowKit Go.Shelf Go.Proofs.YtknbhbppofphpaaGreatDoorW.PrintWords Go.Proofs.YtknbhbppofphpaaGreatDoorW.PrintLast Go.Proofs.YtknbhbppofphpaaGreatDoorW.PrintMore
/-! ### numbers -/
def digL (l : List UInt8) : Bool := l.all fun c => decide (48 ≤ c.toNat ∧ c.toNat ≤ 57)
def valF (a : Nat) (l : List UInt8) : Nat := l.foldl (fun a c => a * 10 + (c.toNat - 48)) a
def numR (l : List UInt8) : Bool := !(decide (10 < l.length)) && (!(decide (l.head? = some 48) && decide (1 < l.length)) && decide (valF 0 l ≤ 2147483647))
theorem digL_iff {l : List UInt8} : digL l = true ↔ ∀ c ∈ l, 48 ≤ c.toNat ∧ c.toNat ≤ 57 := by
  unfold digL
  rw [List.all_eq_true]
  simp only [decide_eq_true_eq]
theorem valF_mono : ∀ (l : List UInt8) (a : Nat), a ≤ valF a l
  | [], a => Nat.le_refl _
  | c :: r, a => by
    have := valF_mono r (a * 10 + (c.toNat - 48))
    show a ≤ valF (a * 10 + (c.toNat - 48)) r
    omega
theorem valF_bd : ∀ (l : List UInt8) (a : Nat), (∀ c ∈ l, 48 ≤ c.toNat ∧ c.toNat ≤ 57) → valF a l < (a + 1) * 10 ^ l.length
  | [], a, _ => by show a < (a + 1) * 1; omega
  | c :: r, a, h => by
    have h1 := valF_bd r (a * 10 + (c.toNat - 48)) (fun x hx => h x (List.mem_cons_of_mem _ hx))
    have h2 := h c (List.mem_cons_self ..)
    show valF (a * 10 + (c.toNat - 48)) r < _
    refine Nat.lt_of_lt_of_le h1 ?_
    rw [List.length_cons, Nat.pow_succ, Nat.mul_comm (10 ^ r.length) 10, ← Nat.mul_assoc]
    exact Nat.mul_le_mul_right _ (by omega)
theorem parseM_ok (M : Nat) (hM : 2147483647 ≤ M) : ∀ (l : List UInt8) (a : Nat), (∀ c ∈ l, 48 ≤ c.toNat ∧ c.toNat ≤ 57) → valF a l ≤ 2147483647 → Lib.parseUintM M a l = .ok (valF a l)
  | [], a, _, _ => rfl
  | c :: r, a, h, hv => by
    have h2 := h c (List.mem_cons_self ..)
    have hm := valF_mono r (a * 10 + (c.toNat - 48))
    have hv2 : valF (a * 10 + (c.toNat - 48)) r ≤ 2147483647 := hv
    unfold Lib.parseUintM
    rw [if_pos h2, if_neg (by omega), if_neg (by omega)]
    exact parseM_ok M hM r _ (fun x hx => h x (List.mem_cons_of_mem _ hx)) hv
theorem parseM_val (M : Nat) : ∀ (l : List UInt8) (a u : Nat), Lib.parseUintM M a l = .ok u → valF a l = u
  | [], a, u, h => by
    unfold Lib.parseUintM at h
    injection h
  | c :: r, a, u, h => by
    unfold Lib.parseUintM at h
    split at h
    · split at h
      · cases h
      · split at h
        · cases h
        · exact parseM_val M r _ u h
    · cases h
theorem ofNat_dig (c : UInt8) (h : 48 ≤ c.toNat ∧ c.toNat ≤ 57) : UInt8.ofNat (48 + (c.toNat - 48)) = c := by
  rw [show 48 + (c.toNat - 48) = c.toNat by omega]
  exact UInt8.ofNat_toNat
theorem decD_small {u : Nat} (h : u < 10) : Lib.decDigits u = [UInt8.ofNat (48 + u)] := Lib.decDigits_one h
theorem decD_big {u : Nat} (h : ¬ u < 10) : Lib.decDigits u = Lib.decDigits (u / 10) ++ [UInt8.ofNat (48 + u % 10)] := by
  rw [Lib.decDigits, dif_neg h]
theorem decD_fold : ∀ (l : List UInt8) (a : Nat), 1 ≤ a → (∀ c ∈ l, 48 ≤ c.toNat ∧ c.toNat ≤ 57) → Lib.decDigits (valF a l) = Lib.decDigits a ++ l
  | [], a, _, _ => by show Lib.decDigits a = _; rw [List.append_nil]
  | c :: r, a, h1, h => by
    have h2 := h c (List.mem_cons_self ..)
    show Lib.decDigits (valF (a * 10 + (c.toNat - 48)) r) = _
    rw [decD_fold r _ (by omega) (fun x hx => h x (List.mem_cons_of_mem _ hx)), decD_big (show ¬ a * 10 + (c.toNat - 48) < 10 by omega), show (a * 10 + (c.toNat - 48)) / 10 = a by omega, show (a * 10 + (c.toNat - 48)) % 10 = c.toNat - 48 by omega, ofNat_dig c h2]
    simp
theorem decD_head : ∀ (u : Nat), 1 ≤ u → ∃ c r, Lib.decDigits u = c :: r ∧ 49 ≤ c.toNat := by
  intro u
  induction u using Nat.strongRecOn with
  | _ u ih =>
    intro h1
    by_cases h : u < 10
    · refine ⟨_, _, decD_small h, ?_⟩
      simp
      omega
    · obtain ⟨c, r, e, hc⟩ := ih (u / 10) (by omega) (by omega)
      refine ⟨c, r ++ [UInt8.ofNat (48 + u % 10)], ?_, hc⟩
      rw [decD_big h, e]
      rfl
theorem nD_le : ∀ (k u : Nat), u < 10 ^ (k + 1) → Lib.nDigits u ≤ k + 1
  | 0, u, h => by
    rw [Lib.nDigits_small (by simpa using h)]
    exact Nat.le_refl _
  | k + 1, u, h => by
    by_cases h1 : u < 10
    · rw [Lib.nDigits_small h1]; omega
    · rw [Lib.nDigits_big h1]
      have := nD_le k (u / 10) (by rw [Nat.pow_succ] at h; omega)
      omega
theorem numP_eq {s : ByteArray} (hs : 0 < s.size) : numP s = (digL s.data.toList && numR s.data.toList) := by
  have hne : s.data.toList ≠ [] := by
    intro e
    have := congrArg List.length e
    rw [Array.length_toList] at this
    have h2 : s.data.size = s.size := rfl
    rw [h2] at this
    simp only [List.length_nil] at this
    omega
  have hM : (2147483647 : Nat) ≤ 2 ^ 64 - 1 := by decide
  have ht : s.toList = s.data.toList := ByteArray.toList_eq ..
  unfold numP
  rw [ht]
  generalize s.data.toList = l at *
  rw [Bool.eq_iff_iff]
  constructor
  · intro h
    split at h
    · rename_i u hu
      unfold Lib.parseUintB at hu
      rw [if_neg hne] at hu
      have hv := parseM_val _ _ _ _ hu
      obtain ⟨hb, hd⟩ := Bool.and_eq_true_iff.1 h
      have hb := of_decide_eq_true hb
      have hd : Lib.decDigits u = l := eq_of_beq hd
      have hdg : ∀ c ∈ l, 48 ≤ c.toNat ∧ c.toNat ≤ 57 := by rw [← hd]; exact decDigits_dig u
      have hlen : l.length ≤ 10 := by
        rw [← hd, Lib.decDigits_length]
        exact nD_le 9 u (Nat.lt_of_le_of_lt hb (by decide))
      refine Bool.and_eq_true_iff.2 ⟨digL_iff.2 hdg, ?_⟩
      unfold numR
      rw [decide_eq_false (show ¬ 10 < l.length by omega), hv, decide_eq_true hb]
      have : (decide (l.head? = some 48) && decide (1 < l.length)) = false := by
        by_cases h0 : u = 0
        · have : l = [48] := by rw [← hd, h0]; exact decD_small (by decide)
          rw [this]
          rfl
        · obtain ⟨c, r, e, hc⟩ := decD_head u (by omega)
          rw [hd] at e
          have hn : ¬ l.head? = some 48 := by
            rw [e]
            intro hh
            injection hh with hh
            rw [hh] at hc
            exact absurd hc (by decide)
          rw [decide_eq_false hn]
          rfl
      rw [this]
      rfl
    · cases h
  · intro h
    obtain ⟨hd, hn⟩ := Bool.and_eq_true_iff.1 h
    have hdg := digL_iff.1 hd
    unfold numR at hn
    obtain ⟨h1, hn⟩ := Bool.and_eq_true_iff.1 hn
    obtain ⟨h2, h3⟩ := Bool.and_eq_true_iff.1 hn
    have h3 := of_decide_eq_true h3
    have hp : Lib.parseUintB 64 l = .ok (valF 0 l) := by
      unfold Lib.parseUintB
      rw [if_neg hne]
      exact parseM_ok _ hM l 0 hdg h3
    rw [hp]
    refine Bool.and_eq_true_iff.2 ⟨decide_eq_true h3, beq_iff_eq.2 ?_⟩
    cases l with
    | nil => exact absurd rfl hne
    | cons c r =>
      have hc := hdg c (List.mem_cons_self ..)
      cases r with
      | nil =>
        show Lib.decDigits (0 * 10 + (c.toNat - 48)) = [c]
        rw [show 0 * 10 + (c.toNat - 48) = c.toNat - 48 by omega, decD_small (by omega), ofNat_dig c hc]
      | cons b q =>
        have hc0 : ¬ c = 48 := by
          intro e
          rw [e] at h2
          simp at h2
        have hc1 : c.toNat ≠ 48 := fun e => hc0 (UInt8.toNat_inj.1 e)
        show Lib.decDigits (valF (0 * 10 + (c.toNat - 48)) (b :: q)) = _
        rw [decD_fold (b :: q) _ (by omega) (fun x hx => hdg x (List.mem_cons_of_mem _ hx)), show 0 * 10 + (c.toNat - 48) = c.toNat - 48 by omega, decD_small (by omega), ofNat_dig c hc]
        rfl
/-! ### the reference -/
/-- Where a run of letters, digits and _ ends, and how many runes it has. -/
def runR (s : ByteArray) : Nat → Nat → Nat × Nat
  | 0, pos => (pos, 0)
  | f + 1, pos => if pos < s.size ∧ insideZ (lxRune s pos) = true then ((runR s f (pos + (Utf8.decode s pos).2)).1, (runR s f (pos + (Utf8.decode s pos).2)).2 + 1) else (pos, 0)
/-- Where a remark ends, and the column there. -/
def remR (s : ByteArray) : Nat → Nat → Int → Nat × Int
  | 0, pos, c => (pos, c)
  | f + 1, pos, c => if pos < s.size ∧ (s.get! pos).toNat ≠ 10 then remR s f (pos + (Utf8.decode s pos).2) (c + 1) else (pos, c)
def rightR (x : Wd) (r : Int) : Bool := if x.kind = 1 then nameV (runesOf x.text) else if x.kind = 2 then digL x.text.data.toList && numR x.text.data.toList else signV r
/-- The word that begins at a place, where it ends, how many runes it has. -/
def wdR (s : ByteArray) (pos : Nat) (l c : Int) : Wd × Nat × Nat :=
  if letterZ (lxRune s pos) = true then (⟨1, s.extract pos (runR s s.size pos).1, l, c⟩, (runR s s.size pos).1, (runR s s.size pos).2)
  else if digitZ (lxRune s pos) = true then (⟨2, s.extract pos (runR s s.size pos).1, l, c⟩, (runR s s.size pos).1, (runR s s.size pos).2)
  else (⟨3, s.extract pos (pos + (Utf8.decode s pos).2), l, c⟩, pos + (Utf8.decode s pos).2, 1)
def refW (s : ByteArray) : Nat → Nat → List Wd → Int → Int → List Wd × Int × Int × Int
  | 0, _, out, _, _ => (out, 0, 0, 0)
  | f + 1, pos, out, l, c =>
    if pos < s.size then
      if lxRune s pos = 10 then refW s f (pos + 1) out (l + 1) 1
      else if lxRune s pos = 32 ∨ lxRune s pos = 9 then refW s f (pos + 1) out l (c + 1)
      else if lxRune s pos = 47 ∧ pos + 1 < s.size ∧ (s.get! (pos + 1)).toNat = 47 then refW s f (remR s s.size pos c).1 out l (remR s s.size pos c).2
      else if rightR (wdR s pos l c).1 (lxRune s pos) = true then
        (if out.length = 4000 then ([], l, c, 4) else refW s f (wdR s pos l c).2.1 (out ++ [(wdR s pos l c).1]) l (c + (wdR s pos l c).2.2))
      else ([], l, c, 6)
    else (out, 0, 0, 0)
def refWords (s : ByteArray) : List Wd × Int × Int × Int := if 20000 < s.size then ([], 1, 1, 4) else refW s s.size 0 [] 1 1
/-! ### bytes and runes -/
theorem lxRune_byte {s : ByteArray} {pos b : Nat} (hb : b < 128) (h : lxRune s pos = (b : Int)) : (s.get! pos).toNat = b := by
  unfold lxRune at h
  split at h
  · omega
  · have h1 : (Utf8.decode s pos).1 = b := by omega
    rw [Lib.decode_at] at h1
    unfold Lib.decodeN at h1
    repeat' split at h1
    all_goals (dsimp only at h1; omega)
theorem lxRune_wid {s : ByteArray} {pos b : Nat} (hb : b < 128) (h : lxRune s pos = (b : Int)) : (Utf8.decode s pos).2 = 1 := by
  rw [decode_plain (lxRune_byte hb h) hb]
theorem runR_le (s : ByteArray) : ∀ (f pos : Nat), pos ≤ s.size → pos ≤ (runR s f pos).1 ∧ (runR s f pos).1 ≤ s.size ∧ (runR s f pos).2 ≤ (runR s f pos).1 - pos
  | 0, pos, h => by unfold runR; exact ⟨Nat.le_refl _, h, by omega⟩
  | f + 1, pos, h => by
    unfold runR
    split
    · rename_i hc
      have hw := Lib.width_pos s pos
      have hi := width_in hc.1
      have := runR_le s f (pos + (Utf8.decode s pos).2) hi
      dsimp only
      omega
    · exact ⟨Nat.le_refl _, h, by omega⟩
theorem runR_go {s : ByteArray} {f pos : Nat} (hf : s.size ≤ pos + f) (hp : pos < s.size) (hi : insideZ (lxRune s pos) = true) : pos < (runR s f pos).1 := by
  cases f with
  | zero => omega
  | succ f =>
    unfold runR
    rw [if_pos ⟨hp, hi⟩]
    have hw := Lib.width_pos s pos
    have := runR_le s f (pos + (Utf8.decode s pos).2) (width_in hp)
    dsimp only
    omega
theorem remR_le (s : ByteArray) : ∀ (f pos : Nat) (c : Int), pos ≤ s.size → pos ≤ (remR s f pos c).1 ∧ (remR s f pos c).1 ≤ s.size ∧ c ≤ (remR s f pos c).2 ∧ (remR s f pos c).2 ≤ c + ((remR s f pos c).1 - pos : Nat)
  | 0, pos, c, h => by unfold remR; exact ⟨Nat.le_refl _, h, Int.le_refl _, by omega⟩
  | f + 1, pos, c, h => by
    unfold remR
    split
    · rename_i hc
      have hw := Lib.width_pos s pos
      have hi := width_in hc.1
      have := remR_le s f (pos + (Utf8.decode s pos).2) (c + 1) hi
      omega
    · exact ⟨Nat.le_refl _, h, Int.le_refl _, by omega⟩
theorem remR_go {s : ByteArray} {f pos : Nat} (hf : s.size ≤ pos + f) (hp : pos < s.size) (hi : (s.get! pos).toNat ≠ 10) (c : Int) : pos < (remR s f pos c).1 := by
  cases f with
  | zero => omega
  | succ f =>
    unfold remR
    rw [if_pos ⟨hp, hi⟩]
    have hw := Lib.width_pos s pos
    have := remR_le s f (pos + (Utf8.decode s pos).2) (c + 1) (width_in hp)
    omega
/-! ### the scanner goes as the reference does -/
/-- A run of inside runes: only the column moves. -/
theorem scan_run (s : ByteArray) : ∀ (f pos : Nat) (σ : Sc), s.size ≤ pos + f → pos ≤ s.size → σ.note = false → σ.slash = false → 0 ≤ σ.from_ → σ.end_ = 0 →
    scanC s pos σ = scanC s (runR s f pos).1 { σ with col := σ.col + (runR s f pos).2 } ∧ ((runR s f pos).1 < s.size → insideZ (lxRune s (runR s f pos).1) = false)
  | 0, pos, σ, hf, hp, _, _, _, _ => by
    unfold runR
    refine ⟨?_, fun h => absurd h (by dsimp only; omega)⟩
    show scanC s pos σ = scanC s pos { σ with col := σ.col + 0 }
    rw [Int.add_zero]
  | f + 1, pos, σ, hf, hp, h1, h2, h3, he => by
    by_cases hc : pos < s.size ∧ insideZ (lxRune s pos) = true
    · have hw := Lib.width_pos s pos
      have hi := width_in hc.1
      have ih := scan_run s f (pos + (Utf8.decode s pos).2) { σ with col := σ.col + 1 } (by omega) hi h1 h2 h3 he
      unfold runR
      rw [if_pos hc]
      dsimp only
      refine ⟨?_, ih.2⟩
      rw [scanC_step hc.1, nextS_ins s pos _ hc.2 h1 h2 h3, if_pos (show ({ σ with col := σ.col + 1 } : Sc).end_ = 0 from he), ih.1]
      dsimp only
      rw [show σ.col + 1 + ((runR s f (pos + (Utf8.decode s pos).2)).2 : Int) = σ.col + (((runR s f (pos + (Utf8.decode s pos).2)).2 + 1 : Nat) : Int) by omega]
    · unfold runR
      rw [if_neg hc]
      refine ⟨?_, fun h => ?_⟩
      · show scanC s pos σ = scanC s pos { σ with col := σ.col + 0 }
        rw [Int.add_zero]
      · have : ¬ insideZ (lxRune s pos) = true := fun e => hc ⟨h, e⟩
        exact Bool.eq_false_iff.2 this
/-- A remark: only the column moves. -/
theorem scan_rem (s : ByteArray) : ∀ (f pos : Nat) (σ : Sc), s.size ≤ pos + f → pos ≤ s.size → σ.note = true → σ.from_ < 0 → σ.end_ = 0 →
    scanC s pos σ = scanC s (remR s f pos σ.col).1 { σ with col := (remR s f pos σ.col).2 } ∧ ((remR s f pos σ.col).1 < s.size → (s.get! (remR s f pos σ.col).1).toNat = 10)
  | 0, pos, σ, hf, hp, _, _, _ => by
    unfold remR
    exact ⟨rfl, fun h => absurd h (by dsimp only; omega)⟩
  | f + 1, pos, σ, hf, hp, h1, h3, he => by
    by_cases hc : pos < s.size ∧ (s.get! pos).toNat ≠ 10
    · have hw := Lib.width_pos s pos
      have hi := width_in hc.1
      have hr : ¬ lxRune s pos = 10 := fun e => hc.2 (lxRune_ten e)
      have hn : nextS σ s pos (lxRune s pos) = { σ with col := σ.col + 1 } := by
        unfold nextS preS midS
        rw [if_neg (show ¬ (0 ≤ σ.from_ ∧ insideZ (lxRune s pos) = false) by omega), if_pos h1, finS_F hr, dec_F hr]
        rw [← h1]
      have ih := scan_rem s f (pos + (Utf8.decode s pos).2) { σ with col := σ.col + 1 } (by omega) hi h1 h3 he
      unfold remR
      rw [if_pos hc]
      refine ⟨?_, ih.2⟩
      rw [scanC_step hc.1, hn, if_pos (show ({ σ with col := σ.col + 1 } : Sc).end_ = 0 from he), ih.1]
    · unfold remR
      rw [if_neg hc]
      refine ⟨rfl, fun h => ?_⟩
      by_cases h10 : (s.get! pos).toNat = 10
      · exact h10
      · exact absurd ⟨h, h10⟩ hc
theorem wordsOf_err {s : ByteArray} {σ : Sc} (h : σ.end_ ≠ 0) : wordsOf s σ = ([], σ.pl, σ.pc, σ.end_) := by
  unfold wordsOf outS
  rw [if_neg h, if_neg h]
theorem lastS_F {σ : Sc} (h : σ.slash = false) : lastS σ = σ := by
  unfold lastS
  rw [if_neg (by rw [h]; decide)]
theorem outS_T {σ : Sc} (h : σ.end_ = 0) : outS σ = (σ.words, 0, 0, 0) := if_pos h
theorem outS_F {σ : Sc} (h : σ.end_ ≠ 0) : outS σ = ([], σ.pl, σ.pc, σ.end_) := if_neg h
theorem outL_F {σ : Sc} (h : σ.slash = false) (he : σ.end_ ≠ 0) : outS (lastS σ) = ([], σ.pl, σ.pc, σ.end_) := by rw [lastS_F h, outS_F he]
theorem outL_T {σ : Sc} (h : σ.slash = false) (he : σ.end_ = 0) : outS (lastS σ) = (σ.words, 0, 0, 0) := by rw [lastS_F h, outS_T he]
theorem wordsOf_ok {s : ByteArray} {σ : Sc} (h : σ.end_ = 0) (h1 : σ.slash = false) (h2 : σ.from_ < 0) : wordsOf s σ = (σ.words, 0, 0, 0) := by
  unfold wordsOf shutS
  rw [if_pos h, if_pos h2, lastS_F h1, outS_T h]
theorem failS_hold {σ : Sc} (h : σ.end_ ≠ 0) (e l c : Int) : failS σ e l c = σ := by
  unfold failS
  rw [if_neg h]
/-- An error stays. -/
theorem midS_hold {σ : Sc} (h : σ.end_ ≠ 0) (i r : Int) : (midS σ i r).end_ = σ.end_ ∧ (midS σ i r).pl = σ.pl ∧ (midS σ i r).pc = σ.pc := by
  unfold midS
  split
  · exact ⟨rfl, rfl, rfl⟩
  split
  · split
    · exact ⟨rfl, rfl, rfl⟩
    · rw [failS_hold h]; exact ⟨rfl, rfl, rfl⟩
  split
  · unfold runeS
    split
    · exact ⟨rfl, rfl, rfl⟩
    split
    · exact ⟨rfl, rfl, rfl⟩
    split
    · exact ⟨rfl, rfl, rfl⟩
    split
    · unfold addS
      split
      · rw [failS_hold h]; exact ⟨rfl, rfl, rfl⟩
      · exact ⟨rfl, rfl, rfl⟩
    split
    · exact ⟨rfl, rfl, rfl⟩
    · rw [failS_hold h]; exact ⟨rfl, rfl, rfl⟩
  · exact ⟨rfl, rfl, rfl⟩
theorem finS_hold (σ : Sc) (r : Int) : (finS σ r).end_ = σ.end_ ∧ (finS σ r).pl = σ.pl ∧ (finS σ r).pc = σ.pc := by
  unfold finS
  split <;> exact ⟨rfl, rfl, rfl⟩
theorem scan_err {s : ByteArray} {σ : Sc} {pos : Nat} (hp : pos < s.size) {e l c : Int} (he : e ≠ 0) (h : (preS σ s pos (lxRune s pos)).end_ = e ∧ (preS σ s pos (lxRune s pos)).pl = l ∧ (preS σ s pos (lxRune s pos)).pc = c) :
    wordsOf s (scanC s pos σ) = ([], l, c, e) := by
  have h1 := midS_hold (σ := preS σ s pos (lxRune s pos)) (by rw [h.1]; exact he) pos (lxRune s pos)
  have h2 := finS_hold (midS (preS σ s pos (lxRune s pos)) pos (lxRune s pos)) (lxRune s pos)
  have h3 : (nextS σ s pos (lxRune s pos)).end_ = e ∧ (nextS σ s pos (lxRune s pos)).pl = l ∧ (nextS σ s pos (lxRune s pos)).pc = c := by
    unfold nextS
    exact ⟨h2.1.trans (h1.1.trans h.1), h2.2.1.trans (h1.2.1.trans h.2.1), h2.2.2.trans (h1.2.2.trans h.2.2)⟩
  rw [scanC_step hp, if_neg (by rw [h3.1]; exact he), wordsOf_err (by rw [h3.1]; exact he), h3.1, h3.2.1, h3.2.2]
theorem scan_err2 {s : ByteArray} {σ : Sc} {pos : Nat} (hp : pos < s.size) {e l c : Int} (he : e ≠ 0) (h : (midS (preS σ s pos (lxRune s pos)) pos (lxRune s pos)).end_ = e ∧ (midS (preS σ s pos (lxRune s pos)) pos (lxRune s pos)).pl = l ∧ (midS (preS σ s pos (lxRune s pos)) pos (lxRune s pos)).pc = c) :
    wordsOf s (scanC s pos σ) = ([], l, c, e) := by
  have h2 := finS_hold (midS (preS σ s pos (lxRune s pos)) pos (lxRune s pos)) (lxRune s pos)
  have h3 : (nextS σ s pos (lxRune s pos)).end_ = e ∧ (nextS σ s pos (lxRune s pos)).pl = l ∧ (nextS σ s pos (lxRune s pos)).pc = c := by
    unfold nextS
    exact ⟨h2.1.trans h.1, h2.2.1.trans h.2.1, h2.2.2.trans h.2.2⟩
  rw [scanC_step hp, if_neg (by rw [h3.1]; exact he), wordsOf_err (by rw [h3.1]; exact he), h3.1, h3.2.1, h3.2.2]
theorem rightV_R {x : Wd} {r : Int} (hk : x.kind = 1 ∨ x.kind = 2) (hz : 0 < x.text.size) : rightV x = rightR x r := by
  unfold rightV rightR
  rcases hk with hk | hk
  · rw [if_pos hk, if_pos hk]
  · rw [if_neg (by omega), if_neg (by omega), if_pos hk, numP_eq hz]
/-- An open word is shut where it ends. -/
theorem scan_word {s : ByteArray} {σ : Sc} {pos p : Nat} {r : Int} (h1 : σ.note = false) (h2 : σ.slash = false) (h3 : σ.from_ = (pos : Int)) (he : σ.end_ = 0) (hk : σ.ok.kind = 1 ∨ σ.ok.kind = 2) (hpp : pos < p) (hp : p ≤ s.size)
    (hin : p < s.size → insideZ (lxRune s p) = false) (o : Wd) (ho : { σ.ok with text := s.extract pos p } = o) :
    wordsOf s (scanC s p σ) = if rightR o r = true then (if σ.words.length = 4000 then ([], o.line, o.col, 4) else wordsOf s (scanC s p { σ with ok := o, from_ := -1, words := σ.words ++ [o] })) else ([], o.line, o.col, 6) := by
  have hoo : { σ.ok with text := s.extract σ.from_.toNat (p : Int).toNat } = o := by rw [h3]; exact ho
  have hz : 0 < o.text.size := by
    rw [← ho]
    show 0 < (s.extract pos p).size
    rw [ByteArray.size_extract]
    omega
  have hkk : o.kind = 1 ∨ o.kind = 2 := by rw [← ho]; exact hk
  have hsh := shutS_eq (show 0 ≤ σ.from_ by omega) s p o hoo
  rw [rightV_R (r := r) hkk hz] at hsh
  by_cases hlt : p < s.size
  · have hpre : preS σ s p (lxRune s p) = shutS σ s p := by
      unfold preS
      rw [if_pos ⟨by omega, hin hlt⟩]
    by_cases hr : rightR o r = true
    · rw [if_pos hr] at hsh ⊢
      by_cases hl : σ.words.length = 4000
      · rw [if_pos hl]
        refine scan_err hlt (by decide) ?_
        rw [hpre, hsh]
        unfold addS failS
        rw [if_pos hl, if_pos (show ({ σ with ok := o, from_ := -1 } : Sc).end_ = 0 from he)]
        exact ⟨rfl, rfl, rfl⟩
      · rw [if_neg hl]
        have hadd : shutS σ s p = { σ with ok := o, from_ := -1, words := σ.words ++ [o] } := by
          rw [hsh]
          unfold addS
          rw [if_neg hl]
        have hn : nextS σ s p (lxRune s p) = nextS { σ with ok := o, from_ := -1, words := σ.words ++ [o] } s p (lxRune s p) := by
          unfold nextS
          rw [hpre, hadd]
          have hp2 : preS { σ with ok := o, from_ := -1, words := σ.words ++ [o] } s p (lxRune s p) = { σ with ok := o, from_ := -1, words := σ.words ++ [o] } := by
            unfold preS
            rw [if_neg]
            rintro ⟨q, _⟩
            exact absurd (show (0 : Int) ≤ -1 from q) (by decide)
          rw [hp2]
        rw [scanC_step hlt, scanC_step hlt, hn]
    · rw [if_neg hr] at hsh ⊢
      refine scan_err hlt (by decide) ?_
      rw [hpre, hsh]
      unfold failS
      rw [if_pos (show ({ σ with ok := o, from_ := -1 } : Sc).end_ = 0 from he)]
      exact ⟨rfl, rfl, rfl⟩
  · obtain rfl : p = s.size := by omega
    rw [scanC_end (Nat.le_refl _), scanC_end (Nat.le_refl _)]
    have hw : wordsOf s σ = outS (lastS (shutS σ s s.size)) := by
      unfold wordsOf
      rw [if_pos he]
    rw [hw, hsh]
    by_cases hr : rightR o r = true
    · rw [if_pos hr, if_pos hr]
      unfold addS
      by_cases hl : σ.words.length = 4000
      · rw [if_pos hl, if_pos hl]
        unfold failS
        rw [if_pos (show ({ σ with ok := o, from_ := -1 } : Sc).end_ = 0 from he)]
        exact outL_F h2 (show (4 : Int) ≠ 0 by decide)
      · rw [if_neg hl, if_neg hl]
        rw [wordsOf_ok (s := s) (σ := { σ with ok := o, from_ := -1, words := σ.words ++ [o] }) he h2 (show (-1 : Int) < 0 by decide)]
        exact outL_T h2 he
    · rw [if_neg hr, if_neg hr]
      unfold failS
      rw [if_pos (show ({ σ with ok := o, from_ := -1 } : Sc).end_ = 0 from he)]
      exact outL_F h2 (show (6 : Int) ≠ 0 by decide)
theorem preS_out {σ : Sc} (h : σ.from_ < 0) (s : ByteArray) (i r : Int) : preS σ s i r = σ := by
  unfold preS
  rw [if_neg]
  omega
theorem ext_byte {s : ByteArray} {pos : Nat} (h : pos < s.size) : s.extract pos (pos + 1) = ⟨#[s.get! pos]⟩ := by
  apply ByteArray.ext
  have hd : s.get! pos = s.data[pos]'h := getElem!_pos s.data pos h
  rw [ByteArray.data_extract, hd]
  apply Array.ext
  · simp
    have : s.data.size = s.size := rfl
    omega
  · intro i h1 h2
    have hi : i = 0 := by simp at h2; omega
    subst hi
    simp
theorem ref_eq (s : ByteArray) : ∀ (f pos : Nat) (σ : Sc), s.size ≤ pos + f → pos ≤ s.size → Nd σ → σ.end_ = 0 → wordsOf s (scanC s pos σ) = refW s f pos σ.words σ.line σ.col
  | 0, pos, σ, hf, hp, h, he => by
    rw [scanC_end (by omega), wordsOf_ok he h.2.1 h.2.2]
    rfl
  | f + 1, pos, σ, hf, hp, h, he => by
    unfold refW
    by_cases hlt : pos < s.size
    rotate_left
    · rw [if_neg hlt, scanC_end (by omega), wordsOf_ok he h.2.1 h.2.2]
    rw [if_pos hlt]
    have hw := Lib.width_pos s pos
    have hin := width_in hlt
    have hpre : preS σ s pos (lxRune s pos) = σ := by
      unfold preS
      rw [if_neg]
      have := h.2.2
      omega
    have hmid : midS σ pos (lxRune s pos) = runeS σ pos (lxRune s pos) := by
      unfold midS
      rw [if_neg (show ¬ σ.note = true by rw [h.1]; decide), if_neg (show ¬ σ.slash = true by rw [h.2.1]; decide), if_pos h.2.2]
    have hnx : nextS σ s pos (lxRune s pos) = finS (runeS σ pos (lxRune s pos)) (lxRune s pos) := by
      unfold nextS
      rw [hpre, hmid]
    by_cases h10 : lxRune s pos = 10
    · rw [if_pos h10]
      have hn : nextS σ s pos (lxRune s pos) = { σ with line := σ.line + 1, col := 1 } := by
        rw [hnx]
        unfold runeS
        rw [if_pos (Or.inr (Or.inr h10)), finS_T h10]
      have hwd := lxRune_wid (b := 10) (by decide) h10
      rw [scanC_step hlt, hn, if_pos (show ({ σ with line := σ.line + 1, col := 1 } : Sc).end_ = 0 from he), hwd]
      exact ref_eq s f (pos + 1) { σ with line := σ.line + 1, col := 1 } (by omega) (by omega) h he
    rw [if_neg h10]
    by_cases h32 : lxRune s pos = 32 ∨ lxRune s pos = 9
    · rw [if_pos h32]
      have hn : nextS σ s pos (lxRune s pos) = { σ with col := σ.col + 1 } := by
        rw [hnx]
        unfold runeS
        rw [if_pos (by rcases h32 with e | e; exact .inl e; exact .inr (.inl e)), finS_F h10]
      have hwd : (Utf8.decode s pos).2 = 1 := by
        rcases h32 with e | e
        · exact lxRune_wid (b := 32) (by decide) e
        · exact lxRune_wid (b := 9) (by decide) e
      rw [scanC_step hlt, hn, if_pos (show ({ σ with col := σ.col + 1 } : Sc).end_ = 0 from he), hwd]
      exact ref_eq s f (pos + 1) { σ with col := σ.col + 1 } (by omega) (by omega) h he
    rw [if_neg h32]
    have hnb : ¬ (lxRune s pos = 32 ∨ lxRune s pos = 9 ∨ lxRune s pos = 10) := by
      rintro (e | e | e)
      · exact h32 (.inl e)
      · exact h32 (.inr e)
      · exact h10 e
    by_cases hsl : lxRune s pos = 47
    · have hbyte := lxRune_byte (b := 47) (by decide) hsl
      have hwd := lxRune_wid (b := 47) (by decide) hsl
      have hn : nextS σ s pos (lxRune s pos) = { σ with slash := true, bl := σ.line, bc := σ.col, col := σ.col + 1 } := by
        rw [hnx, hsl]
        unfold runeS
        rw [if_neg (by decide), if_neg (by decide), if_neg (by decide), if_neg (by decide), if_pos rfl, finS_F (by decide)]
      rw [scanC_step hlt, hn, if_pos (show ({ σ with slash := true, bl := σ.line, bc := σ.col, col := σ.col + 1 } : Sc).end_ = 0 from he), hwd]
      by_cases h2 : lxRune s pos = 47 ∧ pos + 1 < s.size ∧ (s.get! (pos + 1)).toNat = 47
      · rw [if_pos h2]
        have hr2 : lxRune s (pos + 1) = 47 := lxRune_plain h2.2.2 (by decide)
        have hwd2 := lxRune_wid (b := 47) (by decide) hr2
        have hn2 : nextS { σ with slash := true, bl := σ.line, bc := σ.col, col := σ.col + 1 } s ((pos + 1 : Nat) : Int) (lxRune s (pos + 1)) = { σ with note := true, slash := false, bl := σ.line, bc := σ.col, col := σ.col + 1 + 1 } := by
          unfold nextS
          rw [preS_out (σ := { σ with slash := true, bl := σ.line, bc := σ.col, col := σ.col + 1 }) h.2.2]
          unfold midS
          rw [if_neg (show ¬ σ.note = true by rw [h.1]; decide), if_pos rfl, if_pos hr2, finS_F (by rw [hr2]; decide)]
        rw [scanC_step h2.2.1, hn2, if_pos (show ({ σ with note := true, slash := false, bl := σ.line, bc := σ.col, col := σ.col + 1 + 1 } : Sc).end_ = 0 from he), hwd2]
        have hsr := scan_rem s (s.size - 1 - 1) (pos + 1 + 1) { σ with note := true, slash := false, bl := σ.line, bc := σ.col, col := σ.col + 1 + 1 } (by omega) (by omega) rfl h.2.2 he
        have hrr : remR s s.size pos σ.col = remR s (s.size - 1 - 1) (pos + 1 + 1) (σ.col + 1 + 1) := by
          rw [show s.size = (s.size - 1 - 1) + 1 + 1 by omega]
          rw [remR, ← show s.size = (s.size - 1 - 1) + 1 + 1 by omega, if_pos ⟨hlt, by rw [hbyte]; decide⟩, hwd, remR, if_pos ⟨h2.2.1, by rw [h2.2.2]; decide⟩, hwd2]
        have hle := remR_le s s.size pos σ.col (by omega)
        have hgo := remR_go (f := s.size) (by omega) hlt (by rw [hbyte]; decide) σ.col
        dsimp only at hsr
        rw [← hrr] at hsr
        rw [hsr.1]
        have hsr2 := hsr.2
        clear hsr hrr
        generalize (remR s s.size pos σ.col).1 = p at *
        generalize (remR s s.size pos σ.col).2 = c at *
        by_cases hpz : p < s.size
        · have hb10 := hsr2 hpz
          have hr10 : lxRune s p = 10 := lxRune_plain hb10 (by decide)
          have hwp := lxRune_wid (b := 10) (by decide) hr10
          obtain ⟨g, rfl⟩ : ∃ g, f = g + 1 := ⟨f - 1, by omega⟩
          unfold refW
          rw [if_pos hpz, if_pos hr10]
          have hn3 : nextS { σ with note := true, slash := false, bl := σ.line, bc := σ.col, col := c } s p (lxRune s p) = { σ with note := false, slash := false, bl := σ.line, bc := σ.col, line := σ.line + 1, col := 1 } := by
            unfold nextS
            rw [preS_out (σ := { σ with note := true, slash := false, bl := σ.line, bc := σ.col, col := c }) h.2.2]
            unfold midS
            rw [if_pos rfl, finS_T hr10, dec_T hr10]
          rw [scanC_step hpz, hn3, if_pos (show ({ σ with note := false, slash := false, bl := σ.line, bc := σ.col, line := σ.line + 1, col := 1 } : Sc).end_ = 0 from he), hwp]
          exact ref_eq s g (p + 1) { σ with note := false, slash := false, bl := σ.line, bc := σ.col, line := σ.line + 1, col := 1 } (by omega) (by omega) ⟨rfl, rfl, h.2.2⟩ he
        · rw [scanC_end (by omega)]
          rw [wordsOf_ok (s := s) (σ := { σ with note := true, slash := false, bl := σ.line, bc := σ.col, col := c }) he rfl h.2.2]
          cases f with
          | zero => rfl
          | succ g => unfold refW; rw [if_neg hpz]
      · rw [if_neg h2]
        have hnr : ¬ rightR (wdR s pos σ.line σ.col).1 (lxRune s pos) = true := by
          have hwr : wdR s pos σ.line σ.col = (⟨3, s.extract pos (pos + (Utf8.decode s pos).2), σ.line, σ.col⟩, pos + (Utf8.decode s pos).2, 1) := by
            unfold wdR
            rw [if_neg (by rw [hsl]; decide), if_neg (by rw [hsl]; decide)]
          rw [hwr]
          unfold rightR
          rw [if_neg (show ¬ (3 : Int) = 1 by decide), if_neg (show ¬ (3 : Int) = 2 by decide), hsl]
          decide
        rw [if_neg hnr]
        by_cases hp2 : pos + 1 < s.size
        · have hr2 : ¬ lxRune s (pos + 1) = 47 := fun e => h2 ⟨hsl, hp2, lxRune_byte (b := 47) (by decide) e⟩
          refine scan_err2 hp2 (by decide) ?_
          have hpre2 : preS { σ with slash := true, bl := σ.line, bc := σ.col, col := σ.col + 1 } s ((pos + 1 : Nat) : Int) (lxRune s (pos + 1)) = { σ with slash := true, bl := σ.line, bc := σ.col, col := σ.col + 1 } := by
            unfold preS
            rw [if_neg]
            have := h.2.2
            show ¬ (0 ≤ σ.from_ ∧ _)
            omega
          rw [hpre2]
          unfold midS
          rw [if_neg (show ¬ σ.note = true by rw [h.1]; decide), if_pos rfl, if_neg hr2]
          unfold failS
          rw [if_pos (show ({ σ with slash := true, bl := σ.line, bc := σ.col, col := σ.col + 1 } : Sc).end_ = 0 from he)]
          exact ⟨rfl, rfl, rfl⟩
        · rw [scanC_end (by omega)]
          unfold wordsOf shutS lastS failS
          rw [if_pos (show ({ σ with slash := true, bl := σ.line, bc := σ.col, col := σ.col + 1 } : Sc).end_ = 0 from he), if_pos (show ({ σ with slash := true, bl := σ.line, bc := σ.col, col := σ.col + 1 } : Sc).from_ < 0 from h.2.2), if_pos rfl, if_pos (show ({ σ with slash := true, bl := σ.line, bc := σ.col, col := σ.col + 1 } : Sc).end_ = 0 from he)]
          exact outS_F (show (6 : Int) ≠ 0 by decide)
    rw [if_neg (fun e => hsl e.1)]
    by_cases hld : letterZ (lxRune s pos) = true ∨ digitZ (lxRune s pos) = true
    · have hinz : insideZ (lxRune s pos) = true := by
        unfold insideZ
        rcases hld with e | e <;> rw [e] <;> simp
      obtain ⟨k, hk, hwr, hn⟩ : ∃ k : Int, (k = 1 ∨ k = 2) ∧ wdR s pos σ.line σ.col = (⟨k, s.extract pos (runR s s.size pos).1, σ.line, σ.col⟩, (runR s s.size pos).1, (runR s s.size pos).2) ∧ nextS σ s pos (lxRune s pos) = { σ with from_ := pos, ok := ⟨k, emptyB, σ.line, σ.col⟩, col := σ.col + 1 } := by
        by_cases hl : letterZ (lxRune s pos) = true
        · refine ⟨1, .inl rfl, ?_, ?_⟩
          · unfold wdR
            rw [if_pos hl]
          · rw [hnx]
            unfold runeS
            rw [if_neg hnb, if_pos hl, finS_F h10]
        · have hd : digitZ (lxRune s pos) = true := hld.resolve_left hl
          refine ⟨2, .inr rfl, ?_, ?_⟩
          · unfold wdR
            rw [if_neg hl, if_pos hd]
          · rw [hnx]
            unfold runeS
            rw [if_neg hnb, if_neg hl, if_pos hd, finS_F h10]
      have hrr : runR s s.size pos = ((runR s (s.size - 1) (pos + (Utf8.decode s pos).2)).1, (runR s (s.size - 1) (pos + (Utf8.decode s pos).2)).2 + 1) := by
        rw [show s.size = (s.size - 1) + 1 by omega]
        rw [runR, ← show s.size = (s.size - 1) + 1 by omega, if_pos ⟨hlt, hinz⟩]
      have hsr := scan_run s (s.size - 1) (pos + (Utf8.decode s pos).2) { σ with from_ := pos, ok := ⟨k, emptyB, σ.line, σ.col⟩, col := σ.col + 1 } (by omega) hin h.1 h.2.1 (show (0 : Int) ≤ pos by omega) he
      have hle := runR_le s s.size pos (by omega)
      have hgo := runR_go (f := s.size) (by omega) hlt hinz
      have e1 : (runR s (s.size - 1) (pos + (Utf8.decode s pos).2)).1 = (runR s s.size pos).1 := by rw [hrr]
      have e2 : σ.col + 1 + ((runR s (s.size - 1) (pos + (Utf8.decode s pos).2)).2 : Int) = σ.col + ((runR s s.size pos).2 : Int) := by rw [hrr]; dsimp only; omega
      dsimp only at hsr
      rw [e2, e1] at hsr
      rw [hwr]
      dsimp only
      rw [scanC_step hlt, hn, if_pos (show ({ σ with from_ := (pos : Int), ok := ⟨k, emptyB, σ.line, σ.col⟩, col := σ.col + 1 } : Sc).end_ = 0 from he), hsr.1]
      have hsr2 := hsr.2
      clear hsr hrr e1 e2 hwr
      generalize (runR s s.size pos).1 = p at *
      generalize ((runR s s.size pos).2 : Int) = n at *
      rw [scan_word (r := lxRune s pos) (pos := pos) (p := p) (σ := { σ with from_ := (pos : Int), ok := ⟨k, emptyB, σ.line, σ.col⟩, col := σ.col + n }) h.1 h.2.1 rfl he hk hgo hle.2.1 hsr2 ⟨k, s.extract pos p, σ.line, σ.col⟩ rfl]
      dsimp only
      split
      · split
        · rfl
        · exact ref_eq s f p { σ with from_ := -1, ok := ⟨k, s.extract pos p, σ.line, σ.col⟩, col := σ.col + n, words := σ.words ++ [⟨k, s.extract pos p, σ.line, σ.col⟩] } (by omega) hle.2.1 ⟨h.1, h.2.1, by show (-1 : Int) < 0; decide⟩ he
      · rfl
    · have hl : ¬ letterZ (lxRune s pos) = true := fun e => hld (.inl e)
      have hd : ¬ digitZ (lxRune s pos) = true := fun e => hld (.inr e)
      have hwr : wdR s pos σ.line σ.col = (⟨3, s.extract pos (pos + (Utf8.decode s pos).2), σ.line, σ.col⟩, pos + (Utf8.decode s pos).2, 1) := by
        unfold wdR
        rw [if_neg hl, if_neg hd]
      have hrt : rightR (wdR s pos σ.line σ.col).1 (lxRune s pos) = signV (lxRune s pos) := by
        rw [hwr]
        unfold rightR
        rw [if_neg (by show ¬ (3 : Int) = 1; decide), if_neg (by show ¬ (3 : Int) = 2; decide)]
      rw [hrt]
      by_cases hs : signV (lxRune s pos) = true
      · rw [if_pos hs]
        have hb : ∃ b : Nat, b < 128 ∧ lxRune s pos = (b : Int) ∧ Utf8.encode (b : Int) = ⟨#[b.toUInt8]⟩ := by
          rcases sign_cases hs with e | e | e | e | e | e | e
          · exact ⟨123, by decide, e, rfl⟩
          · exact ⟨125, by decide, e, rfl⟩
          · exact ⟨40, by decide, e, rfl⟩
          · exact ⟨41, by decide, e, rfl⟩
          · exact ⟨61, by decide, e, rfl⟩
          · exact ⟨59, by decide, e, rfl⟩
          · exact ⟨46, by decide, e, rfl⟩
        obtain ⟨b, hb, hbr, hbe⟩ := hb
        have hbyte := lxRune_byte hb hbr
        have hwd := lxRune_wid hb hbr
        have htx : Utf8.encode (lxRune s pos) = s.extract pos (pos + (Utf8.decode s pos).2) := by
          have hbb : b.toUInt8 = s.get! pos := by
            rw [← hbyte]
            exact UInt8.ofNat_toNat
          rw [hbr, hbe, hwd, ext_byte hlt, hbb]
        have hrn : runeS σ pos (lxRune s pos) = addS σ ⟨3, s.extract pos (pos + (Utf8.decode s pos).2), σ.line, σ.col⟩ := by
          unfold runeS
          rw [if_neg hnb, if_neg hl, if_neg hd, if_pos hs, htx]
        by_cases hlen : σ.words.length = 4000
        · rw [if_pos hlen]
          refine scan_err2 hlt (by decide) ?_
          rw [hpre, hmid, hrn]
          unfold addS failS
          rw [if_pos hlen, if_pos he]
          exact ⟨rfl, rfl, rfl⟩
        · rw [if_neg hlen, hwr]
          dsimp only
          have hn : nextS σ s pos (lxRune s pos) = { σ with words := σ.words ++ [⟨3, s.extract pos (pos + (Utf8.decode s pos).2), σ.line, σ.col⟩], col := σ.col + 1 } := by
            rw [hnx, hrn]
            unfold addS
            rw [if_neg hlen, finS_F h10]
          rw [scanC_step hlt, hn, if_pos (show ({ σ with words := σ.words ++ [⟨3, s.extract pos (pos + (Utf8.decode s pos).2), σ.line, σ.col⟩], col := σ.col + 1 } : Sc).end_ = 0 from he)]
          exact ref_eq s f (pos + (Utf8.decode s pos).2) { σ with words := σ.words ++ [⟨3, s.extract pos (pos + (Utf8.decode s pos).2), σ.line, σ.col⟩], col := σ.col + 1 } (by omega) hin h he
      · rw [if_neg hs]
        refine scan_err2 hlt (by decide) ?_
        rw [hpre, hmid]
        unfold runeS
        rw [if_neg hnb, if_neg hl, if_neg hd, if_neg hs, if_neg hsl]
        unfold failS
        rw [if_pos he]
        exact ⟨rfl, rfl, rfl⟩
theorem wordsP_ref (s : ByteArray) : wordsP s = refWords s := by
  unfold refWords
  split
  · rename_i h
    unfold wordsP
    rw [if_pos h]
  · rename_i h
    rw [wordsP_of (by omega)]
    exact ref_eq s s.size 0 lxInit (by omega) (by omega) ⟨rfl, rfl, by decide⟩ rfl
end Go.Proofs.YtknbhbppofphpaaGreatDoor.X

/-! The reference's next, run, number, right, walked. -/
set_option linter.unusedVariables false
set_option linter.unusedSimpArgs false
namespace Go.Proofs.YtknbhbppofphpaaGreatDoor.X
open Go.RowKit Go.Shelf Go.Proofs.YtknbhbppofphpaaGreatDoorW.PrintWords Go.Proofs.YtknbhbppofphpaaGreatDoorW.PrintLast Go.Proofs.YtknbhbppofphpaaGreatDoorW.PrintMore
/-! ### what stands from a place on -/
def sfx (s : ByteArray) (pos : Nat) : ByteArray := s.extract pos s.size
theorem sfx_size (s : ByteArray) (pos : Nat) : (sfx s pos).size = s.size - pos := by
  unfold sfx
  rw [ByteArray.size_extract]
  omega
theorem sfx_split {s : ByteArray} {pos : Nat} (h : pos ≤ s.size) : s.extract 0 pos ++ sfx s pos = s := by
  unfold sfx
  have e1 : s.extract 0 pos ++ s.extract pos s.size = s.extract 0 s.size := by
    rw [ByteArray.extract_append_extract, Nat.min_eq_left (Nat.zero_le _), Nat.max_eq_right h]
  rw [e1, ByteArray.extract_zero_size]
theorem sfx_len {s : ByteArray} {pos : Nat} (h : pos ≤ s.size) : (s.extract 0 pos).size = pos := by
  rw [ByteArray.size_extract]
  omega
theorem sfx_get {s : ByteArray} {pos : Nat} (h : pos ≤ s.size) (i : Nat) : (sfx s pos).get! i = s.get! (pos + i) := by
  have := get_hd (s.extract 0 pos) (sfx s pos) i
  rw [sfx_split h, sfx_len h, Nat.add_comm] at this
  exact this.symm
theorem sfx_decode {s : ByteArray} {pos : Nat} (h : pos ≤ s.size) (i : Nat) : Utf8.decode (sfx s pos) i = Utf8.decode s (pos + i) := by
  have := decode_hd (s.extract 0 pos) (sfx s pos) i
  rw [sfx_split h, sfx_len h, Nat.add_comm] at this
  exact this.symm
theorem sfx_ext {s : ByteArray} {pos : Nat} (h : pos ≤ s.size) (i j : Nat) : (sfx s pos).extract i j = s.extract (pos + i) (pos + j) := by
  have := extract_hd (s.extract 0 pos) (sfx s pos) i j
  rw [sfx_split h, sfx_len h, Nat.add_comm, Nat.add_comm j] at this
  exact this.symm
theorem sfx_sfx {s : ByteArray} {pos : Nat} (h : pos ≤ s.size) {i : Nat} (hi : pos + i ≤ s.size) : (sfx s pos).extract i (sfx s pos).size = sfx s (pos + i) := by
  rw [sfx_ext h, sfx_size]
  unfold sfx
  rw [show pos + (s.size - pos) = s.size by omega]
theorem sfx_zero (s : ByteArray) : sfx s 0 = s := ByteArray.extract_zero_size
/-! ### the rune that is none -/
theorem err_width (l : List UInt8) (h : (Lib.decodeL l).1 = 65533) (hne : l ≠ []) : (Lib.decodeL l).2 ≤ 1 ↔ l.take 3 ≠ [239, 191, 189] := by
  rw [Lib.decodeL_N] at h ⊢
  match l, hne with
  | [a], _ =>
    have e : ([a] : List UInt8).take 3 ≠ [239, 191, 189] := by simp
    refine ⟨fun _ => e, fun _ => ?_⟩
    unfold Lib.decodeN
    simp only [List.length_cons, List.length_nil]
    repeat' split
    all_goals (dsimp only; omega)
  | [a, b], _ =>
    have e : ([a, b] : List UInt8).take 3 ≠ [239, 191, 189] := by simp
    refine ⟨fun _ => e, fun _ => ?_⟩
    revert h
    simp only [List.getD_cons_zero, List.getD_cons_succ, List.getD_nil, List.length_cons, List.length_nil]
    generalize a.toNat = x
    generalize b.toNat = y
    unfold Lib.decodeN
    repeat' split
    all_goals (dsimp only; omega)
  | a :: b :: c :: r, _ =>
    have e : ((a :: b :: c :: r : List UInt8).take 3 ≠ [239, 191, 189]) ↔ ¬ (a.toNat = 239 ∧ b.toNat = 191 ∧ c.toNat = 189) := by
      simp only [List.take_succ_cons, List.take_zero, ne_eq, List.cons.injEq, and_true]
      rw [← UInt8.toNat_inj, ← UInt8.toNat_inj, ← UInt8.toNat_inj]
      exact Iff.rfl
    rw [e]
    revert h
    have ha := UInt8.toNat_lt a
    have hb := UInt8.toNat_lt b
    have hc := UInt8.toNat_lt c
    simp only [List.getD_cons_zero, List.getD_cons_succ, List.length_cons]
    generalize a.toNat = x at *
    generalize b.toNat = y at *
    generalize c.toNat = z at *
    generalize (r.getD 0 0).toNat = u
    unfold Lib.decodeN
    repeat' split
    all_goals (dsimp only; omega)
theorem rune_none {s : ByteArray} {pos : Nat} (h : pos < s.size) : lxRune s pos = if (Utf8.decode s pos).1 = 65533 ∧ (Utf8.decode s pos).2 ≤ 1 then -1 else ((Utf8.decode s pos).1 : Int) := by
  unfold lxRune
  rw [ext_list]
  have hne : s.data.toList.drop pos ≠ [] := by
    intro e
    have := congrArg List.length e
    rw [List.length_drop, Array.length_toList] at this
    have h2 : s.data.size = s.size := rfl
    rw [h2] at this
    simp only [List.length_nil] at this
    omega
  have hd := Lib.decodeL_drop s pos
  have hw := err_width (s.data.toList.drop pos)
  rw [hd] at hw
  by_cases h1 : (Utf8.decode s pos).1 = 65533
  · have := hw h1 hne
    by_cases h2 : (Utf8.decode s pos).2 ≤ 1
    · rw [if_pos ⟨h1, this.1 h2⟩, if_pos ⟨h1, h2⟩]
    · rw [if_neg (fun e => h2 (this.2 e.2)), if_neg (fun e => h2 e.2)]
  · rw [if_neg (fun e => h1 e.1), if_neg (fun e => h1 e.1)]
theorem rune_bd (s : ByteArray) (pos : Nat) : -1 ≤ lxRune s pos ∧ lxRune s pos ≤ 1114111 := by
  unfold lxRune
  have := Lib.rune_le s pos
  split <;> omega
/-! ### next -/
set_option maxHeartbeats 4000000 in
set_option maxRecDepth 100000 in
theorem courierref03_next.calls (s : ByteArray) (pos : Nat) (hp : pos < s.size) (w : World) (hT : Lib.Utf8Tabs (Tryz.lays197_ren.g 3) (Tryz.lays197_ren.g 4) w) :
    Calls Tryz.prog 35 #[.string (sfx s pos)] w fun e w' => e = .returned (.tuple #[.int .i32 (lxRune s pos), .int .i64 (Utf8.decode s pos).2]) ∧ Below w.heap.size w w' := by
  have hz : (sfx s pos).size ≠ 0 := by rw [sfx_size]; omega
  have hg : Lib.decodeGo (sfx s pos) = Utf8.decode s pos := by
    unfold Lib.decodeGo
    rw [if_neg hz, sfx_decode (by omega)]
    rfl
  have HR := Aside0.mk (rune_none hp)
  have hr := Lib.rune_le s pos
  have hwd := Lib.width_pos s pos
  have hw4 : (Utf8.decode s pos).2 ≤ s.size := by have := width_in hp; omega
  have hc := Tryz.utf8_DecodeRuneInString (sfx s pos) w hT
  rw [hg] at hc
  have hk4 : (Utf8.decode s pos).2 ≤ 4 := by
    rw [Lib.decode_at]
    unfold Lib.decodeN
    repeat' split
    all_goals (dsimp only; omega)
  generalize sfx s pos = T at *
  generalize lxRune s pos = R at *
  generalize (Utf8.decode s pos).1 = x at *
  generalize (Utf8.decode s pos).2 = k at *
  have HC := Aside0.mk hc
  clear hc hg hz hT hw4 hp
  go_enter Tryz.func35, Tryz.ntmps35
  go_wp2_with fail
  refine HC.out.mono ?_
  rintro e w1 ⟨rfl, hb⟩
  have HB := Aside0.mk hb
  clear hb HC
  by_cases h1 : x = 65533
  · have t1 : ((x : Int) == 65533) = true := beq_iff_eq.mpr (by omega)
    by_cases h2 : k ≤ 1
    · have t2i : decide ((k : Int) ≤ 1) = true := decide_eq_true (by omega)
      have t2 : decide (k ≤ 1) = true := decide_eq_true h2
      have HE : Aside0 (R = -1) := ⟨by rw [HR.out, if_pos ⟨h1, h2⟩]⟩
      clear h1 h2
      go_wp2_with fail
      go_ret2
      exact ⟨by rw [HE.out]; rfl, HB.out⟩
    · have t2i : decide ((k : Int) ≤ 1) = false := decide_eq_false (by omega)
      have t2 : decide (k ≤ 1) = false := decide_eq_false h2
      have HE : Aside0 (R = (x : Int)) := ⟨by rw [HR.out, if_neg (fun e => h2 e.2)]⟩
      clear h1 h2
      go_wp2_with fail
      go_ret2
      exact ⟨by rw [HE.out]; rfl, HB.out⟩
  · have t1 : ((x : Int) == 65533) = false := beq_eq_false_iff_ne.mpr (by omega)
    have HE : Aside0 (R = (x : Int)) := ⟨by rw [HR.out, if_neg (fun e => h1 e.1)]⟩
    clear h1
    go_wp2_with fail
    go_ret2
    exact ⟨by rw [HE.out]; rfl, HB.out⟩
theorem refletterZ_f (r : Int) : courierref03_Letter.f r = some (letterZ r) := by
  rw [← letterZ_f]
  unfold courierref03_Letter.f ident_Letter.f
  simp only [ge_iff_le]
theorem refdigitZ_f (r : Int) : courierref03_digit.f r = some (digitZ r) := by
  unfold courierref03_digit.f digitZ
  repeat' split
  all_goals
    rw [Option.some.injEq, Bool.eq_iff_iff]
    simp only [decide_eq_true_eq, true_iff, Bool.false_eq_true, false_iff]
    omega
/-! ### run -/
set_option maxHeartbeats 4000000 in
set_option maxRecDepth 100000 in
theorem courierref03_run.calls (s : ByteArray) (pos : Nat) (hp : pos ≤ s.size) (hs : s.size ≤ 70368744177664) (w : World) (hT : Lib.Utf8Tabs (Tryz.lays197_ren.g 3) (Tryz.lays197_ren.g 4) w) :
    Calls Tryz.prog 37 #[.string (sfx s pos)] w fun e w' => e = .returned (.tuple #[.int .i64 ((runR s s.size pos).1 - pos : Nat), .int .i64 (runR s s.size pos).2]) ∧ Below w.heap.size w w' := by
  obtain ⟨T, hTe⟩ : ∃ T, sfx s pos = T := ⟨_, rfl⟩
  have hTz : T.size = s.size - pos := by rw [← hTe, sfx_size]
  have HTE := Aside0.mk hTe
  have HT := Aside0.mk hT
  have hzs : pos + T.size ≤ s.size ∧ s.size ≤ pos + T.size := by omega
  rw [hTe]
  clear hT hTe hTz
  go_enter Tryz.func37, Tryz.ntmps37
  go_wp2_with fail
  go_loopw [4, 5] (fun v4 v5 wr => ∃ (n k f : Nat), n ≤ T.size ∧ v4 = .int .i64 n ∧ v5 = .int .i64 k ∧ k ≤ n ∧ s.size ≤ pos + n + f ∧ Aside0 (runR s s.size pos = ((runR s f (pos + n)).1, (runR s f (pos + n)).2 + k)) ∧ Aside0 (Below w.heap.size w wr)) (fun v4 _ _ => T.size - (intOf v4).toNat)
  case atStart => exact ⟨0, 0, s.size, by omega, rfl, rfl, by omega, by omega, ⟨rfl⟩, ⟨Below.refl _ _⟩⟩
  case round =>
    obtain ⟨n, k, f, hn, rfl, rfl, hkn, hf, HA, HB⟩ := hrel
    by_cases hlt : n < T.size
    · have t1 : decide (n < T.size) = true := decide_eq_true hlt
      have t1i : decide ((n : Int) < (T.size : Int)) = true := decide_eq_true (by omega)
      have hps : pos + n < s.size := by omega
      have hsx : T.extract n T.size = sfx s (pos + n) := by rw [← HTE.out]; exact sfx_sfx hp (by omega)
      obtain ⟨g, rfl⟩ : ∃ g, f = g + 1 := ⟨f - 1, by omega⟩
      have HG : Aside0 (runR s (g + 1) (pos + n) = if pos + n < s.size ∧ insideZ (lxRune s (pos + n)) = true then ((runR s g (pos + n + (Utf8.decode s (pos + n)).2)).1, (runR s g (pos + n + (Utf8.decode s (pos + n)).2)).2 + 1) else (pos + n, 0)) := ⟨by rw [runR]⟩
      have hwd := Lib.width_pos s (pos + n)
      have hin := width_in hps
      have hcn := courierref03_next.calls s (pos + n) hps wr (Utf8Tabs_below HT.out HB.out)
      rw [← hsx] at hcn
      have HCN := Aside0.mk hcn
      have HIZ : Aside0 (insideZ (lxRune s (pos + n)) = (letterZ (lxRune s (pos + n)) || digitZ (lxRune s (pos + n)) || decide (lxRune s (pos + n) = 95))) := ⟨rfl⟩
      have hbd := rune_bd s (pos + n)
      have HPS := Aside0.mk hps
      generalize lxRune s (pos + n) = R at *
      generalize (Utf8.decode s (pos + n)).2 = q at *
      clear hcn hsx hps
      go_wp2_with fail
      refine HCN.out.mono ?_
      rintro e w1 ⟨rfl, hb⟩
      have HB1 := Aside0.mk (below_step HB.out hb)
      clear hb HCN
      have HL := Aside0.mk (refletterZ_f R)
      have HD := Aside0.mk (refdigitZ_f R)
      have HREL : Aside0 (insideZ R = true → runR s s.size pos = ((runR s g (pos + (n + q))).1, (runR s g (pos + (n + q))).2 + (k + 1))) := ⟨by
        intro hi
        rw [HA.out, HG.out, if_pos ⟨HPS.out, hi⟩]
        dsimp only
        rw [show pos + n + q = pos + (n + q) by omega, show k + 1 = 1 + k by omega, Nat.add_assoc]⟩
      have HEND : Aside0 (insideZ R = false → (runR s s.size pos).1 - pos = n ∧ (runR s s.size pos).2 = k) := ⟨by
        intro hi
        rw [HA.out, HG.out, if_neg (by rw [hi]; rintro ⟨_, e⟩; cases e)]
        dsimp only
        exact ⟨by omega, by omega⟩⟩
      by_cases h1 : letterZ R = true
      · rw [h1] at HL
        have HI : Aside0 (insideZ R = true) := ⟨by rw [HIZ.out, h1]; rfl⟩
        clear h1
        go_wp2_with fail
        refine (courierref03_Letter.calls R true _ HL.out).mono ?_
        rintro e w' ⟨rfl, ⟨nd1, rfl⟩⟩
        go_wp2_with fail
        go_roundw
        case rel =>
          exact ⟨n + q, k + 1, g, by omega, by go_num, by go_num, by omega, by omega, ⟨HREL.out HI.out⟩, ⟨pw_below_drewN HB1.out _⟩⟩
        case measure => simp [intOf]; omega
      · have h1f : letterZ R = false := Bool.eq_false_iff.2 h1
        rw [h1f] at HL
        by_cases h2 : digitZ R = true
        · rw [h2] at HD
          have HI : Aside0 (insideZ R = true) := ⟨by rw [HIZ.out, h1f, h2]; rfl⟩
          clear h1 h1f h2
          go_wp2_with fail
          refine (courierref03_Letter.calls R false _ HL.out).mono ?_
          rintro e w' ⟨rfl, ⟨nd1, rfl⟩⟩
          go_wp2_with fail
          refine (courierref03_digit.calls R true _ HD.out).mono ?_
          rintro e w' ⟨rfl, ⟨nd2, rfl⟩⟩
          go_wp2_with fail
          go_roundw
          case rel =>
            exact ⟨n + q, k + 1, g, by omega, by go_num, by go_num, by omega, by omega, ⟨HREL.out HI.out⟩, ⟨pw_below_drewN HB1.out _⟩⟩
          case measure => simp [intOf]; omega
        · have h2f : digitZ R = false := Bool.eq_false_iff.2 h2
          rw [h2f] at HD
          by_cases h3 : R = 95
          · have t95 : (R != 95) = false := by rw [h3]; rfl
            have t95b : (R == 95) = true := beq_iff_eq.mpr h3
            have HI : Aside0 (insideZ R = true) := ⟨by rw [HIZ.out, h1f, h2f, decide_eq_true h3]; rfl⟩
            clear h1 h1f h2 h2f h3
            go_wp2_with fail
            refine (courierref03_Letter.calls R false _ HL.out).mono ?_
            rintro e w' ⟨rfl, ⟨nd1, rfl⟩⟩
            go_wp2_with fail
            refine (courierref03_digit.calls R false _ HD.out).mono ?_
            rintro e w' ⟨rfl, ⟨nd2, rfl⟩⟩
            go_wp2_with fail
            go_roundw
            case rel =>
              exact ⟨n + q, k + 1, g, by omega, by go_num, by go_num, by omega, by omega, ⟨HREL.out HI.out⟩, ⟨pw_below_drewN HB1.out _⟩⟩
            case measure => simp [intOf]; omega
          · have t95 : (R != 95) = true := bne_iff_ne.mpr h3
            have t95b : (R == 95) = false := beq_eq_false_iff_ne.mpr h3
            have HI : Aside0 (insideZ R = false) := ⟨by rw [HIZ.out, h1f, h2f, decide_eq_false h3]; rfl⟩
            clear h1 h1f h2 h2f h3
            go_wp2_with fail
            refine (courierref03_Letter.calls R false _ HL.out).mono ?_
            rintro e w' ⟨rfl, ⟨nd1, rfl⟩⟩
            go_wp2_with fail
            refine (courierref03_digit.calls R false _ HD.out).mono ?_
            rintro e w' ⟨rfl, ⟨nd2, rfl⟩⟩
            go_wp2_with fail
            go_ret2
            have he := HEND.out HI.out
            exact ⟨by rw [he.1, he.2]; rfl, pw_below_drewN HB1.out _⟩
    · have t1 : decide (n < T.size) = false := decide_eq_false hlt
      have t1i : decide ((n : Int) < (T.size : Int)) = false := decide_eq_false (by omega)
      have HEND : Aside0 ((runR s s.size pos).1 - pos = n ∧ (runR s s.size pos).2 = k) := ⟨by
        have hg : runR s f (pos + n) = (pos + n, 0) := by
          cases f with
          | zero => rfl
          | succ f => rw [runR, if_neg (by omega)]
        rw [HA.out, hg]
        dsimp only
        exact ⟨by omega, by omega⟩⟩
      go_wp2_with fail
      go_ret2
      exact ⟨by rw [HEND.out.1, HEND.out.2]; rfl, HB.out⟩
end Go.Proofs.YtknbhbppofphpaaGreatDoor.X

/-! The reference's number and right, walked. -/
set_option linter.unusedVariables false
set_option linter.unusedSimpArgs false
namespace Go.Proofs.YtknbhbppofphpaaGreatDoor.X
open Go.RowKit Go.Shelf Go.Proofs.YtknbhbppofphpaaGreatDoorW.PrintWords Go.Proofs.YtknbhbppofphpaaGreatDoorW.PrintLast Go.Proofs.YtknbhbppofphpaaGreatDoorW.PrintMore
theorem get_el {s : ByteArray} {i : Nat} (h : i < s.size) : s[i]'h = s.get! i := (getElem!_pos s.data i h).symm
theorem list_el {s : ByteArray} {i : Nat} (h : i < s.size) : s.data.toList[i]'(by rw [Array.length_toList]; exact h) = s.get! i := by
  rw [Array.getElem_toList]
  exact get_el h
theorem list_len (s : ByteArray) : s.data.toList.length = s.size := by rw [Array.length_toList]; rfl
theorem valF_snoc (l : List UInt8) (c : UInt8) (a : Nat) : valF a (l ++ [c]) = valF a l * 10 + (c.toNat - 48) := by
  unfold valF
  rw [List.foldl_append]
  rfl
theorem take_next {s : ByteArray} {i : Nat} (h : i < s.size) : s.data.toList.take (i + 1) = s.data.toList.take i ++ [s.get! i] := by
  rw [List.take_succ_eq_append_getElem (by rw [list_len]; exact h), list_el h]
theorem dig_at {s : ByteArray} (h : digL s.data.toList = true) {i : Nat} (hi : i < s.size) : 48 ≤ (s.get! i).toNat ∧ (s.get! i).toNat ≤ 57 := by
  refine digL_iff.1 h _ ?_
  rw [← list_el hi]
  exact List.getElem_mem _
theorem ret_bool {a b : Bool} (h : a = b) : Ending.returned (.bool a) = .returned (.bool b) := by rw [h]
set_option maxHeartbeats 4000000 in
set_option maxRecDepth 100000 in
theorem courierref03_number.calls (s : ByteArray) (hs : 0 < s.size) (hz : s.size ≤ 70368744177664) (hd : digL s.data.toList = true) (w : World) :
    Calls Tryz.prog 65 #[.string s] w fun e w' => e = .returned (.bool (numR s.data.toList)) ∧ Below w.heap.size w w' := by
  have HD := Aside0.mk hd
  have HN : Aside0 (numR s.data.toList = (!(decide (10 < s.size)) && (!(decide (s.get! 0 = 48) && decide (1 < s.size)) && decide (valF 0 s.data.toList ≤ 2147483647)))) := ⟨by
    unfold numR
    rw [list_len]
    have : decide (s.data.toList.head? = some 48) = decide (s.get! 0 = 48) := by
      rw [List.head?_eq_getElem?, List.getElem?_eq_getElem (by rw [list_len]; exact hs), list_el hs]
      simp
    rw [this]⟩
  have he0 := get_el hs
  clear hd
  by_cases h10 : 10 < s.size
  · have t1i : decide ((10 : Int) < (s.size : Int)) = true := decide_eq_true (by omega)
    have t1 : decide (10 < s.size) = true := decide_eq_true h10
    have HV : Aside0 (numR s.data.toList = false) := ⟨by rw [HN.out, t1]; rfl⟩
    clear h10 he0
    go_enter Tryz.func65, Tryz.ntmps65
    go_wp2_with fail
    go_ret
    exact ⟨ret_bool HV.out.symm, Below.refl _ _⟩
  have t1i : decide ((10 : Int) < (s.size : Int)) = false := decide_eq_false (by omega)
  have t1 : decide (10 < s.size) = false := decide_eq_false h10
  have hz10 : s.size ≤ 10 := by omega
  by_cases h48 : s.get! 0 = 48
  · by_cases h1 : 1 < s.size
    · have t2 : (((s[0]'hs).toNat : Int) == 48) = true := beq_iff_eq.mpr (by rw [he0, h48]; rfl)
      have t3i : decide ((1 : Int) < (s.size : Int)) = true := decide_eq_true (by omega)
      have t3 : decide (1 < s.size) = true := decide_eq_true h1
      have HV : Aside0 (numR s.data.toList = false) := ⟨by rw [HN.out, t3, decide_eq_true h48]; simp⟩
      clear h10 he0 h48 h1
      go_enter Tryz.func65, Tryz.ntmps65
      go_wp2_with fail
      go_ret
      exact ⟨ret_bool HV.out.symm, Below.refl _ _⟩
    · have t2 : (((s[0]'hs).toNat : Int) == 48) = true := beq_iff_eq.mpr (by rw [he0, h48]; rfl)
      have t3i : decide ((1 : Int) < (s.size : Int)) = false := decide_eq_false (by omega)
      have t3 : decide (1 < s.size) = false := decide_eq_false h1
      have HV : Aside0 (numR s.data.toList = decide (valF 0 s.data.toList ≤ 2147483647)) := ⟨by rw [HN.out, t3, t1]; simp⟩
      clear h10 he0 h48 h1
      go_enter Tryz.func65, Tryz.ntmps65
      go_wp2_with fail
      clear t1i t1 t2 t3i t3 HN
      go_loopw [3, 4] (fun v3 v4 wr => ∃ j n : Nat, j ≤ s.size ∧ v4 = .int .i64 j ∧ v3 = .int .i64 n ∧ n ≤ 9999999999 ∧ Aside0 (n = valF 0 (s.data.toList.take j)) ∧ Aside0 (Below w.heap.size w wr)) (fun _ v4 _ => s.size - (intOf v4).toNat)
      case atStart => exact ⟨0, 0, by omega, rfl, rfl, by omega, ⟨rfl⟩, ⟨Below.refl _ _⟩⟩
      case round =>
        obtain ⟨j, n, hj, rfl, rfl, hn, HE, HB⟩ := hrel
        by_cases hlt : j < s.size
        · have hb := dig_at HD.out hlt
          have hel := get_el hlt
          have hnx : valF 0 (s.data.toList.take (j + 1)) = n * 10 + ((s.get! j).toNat - 48) := by rw [take_next hlt, valF_snoc, ← HE.out]
          have hbd := valF_bd (s.data.toList.take (j + 1)) 0 (fun c hc => digL_iff.1 HD.out c (List.mem_of_mem_take hc))
          have hln : (s.data.toList.take (j + 1)).length ≤ 10 := by rw [List.length_take]; omega
          have hpw : 10 ^ (s.data.toList.take (j + 1)).length ≤ 10 ^ 10 := Nat.pow_le_pow_right (by decide) hln
          have HNX := Aside0.mk hnx
          have hnb : n * 10 + ((s.get! j).toNat - 48) ≤ 9999999999 := by rw [← hnx]; have : (10 : Nat) ^ 10 = 10000000000 := (by decide); omega
          rw [← hel] at HNX hb hnb
          clear hnx hel hbd hln hpw
          obtain ⟨c, hc⟩ : ∃ c, (s[j]'hlt).toNat = c := ⟨_, rfl⟩
          rw [hc] at HNX hb hnb
          have HC := Aside0.mk hc
          clear hc
          have t1 : decide (j < s.size) = true := decide_eq_true hlt
          have hsub : IntKind.u8.wrap ((c : Int) - 48) = (c : Int) - 48 := by rw [IntKind.wrap_u8]; omega
          have hcv : ((s[j]'hlt).toNat : Int) = (c : Int) := by rw [HC.out]
          go_wp2_with fail
          go_roundw
          case rel => exact ⟨j + 1, n * 10 + (c - 48), by omega, by go_num, by go_num, by omega, ⟨HNX.out.symm⟩, HB⟩
          case measure => simp [intOf]; omega
        · have t1 : decide (j < s.size) = false := decide_eq_false hlt
          have HE2 : Aside0 (n = valF 0 s.data.toList) := ⟨by rw [HE.out, List.take_of_length_le (by rw [list_len]; omega)]⟩
          go_wp2_with fail
          go_ret
          exact ⟨ret_bool (by rw [HV.out, ← HE2.out]; rw [Bool.eq_iff_iff]; simp only [decide_eq_true_eq]; omega), HB.out⟩
  · have t2 : (((s[0]'hs).toNat : Int) == 48) = false := beq_eq_false_iff_ne.mpr (by
      rw [he0]
      intro e
      exact h48 (UInt8.toNat_inj.1 (by show (s.get! 0).toNat = 48; omega)))
    have HV : Aside0 (numR s.data.toList = decide (valF 0 s.data.toList ≤ 2147483647)) := ⟨by rw [HN.out, decide_eq_false h48, t1]; simp⟩
    clear h10 he0 h48
    go_enter Tryz.func65, Tryz.ntmps65
    go_wp2_with fail
    clear t1i t1 t2 HN
    go_loopw [3, 4] (fun v3 v4 wr => ∃ j n : Nat, j ≤ s.size ∧ v4 = .int .i64 j ∧ v3 = .int .i64 n ∧ n ≤ 9999999999 ∧ Aside0 (n = valF 0 (s.data.toList.take j)) ∧ Aside0 (Below w.heap.size w wr)) (fun _ v4 _ => s.size - (intOf v4).toNat)
    case atStart => exact ⟨0, 0, by omega, rfl, rfl, by omega, ⟨rfl⟩, ⟨Below.refl _ _⟩⟩
    case round =>
      obtain ⟨j, n, hj, rfl, rfl, hn, HE, HB⟩ := hrel
      by_cases hlt : j < s.size
      · have hb := dig_at HD.out hlt
        have hel := get_el hlt
        have hnx : valF 0 (s.data.toList.take (j + 1)) = n * 10 + ((s.get! j).toNat - 48) := by rw [take_next hlt, valF_snoc, ← HE.out]
        have hbd := valF_bd (s.data.toList.take (j + 1)) 0 (fun c hc => digL_iff.1 HD.out c (List.mem_of_mem_take hc))
        have hln : (s.data.toList.take (j + 1)).length ≤ 10 := by rw [List.length_take]; omega
        have hpw : 10 ^ (s.data.toList.take (j + 1)).length ≤ 10 ^ 10 := Nat.pow_le_pow_right (by decide) hln
        have HNX := Aside0.mk hnx
        have hnb : n * 10 + ((s.get! j).toNat - 48) ≤ 9999999999 := by rw [← hnx]; have : (10 : Nat) ^ 10 = 10000000000 := (by decide); omega
        rw [← hel] at HNX hb hnb
        clear hnx hel hbd hln hpw
        obtain ⟨c, hc⟩ : ∃ c, (s[j]'hlt).toNat = c := ⟨_, rfl⟩
        rw [hc] at HNX hb hnb
        have HC := Aside0.mk hc
        clear hc
        have t1 : decide (j < s.size) = true := decide_eq_true hlt
        have hsub : IntKind.u8.wrap ((c : Int) - 48) = (c : Int) - 48 := by rw [IntKind.wrap_u8]; omega
        have hcv : ((s[j]'hlt).toNat : Int) = (c : Int) := by rw [HC.out]
        go_wp2_with fail
        go_roundw
        case rel => exact ⟨j + 1, n * 10 + (c - 48), by omega, by go_num, by go_num, by omega, ⟨HNX.out.symm⟩, HB⟩
        case measure => simp [intOf]; omega
      · have t1 : decide (j < s.size) = false := decide_eq_false hlt
        have HE2 : Aside0 (n = valF 0 s.data.toList) := ⟨by rw [HE.out, List.take_of_length_le (by rw [list_len]; omega)]⟩
        go_wp2_with fail
        go_ret
        exact ⟨ret_bool (by rw [HV.out, ← HE2.out]; rw [Bool.eq_iff_iff]; simp only [decide_eq_true_eq]; omega), HB.out⟩
theorem digL_snoc {s : ByteArray} {j : Nat} (h : j < s.size) : digL (s.data.toList.take (j + 1)) = (digL (s.data.toList.take j) && decide (48 ≤ (s.get! j).toNat ∧ (s.get! j).toNat ≤ 57)) := by
  rw [take_next h]
  unfold digL
  rw [List.all_append]
  simp
theorem digL_stop {s : ByteArray} {j : Nat} (h : digL (s.data.toList.take j) = false) : digL s.data.toList = false := by
  rw [Bool.eq_false_iff]
  intro e
  rw [Bool.eq_false_iff] at h
  exact h (digL_iff.2 fun c hc => digL_iff.1 e c (List.mem_of_mem_take hc))
set_option maxHeartbeats 4000000 in
set_option maxRecDepth 100000 in
theorem courierref03_right.calls (x : Wd) (r : Int) (w : World) (hk : x.kind = 1 ∨ (x.kind = 2 ∧ 0 < x.text.size) ∨ x.kind = 3) (hs : x.text.size ≤ 70368744177664) (hT : Lib.Utf8Tabs (Tryz.lays196_ren.g 3) (Tryz.lays196_ren.g 4) w) :
    Calls Tryz.prog 39 #[.agg #[.int .i64 x.kind, .string x.text, .int .i64 x.line, .int .i64 x.col], .int .i32 r] w fun e w' => e = .returned (.bool (rightR x r)) ∧ Below w.heap.size w w' := by
  have HT := Aside0.mk hT
  have HR : Aside0 (rightR x r = if x.kind = 1 then nameV (runesOf x.text) else if x.kind = 2 then digL x.text.data.toList && numR x.text.data.toList else signV r) := ⟨rfl⟩
  have HK := Aside0.mk hk
  obtain ⟨kind, text, line, col⟩ := x
  simp only at hs HR HK ⊢
  have HB0 : Aside0 (Below w.heap.size w (w.alloc (.cells #[.int .i64 kind, .string text, .int .i64 line, .int .i64 col] 100))) := ⟨below_alloc (Below.refl _ _) _⟩
  have HT0 := Aside0.mk (Utf8Tabs_below hT HB0.out)
  have HBX := Aside0.mk (blk_new w (.cells #[.int .i64 kind, .string text, .int .i64 line, .int .i64 col] 100))
  obtain ⟨W, hW⟩ : ∃ W, W = w.alloc (.cells #[.int .i64 kind, .string text, .int .i64 line, .int .i64 col] 100) := ⟨_, rfl⟩
  rw [← hW] at HB0 HT0 HBX
  have HW := Aside0.mk hW
  clear hT hW hk
  go_enter Tryz.func39, Tryz.ntmps39
  by_cases h1 : kind = 1
  · have t0 : (kind == 1) = true := beq_iff_eq.mpr h1
    rw [if_pos h1] at HR
    clear h1
    go_wp2_with fail
    rw [← HW.out]
    refine (courierref03_Name.calls text _ (by omega) HT0.out).mono ?_
    rintro e w2 ⟨rfl, hb⟩
    have HB2 := Aside0.mk (below_step HB0.out hb)
    clear hb
    go_wp2_with fail
    go_ret
    exact ⟨ret_bool HR.out.symm, HB2.out⟩
  have t0 : (kind == 1) = false := beq_eq_false_iff_ne.mpr h1
  rw [if_neg h1] at HR
  by_cases h2 : kind = 2
  · have t2 : (kind == 2) = true := beq_iff_eq.mpr h2
    rw [if_pos h2] at HR
    have hz : 0 < text.size := by rcases HK.out with h | h | h; exact absurd h h1; exact h.2; omega
    clear h1 h2
    go_wp2_with fail
    rw [← HW.out]
    have c0 : W.cell? ⟨w.heap.size, 0, none⟩ = some (.int .i64 kind) := blk_cell HBX.out 0
    have c1 : W.cell? ⟨w.heap.size, 1, none⟩ = some (.string text) := blk_cell HBX.out 1
    go_loop [5] (fun v5 => ∃ j : Nat, j ≤ text.size ∧ v5 = .int .i64 j ∧ Aside0 (digL (text.data.toList.take j) = true)) (fun v5 => text.size - (intOf v5).toNat)
    case atStart => exact ⟨0, by omega, rfl, ⟨rfl⟩⟩
    case round =>
      obtain ⟨j, hj, rfl, HD⟩ := hrel
      by_cases hlt : j < text.size
      · have t1 : decide (j < text.size) = true := decide_eq_true hlt
        have hel := get_el hlt
        have hsn := digL_snoc hlt
        rw [HD.out, Bool.true_and, ← hel] at hsn
        have HSN := Aside0.mk hsn
        clear hel hsn
        by_cases hd1 : (text[j]'hlt).toNat < 48
        · have u1 : decide (((text[j]'hlt).toNat : Int) < 48) = true := decide_eq_true (by omega)
          have HV : Aside0 (digL text.data.toList = false) := ⟨digL_stop (j := j + 1) (by rw [HSN.out]; exact decide_eq_false (by omega))⟩
          clear hd1
          go_wp2_with fail
          go_ret
          exact ⟨ret_bool (by rw [HR.out, HV.out]; rfl), HB0.out⟩
        · have u1 : decide (((text[j]'hlt).toNat : Int) < 48) = false := decide_eq_false (by omega)
          by_cases hd2 : 57 < (text[j]'hlt).toNat
          · have u2 : decide ((57 : Int) < ((text[j]'hlt).toNat : Int)) = true := decide_eq_true (by omega)
            have HV : Aside0 (digL text.data.toList = false) := ⟨digL_stop (j := j + 1) (by rw [HSN.out]; exact decide_eq_false (by omega))⟩
            clear hd1 hd2
            go_wp2_with fail
            go_ret
            exact ⟨ret_bool (by rw [HR.out, HV.out]; rfl), HB0.out⟩
          · have u2 : decide ((57 : Int) < ((text[j]'hlt).toNat : Int)) = false := decide_eq_false (by omega)
            have HD2 : Aside0 (digL (text.data.toList.take (j + 1)) = true) := ⟨by rw [HSN.out]; exact decide_eq_true (by omega)⟩
            clear hd1 hd2
            go_wp2_with fail
            go_round
            case rel => exact ⟨j + 1, by omega, by go_num, HD2⟩
            case measure => simp [intOf]; omega
      · have t1 : decide (j < text.size) = false := decide_eq_false hlt
        have HD2 : Aside0 (digL text.data.toList = true) := ⟨by have := HD.out; rw [List.take_of_length_le (by rw [list_len]; omega)] at this; exact this⟩
        go_wp2_with fail
        refine (courierref03_number.calls text hz hs HD2.out _).mono ?_
        rintro e w2 ⟨rfl, hb⟩
        have HB2 := Aside0.mk (below_step HB0.out hb)
        clear hb
        go_wp2_with fail
        go_ret
        exact ⟨ret_bool (by rw [HR.out, HD2.out]; rfl), HB2.out⟩
  · have t2 : (kind == 2) = false := beq_eq_false_iff_ne.mpr h2
    rw [if_neg h2] at HR
    clear h1 h2 HK
    by_cases hr : signV r = true
    · rw [hr] at HR
      rcases sign_cases hr with rfl | rfl | rfl | rfl | rfl | rfl | rfl
      all_goals
        clear hr
        go_wp2_with fail
        go_ret
        exact ⟨ret_bool HR.out.symm, by rw [← HW.out]; exact HB0.out⟩
    · have hf : signV r = false := Bool.eq_false_iff.2 hr
      rw [hf] at HR
      have hn := of_decide_eq_false hf
      have u1 : (r == 123) = false := beq_eq_false_iff_ne.mpr (by omega)
      have u2 : (r == 125) = false := beq_eq_false_iff_ne.mpr (by omega)
      have u3 : (r == 40) = false := beq_eq_false_iff_ne.mpr (by omega)
      have u4 : (r == 41) = false := beq_eq_false_iff_ne.mpr (by omega)
      have u5 : (r == 61) = false := beq_eq_false_iff_ne.mpr (by omega)
      have u6 : (r == 59) = false := beq_eq_false_iff_ne.mpr (by omega)
      have u7 : (r == 46) = false := beq_eq_false_iff_ne.mpr (by omega)
      clear hr hf hn
      go_wp2_with fail
      go_ret
      exact ⟨ret_bool HR.out.symm, by rw [← HW.out]; exact HB0.out⟩
end Go.Proofs.YtknbhbppofphpaaGreatDoor.X
