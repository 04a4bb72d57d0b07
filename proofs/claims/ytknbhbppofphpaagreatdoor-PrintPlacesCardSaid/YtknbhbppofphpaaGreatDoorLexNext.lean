/- lex's scanner: next. -/
import Derived.Test.YtknbhbppofphpaaGreatDoorLexM
set_option linter.unusedVariables false
set_option linter.unusedSimpArgs false
namespace Go.Proofs.YtknbhbppofphpaaGreatDoor.X
open Go.RowKit Go.Shelf Go.Proofs.YtknbhbppofphpaaGreatDoorW.PrintWords Go.Proofs.YtknbhbppofphpaaGreatDoorW.PrintLast Go.Proofs.YtknbhbppofphpaaGreatDoorW.PrintMore
def insideZ (r : Int) : Bool := letterZ r || digitZ r || decide (r = 95)
theorem insideZ_f (r : Int) : ident_Inside.f r = some (insideZ r) := by
  unfold ident_Inside.f insideZ
  rw [letterZ_f, digitZ_f]
  cases letterZ r with
  | true => rfl
  | false =>
    cases digitZ r with
    | true => rfl
    | false =>
      rw [bsomeI, if_neg (by decide), bsomeI, if_neg (by decide)]
      rw [Option.some.injEq, Bool.eq_iff_iff]
      simp
theorem failS_at (σ : Sc) (e l c : Int) : (failS σ e l c).line = σ.line ∧ (failS σ e l c).col = σ.col := by unfold failS; split <;> exact ⟨rfl, rfl⟩
theorem addS_at (σ : Sc) (x : Wd) : (addS σ x).line = σ.line ∧ (addS σ x).col = σ.col := by
  unfold addS
  split
  · exact failS_at _ _ _ _
  · exact ⟨rfl, rfl⟩
theorem shutS_at (σ : Sc) (text : ByteArray) (i : Int) : (shutS σ text i).line = σ.line ∧ (shutS σ text i).col = σ.col := by
  unfold shutS
  split
  · exact ⟨rfl, rfl⟩
  · simp only
    split
    · exact addS_at _ _
    · exact failS_at _ _ _ _
theorem runeS_at (σ : Sc) (i r : Int) : (runeS σ i r).line = σ.line ∧ (runeS σ i r).col = σ.col := by
  unfold runeS
  repeat' split
  all_goals first | exact ⟨rfl, rfl⟩ | exact addS_at _ _ | exact failS_at _ _ _ _
def preS (σ : Sc) (text : ByteArray) (i r : Int) : Sc := if 0 ≤ σ.from_ ∧ insideZ r = false then shutS σ text i else σ
def midS (σ : Sc) (i r : Int) : Sc :=
  if σ.note = true then { σ with note := decide (r ≠ 10) }
  else if σ.slash = true then (if r = 47 then { σ with note := true, slash := false } else failS σ 6 σ.bl σ.bc)
  else if σ.from_ < 0 then runeS σ i r else σ
def finS (σ : Sc) (r : Int) : Sc := if r = 10 then { σ with line := σ.line + 1, col := 1 } else { σ with col := σ.col + 1 }
def nextS (σ : Sc) (text : ByteArray) (i r : Int) : Sc := finS (midS (preS σ text i r) i r) r
theorem finS_T {σ : Sc} {r : Int} (h : r = 10) : finS σ r = { σ with line := σ.line + 1, col := 1 } := if_pos h
theorem finS_F {σ : Sc} {r : Int} (h : ¬ r = 10) : finS σ r = { σ with col := σ.col + 1 } := if_neg h
theorem dec_T {r : Int} (h : r = 10) : decide (r ≠ 10) = false := by simp [h]
theorem dec_F {r : Int} (h : ¬ r = 10) : decide (r ≠ 10) = true := by simp [h]
set_option maxHeartbeats 4000000 in
set_option maxRecDepth 100000 in
theorem lex_next.calls (w0 : World) (hT : LexTabs w0) (b : Nat) (v : Value) (σ : Sc) (text : ByteArray) (i r : Int) (w : World) (h0 : Below w0.heap.size w0 w) (h : ScAt w0.heap.size b v σ w) (hi : i ≤ text.size) (hfi : σ.from_ ≤ i) (hts : text.size ≤ 70368744177664) (hr0 : -2147483648 ≤ r) (hr1 : r ≤ 2147483647)
    (hl0 : 0 ≤ σ.line) (hl1 : σ.line ≤ 1000000000) (hc0 : 0 ≤ σ.col) (hc1 : σ.col ≤ 1000000000) :
    Calls Tryz.prog 32 #[.pointer (some ⟨b, 0, none⟩), .string text, .int .i64 i, .int .i32 r] w (ScPost w0.heap.size b (nextS σ text i r) w) := by
  obtain ⟨B, hBe⟩ : ∃ B, B = w0.heap.size := ⟨_, rfl⟩
  rw [← hBe] at h h0 ⊢
  have hw : B ≤ w.heap.size := by rw [hBe]; rw [hBe] at h0; exact h0.size
  have HBE := Aside0.mk hBe
  have HT := Aside0.mk hT
  have H0 := Aside0.mk h0
  have HAT := Aside0.mk h
  have hB := h.1
  have d3 : w.cell? ⟨b, 3, none⟩ = some (.int .i64 σ.from_) := blk_cell h.2.1 3
  have HIN := Aside0.mk (insideZ_f r)
  clear hBe hT h0 h
  by_cases h10 : r = 10
  · have t10 : (r == 10) = true := beq_iff_eq.mpr h10
    have tn10 : (r != 10) = false := bne_eq_false_iff_eq.mpr h10
    have HR := Aside0.mk h10
    clear h10
    by_cases hf : 0 ≤ σ.from_
    · have tf : decide (0 ≤ σ.from_) = true := decide_eq_true hf
      cases hz : insideZ r with
      | true =>
        rw [hz] at HIN
        obtain ⟨σ1, hσ1⟩ : ∃ σ1, σ1 = σ := ⟨_, rfl⟩
        have HS1 : Aside0 (σ1 = preS σ text i r) := ⟨by rw [preS, hz, if_neg (by simp), hσ1]⟩
        have HL1 : Aside0 (σ1.line = σ.line) := ⟨by rw [hσ1]⟩
        have HC1 : Aside0 (σ1.col = σ.col) := ⟨by rw [hσ1]⟩
        clear hz
        go_enter Tryz.func32, Tryz.ntmps32
        go_wp2_with fail
        refine (ident_Inside.calls r true _ HIN.out).mono ?_
        rintro e w' ⟨rfl, ⟨nd, rfl⟩⟩
        obtain ⟨v1, hv1⟩ : ∃ v1, v1 = v := ⟨_, rfl⟩
        have hat1 : ScAt B b v1 σ1 (w.drewN nd) := by rw [hσ1, hv1]; exact HAT.out.below (pw_below_drewN (Below.refl _ _) _)
        have HBB := Aside0.mk (pw_below_drewN (Below.refl B w) nd)
        have HOT := Aside0.mk (oth_drewN (Lib.OthersKept.refl 90 (some b) w) nd)
        clear hσ1 hv1 d3
        have HNE := Aside0.mk hat1.ne
        obtain ⟨_, hbk, hown, hl4⟩ := hat1
        have d3 : (w.drewN nd).cell? ⟨b, 3, none⟩ = some (.int .i64 σ1.from_) := blk_cell hbk 3
        have f3 := blk_frozen hbk 3
        have d8 : (w.drewN nd).cell? ⟨b, 8, none⟩ = some (.bool σ1.note) := blk_cell hbk 8
        have f8 := blk_frozen hbk 8
        have d9 : (w.drewN nd).cell? ⟨b, 9, none⟩ = some (.bool σ1.slash) := blk_cell hbk 9
        have f9 := blk_frozen hbk 9
        have d10 : (w.drewN nd).cell? ⟨b, 10, none⟩ = some (.int .i64 σ1.bl) := blk_cell hbk 10
        have f10 := blk_frozen hbk 10
        have d11 : (w.drewN nd).cell? ⟨b, 11, none⟩ = some (.int .i64 σ1.bc) := blk_cell hbk 11
        have f11 := blk_frozen hbk 11
        have d1 : (w.drewN nd).cell? ⟨b, 1, none⟩ = some (.int .i64 σ.line) := (blk_cell hbk 1).trans (congrArg (fun z => some (Value.int .i64 z)) HL1.out)
        have d2 : (w.drewN nd).cell? ⟨b, 2, none⟩ = some (.int .i64 σ.col) := (blk_cell hbk 2).trans (congrArg (fun z => some (Value.int .i64 z)) HC1.out)
        have f1 := blk_frozen hbk 1
        have f2 := blk_frozen hbk 2
        have HK := Aside0.mk hbk
        have HO := Aside0.mk hown
        have HL := Aside0.mk hl4
        clear hbk hown hl4
        cases hn : σ1.note with
        | true =>
          have HNX : Aside0 (nextS σ text i r = { ({ σ1 with note := false } : Sc) with line := σ.line + 1, col := 1 }) := ⟨by rw [nextS, ← HS1.out, midS, if_pos hn, finS_T HR.out, HL1.out, dec_T HR.out]⟩
          rw [hn] at d8
          clear hn
          go_wp2_with fail
          go_end0
          rw [HNX.out]
          exact ⟨rfl, ⟨_, hB, (by apply blk_as; (case hh1 => with_reducible repeat (first | exact HK.out | apply blk_drewN | apply blk_drew | apply blk_alloc | apply blk_set)); (case hh2 => rfl)), (by with_reducible repeat (first | exact HO.out | refine row_set ?_ HNE.out _ | refine row_alloc ?_ _ | refine row_drew ?_ | refine row_drewN ?_ _)), HL.out⟩, (by with_reducible repeat (first | exact HBB.out | refine bel_set ?_ hB _ | refine below_drew ?_ | refine pw_below_drewN ?_ _ | refine bel_alloc ?_ hw _)), (by with_reducible repeat (first | exact HOT.out | refine oth_set ?_ _ | refine oth_alloc ?_ _ | refine oth_drew ?_ | refine oth_drewN ?_ _))⟩
        | false =>
          rw [hn] at d8
          have HN0 := Aside0.mk hn
          clear hn
          cases hs : σ1.slash with
          | true =>
            rw [hs] at d9
            have HS0 := Aside0.mk hs
            clear hs
            have t47 : (r == 47) = false := beq_eq_false_iff_ne.mpr (by have := HR.out; omega)
            have HNX : Aside0 (nextS σ text i r = finS (failS σ1 6 σ1.bl σ1.bc) r) := ⟨by rw [nextS, ← HS1.out, midS, if_neg (by rw [HN0.out]; decide), if_pos HS0.out, if_neg (by have := HR.out; omega)]⟩
            go_wp2_with fail
            refine (lex_fail.calls B b v1 σ1 6 σ1.bl σ1.bc _ (Nat.le_trans hw HBB.out.size) ⟨hB, HK.out, HO.out, HL.out⟩).mono ?_
            rintro e w3 ⟨rfl, hpost, hb3, ho3⟩
            have HPO := Aside0.mk hpost
            have HB3 := Aside0.mk (HBB.out.trans hb3)
            have HO3 := Aside0.mk (HOT.out.trans ho3)
            clear hpost hb3 ho3 HBB HOT HK HO HNE HL d1 d2 d3 d8 d9 d10 d11 f1 f2 f3 f8 f9 f10 f11
            obtain ⟨v3, hat3⟩ : ∃ v3, ScAt B b v3 (failS σ1 6 σ1.bl σ1.bc) w3 := ⟨_, HPO.out⟩
            obtain ⟨σ2, hσ2⟩ : ∃ σ2, σ2 = failS σ1 6 σ1.bl σ1.bc := ⟨_, rfl⟩
            rw [← hσ2] at hat3 HNX
            have HNE := Aside0.mk hat3.ne
            obtain ⟨_, hbk, hown, hl3⟩ := hat3
            have d1 : w3.cell? ⟨b, 1, none⟩ = some (.int .i64 σ.line) := (blk_cell hbk 1).trans (by rw [hσ2]; exact congrArg (fun z => some (Value.int .i64 z)) ((failS_at σ1 _ _ _).1.trans HL1.out))
            have d2 : w3.cell? ⟨b, 2, none⟩ = some (.int .i64 σ.col) := (blk_cell hbk 2).trans (by rw [hσ2]; exact congrArg (fun z => some (Value.int .i64 z)) ((failS_at σ1 _ _ _).2.trans HC1.out))
            have f1 := blk_frozen hbk 1
            have f2 := blk_frozen hbk 2
            have hs1 : σ2.line = σ.line := by rw [hσ2]; exact (failS_at σ1 _ _ _).1.trans HL1.out
            have hs2 : σ2.col = σ.col := by rw [hσ2]; exact (failS_at σ1 _ _ _).2.trans HC1.out
            rw [finS_T HR.out, hs1] at HNX
            have HK := Aside0.mk hbk
            have HO := Aside0.mk hown
            have HL := Aside0.mk hl3
            have HBB := HB3
            have HOT := HO3
            clear hbk hown hl3 hσ2 hs1 hs2
            go_wp2_with fail
            go_end0
            rw [HNX.out]
            exact ⟨rfl, ⟨_, hB, (by apply blk_as; (case hh1 => with_reducible repeat (first | exact HK.out | apply blk_drewN | apply blk_drew | apply blk_alloc | apply blk_set)); (case hh2 => rfl)), (by with_reducible repeat (first | exact HO.out | refine row_set ?_ HNE.out _ | refine row_alloc ?_ _ | refine row_drew ?_ | refine row_drewN ?_ _)), HL.out⟩, (by with_reducible repeat (first | exact HBB.out | refine bel_set ?_ hB _ | refine below_drew ?_ | refine pw_below_drewN ?_ _ | refine bel_alloc ?_ hw _)), (by with_reducible repeat (first | exact HOT.out | refine oth_set ?_ _ | refine oth_alloc ?_ _ | refine oth_drew ?_ | refine oth_drewN ?_ _))⟩
          | false =>
            rw [hs] at d9
            have HS0 := Aside0.mk hs
            clear hs
            by_cases hf1 : σ1.from_ < 0
            · have tf1 : decide (σ1.from_ < 0) = true := decide_eq_true hf1
              have HNX : Aside0 (nextS σ text i r = finS (runeS σ1 i r) r) := ⟨by rw [nextS, ← HS1.out, midS, if_neg (by rw [HN0.out]; decide), if_neg (by rw [HS0.out]; decide), if_pos hf1]⟩
              clear hf1
              go_wp2_with fail
              refine (lex_rune.calls B b v1 σ1 i r _ (Nat.le_trans hw HBB.out.size) ⟨hB, HK.out, HO.out, HL.out⟩ hr0 hr1).mono ?_
              rintro e w3 ⟨rfl, hpost, hb3, ho3⟩
              have HPO := Aside0.mk hpost
              have HB3 := Aside0.mk (HBB.out.trans hb3)
              have HO3 := Aside0.mk (HOT.out.trans ho3)
              clear hpost hb3 ho3 HBB HOT HK HO HNE HL d1 d2 d3 d8 d9 d10 d11 f1 f2 f3 f8 f9 f10 f11
              obtain ⟨v3, hat3⟩ : ∃ v3, ScAt B b v3 (runeS σ1 i r) w3 := HPO.out
              obtain ⟨σ2, hσ2⟩ : ∃ σ2, σ2 = runeS σ1 i r := ⟨_, rfl⟩
              rw [← hσ2] at hat3 HNX
              have HNE := Aside0.mk hat3.ne
              obtain ⟨_, hbk, hown, hl3⟩ := hat3
              have d1 : w3.cell? ⟨b, 1, none⟩ = some (.int .i64 σ.line) := (blk_cell hbk 1).trans (by rw [hσ2]; exact congrArg (fun z => some (Value.int .i64 z)) ((runeS_at σ1 _ _).1.trans HL1.out))
              have d2 : w3.cell? ⟨b, 2, none⟩ = some (.int .i64 σ.col) := (blk_cell hbk 2).trans (by rw [hσ2]; exact congrArg (fun z => some (Value.int .i64 z)) ((runeS_at σ1 _ _).2.trans HC1.out))
              have f1 := blk_frozen hbk 1
              have f2 := blk_frozen hbk 2
              have hs1 : σ2.line = σ.line := by rw [hσ2]; exact (runeS_at σ1 _ _).1.trans HL1.out
              have hs2 : σ2.col = σ.col := by rw [hσ2]; exact (runeS_at σ1 _ _).2.trans HC1.out
              rw [finS_T HR.out, hs1] at HNX
              have HK := Aside0.mk hbk
              have HO := Aside0.mk hown
              have HL := Aside0.mk hl3
              have HBB := HB3
              have HOT := HO3
              clear hbk hown hl3 hσ2 hs1 hs2
              go_wp2_with fail
              go_end0
              rw [HNX.out]
              exact ⟨rfl, ⟨_, hB, (by apply blk_as; (case hh1 => with_reducible repeat (first | exact HK.out | apply blk_drewN | apply blk_drew | apply blk_alloc | apply blk_set)); (case hh2 => rfl)), (by with_reducible repeat (first | exact HO.out | refine row_set ?_ HNE.out _ | refine row_alloc ?_ _ | refine row_drew ?_ | refine row_drewN ?_ _)), HL.out⟩, (by with_reducible repeat (first | exact HBB.out | refine bel_set ?_ hB _ | refine below_drew ?_ | refine pw_below_drewN ?_ _ | refine bel_alloc ?_ hw _)), (by with_reducible repeat (first | exact HOT.out | refine oth_set ?_ _ | refine oth_alloc ?_ _ | refine oth_drew ?_ | refine oth_drewN ?_ _))⟩
            · have tf1 : decide (σ1.from_ < 0) = false := decide_eq_false hf1
              have HNX : Aside0 (nextS σ text i r = { σ1 with line := σ.line + 1, col := 1 }) := ⟨by rw [nextS, ← HS1.out, midS, if_neg (by rw [HN0.out]; decide), if_neg (by rw [HS0.out]; decide), if_neg hf1, finS_T HR.out, HL1.out]⟩
              clear hf1
              go_wp2_with fail
              go_end0
              rw [HNX.out]
              exact ⟨rfl, ⟨_, hB, (by apply blk_as; (case hh1 => with_reducible repeat (first | exact HK.out | apply blk_drewN | apply blk_drew | apply blk_alloc | apply blk_set)); (case hh2 => rfl)), (by with_reducible repeat (first | exact HO.out | refine row_set ?_ HNE.out _ | refine row_alloc ?_ _ | refine row_drew ?_ | refine row_drewN ?_ _)), HL.out⟩, (by with_reducible repeat (first | exact HBB.out | refine bel_set ?_ hB _ | refine below_drew ?_ | refine pw_below_drewN ?_ _ | refine bel_alloc ?_ hw _)), (by with_reducible repeat (first | exact HOT.out | refine oth_set ?_ _ | refine oth_alloc ?_ _ | refine oth_drew ?_ | refine oth_drewN ?_ _))⟩
      | false =>
        rw [hz] at HIN
        have HS1' : Aside0 (preS σ text i r = shutS σ text i) := ⟨by rw [preS, hz, if_pos ⟨hf, rfl⟩]⟩
        clear hz
        go_enter Tryz.func32, Tryz.ntmps32
        go_wp2_with fail
        refine (ident_Inside.calls r false _ HIN.out).mono ?_
        rintro e w' ⟨rfl, ⟨nd, rfl⟩⟩
        go_wp2_with fail
        refine (lex_shut.calls w0 HT.out b v σ text i _ (by rw [← HBE.out]; exact pw_below_drewN H0.out _) (by rw [← HBE.out]; exact HAT.out.below (pw_below_drewN (Below.refl _ _) _)) hi hfi hts).mono ?_
        rintro e w1 ⟨rfl, ⟨v1, hat0⟩, hb1, ho1⟩
        rw [← HBE.out] at hat0 hb1
        obtain ⟨σ1, hσ1⟩ : ∃ σ1, σ1 = shutS σ text i := ⟨_, rfl⟩
        rw [← hσ1] at hat0
        have HS1 : Aside0 (σ1 = preS σ text i r) := ⟨by rw [HS1'.out, hσ1]⟩
        have HL1 : Aside0 (σ1.line = σ.line) := ⟨by rw [hσ1]; exact (shutS_at σ text i).1⟩
        have HC1 : Aside0 (σ1.col = σ.col) := ⟨by rw [hσ1]; exact (shutS_at σ text i).2⟩
        have hat1 := hat0
        have HBB := Aside0.mk ((pw_below_drewN (Below.refl B w) nd).trans hb1)
        have HOT := Aside0.mk ((oth_drewN (Lib.OthersKept.refl 90 (some b) w) nd).trans ho1)
        clear hσ1 hat0 hb1 ho1 d3
        have HNE := Aside0.mk hat1.ne
        obtain ⟨_, hbk, hown, hl4⟩ := hat1
        have d3 : w1.cell? ⟨b, 3, none⟩ = some (.int .i64 σ1.from_) := blk_cell hbk 3
        have f3 := blk_frozen hbk 3
        have d8 : w1.cell? ⟨b, 8, none⟩ = some (.bool σ1.note) := blk_cell hbk 8
        have f8 := blk_frozen hbk 8
        have d9 : w1.cell? ⟨b, 9, none⟩ = some (.bool σ1.slash) := blk_cell hbk 9
        have f9 := blk_frozen hbk 9
        have d10 : w1.cell? ⟨b, 10, none⟩ = some (.int .i64 σ1.bl) := blk_cell hbk 10
        have f10 := blk_frozen hbk 10
        have d11 : w1.cell? ⟨b, 11, none⟩ = some (.int .i64 σ1.bc) := blk_cell hbk 11
        have f11 := blk_frozen hbk 11
        have d1 : w1.cell? ⟨b, 1, none⟩ = some (.int .i64 σ.line) := (blk_cell hbk 1).trans (congrArg (fun z => some (Value.int .i64 z)) HL1.out)
        have d2 : w1.cell? ⟨b, 2, none⟩ = some (.int .i64 σ.col) := (blk_cell hbk 2).trans (congrArg (fun z => some (Value.int .i64 z)) HC1.out)
        have f1 := blk_frozen hbk 1
        have f2 := blk_frozen hbk 2
        have HK := Aside0.mk hbk
        have HO := Aside0.mk hown
        have HL := Aside0.mk hl4
        clear hbk hown hl4
        cases hn : σ1.note with
        | true =>
          have HNX : Aside0 (nextS σ text i r = { ({ σ1 with note := false } : Sc) with line := σ.line + 1, col := 1 }) := ⟨by rw [nextS, ← HS1.out, midS, if_pos hn, finS_T HR.out, HL1.out, dec_T HR.out]⟩
          rw [hn] at d8
          clear hn
          go_wp2_with fail
          go_end0
          rw [HNX.out]
          exact ⟨rfl, ⟨_, hB, (by apply blk_as; (case hh1 => with_reducible repeat (first | exact HK.out | apply blk_drewN | apply blk_drew | apply blk_alloc | apply blk_set)); (case hh2 => rfl)), (by with_reducible repeat (first | exact HO.out | refine row_set ?_ HNE.out _ | refine row_alloc ?_ _ | refine row_drew ?_ | refine row_drewN ?_ _)), HL.out⟩, (by with_reducible repeat (first | exact HBB.out | refine bel_set ?_ hB _ | refine below_drew ?_ | refine pw_below_drewN ?_ _ | refine bel_alloc ?_ hw _)), (by with_reducible repeat (first | exact HOT.out | refine oth_set ?_ _ | refine oth_alloc ?_ _ | refine oth_drew ?_ | refine oth_drewN ?_ _))⟩
        | false =>
          rw [hn] at d8
          have HN0 := Aside0.mk hn
          clear hn
          cases hs : σ1.slash with
          | true =>
            rw [hs] at d9
            have HS0 := Aside0.mk hs
            clear hs
            have t47 : (r == 47) = false := beq_eq_false_iff_ne.mpr (by have := HR.out; omega)
            have HNX : Aside0 (nextS σ text i r = finS (failS σ1 6 σ1.bl σ1.bc) r) := ⟨by rw [nextS, ← HS1.out, midS, if_neg (by rw [HN0.out]; decide), if_pos HS0.out, if_neg (by have := HR.out; omega)]⟩
            go_wp2_with fail
            refine (lex_fail.calls B b v1 σ1 6 σ1.bl σ1.bc _ (Nat.le_trans hw HBB.out.size) ⟨hB, HK.out, HO.out, HL.out⟩).mono ?_
            rintro e w3 ⟨rfl, hpost, hb3, ho3⟩
            have HPO := Aside0.mk hpost
            have HB3 := Aside0.mk (HBB.out.trans hb3)
            have HO3 := Aside0.mk (HOT.out.trans ho3)
            clear hpost hb3 ho3 HBB HOT HK HO HNE HL d1 d2 d3 d8 d9 d10 d11 f1 f2 f3 f8 f9 f10 f11
            obtain ⟨v3, hat3⟩ : ∃ v3, ScAt B b v3 (failS σ1 6 σ1.bl σ1.bc) w3 := ⟨_, HPO.out⟩
            obtain ⟨σ2, hσ2⟩ : ∃ σ2, σ2 = failS σ1 6 σ1.bl σ1.bc := ⟨_, rfl⟩
            rw [← hσ2] at hat3 HNX
            have HNE := Aside0.mk hat3.ne
            obtain ⟨_, hbk, hown, hl3⟩ := hat3
            have d1 : w3.cell? ⟨b, 1, none⟩ = some (.int .i64 σ.line) := (blk_cell hbk 1).trans (by rw [hσ2]; exact congrArg (fun z => some (Value.int .i64 z)) ((failS_at σ1 _ _ _).1.trans HL1.out))
            have d2 : w3.cell? ⟨b, 2, none⟩ = some (.int .i64 σ.col) := (blk_cell hbk 2).trans (by rw [hσ2]; exact congrArg (fun z => some (Value.int .i64 z)) ((failS_at σ1 _ _ _).2.trans HC1.out))
            have f1 := blk_frozen hbk 1
            have f2 := blk_frozen hbk 2
            have hs1 : σ2.line = σ.line := by rw [hσ2]; exact (failS_at σ1 _ _ _).1.trans HL1.out
            have hs2 : σ2.col = σ.col := by rw [hσ2]; exact (failS_at σ1 _ _ _).2.trans HC1.out
            rw [finS_T HR.out, hs1] at HNX
            have HK := Aside0.mk hbk
            have HO := Aside0.mk hown
            have HL := Aside0.mk hl3
            have HBB := HB3
            have HOT := HO3
            clear hbk hown hl3 hσ2 hs1 hs2
            go_wp2_with fail
            go_end0
            rw [HNX.out]
            exact ⟨rfl, ⟨_, hB, (by apply blk_as; (case hh1 => with_reducible repeat (first | exact HK.out | apply blk_drewN | apply blk_drew | apply blk_alloc | apply blk_set)); (case hh2 => rfl)), (by with_reducible repeat (first | exact HO.out | refine row_set ?_ HNE.out _ | refine row_alloc ?_ _ | refine row_drew ?_ | refine row_drewN ?_ _)), HL.out⟩, (by with_reducible repeat (first | exact HBB.out | refine bel_set ?_ hB _ | refine below_drew ?_ | refine pw_below_drewN ?_ _ | refine bel_alloc ?_ hw _)), (by with_reducible repeat (first | exact HOT.out | refine oth_set ?_ _ | refine oth_alloc ?_ _ | refine oth_drew ?_ | refine oth_drewN ?_ _))⟩
          | false =>
            rw [hs] at d9
            have HS0 := Aside0.mk hs
            clear hs
            by_cases hf1 : σ1.from_ < 0
            · have tf1 : decide (σ1.from_ < 0) = true := decide_eq_true hf1
              have HNX : Aside0 (nextS σ text i r = finS (runeS σ1 i r) r) := ⟨by rw [nextS, ← HS1.out, midS, if_neg (by rw [HN0.out]; decide), if_neg (by rw [HS0.out]; decide), if_pos hf1]⟩
              clear hf1
              go_wp2_with fail
              refine (lex_rune.calls B b v1 σ1 i r _ (Nat.le_trans hw HBB.out.size) ⟨hB, HK.out, HO.out, HL.out⟩ hr0 hr1).mono ?_
              rintro e w3 ⟨rfl, hpost, hb3, ho3⟩
              have HPO := Aside0.mk hpost
              have HB3 := Aside0.mk (HBB.out.trans hb3)
              have HO3 := Aside0.mk (HOT.out.trans ho3)
              clear hpost hb3 ho3 HBB HOT HK HO HNE HL d1 d2 d3 d8 d9 d10 d11 f1 f2 f3 f8 f9 f10 f11
              obtain ⟨v3, hat3⟩ : ∃ v3, ScAt B b v3 (runeS σ1 i r) w3 := HPO.out
              obtain ⟨σ2, hσ2⟩ : ∃ σ2, σ2 = runeS σ1 i r := ⟨_, rfl⟩
              rw [← hσ2] at hat3 HNX
              have HNE := Aside0.mk hat3.ne
              obtain ⟨_, hbk, hown, hl3⟩ := hat3
              have d1 : w3.cell? ⟨b, 1, none⟩ = some (.int .i64 σ.line) := (blk_cell hbk 1).trans (by rw [hσ2]; exact congrArg (fun z => some (Value.int .i64 z)) ((runeS_at σ1 _ _).1.trans HL1.out))
              have d2 : w3.cell? ⟨b, 2, none⟩ = some (.int .i64 σ.col) := (blk_cell hbk 2).trans (by rw [hσ2]; exact congrArg (fun z => some (Value.int .i64 z)) ((runeS_at σ1 _ _).2.trans HC1.out))
              have f1 := blk_frozen hbk 1
              have f2 := blk_frozen hbk 2
              have hs1 : σ2.line = σ.line := by rw [hσ2]; exact (runeS_at σ1 _ _).1.trans HL1.out
              have hs2 : σ2.col = σ.col := by rw [hσ2]; exact (runeS_at σ1 _ _).2.trans HC1.out
              rw [finS_T HR.out, hs1] at HNX
              have HK := Aside0.mk hbk
              have HO := Aside0.mk hown
              have HL := Aside0.mk hl3
              have HBB := HB3
              have HOT := HO3
              clear hbk hown hl3 hσ2 hs1 hs2
              go_wp2_with fail
              go_end0
              rw [HNX.out]
              exact ⟨rfl, ⟨_, hB, (by apply blk_as; (case hh1 => with_reducible repeat (first | exact HK.out | apply blk_drewN | apply blk_drew | apply blk_alloc | apply blk_set)); (case hh2 => rfl)), (by with_reducible repeat (first | exact HO.out | refine row_set ?_ HNE.out _ | refine row_alloc ?_ _ | refine row_drew ?_ | refine row_drewN ?_ _)), HL.out⟩, (by with_reducible repeat (first | exact HBB.out | refine bel_set ?_ hB _ | refine below_drew ?_ | refine pw_below_drewN ?_ _ | refine bel_alloc ?_ hw _)), (by with_reducible repeat (first | exact HOT.out | refine oth_set ?_ _ | refine oth_alloc ?_ _ | refine oth_drew ?_ | refine oth_drewN ?_ _))⟩
            · have tf1 : decide (σ1.from_ < 0) = false := decide_eq_false hf1
              have HNX : Aside0 (nextS σ text i r = { σ1 with line := σ.line + 1, col := 1 }) := ⟨by rw [nextS, ← HS1.out, midS, if_neg (by rw [HN0.out]; decide), if_neg (by rw [HS0.out]; decide), if_neg hf1, finS_T HR.out, HL1.out]⟩
              clear hf1
              go_wp2_with fail
              go_end0
              rw [HNX.out]
              exact ⟨rfl, ⟨_, hB, (by apply blk_as; (case hh1 => with_reducible repeat (first | exact HK.out | apply blk_drewN | apply blk_drew | apply blk_alloc | apply blk_set)); (case hh2 => rfl)), (by with_reducible repeat (first | exact HO.out | refine row_set ?_ HNE.out _ | refine row_alloc ?_ _ | refine row_drew ?_ | refine row_drewN ?_ _)), HL.out⟩, (by with_reducible repeat (first | exact HBB.out | refine bel_set ?_ hB _ | refine below_drew ?_ | refine pw_below_drewN ?_ _ | refine bel_alloc ?_ hw _)), (by with_reducible repeat (first | exact HOT.out | refine oth_set ?_ _ | refine oth_alloc ?_ _ | refine oth_drew ?_ | refine oth_drewN ?_ _))⟩
    · have tf : decide (0 ≤ σ.from_) = false := decide_eq_false hf
      obtain ⟨σ1, hσ1⟩ : ∃ σ1, σ1 = σ := ⟨_, rfl⟩
      have HS1 : Aside0 (σ1 = preS σ text i r) := ⟨by rw [preS, if_neg (fun h => hf h.1), hσ1]⟩
      have HL1 : Aside0 (σ1.line = σ.line) := ⟨by rw [hσ1]⟩
      have HC1 : Aside0 (σ1.col = σ.col) := ⟨by rw [hσ1]⟩
      obtain ⟨v1, hv1⟩ : ∃ v1, v1 = v := ⟨_, rfl⟩
      have hat1 : ScAt B b v1 σ1 w := by rw [hσ1, hv1]; exact HAT.out
      have d3' : w.cell? ⟨b, 3, none⟩ = some (.int .i64 σ1.from_) := by rw [hσ1]; exact d3
      have tf' : decide (0 ≤ σ1.from_) = false := by rw [hσ1]; exact tf
      have HBB := Aside0.mk (Below.refl B w)
      have HOT := Aside0.mk (Lib.OthersKept.refl 90 (some b) w)
      clear hσ1 hv1 d3 d3' tf
      have HNE := Aside0.mk hat1.ne
      obtain ⟨_, hbk, hown, hl4⟩ := hat1
      have d3 : w.cell? ⟨b, 3, none⟩ = some (.int .i64 σ1.from_) := blk_cell hbk 3
      have f3 := blk_frozen hbk 3
      have d8 : w.cell? ⟨b, 8, none⟩ = some (.bool σ1.note) := blk_cell hbk 8
      have f8 := blk_frozen hbk 8
      have d9 : w.cell? ⟨b, 9, none⟩ = some (.bool σ1.slash) := blk_cell hbk 9
      have f9 := blk_frozen hbk 9
      have d10 : w.cell? ⟨b, 10, none⟩ = some (.int .i64 σ1.bl) := blk_cell hbk 10
      have f10 := blk_frozen hbk 10
      have d11 : w.cell? ⟨b, 11, none⟩ = some (.int .i64 σ1.bc) := blk_cell hbk 11
      have f11 := blk_frozen hbk 11
      have d1 : w.cell? ⟨b, 1, none⟩ = some (.int .i64 σ.line) := (blk_cell hbk 1).trans (congrArg (fun z => some (Value.int .i64 z)) HL1.out)
      have d2 : w.cell? ⟨b, 2, none⟩ = some (.int .i64 σ.col) := (blk_cell hbk 2).trans (congrArg (fun z => some (Value.int .i64 z)) HC1.out)
      have f1 := blk_frozen hbk 1
      have f2 := blk_frozen hbk 2
      have HK := Aside0.mk hbk
      have HO := Aside0.mk hown
      have HL := Aside0.mk hl4
      clear hbk hown hl4
      go_enter Tryz.func32, Tryz.ntmps32
      cases hn : σ1.note with
      | true =>
        have HNX : Aside0 (nextS σ text i r = { ({ σ1 with note := false } : Sc) with line := σ.line + 1, col := 1 }) := ⟨by rw [nextS, ← HS1.out, midS, if_pos hn, finS_T HR.out, HL1.out, dec_T HR.out]⟩
        rw [hn] at d8
        clear hn
        go_wp2_with fail
        go_end0
        rw [HNX.out]
        exact ⟨rfl, ⟨_, hB, (by apply blk_as; (case hh1 => with_reducible repeat (first | exact HK.out | apply blk_drewN | apply blk_drew | apply blk_alloc | apply blk_set)); (case hh2 => rfl)), (by with_reducible repeat (first | exact HO.out | refine row_set ?_ HNE.out _ | refine row_alloc ?_ _ | refine row_drew ?_ | refine row_drewN ?_ _)), HL.out⟩, (by with_reducible repeat (first | exact HBB.out | refine bel_set ?_ hB _ | refine below_drew ?_ | refine pw_below_drewN ?_ _ | refine bel_alloc ?_ hw _)), (by with_reducible repeat (first | exact HOT.out | refine oth_set ?_ _ | refine oth_alloc ?_ _ | refine oth_drew ?_ | refine oth_drewN ?_ _))⟩
      | false =>
        rw [hn] at d8
        have HN0 := Aside0.mk hn
        clear hn
        cases hs : σ1.slash with
        | true =>
          rw [hs] at d9
          have HS0 := Aside0.mk hs
          clear hs
          have t47 : (r == 47) = false := beq_eq_false_iff_ne.mpr (by have := HR.out; omega)
          have HNX : Aside0 (nextS σ text i r = finS (failS σ1 6 σ1.bl σ1.bc) r) := ⟨by rw [nextS, ← HS1.out, midS, if_neg (by rw [HN0.out]; decide), if_pos HS0.out, if_neg (by have := HR.out; omega)]⟩
          go_wp2_with fail
          refine (lex_fail.calls B b v1 σ1 6 σ1.bl σ1.bc _ (Nat.le_trans hw HBB.out.size) ⟨hB, HK.out, HO.out, HL.out⟩).mono ?_
          rintro e w3 ⟨rfl, hpost, hb3, ho3⟩
          have HPO := Aside0.mk hpost
          have HB3 := Aside0.mk (HBB.out.trans hb3)
          have HO3 := Aside0.mk (HOT.out.trans ho3)
          clear hpost hb3 ho3 HBB HOT HK HO HNE HL d1 d2 d3 d8 d9 d10 d11 f1 f2 f3 f8 f9 f10 f11
          obtain ⟨v3, hat3⟩ : ∃ v3, ScAt B b v3 (failS σ1 6 σ1.bl σ1.bc) w3 := ⟨_, HPO.out⟩
          obtain ⟨σ2, hσ2⟩ : ∃ σ2, σ2 = failS σ1 6 σ1.bl σ1.bc := ⟨_, rfl⟩
          rw [← hσ2] at hat3 HNX
          have HNE := Aside0.mk hat3.ne
          obtain ⟨_, hbk, hown, hl3⟩ := hat3
          have d1 : w3.cell? ⟨b, 1, none⟩ = some (.int .i64 σ.line) := (blk_cell hbk 1).trans (by rw [hσ2]; exact congrArg (fun z => some (Value.int .i64 z)) ((failS_at σ1 _ _ _).1.trans HL1.out))
          have d2 : w3.cell? ⟨b, 2, none⟩ = some (.int .i64 σ.col) := (blk_cell hbk 2).trans (by rw [hσ2]; exact congrArg (fun z => some (Value.int .i64 z)) ((failS_at σ1 _ _ _).2.trans HC1.out))
          have f1 := blk_frozen hbk 1
          have f2 := blk_frozen hbk 2
          have hs1 : σ2.line = σ.line := by rw [hσ2]; exact (failS_at σ1 _ _ _).1.trans HL1.out
          have hs2 : σ2.col = σ.col := by rw [hσ2]; exact (failS_at σ1 _ _ _).2.trans HC1.out
          rw [finS_T HR.out, hs1] at HNX
          have HK := Aside0.mk hbk
          have HO := Aside0.mk hown
          have HL := Aside0.mk hl3
          have HBB := HB3
          have HOT := HO3
          clear hbk hown hl3 hσ2 hs1 hs2
          go_wp2_with fail
          go_end0
          rw [HNX.out]
          exact ⟨rfl, ⟨_, hB, (by apply blk_as; (case hh1 => with_reducible repeat (first | exact HK.out | apply blk_drewN | apply blk_drew | apply blk_alloc | apply blk_set)); (case hh2 => rfl)), (by with_reducible repeat (first | exact HO.out | refine row_set ?_ HNE.out _ | refine row_alloc ?_ _ | refine row_drew ?_ | refine row_drewN ?_ _)), HL.out⟩, (by with_reducible repeat (first | exact HBB.out | refine bel_set ?_ hB _ | refine below_drew ?_ | refine pw_below_drewN ?_ _ | refine bel_alloc ?_ hw _)), (by with_reducible repeat (first | exact HOT.out | refine oth_set ?_ _ | refine oth_alloc ?_ _ | refine oth_drew ?_ | refine oth_drewN ?_ _))⟩
        | false =>
          rw [hs] at d9
          have HS0 := Aside0.mk hs
          clear hs
          by_cases hf1 : σ1.from_ < 0
          · have tf1 : decide (σ1.from_ < 0) = true := decide_eq_true hf1
            have HNX : Aside0 (nextS σ text i r = finS (runeS σ1 i r) r) := ⟨by rw [nextS, ← HS1.out, midS, if_neg (by rw [HN0.out]; decide), if_neg (by rw [HS0.out]; decide), if_pos hf1]⟩
            clear hf1
            go_wp2_with fail
            refine (lex_rune.calls B b v1 σ1 i r _ (Nat.le_trans hw HBB.out.size) ⟨hB, HK.out, HO.out, HL.out⟩ hr0 hr1).mono ?_
            rintro e w3 ⟨rfl, hpost, hb3, ho3⟩
            have HPO := Aside0.mk hpost
            have HB3 := Aside0.mk (HBB.out.trans hb3)
            have HO3 := Aside0.mk (HOT.out.trans ho3)
            clear hpost hb3 ho3 HBB HOT HK HO HNE HL d1 d2 d3 d8 d9 d10 d11 f1 f2 f3 f8 f9 f10 f11
            obtain ⟨v3, hat3⟩ : ∃ v3, ScAt B b v3 (runeS σ1 i r) w3 := HPO.out
            obtain ⟨σ2, hσ2⟩ : ∃ σ2, σ2 = runeS σ1 i r := ⟨_, rfl⟩
            rw [← hσ2] at hat3 HNX
            have HNE := Aside0.mk hat3.ne
            obtain ⟨_, hbk, hown, hl3⟩ := hat3
            have d1 : w3.cell? ⟨b, 1, none⟩ = some (.int .i64 σ.line) := (blk_cell hbk 1).trans (by rw [hσ2]; exact congrArg (fun z => some (Value.int .i64 z)) ((runeS_at σ1 _ _).1.trans HL1.out))
            have d2 : w3.cell? ⟨b, 2, none⟩ = some (.int .i64 σ.col) := (blk_cell hbk 2).trans (by rw [hσ2]; exact congrArg (fun z => some (Value.int .i64 z)) ((runeS_at σ1 _ _).2.trans HC1.out))
            have f1 := blk_frozen hbk 1
            have f2 := blk_frozen hbk 2
            have hs1 : σ2.line = σ.line := by rw [hσ2]; exact (runeS_at σ1 _ _).1.trans HL1.out
            have hs2 : σ2.col = σ.col := by rw [hσ2]; exact (runeS_at σ1 _ _).2.trans HC1.out
            rw [finS_T HR.out, hs1] at HNX
            have HK := Aside0.mk hbk
            have HO := Aside0.mk hown
            have HL := Aside0.mk hl3
            have HBB := HB3
            have HOT := HO3
            clear hbk hown hl3 hσ2 hs1 hs2
            go_wp2_with fail
            go_end0
            rw [HNX.out]
            exact ⟨rfl, ⟨_, hB, (by apply blk_as; (case hh1 => with_reducible repeat (first | exact HK.out | apply blk_drewN | apply blk_drew | apply blk_alloc | apply blk_set)); (case hh2 => rfl)), (by with_reducible repeat (first | exact HO.out | refine row_set ?_ HNE.out _ | refine row_alloc ?_ _ | refine row_drew ?_ | refine row_drewN ?_ _)), HL.out⟩, (by with_reducible repeat (first | exact HBB.out | refine bel_set ?_ hB _ | refine below_drew ?_ | refine pw_below_drewN ?_ _ | refine bel_alloc ?_ hw _)), (by with_reducible repeat (first | exact HOT.out | refine oth_set ?_ _ | refine oth_alloc ?_ _ | refine oth_drew ?_ | refine oth_drewN ?_ _))⟩
          · have tf1 : decide (σ1.from_ < 0) = false := decide_eq_false hf1
            have HNX : Aside0 (nextS σ text i r = { σ1 with line := σ.line + 1, col := 1 }) := ⟨by rw [nextS, ← HS1.out, midS, if_neg (by rw [HN0.out]; decide), if_neg (by rw [HS0.out]; decide), if_neg hf1, finS_T HR.out, HL1.out]⟩
            clear hf1
            go_wp2_with fail
            go_end0
            rw [HNX.out]
            exact ⟨rfl, ⟨_, hB, (by apply blk_as; (case hh1 => with_reducible repeat (first | exact HK.out | apply blk_drewN | apply blk_drew | apply blk_alloc | apply blk_set)); (case hh2 => rfl)), (by with_reducible repeat (first | exact HO.out | refine row_set ?_ HNE.out _ | refine row_alloc ?_ _ | refine row_drew ?_ | refine row_drewN ?_ _)), HL.out⟩, (by with_reducible repeat (first | exact HBB.out | refine bel_set ?_ hB _ | refine below_drew ?_ | refine pw_below_drewN ?_ _ | refine bel_alloc ?_ hw _)), (by with_reducible repeat (first | exact HOT.out | refine oth_set ?_ _ | refine oth_alloc ?_ _ | refine oth_drew ?_ | refine oth_drewN ?_ _))⟩
  · have t10 : (r == 10) = false := beq_eq_false_iff_ne.mpr h10
    have tn10 : (r != 10) = true := bne_iff_ne.mpr h10
    have HR := Aside0.mk h10
    clear h10
    by_cases hf : 0 ≤ σ.from_
    · have tf : decide (0 ≤ σ.from_) = true := decide_eq_true hf
      cases hz : insideZ r with
      | true =>
        rw [hz] at HIN
        obtain ⟨σ1, hσ1⟩ : ∃ σ1, σ1 = σ := ⟨_, rfl⟩
        have HS1 : Aside0 (σ1 = preS σ text i r) := ⟨by rw [preS, hz, if_neg (by simp), hσ1]⟩
        have HL1 : Aside0 (σ1.line = σ.line) := ⟨by rw [hσ1]⟩
        have HC1 : Aside0 (σ1.col = σ.col) := ⟨by rw [hσ1]⟩
        clear hz
        go_enter Tryz.func32, Tryz.ntmps32
        go_wp2_with fail
        refine (ident_Inside.calls r true _ HIN.out).mono ?_
        rintro e w' ⟨rfl, ⟨nd, rfl⟩⟩
        obtain ⟨v1, hv1⟩ : ∃ v1, v1 = v := ⟨_, rfl⟩
        have hat1 : ScAt B b v1 σ1 (w.drewN nd) := by rw [hσ1, hv1]; exact HAT.out.below (pw_below_drewN (Below.refl _ _) _)
        have HBB := Aside0.mk (pw_below_drewN (Below.refl B w) nd)
        have HOT := Aside0.mk (oth_drewN (Lib.OthersKept.refl 90 (some b) w) nd)
        clear hσ1 hv1 d3
        have HNE := Aside0.mk hat1.ne
        obtain ⟨_, hbk, hown, hl4⟩ := hat1
        have d3 : (w.drewN nd).cell? ⟨b, 3, none⟩ = some (.int .i64 σ1.from_) := blk_cell hbk 3
        have f3 := blk_frozen hbk 3
        have d8 : (w.drewN nd).cell? ⟨b, 8, none⟩ = some (.bool σ1.note) := blk_cell hbk 8
        have f8 := blk_frozen hbk 8
        have d9 : (w.drewN nd).cell? ⟨b, 9, none⟩ = some (.bool σ1.slash) := blk_cell hbk 9
        have f9 := blk_frozen hbk 9
        have d10 : (w.drewN nd).cell? ⟨b, 10, none⟩ = some (.int .i64 σ1.bl) := blk_cell hbk 10
        have f10 := blk_frozen hbk 10
        have d11 : (w.drewN nd).cell? ⟨b, 11, none⟩ = some (.int .i64 σ1.bc) := blk_cell hbk 11
        have f11 := blk_frozen hbk 11
        have d1 : (w.drewN nd).cell? ⟨b, 1, none⟩ = some (.int .i64 σ.line) := (blk_cell hbk 1).trans (congrArg (fun z => some (Value.int .i64 z)) HL1.out)
        have d2 : (w.drewN nd).cell? ⟨b, 2, none⟩ = some (.int .i64 σ.col) := (blk_cell hbk 2).trans (congrArg (fun z => some (Value.int .i64 z)) HC1.out)
        have f1 := blk_frozen hbk 1
        have f2 := blk_frozen hbk 2
        have HK := Aside0.mk hbk
        have HO := Aside0.mk hown
        have HL := Aside0.mk hl4
        clear hbk hown hl4
        cases hn : σ1.note with
        | true =>
          have HNX : Aside0 (nextS σ text i r = { ({ σ1 with note := true } : Sc) with col := σ.col + 1 }) := ⟨by rw [nextS, ← HS1.out, midS, if_pos hn, finS_F HR.out, HC1.out, dec_F HR.out]⟩
          rw [hn] at d8
          clear hn
          go_wp2_with fail
          go_end0
          rw [HNX.out]
          exact ⟨rfl, ⟨_, hB, (by apply blk_as; (case hh1 => with_reducible repeat (first | exact HK.out | apply blk_drewN | apply blk_drew | apply blk_alloc | apply blk_set)); (case hh2 => rfl)), (by with_reducible repeat (first | exact HO.out | refine row_set ?_ HNE.out _ | refine row_alloc ?_ _ | refine row_drew ?_ | refine row_drewN ?_ _)), HL.out⟩, (by with_reducible repeat (first | exact HBB.out | refine bel_set ?_ hB _ | refine below_drew ?_ | refine pw_below_drewN ?_ _ | refine bel_alloc ?_ hw _)), (by with_reducible repeat (first | exact HOT.out | refine oth_set ?_ _ | refine oth_alloc ?_ _ | refine oth_drew ?_ | refine oth_drewN ?_ _))⟩
        | false =>
          rw [hn] at d8
          have HN0 := Aside0.mk hn
          clear hn
          cases hs : σ1.slash with
          | true =>
            rw [hs] at d9
            have HS0 := Aside0.mk hs
            clear hs
            by_cases h47 : r = 47
            · have t47 : (r == 47) = true := beq_iff_eq.mpr h47
              have HNX : Aside0 (nextS σ text i r = { ({ σ1 with note := true, slash := false } : Sc) with col := σ.col + 1 }) := ⟨by rw [nextS, ← HS1.out, midS, if_neg (by rw [HN0.out]; decide), if_pos HS0.out, if_pos h47, finS_F HR.out, HC1.out]⟩
              clear h47
              go_wp2_with fail
              go_end0
              rw [HNX.out]
              exact ⟨rfl, ⟨_, hB, (by apply blk_as; (case hh1 => with_reducible repeat (first | exact HK.out | apply blk_drewN | apply blk_drew | apply blk_alloc | apply blk_set)); (case hh2 => rfl)), (by with_reducible repeat (first | exact HO.out | refine row_set ?_ HNE.out _ | refine row_alloc ?_ _ | refine row_drew ?_ | refine row_drewN ?_ _)), HL.out⟩, (by with_reducible repeat (first | exact HBB.out | refine bel_set ?_ hB _ | refine below_drew ?_ | refine pw_below_drewN ?_ _ | refine bel_alloc ?_ hw _)), (by with_reducible repeat (first | exact HOT.out | refine oth_set ?_ _ | refine oth_alloc ?_ _ | refine oth_drew ?_ | refine oth_drewN ?_ _))⟩
            · have t47 : (r == 47) = false := beq_eq_false_iff_ne.mpr h47
              have HNX : Aside0 (nextS σ text i r = finS (failS σ1 6 σ1.bl σ1.bc) r) := ⟨by rw [nextS, ← HS1.out, midS, if_neg (by rw [HN0.out]; decide), if_pos HS0.out, if_neg h47]⟩
              clear h47
              go_wp2_with fail
              refine (lex_fail.calls B b v1 σ1 6 σ1.bl σ1.bc _ (Nat.le_trans hw HBB.out.size) ⟨hB, HK.out, HO.out, HL.out⟩).mono ?_
              rintro e w3 ⟨rfl, hpost, hb3, ho3⟩
              have HPO := Aside0.mk hpost
              have HB3 := Aside0.mk (HBB.out.trans hb3)
              have HO3 := Aside0.mk (HOT.out.trans ho3)
              clear hpost hb3 ho3 HBB HOT HK HO HNE HL d1 d2 d3 d8 d9 d10 d11 f1 f2 f3 f8 f9 f10 f11
              obtain ⟨v3, hat3⟩ : ∃ v3, ScAt B b v3 (failS σ1 6 σ1.bl σ1.bc) w3 := ⟨_, HPO.out⟩
              obtain ⟨σ2, hσ2⟩ : ∃ σ2, σ2 = failS σ1 6 σ1.bl σ1.bc := ⟨_, rfl⟩
              rw [← hσ2] at hat3 HNX
              have HNE := Aside0.mk hat3.ne
              obtain ⟨_, hbk, hown, hl3⟩ := hat3
              have d1 : w3.cell? ⟨b, 1, none⟩ = some (.int .i64 σ.line) := (blk_cell hbk 1).trans (by rw [hσ2]; exact congrArg (fun z => some (Value.int .i64 z)) ((failS_at σ1 _ _ _).1.trans HL1.out))
              have d2 : w3.cell? ⟨b, 2, none⟩ = some (.int .i64 σ.col) := (blk_cell hbk 2).trans (by rw [hσ2]; exact congrArg (fun z => some (Value.int .i64 z)) ((failS_at σ1 _ _ _).2.trans HC1.out))
              have f1 := blk_frozen hbk 1
              have f2 := blk_frozen hbk 2
              have hs1 : σ2.line = σ.line := by rw [hσ2]; exact (failS_at σ1 _ _ _).1.trans HL1.out
              have hs2 : σ2.col = σ.col := by rw [hσ2]; exact (failS_at σ1 _ _ _).2.trans HC1.out
              rw [finS_F HR.out, hs2] at HNX
              have HK := Aside0.mk hbk
              have HO := Aside0.mk hown
              have HL := Aside0.mk hl3
              have HBB := HB3
              have HOT := HO3
              clear hbk hown hl3 hσ2 hs1 hs2
              go_wp2_with fail
              go_end0
              rw [HNX.out]
              exact ⟨rfl, ⟨_, hB, (by apply blk_as; (case hh1 => with_reducible repeat (first | exact HK.out | apply blk_drewN | apply blk_drew | apply blk_alloc | apply blk_set)); (case hh2 => rfl)), (by with_reducible repeat (first | exact HO.out | refine row_set ?_ HNE.out _ | refine row_alloc ?_ _ | refine row_drew ?_ | refine row_drewN ?_ _)), HL.out⟩, (by with_reducible repeat (first | exact HBB.out | refine bel_set ?_ hB _ | refine below_drew ?_ | refine pw_below_drewN ?_ _ | refine bel_alloc ?_ hw _)), (by with_reducible repeat (first | exact HOT.out | refine oth_set ?_ _ | refine oth_alloc ?_ _ | refine oth_drew ?_ | refine oth_drewN ?_ _))⟩
          | false =>
            rw [hs] at d9
            have HS0 := Aside0.mk hs
            clear hs
            by_cases hf1 : σ1.from_ < 0
            · have tf1 : decide (σ1.from_ < 0) = true := decide_eq_true hf1
              have HNX : Aside0 (nextS σ text i r = finS (runeS σ1 i r) r) := ⟨by rw [nextS, ← HS1.out, midS, if_neg (by rw [HN0.out]; decide), if_neg (by rw [HS0.out]; decide), if_pos hf1]⟩
              clear hf1
              go_wp2_with fail
              refine (lex_rune.calls B b v1 σ1 i r _ (Nat.le_trans hw HBB.out.size) ⟨hB, HK.out, HO.out, HL.out⟩ hr0 hr1).mono ?_
              rintro e w3 ⟨rfl, hpost, hb3, ho3⟩
              have HPO := Aside0.mk hpost
              have HB3 := Aside0.mk (HBB.out.trans hb3)
              have HO3 := Aside0.mk (HOT.out.trans ho3)
              clear hpost hb3 ho3 HBB HOT HK HO HNE HL d1 d2 d3 d8 d9 d10 d11 f1 f2 f3 f8 f9 f10 f11
              obtain ⟨v3, hat3⟩ : ∃ v3, ScAt B b v3 (runeS σ1 i r) w3 := HPO.out
              obtain ⟨σ2, hσ2⟩ : ∃ σ2, σ2 = runeS σ1 i r := ⟨_, rfl⟩
              rw [← hσ2] at hat3 HNX
              have HNE := Aside0.mk hat3.ne
              obtain ⟨_, hbk, hown, hl3⟩ := hat3
              have d1 : w3.cell? ⟨b, 1, none⟩ = some (.int .i64 σ.line) := (blk_cell hbk 1).trans (by rw [hσ2]; exact congrArg (fun z => some (Value.int .i64 z)) ((runeS_at σ1 _ _).1.trans HL1.out))
              have d2 : w3.cell? ⟨b, 2, none⟩ = some (.int .i64 σ.col) := (blk_cell hbk 2).trans (by rw [hσ2]; exact congrArg (fun z => some (Value.int .i64 z)) ((runeS_at σ1 _ _).2.trans HC1.out))
              have f1 := blk_frozen hbk 1
              have f2 := blk_frozen hbk 2
              have hs1 : σ2.line = σ.line := by rw [hσ2]; exact (runeS_at σ1 _ _).1.trans HL1.out
              have hs2 : σ2.col = σ.col := by rw [hσ2]; exact (runeS_at σ1 _ _).2.trans HC1.out
              rw [finS_F HR.out, hs2] at HNX
              have HK := Aside0.mk hbk
              have HO := Aside0.mk hown
              have HL := Aside0.mk hl3
              have HBB := HB3
              have HOT := HO3
              clear hbk hown hl3 hσ2 hs1 hs2
              go_wp2_with fail
              go_end0
              rw [HNX.out]
              exact ⟨rfl, ⟨_, hB, (by apply blk_as; (case hh1 => with_reducible repeat (first | exact HK.out | apply blk_drewN | apply blk_drew | apply blk_alloc | apply blk_set)); (case hh2 => rfl)), (by with_reducible repeat (first | exact HO.out | refine row_set ?_ HNE.out _ | refine row_alloc ?_ _ | refine row_drew ?_ | refine row_drewN ?_ _)), HL.out⟩, (by with_reducible repeat (first | exact HBB.out | refine bel_set ?_ hB _ | refine below_drew ?_ | refine pw_below_drewN ?_ _ | refine bel_alloc ?_ hw _)), (by with_reducible repeat (first | exact HOT.out | refine oth_set ?_ _ | refine oth_alloc ?_ _ | refine oth_drew ?_ | refine oth_drewN ?_ _))⟩
            · have tf1 : decide (σ1.from_ < 0) = false := decide_eq_false hf1
              have HNX : Aside0 (nextS σ text i r = { σ1 with col := σ.col + 1 }) := ⟨by rw [nextS, ← HS1.out, midS, if_neg (by rw [HN0.out]; decide), if_neg (by rw [HS0.out]; decide), if_neg hf1, finS_F HR.out, HC1.out]⟩
              clear hf1
              go_wp2_with fail
              go_end0
              rw [HNX.out]
              exact ⟨rfl, ⟨_, hB, (by apply blk_as; (case hh1 => with_reducible repeat (first | exact HK.out | apply blk_drewN | apply blk_drew | apply blk_alloc | apply blk_set)); (case hh2 => rfl)), (by with_reducible repeat (first | exact HO.out | refine row_set ?_ HNE.out _ | refine row_alloc ?_ _ | refine row_drew ?_ | refine row_drewN ?_ _)), HL.out⟩, (by with_reducible repeat (first | exact HBB.out | refine bel_set ?_ hB _ | refine below_drew ?_ | refine pw_below_drewN ?_ _ | refine bel_alloc ?_ hw _)), (by with_reducible repeat (first | exact HOT.out | refine oth_set ?_ _ | refine oth_alloc ?_ _ | refine oth_drew ?_ | refine oth_drewN ?_ _))⟩
      | false =>
        rw [hz] at HIN
        have HS1' : Aside0 (preS σ text i r = shutS σ text i) := ⟨by rw [preS, hz, if_pos ⟨hf, rfl⟩]⟩
        clear hz
        go_enter Tryz.func32, Tryz.ntmps32
        go_wp2_with fail
        refine (ident_Inside.calls r false _ HIN.out).mono ?_
        rintro e w' ⟨rfl, ⟨nd, rfl⟩⟩
        go_wp2_with fail
        refine (lex_shut.calls w0 HT.out b v σ text i _ (by rw [← HBE.out]; exact pw_below_drewN H0.out _) (by rw [← HBE.out]; exact HAT.out.below (pw_below_drewN (Below.refl _ _) _)) hi hfi hts).mono ?_
        rintro e w1 ⟨rfl, ⟨v1, hat0⟩, hb1, ho1⟩
        rw [← HBE.out] at hat0 hb1
        obtain ⟨σ1, hσ1⟩ : ∃ σ1, σ1 = shutS σ text i := ⟨_, rfl⟩
        rw [← hσ1] at hat0
        have HS1 : Aside0 (σ1 = preS σ text i r) := ⟨by rw [HS1'.out, hσ1]⟩
        have HL1 : Aside0 (σ1.line = σ.line) := ⟨by rw [hσ1]; exact (shutS_at σ text i).1⟩
        have HC1 : Aside0 (σ1.col = σ.col) := ⟨by rw [hσ1]; exact (shutS_at σ text i).2⟩
        have hat1 := hat0
        have HBB := Aside0.mk ((pw_below_drewN (Below.refl B w) nd).trans hb1)
        have HOT := Aside0.mk ((oth_drewN (Lib.OthersKept.refl 90 (some b) w) nd).trans ho1)
        clear hσ1 hat0 hb1 ho1 d3
        have HNE := Aside0.mk hat1.ne
        obtain ⟨_, hbk, hown, hl4⟩ := hat1
        have d3 : w1.cell? ⟨b, 3, none⟩ = some (.int .i64 σ1.from_) := blk_cell hbk 3
        have f3 := blk_frozen hbk 3
        have d8 : w1.cell? ⟨b, 8, none⟩ = some (.bool σ1.note) := blk_cell hbk 8
        have f8 := blk_frozen hbk 8
        have d9 : w1.cell? ⟨b, 9, none⟩ = some (.bool σ1.slash) := blk_cell hbk 9
        have f9 := blk_frozen hbk 9
        have d10 : w1.cell? ⟨b, 10, none⟩ = some (.int .i64 σ1.bl) := blk_cell hbk 10
        have f10 := blk_frozen hbk 10
        have d11 : w1.cell? ⟨b, 11, none⟩ = some (.int .i64 σ1.bc) := blk_cell hbk 11
        have f11 := blk_frozen hbk 11
        have d1 : w1.cell? ⟨b, 1, none⟩ = some (.int .i64 σ.line) := (blk_cell hbk 1).trans (congrArg (fun z => some (Value.int .i64 z)) HL1.out)
        have d2 : w1.cell? ⟨b, 2, none⟩ = some (.int .i64 σ.col) := (blk_cell hbk 2).trans (congrArg (fun z => some (Value.int .i64 z)) HC1.out)
        have f1 := blk_frozen hbk 1
        have f2 := blk_frozen hbk 2
        have HK := Aside0.mk hbk
        have HO := Aside0.mk hown
        have HL := Aside0.mk hl4
        clear hbk hown hl4
        cases hn : σ1.note with
        | true =>
          have HNX : Aside0 (nextS σ text i r = { ({ σ1 with note := true } : Sc) with col := σ.col + 1 }) := ⟨by rw [nextS, ← HS1.out, midS, if_pos hn, finS_F HR.out, HC1.out, dec_F HR.out]⟩
          rw [hn] at d8
          clear hn
          go_wp2_with fail
          go_end0
          rw [HNX.out]
          exact ⟨rfl, ⟨_, hB, (by apply blk_as; (case hh1 => with_reducible repeat (first | exact HK.out | apply blk_drewN | apply blk_drew | apply blk_alloc | apply blk_set)); (case hh2 => rfl)), (by with_reducible repeat (first | exact HO.out | refine row_set ?_ HNE.out _ | refine row_alloc ?_ _ | refine row_drew ?_ | refine row_drewN ?_ _)), HL.out⟩, (by with_reducible repeat (first | exact HBB.out | refine bel_set ?_ hB _ | refine below_drew ?_ | refine pw_below_drewN ?_ _ | refine bel_alloc ?_ hw _)), (by with_reducible repeat (first | exact HOT.out | refine oth_set ?_ _ | refine oth_alloc ?_ _ | refine oth_drew ?_ | refine oth_drewN ?_ _))⟩
        | false =>
          rw [hn] at d8
          have HN0 := Aside0.mk hn
          clear hn
          cases hs : σ1.slash with
          | true =>
            rw [hs] at d9
            have HS0 := Aside0.mk hs
            clear hs
            by_cases h47 : r = 47
            · have t47 : (r == 47) = true := beq_iff_eq.mpr h47
              have HNX : Aside0 (nextS σ text i r = { ({ σ1 with note := true, slash := false } : Sc) with col := σ.col + 1 }) := ⟨by rw [nextS, ← HS1.out, midS, if_neg (by rw [HN0.out]; decide), if_pos HS0.out, if_pos h47, finS_F HR.out, HC1.out]⟩
              clear h47
              go_wp2_with fail
              go_end0
              rw [HNX.out]
              exact ⟨rfl, ⟨_, hB, (by apply blk_as; (case hh1 => with_reducible repeat (first | exact HK.out | apply blk_drewN | apply blk_drew | apply blk_alloc | apply blk_set)); (case hh2 => rfl)), (by with_reducible repeat (first | exact HO.out | refine row_set ?_ HNE.out _ | refine row_alloc ?_ _ | refine row_drew ?_ | refine row_drewN ?_ _)), HL.out⟩, (by with_reducible repeat (first | exact HBB.out | refine bel_set ?_ hB _ | refine below_drew ?_ | refine pw_below_drewN ?_ _ | refine bel_alloc ?_ hw _)), (by with_reducible repeat (first | exact HOT.out | refine oth_set ?_ _ | refine oth_alloc ?_ _ | refine oth_drew ?_ | refine oth_drewN ?_ _))⟩
            · have t47 : (r == 47) = false := beq_eq_false_iff_ne.mpr h47
              have HNX : Aside0 (nextS σ text i r = finS (failS σ1 6 σ1.bl σ1.bc) r) := ⟨by rw [nextS, ← HS1.out, midS, if_neg (by rw [HN0.out]; decide), if_pos HS0.out, if_neg h47]⟩
              clear h47
              go_wp2_with fail
              refine (lex_fail.calls B b v1 σ1 6 σ1.bl σ1.bc _ (Nat.le_trans hw HBB.out.size) ⟨hB, HK.out, HO.out, HL.out⟩).mono ?_
              rintro e w3 ⟨rfl, hpost, hb3, ho3⟩
              have HPO := Aside0.mk hpost
              have HB3 := Aside0.mk (HBB.out.trans hb3)
              have HO3 := Aside0.mk (HOT.out.trans ho3)
              clear hpost hb3 ho3 HBB HOT HK HO HNE HL d1 d2 d3 d8 d9 d10 d11 f1 f2 f3 f8 f9 f10 f11
              obtain ⟨v3, hat3⟩ : ∃ v3, ScAt B b v3 (failS σ1 6 σ1.bl σ1.bc) w3 := ⟨_, HPO.out⟩
              obtain ⟨σ2, hσ2⟩ : ∃ σ2, σ2 = failS σ1 6 σ1.bl σ1.bc := ⟨_, rfl⟩
              rw [← hσ2] at hat3 HNX
              have HNE := Aside0.mk hat3.ne
              obtain ⟨_, hbk, hown, hl3⟩ := hat3
              have d1 : w3.cell? ⟨b, 1, none⟩ = some (.int .i64 σ.line) := (blk_cell hbk 1).trans (by rw [hσ2]; exact congrArg (fun z => some (Value.int .i64 z)) ((failS_at σ1 _ _ _).1.trans HL1.out))
              have d2 : w3.cell? ⟨b, 2, none⟩ = some (.int .i64 σ.col) := (blk_cell hbk 2).trans (by rw [hσ2]; exact congrArg (fun z => some (Value.int .i64 z)) ((failS_at σ1 _ _ _).2.trans HC1.out))
              have f1 := blk_frozen hbk 1
              have f2 := blk_frozen hbk 2
              have hs1 : σ2.line = σ.line := by rw [hσ2]; exact (failS_at σ1 _ _ _).1.trans HL1.out
              have hs2 : σ2.col = σ.col := by rw [hσ2]; exact (failS_at σ1 _ _ _).2.trans HC1.out
              rw [finS_F HR.out, hs2] at HNX
              have HK := Aside0.mk hbk
              have HO := Aside0.mk hown
              have HL := Aside0.mk hl3
              have HBB := HB3
              have HOT := HO3
              clear hbk hown hl3 hσ2 hs1 hs2
              go_wp2_with fail
              go_end0
              rw [HNX.out]
              exact ⟨rfl, ⟨_, hB, (by apply blk_as; (case hh1 => with_reducible repeat (first | exact HK.out | apply blk_drewN | apply blk_drew | apply blk_alloc | apply blk_set)); (case hh2 => rfl)), (by with_reducible repeat (first | exact HO.out | refine row_set ?_ HNE.out _ | refine row_alloc ?_ _ | refine row_drew ?_ | refine row_drewN ?_ _)), HL.out⟩, (by with_reducible repeat (first | exact HBB.out | refine bel_set ?_ hB _ | refine below_drew ?_ | refine pw_below_drewN ?_ _ | refine bel_alloc ?_ hw _)), (by with_reducible repeat (first | exact HOT.out | refine oth_set ?_ _ | refine oth_alloc ?_ _ | refine oth_drew ?_ | refine oth_drewN ?_ _))⟩
          | false =>
            rw [hs] at d9
            have HS0 := Aside0.mk hs
            clear hs
            by_cases hf1 : σ1.from_ < 0
            · have tf1 : decide (σ1.from_ < 0) = true := decide_eq_true hf1
              have HNX : Aside0 (nextS σ text i r = finS (runeS σ1 i r) r) := ⟨by rw [nextS, ← HS1.out, midS, if_neg (by rw [HN0.out]; decide), if_neg (by rw [HS0.out]; decide), if_pos hf1]⟩
              clear hf1
              go_wp2_with fail
              refine (lex_rune.calls B b v1 σ1 i r _ (Nat.le_trans hw HBB.out.size) ⟨hB, HK.out, HO.out, HL.out⟩ hr0 hr1).mono ?_
              rintro e w3 ⟨rfl, hpost, hb3, ho3⟩
              have HPO := Aside0.mk hpost
              have HB3 := Aside0.mk (HBB.out.trans hb3)
              have HO3 := Aside0.mk (HOT.out.trans ho3)
              clear hpost hb3 ho3 HBB HOT HK HO HNE HL d1 d2 d3 d8 d9 d10 d11 f1 f2 f3 f8 f9 f10 f11
              obtain ⟨v3, hat3⟩ : ∃ v3, ScAt B b v3 (runeS σ1 i r) w3 := HPO.out
              obtain ⟨σ2, hσ2⟩ : ∃ σ2, σ2 = runeS σ1 i r := ⟨_, rfl⟩
              rw [← hσ2] at hat3 HNX
              have HNE := Aside0.mk hat3.ne
              obtain ⟨_, hbk, hown, hl3⟩ := hat3
              have d1 : w3.cell? ⟨b, 1, none⟩ = some (.int .i64 σ.line) := (blk_cell hbk 1).trans (by rw [hσ2]; exact congrArg (fun z => some (Value.int .i64 z)) ((runeS_at σ1 _ _).1.trans HL1.out))
              have d2 : w3.cell? ⟨b, 2, none⟩ = some (.int .i64 σ.col) := (blk_cell hbk 2).trans (by rw [hσ2]; exact congrArg (fun z => some (Value.int .i64 z)) ((runeS_at σ1 _ _).2.trans HC1.out))
              have f1 := blk_frozen hbk 1
              have f2 := blk_frozen hbk 2
              have hs1 : σ2.line = σ.line := by rw [hσ2]; exact (runeS_at σ1 _ _).1.trans HL1.out
              have hs2 : σ2.col = σ.col := by rw [hσ2]; exact (runeS_at σ1 _ _).2.trans HC1.out
              rw [finS_F HR.out, hs2] at HNX
              have HK := Aside0.mk hbk
              have HO := Aside0.mk hown
              have HL := Aside0.mk hl3
              have HBB := HB3
              have HOT := HO3
              clear hbk hown hl3 hσ2 hs1 hs2
              go_wp2_with fail
              go_end0
              rw [HNX.out]
              exact ⟨rfl, ⟨_, hB, (by apply blk_as; (case hh1 => with_reducible repeat (first | exact HK.out | apply blk_drewN | apply blk_drew | apply blk_alloc | apply blk_set)); (case hh2 => rfl)), (by with_reducible repeat (first | exact HO.out | refine row_set ?_ HNE.out _ | refine row_alloc ?_ _ | refine row_drew ?_ | refine row_drewN ?_ _)), HL.out⟩, (by with_reducible repeat (first | exact HBB.out | refine bel_set ?_ hB _ | refine below_drew ?_ | refine pw_below_drewN ?_ _ | refine bel_alloc ?_ hw _)), (by with_reducible repeat (first | exact HOT.out | refine oth_set ?_ _ | refine oth_alloc ?_ _ | refine oth_drew ?_ | refine oth_drewN ?_ _))⟩
            · have tf1 : decide (σ1.from_ < 0) = false := decide_eq_false hf1
              have HNX : Aside0 (nextS σ text i r = { σ1 with col := σ.col + 1 }) := ⟨by rw [nextS, ← HS1.out, midS, if_neg (by rw [HN0.out]; decide), if_neg (by rw [HS0.out]; decide), if_neg hf1, finS_F HR.out, HC1.out]⟩
              clear hf1
              go_wp2_with fail
              go_end0
              rw [HNX.out]
              exact ⟨rfl, ⟨_, hB, (by apply blk_as; (case hh1 => with_reducible repeat (first | exact HK.out | apply blk_drewN | apply blk_drew | apply blk_alloc | apply blk_set)); (case hh2 => rfl)), (by with_reducible repeat (first | exact HO.out | refine row_set ?_ HNE.out _ | refine row_alloc ?_ _ | refine row_drew ?_ | refine row_drewN ?_ _)), HL.out⟩, (by with_reducible repeat (first | exact HBB.out | refine bel_set ?_ hB _ | refine below_drew ?_ | refine pw_below_drewN ?_ _ | refine bel_alloc ?_ hw _)), (by with_reducible repeat (first | exact HOT.out | refine oth_set ?_ _ | refine oth_alloc ?_ _ | refine oth_drew ?_ | refine oth_drewN ?_ _))⟩
    · have tf : decide (0 ≤ σ.from_) = false := decide_eq_false hf
      obtain ⟨σ1, hσ1⟩ : ∃ σ1, σ1 = σ := ⟨_, rfl⟩
      have HS1 : Aside0 (σ1 = preS σ text i r) := ⟨by rw [preS, if_neg (fun h => hf h.1), hσ1]⟩
      have HL1 : Aside0 (σ1.line = σ.line) := ⟨by rw [hσ1]⟩
      have HC1 : Aside0 (σ1.col = σ.col) := ⟨by rw [hσ1]⟩
      obtain ⟨v1, hv1⟩ : ∃ v1, v1 = v := ⟨_, rfl⟩
      have hat1 : ScAt B b v1 σ1 w := by rw [hσ1, hv1]; exact HAT.out
      have d3' : w.cell? ⟨b, 3, none⟩ = some (.int .i64 σ1.from_) := by rw [hσ1]; exact d3
      have tf' : decide (0 ≤ σ1.from_) = false := by rw [hσ1]; exact tf
      have HBB := Aside0.mk (Below.refl B w)
      have HOT := Aside0.mk (Lib.OthersKept.refl 90 (some b) w)
      clear hσ1 hv1 d3 d3' tf
      have HNE := Aside0.mk hat1.ne
      obtain ⟨_, hbk, hown, hl4⟩ := hat1
      have d3 : w.cell? ⟨b, 3, none⟩ = some (.int .i64 σ1.from_) := blk_cell hbk 3
      have f3 := blk_frozen hbk 3
      have d8 : w.cell? ⟨b, 8, none⟩ = some (.bool σ1.note) := blk_cell hbk 8
      have f8 := blk_frozen hbk 8
      have d9 : w.cell? ⟨b, 9, none⟩ = some (.bool σ1.slash) := blk_cell hbk 9
      have f9 := blk_frozen hbk 9
      have d10 : w.cell? ⟨b, 10, none⟩ = some (.int .i64 σ1.bl) := blk_cell hbk 10
      have f10 := blk_frozen hbk 10
      have d11 : w.cell? ⟨b, 11, none⟩ = some (.int .i64 σ1.bc) := blk_cell hbk 11
      have f11 := blk_frozen hbk 11
      have d1 : w.cell? ⟨b, 1, none⟩ = some (.int .i64 σ.line) := (blk_cell hbk 1).trans (congrArg (fun z => some (Value.int .i64 z)) HL1.out)
      have d2 : w.cell? ⟨b, 2, none⟩ = some (.int .i64 σ.col) := (blk_cell hbk 2).trans (congrArg (fun z => some (Value.int .i64 z)) HC1.out)
      have f1 := blk_frozen hbk 1
      have f2 := blk_frozen hbk 2
      have HK := Aside0.mk hbk
      have HO := Aside0.mk hown
      have HL := Aside0.mk hl4
      clear hbk hown hl4
      go_enter Tryz.func32, Tryz.ntmps32
      cases hn : σ1.note with
      | true =>
        have HNX : Aside0 (nextS σ text i r = { ({ σ1 with note := true } : Sc) with col := σ.col + 1 }) := ⟨by rw [nextS, ← HS1.out, midS, if_pos hn, finS_F HR.out, HC1.out, dec_F HR.out]⟩
        rw [hn] at d8
        clear hn
        go_wp2_with fail
        go_end0
        rw [HNX.out]
        exact ⟨rfl, ⟨_, hB, (by apply blk_as; (case hh1 => with_reducible repeat (first | exact HK.out | apply blk_drewN | apply blk_drew | apply blk_alloc | apply blk_set)); (case hh2 => rfl)), (by with_reducible repeat (first | exact HO.out | refine row_set ?_ HNE.out _ | refine row_alloc ?_ _ | refine row_drew ?_ | refine row_drewN ?_ _)), HL.out⟩, (by with_reducible repeat (first | exact HBB.out | refine bel_set ?_ hB _ | refine below_drew ?_ | refine pw_below_drewN ?_ _ | refine bel_alloc ?_ hw _)), (by with_reducible repeat (first | exact HOT.out | refine oth_set ?_ _ | refine oth_alloc ?_ _ | refine oth_drew ?_ | refine oth_drewN ?_ _))⟩
      | false =>
        rw [hn] at d8
        have HN0 := Aside0.mk hn
        clear hn
        cases hs : σ1.slash with
        | true =>
          rw [hs] at d9
          have HS0 := Aside0.mk hs
          clear hs
          by_cases h47 : r = 47
          · have t47 : (r == 47) = true := beq_iff_eq.mpr h47
            have HNX : Aside0 (nextS σ text i r = { ({ σ1 with note := true, slash := false } : Sc) with col := σ.col + 1 }) := ⟨by rw [nextS, ← HS1.out, midS, if_neg (by rw [HN0.out]; decide), if_pos HS0.out, if_pos h47, finS_F HR.out, HC1.out]⟩
            clear h47
            go_wp2_with fail
            go_end0
            rw [HNX.out]
            exact ⟨rfl, ⟨_, hB, (by apply blk_as; (case hh1 => with_reducible repeat (first | exact HK.out | apply blk_drewN | apply blk_drew | apply blk_alloc | apply blk_set)); (case hh2 => rfl)), (by with_reducible repeat (first | exact HO.out | refine row_set ?_ HNE.out _ | refine row_alloc ?_ _ | refine row_drew ?_ | refine row_drewN ?_ _)), HL.out⟩, (by with_reducible repeat (first | exact HBB.out | refine bel_set ?_ hB _ | refine below_drew ?_ | refine pw_below_drewN ?_ _ | refine bel_alloc ?_ hw _)), (by with_reducible repeat (first | exact HOT.out | refine oth_set ?_ _ | refine oth_alloc ?_ _ | refine oth_drew ?_ | refine oth_drewN ?_ _))⟩
          · have t47 : (r == 47) = false := beq_eq_false_iff_ne.mpr h47
            have HNX : Aside0 (nextS σ text i r = finS (failS σ1 6 σ1.bl σ1.bc) r) := ⟨by rw [nextS, ← HS1.out, midS, if_neg (by rw [HN0.out]; decide), if_pos HS0.out, if_neg h47]⟩
            clear h47
            go_wp2_with fail
            refine (lex_fail.calls B b v1 σ1 6 σ1.bl σ1.bc _ (Nat.le_trans hw HBB.out.size) ⟨hB, HK.out, HO.out, HL.out⟩).mono ?_
            rintro e w3 ⟨rfl, hpost, hb3, ho3⟩
            have HPO := Aside0.mk hpost
            have HB3 := Aside0.mk (HBB.out.trans hb3)
            have HO3 := Aside0.mk (HOT.out.trans ho3)
            clear hpost hb3 ho3 HBB HOT HK HO HNE HL d1 d2 d3 d8 d9 d10 d11 f1 f2 f3 f8 f9 f10 f11
            obtain ⟨v3, hat3⟩ : ∃ v3, ScAt B b v3 (failS σ1 6 σ1.bl σ1.bc) w3 := ⟨_, HPO.out⟩
            obtain ⟨σ2, hσ2⟩ : ∃ σ2, σ2 = failS σ1 6 σ1.bl σ1.bc := ⟨_, rfl⟩
            rw [← hσ2] at hat3 HNX
            have HNE := Aside0.mk hat3.ne
            obtain ⟨_, hbk, hown, hl3⟩ := hat3
            have d1 : w3.cell? ⟨b, 1, none⟩ = some (.int .i64 σ.line) := (blk_cell hbk 1).trans (by rw [hσ2]; exact congrArg (fun z => some (Value.int .i64 z)) ((failS_at σ1 _ _ _).1.trans HL1.out))
            have d2 : w3.cell? ⟨b, 2, none⟩ = some (.int .i64 σ.col) := (blk_cell hbk 2).trans (by rw [hσ2]; exact congrArg (fun z => some (Value.int .i64 z)) ((failS_at σ1 _ _ _).2.trans HC1.out))
            have f1 := blk_frozen hbk 1
            have f2 := blk_frozen hbk 2
            have hs1 : σ2.line = σ.line := by rw [hσ2]; exact (failS_at σ1 _ _ _).1.trans HL1.out
            have hs2 : σ2.col = σ.col := by rw [hσ2]; exact (failS_at σ1 _ _ _).2.trans HC1.out
            rw [finS_F HR.out, hs2] at HNX
            have HK := Aside0.mk hbk
            have HO := Aside0.mk hown
            have HL := Aside0.mk hl3
            have HBB := HB3
            have HOT := HO3
            clear hbk hown hl3 hσ2 hs1 hs2
            go_wp2_with fail
            go_end0
            rw [HNX.out]
            exact ⟨rfl, ⟨_, hB, (by apply blk_as; (case hh1 => with_reducible repeat (first | exact HK.out | apply blk_drewN | apply blk_drew | apply blk_alloc | apply blk_set)); (case hh2 => rfl)), (by with_reducible repeat (first | exact HO.out | refine row_set ?_ HNE.out _ | refine row_alloc ?_ _ | refine row_drew ?_ | refine row_drewN ?_ _)), HL.out⟩, (by with_reducible repeat (first | exact HBB.out | refine bel_set ?_ hB _ | refine below_drew ?_ | refine pw_below_drewN ?_ _ | refine bel_alloc ?_ hw _)), (by with_reducible repeat (first | exact HOT.out | refine oth_set ?_ _ | refine oth_alloc ?_ _ | refine oth_drew ?_ | refine oth_drewN ?_ _))⟩
        | false =>
          rw [hs] at d9
          have HS0 := Aside0.mk hs
          clear hs
          by_cases hf1 : σ1.from_ < 0
          · have tf1 : decide (σ1.from_ < 0) = true := decide_eq_true hf1
            have HNX : Aside0 (nextS σ text i r = finS (runeS σ1 i r) r) := ⟨by rw [nextS, ← HS1.out, midS, if_neg (by rw [HN0.out]; decide), if_neg (by rw [HS0.out]; decide), if_pos hf1]⟩
            clear hf1
            go_wp2_with fail
            refine (lex_rune.calls B b v1 σ1 i r _ (Nat.le_trans hw HBB.out.size) ⟨hB, HK.out, HO.out, HL.out⟩ hr0 hr1).mono ?_
            rintro e w3 ⟨rfl, hpost, hb3, ho3⟩
            have HPO := Aside0.mk hpost
            have HB3 := Aside0.mk (HBB.out.trans hb3)
            have HO3 := Aside0.mk (HOT.out.trans ho3)
            clear hpost hb3 ho3 HBB HOT HK HO HNE HL d1 d2 d3 d8 d9 d10 d11 f1 f2 f3 f8 f9 f10 f11
            obtain ⟨v3, hat3⟩ : ∃ v3, ScAt B b v3 (runeS σ1 i r) w3 := HPO.out
            obtain ⟨σ2, hσ2⟩ : ∃ σ2, σ2 = runeS σ1 i r := ⟨_, rfl⟩
            rw [← hσ2] at hat3 HNX
            have HNE := Aside0.mk hat3.ne
            obtain ⟨_, hbk, hown, hl3⟩ := hat3
            have d1 : w3.cell? ⟨b, 1, none⟩ = some (.int .i64 σ.line) := (blk_cell hbk 1).trans (by rw [hσ2]; exact congrArg (fun z => some (Value.int .i64 z)) ((runeS_at σ1 _ _).1.trans HL1.out))
            have d2 : w3.cell? ⟨b, 2, none⟩ = some (.int .i64 σ.col) := (blk_cell hbk 2).trans (by rw [hσ2]; exact congrArg (fun z => some (Value.int .i64 z)) ((runeS_at σ1 _ _).2.trans HC1.out))
            have f1 := blk_frozen hbk 1
            have f2 := blk_frozen hbk 2
            have hs1 : σ2.line = σ.line := by rw [hσ2]; exact (runeS_at σ1 _ _).1.trans HL1.out
            have hs2 : σ2.col = σ.col := by rw [hσ2]; exact (runeS_at σ1 _ _).2.trans HC1.out
            rw [finS_F HR.out, hs2] at HNX
            have HK := Aside0.mk hbk
            have HO := Aside0.mk hown
            have HL := Aside0.mk hl3
            have HBB := HB3
            have HOT := HO3
            clear hbk hown hl3 hσ2 hs1 hs2
            go_wp2_with fail
            go_end0
            rw [HNX.out]
            exact ⟨rfl, ⟨_, hB, (by apply blk_as; (case hh1 => with_reducible repeat (first | exact HK.out | apply blk_drewN | apply blk_drew | apply blk_alloc | apply blk_set)); (case hh2 => rfl)), (by with_reducible repeat (first | exact HO.out | refine row_set ?_ HNE.out _ | refine row_alloc ?_ _ | refine row_drew ?_ | refine row_drewN ?_ _)), HL.out⟩, (by with_reducible repeat (first | exact HBB.out | refine bel_set ?_ hB _ | refine below_drew ?_ | refine pw_below_drewN ?_ _ | refine bel_alloc ?_ hw _)), (by with_reducible repeat (first | exact HOT.out | refine oth_set ?_ _ | refine oth_alloc ?_ _ | refine oth_drew ?_ | refine oth_drewN ?_ _))⟩
          · have tf1 : decide (σ1.from_ < 0) = false := decide_eq_false hf1
            have HNX : Aside0 (nextS σ text i r = { σ1 with col := σ.col + 1 }) := ⟨by rw [nextS, ← HS1.out, midS, if_neg (by rw [HN0.out]; decide), if_neg (by rw [HS0.out]; decide), if_neg hf1, finS_F HR.out, HC1.out]⟩
            clear hf1
            go_wp2_with fail
            go_end0
            rw [HNX.out]
            exact ⟨rfl, ⟨_, hB, (by apply blk_as; (case hh1 => with_reducible repeat (first | exact HK.out | apply blk_drewN | apply blk_drew | apply blk_alloc | apply blk_set)); (case hh2 => rfl)), (by with_reducible repeat (first | exact HO.out | refine row_set ?_ HNE.out _ | refine row_alloc ?_ _ | refine row_drew ?_ | refine row_drewN ?_ _)), HL.out⟩, (by with_reducible repeat (first | exact HBB.out | refine bel_set ?_ hB _ | refine below_drew ?_ | refine pw_below_drewN ?_ _ | refine bel_alloc ?_ hw _)), (by with_reducible repeat (first | exact HOT.out | refine oth_set ?_ _ | refine oth_alloc ?_ _ | refine oth_drew ?_ | refine oth_drewN ?_ _))⟩
end Go.Proofs.YtknbhbppofphpaaGreatDoor.X
