/- lex's right: is an open word one? The tables and variables of the library as they are laid. -/
import Derived.Test.YthnnleibngbclaaDoorLexState
import Derived.Test.YthnnleibngbclaaDoorFormatUint
import Derived.Deep.RegionHeld3
import Derived.Deep.QuietTactic
import Derived.BigQuiet
set_option linter.unusedVariables false
set_option linter.unusedSimpArgs false
namespace Go.Proofs.YthnnleibngbclaaDoor.X
open Go.RowKit Go.Shelf Go.Proofs.YthnnleibngbclaaDoorW.PrintWords Go.Proofs.YthnnleibngbclaaDoorW.PrintLast Go.Proofs.YthnnleibngbclaaDoorW.PrintMore
/-- What the library's variables hold. -/
structure LexTabs (w : World) : Prop where
  pow : Lib.TabIs Tryd.prog w "internal/strconv.uint64pow10" .u64 Lib.pow10Tab
  syn : ∃ t p, w.cell? ⟨3, 0, none⟩ = some (.iface t p)
  rng : ∃ t p, w.cell? ⟨4, 0, none⟩ = some (.iface t p)
theorem tabIs_below {w w' : World} {name : String} {k : IntKind} {zs : List Int} (h : Lib.TabIs Tryd.prog w name k zs) (hb : Below w.heap.size w w') : Lib.TabIs Tryd.prog w' name k zs := by
  unfold Lib.TabIs World.var? at *
  cases hg : Tryd.prog.globalNamed name with
  | none => simp [hg] at h
  | some g =>
    simp only [hg, Option.bind_some] at h ⊢
    have hlt : g < w.heap.size := by
      rcases Nat.lt_or_ge g w.heap.size with h' | h'
      · exact h'
      · rw [Array.getElem?_eq_none h'] at h; simp at h
    rw [hb.block g hlt]
    exact h
theorem LexTabs.below {w w' : World} (h : LexTabs w) (hb : Below w.heap.size w w') : LexTabs w' := by
  obtain ⟨t1, p1, h1⟩ := h.syn
  obtain ⟨t2, p2, h2⟩ := h.rng
  exact ⟨tabIs_below h.pow hb, ⟨t1, p1, pw_cell_below hb h1⟩, ⟨t2, p2, pw_cell_below hb h2⟩⟩
def numP (s : ByteArray) : Bool := match Lib.parseUintB 64 s.data.toList with
  | .ok u => decide (u ≤ 2147483647) && (Lib.decDigits u == s.toList)
  | _ => false
def rightV (x : Wd) : Bool := if x.kind = 1 then nameV (runesOf x.text) else numP x.text
set_option maxHeartbeats 4000000 in
set_option maxRecDepth 100000 in
theorem lex_right.calls (x : Wd) (w : World) (hs : x.text.size ≤ 70368744177664) (hT : LexTabs w) :
    Calls Tryd.prog 24 #[.agg #[.int .i64 x.kind, .string x.text, .int .i64 x.line, .int .i64 x.col]] w fun e w' => e = .returned (.bool (rightV x)) ∧ Below w.heap.size w w' := by
  have HT := Aside0.mk hT
  have HR : Aside0 (rightV x = if x.kind = 1 then nameV (runesOf x.text) else numP x.text) := ⟨rfl⟩
  obtain ⟨kind, text, line, col⟩ := x
  simp only at hs HR ⊢
  have HB0 : Aside0 (Below w.heap.size w (w.alloc (.cells #[.int .i64 kind, .string text, .int .i64 line, .int .i64 col] 30))) := ⟨below_alloc (Below.refl _ _) _⟩
  have HT0 := Aside0.mk (LexTabs.below hT HB0.out)
  obtain ⟨W, hW⟩ : ∃ W, W = w.alloc (.cells #[.int .i64 kind, .string text, .int .i64 line, .int .i64 col] 30) := ⟨_, rfl⟩
  have hbx := blk_new w (.cells #[.int .i64 kind, .string text, .int .i64 line, .int .i64 col] 30)
  have HBX := Aside0.mk hbx
  rw [← hW] at HB0 HT0 HBX
  have HW := Aside0.mk hW
  clear hT hW hbx
  go_enter Tryd.func24, Tryd.ntmps24
  by_cases hk : kind = 1
  · have t0 : (kind == 1) = true := beq_iff_eq.mpr hk
    rw [if_pos hk] at HR
    clear hk
    go_wp2_with fail
    refine (ident_Name.calls text _ (by omega)).mono ?_
    rintro e w2 ⟨rfl, hb⟩
    have HB2 : Aside0 (Below w.heap.size w w2) := ⟨by rw [← HW.out] at hb; exact below_step HB0.out hb⟩
    clear hb
    go_wp2_with fail
    go_ret
    exact ⟨congrArg (fun b => Ending.returned (Value.bool b)) HR.out.symm, HB2.out⟩
  have t0 : (kind == 1) = false := beq_eq_false_iff_ne.mpr hk
  rw [if_neg hk] at HR
  clear hk
  cases hp : Lib.parseUintB 64 text.data.toList with
  | ok u =>
    have HP := Aside0.mk hp
    have HNU : Aside0 (numP text = (decide (u ≤ 2147483647) && (Lib.decDigits u == text.toList))) := ⟨by unfold numP; rw [hp]⟩
    have hle := Lib.parseUintB_le hp
    have HLE : Aside0 (u < 18446744073709551616) := ⟨by omega⟩
    clear hle hp
    go_wp2_with fail
    rw [← HW.out]
    refine (Tryd.strconv_ParseUint_10_at64_ok text (by omega) u HP.out W).mono ?_
    rintro e w2 ⟨rfl, hw2⟩
    have hb2 : Below W.heap.size W w2 := by
      rcases hw2 with rfl | rfl
      · exact Below.refl _ _
      · exact bytes_below (Below.refl _ _) (Nat.le_refl _) _ _
    have hk2 := blk_below HBX.out hb2
    have c0 : w2.cell? ⟨w.heap.size, 0, none⟩ = some (.int .i64 kind) := blk_cell hk2 0
    have c1 : w2.cell? ⟨w.heap.size, 1, none⟩ = some (.string text) := blk_cell hk2 1
    have HB2 := Aside0.mk (below_step HB0.out hb2)
    have HT2 := Aside0.mk (HT0.out.below hb2)
    have HK2 := Aside0.mk hk2
    clear hw2 hb2 hk2
    by_cases hu : u ≤ 2147483647
    · have tu : decide ((u : Int) ≤ 2147483647) = true := decide_eq_true (by omega)
      rw [decide_eq_true hu, Bool.true_and] at HNU
      go_wp2_with fail
      have HS0 : Aside0 (w2.drew.cell? ⟨w.heap.size, 1, none⟩ = some (.string text) ∧ LexTabs w2.drew ∧ Below w.heap.size w w2.drew) := ⟨blk_cell (blk_drew HK2.out) 1, HT2.out.below (below_drew (Below.refl _ _)), below_drew HB2.out⟩
      go_region_held3 (fun w' => w'.cell? ⟨w.heap.size, 1, none⟩ = some (.string text) ∧ LexTabs w' ∧ Below w.heap.size w w') (first | exact HS0.out | exact ⟨pw_cell_below hb3 HS0.out.1, HS0.out.2.1.below hb3, below_step HS0.out.2.2 hb3⟩) (first | (go_at_call 34; refine (strconv_FormatUint u HLE.out _ HS0.out.2.1.pow).mono ?_; rintro e w3 ⟨rfl, hb3⟩))
      have HB3 := Aside0.mk (below_step HS0.out.2.2 hb3)
      generalize (Lib.decDigits u == text.toList) = z at *
      go_wp2_with fail
      go_ret
      exact ⟨congrArg (fun b => Ending.returned (Value.bool b)) (by rw [HR.out, HNU.out]), HB3.out⟩
    · have tu : decide ((u : Int) ≤ 2147483647) = false := decide_eq_false (by omega)
      rw [decide_eq_false hu, Bool.false_and] at HNU
      go_wp2_with fail
      go_quiet (fail)
      go_wp2_with fail
      go_ret
      exact ⟨congrArg (fun b => Ending.returned (Value.bool b)) (by rw [HR.out, HNU.out]), pw_below_drewN HB2.out _⟩
  | range =>
    have HP := Aside0.mk hp
    have HNU : Aside0 (numP text = false) := ⟨by unfold numP; rw [hp]⟩
    obtain ⟨te, pe, hev⟩ := HT0.out.rng
    clear hp
    go_wp2_with fail
    rw [← HW.out]
    refine (Tryd.strconv_ParseUint_10_at64_range text (by omega) HP.out _ W hev (Or.inr ⟨te, pe, rfl⟩)).mono ?_
    rintro e w2 ⟨N, rfl, _, _, hb2⟩
    have HB2 := Aside0.mk (below_step HB0.out hb2)
    clear hb2
    go_wp2_with fail
    go_quiet (fail)
    go_wp2_with fail
    go_ret
    exact ⟨congrArg (fun b => Ending.returned (Value.bool b)) (by rw [HR.out, HNU.out]), pw_below_drewN HB2.out _⟩
  | _ =>
    have HP := Aside0.mk hp
    have HNU : Aside0 (numP text = false) := ⟨by unfold numP; rw [hp]⟩
    obtain ⟨te, pe, hev⟩ := HT0.out.syn
    clear hp
    go_wp2_with fail
    rw [← HW.out]
    refine (Tryd.strconv_ParseUint_10_at64_syntax text (by omega) HP.out _ W hev (Or.inr ⟨te, pe, rfl⟩)).mono ?_
    rintro e w2 ⟨N, rfl, _, _, hb2⟩
    have HB2 := Aside0.mk (below_step HB0.out hb2)
    clear hb2
    go_wp2_with fail
    go_quiet (fail)
    go_wp2_with fail
    go_ret
    exact ⟨congrArg (fun b => Ending.returned (Value.bool b)) (by rw [HR.out, HNU.out]), pw_below_drewN HB2.out _⟩
end Go.Proofs.YthnnleibngbclaaDoor.X
