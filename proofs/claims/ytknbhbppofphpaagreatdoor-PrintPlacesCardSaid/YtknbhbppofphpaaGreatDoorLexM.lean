/- Several texts of this claim in one: what each shows stands at its head. -/
import Derived.Test.YtknbhbppofphpaaGreatDoorRefName
import Derived.Lib.OthersKept
import Derived.Test.YtknbhbppofphpaaGreatDoorShelf
import Derived.Lib.Walk
import Derived.Lib.ItoaMem
import Derived.WalkKit
import Derived.BigCall
import Derived.BigGuard
import Derived.Lib.AppendIntMem
import Derived.Lib.Hide
import Derived.Deep.RegionHeld3
import Derived.Deep.QuietTactic
import Derived.BigQuiet
import Derived.BigRegion
import Derived.RegionTactic
import Derived.ChangeAlike
import Derived.Deep.AppendLies
import Derived.WalkMore
import Derived.Laws.Runes
/-! The scanner of lex: its state, plainly; where it lies in memory. -/
set_option linter.unusedVariables false
set_option linter.unusedSimpArgs false
namespace Go.Proofs.YtknbhbppofphpaaGreatDoor.X
open Go.RowKit Go.Shelf Go.Proofs.YtknbhbppofphpaaGreatDoorW.PrintWords Go.Proofs.YtknbhbppofphpaaGreatDoorW.PrintLast Go.Proofs.YtknbhbppofphpaaGreatDoorW.PrintMore
structure Wd where
  kind : Int
  text : ByteArray
  line : Int
  col : Int
structure Sc where
  words : List Wd
  line : Int
  col : Int
  from_ : Int
  ok : Wd
  note : Bool
  slash : Bool
  bl : Int
  bc : Int
  end_ : Int
  pl : Int
  pc : Int
def wdCells (x : Wd) : List Value := [.int .i64 x.kind, .string x.text, .int .i64 x.line, .int .i64 x.col]
def rowCells (l : List Wd) : List Value := l.flatMap wdCells
theorem rowCells_append (l m : List Wd) : rowCells (l ++ m) = rowCells l ++ rowCells m := by simp [rowCells]
theorem rowCells_one (x : Wd) : rowCells [x] = wdCells x := by simp [rowCells]
def scCells (v : Value) (σ : Sc) : Array Value :=
  #[v, .int .i64 σ.line, .int .i64 σ.col, .int .i64 σ.from_, .int .i64 σ.ok.kind, .string σ.ok.text, .int .i64 σ.ok.line, .int .i64 σ.ok.col, .bool σ.note, .bool σ.slash, .int .i64 σ.bl, .int .i64 σ.bc, .int .i64 σ.end_, .int .i64 σ.pl, .int .i64 σ.pc]
/-- The scanner lies at block b, its words in a row of the call's own. -/
def ScAt (B b : Nat) (v : Value) (σ : Sc) (w : World) : Prop :=
  B ≤ b ∧ w.heap[b]? = some (.cells (scCells v σ) 92 (0, 0)) ∧ w.ownsRow B 90 4 v σ.words.length (rowCells σ.words) ∧ σ.words.length ≤ 4000
/-- What a method leaves: the scanner, all below B, all that is neither it nor a row of words. -/
def ScPost (B b : Nat) (σ : Sc) (w : World) (e : Ending) (w' : World) : Prop :=
  e = .returned (.tuple #[]) ∧ (∃ v, ScAt B b v σ w') ∧ Below B w w' ∧ Lib.OthersKept 90 (some b) w w'
theorem ScAt.ne {B b : Nat} {v : Value} {σ : Sc} {w : World} (h : ScAt B b v σ w) : some b ≠ v.ownBlock := own_ne h.2.2.1 h.2.1 (by decide)
theorem ScAt.lt {B b : Nat} {v : Value} {σ : Sc} {w : World} (h : ScAt B b v σ w) : b < w.heap.size := blk_lt h.2.1
theorem ScAt.below {B b : Nat} {v : Value} {σ : Sc} {w w' : World} (h : ScAt B b v σ w) (hb : Below w.heap.size w w') : ScAt B b v σ w' :=
  ⟨h.1, blk_below h.2.1 hb, pw_own_below h.2.2.1 hb, h.2.2.2⟩
def failS (σ : Sc) (e l c : Int) : Sc := if σ.end_ = 0 then { σ with end_ := e, pl := l, pc := c } else σ
def addS (σ : Sc) (x : Wd) : Sc := if σ.words.length = 4000 then failS σ 4 x.line x.col else { σ with words := σ.words ++ [x] }
theorem blk_as {a b c : Option Obj} (hh1 : a = b) (hh2 : b = c) : a = c := hh1.trans hh2
theorem oth_set {b i : Nat} {a w : World} (h : Lib.OthersKept 90 (some b) a w) (u : Value) : Lib.OthersKept 90 (some b) a (w.setCell ⟨b, i, none⟩ u) := h.setCell _ rfl u
theorem oth_alloc {b : Nat} {a w : World} (h : Lib.OthersKept 90 (some b) a w) (o : Obj) : Lib.OthersKept 90 (some b) a (w.alloc o) := h.alloc o
theorem oth_drew {b : Nat} {a w : World} (h : Lib.OthersKept 90 (some b) a w) : Lib.OthersKept 90 (some b) a w.drew := h
theorem oth_drewN {b : Nat} {a w : World} (h : Lib.OthersKept 90 (some b) a w) (n : Nat) : Lib.OthersKept 90 (some b) a (w.drewN n) := h
theorem bel_set {B b i : Nat} {a w : World} (h : Below B a w) (hB : B ≤ b) (u : Value) : Below B a (w.setCell ⟨b, i, none⟩ u) := h.setCell hB u
theorem bel_alloc {B : Nat} {a w : World} (h : Below B a w) (hw : B ≤ a.heap.size) (o : Obj) : Below B a (w.alloc o) := h.alloc (Nat.le_trans hw h.size) o
theorem row_set {B b i n : Nat} {e : TypeId} {w : World} {v : Value} {xs : List Value} (h : w.ownsRow B e 4 v n xs) (hne : some b ≠ v.ownBlock) (u : Value) : (w.setCell ⟨b, i, none⟩ u).ownsRow B e 4 v n xs := own_setCell h hne u
theorem row_alloc {B n : Nat} {e : TypeId} {w : World} {v : Value} {xs : List Value} (h : w.ownsRow B e 4 v n xs) (o : Obj) : (w.alloc o).ownsRow B e 4 v n xs := pw_own_below h (below_alloc (Below.refl _ _) o)
theorem row_drew {B n : Nat} {e : TypeId} {w : World} {v : Value} {xs : List Value} (h : w.ownsRow B e 4 v n xs) : w.drew.ownsRow B e 4 v n xs := pw_own_below h (below_drew (Below.refl _ _))
theorem row_drewN {B n : Nat} {e : TypeId} {w : World} {v : Value} {xs : List Value} (h : w.ownsRow B e 4 v n xs) (m : Nat) : (w.drewN m).ownsRow B e 4 v n xs := pw_own_below h (pw_below_drewN (Below.refl _ _) m)
end Go.Proofs.YtknbhbppofphpaaGreatDoor.X

/-! strconv.FormatUint at base 10: the decimal numeral of every uint64; the powers of ten as they are laid. -/
set_option linter.unusedVariables false
set_option linter.unusedSimpArgs false
namespace Go.Proofs.YtknbhbppofphpaaGreatDoor.X
open Go.RowKit Go.Shelf Go.Sort Go.Lib
theorem holds_zero0 (w : World) (T : TypeId) (nd : Nat) (hs : nd ≤ 24) : Holds (fun (b : UInt8) => Value.int .u8 (b.toNat : Int)) (w.alloc (.cells zeros24 T)) w.heap.size 0 (Array.replicate nd (0 : UInt8)) := fun j hj => by
  have hj' : j < nd := by simpa using hj
  refine ⟨?_, World.frozen?_alloc_new _ _ _ _⟩
  rw [World.cell?_alloc_new, zeros24_at _ (by omega), getElem!_pos _ j hj]
  simp
set_option maxHeartbeats 6400000 in
set_option maxRecDepth 100000 in
theorem internal_FormatUint (u : Nat) (hu64 : u < 18446744073709551616) (w : World) (htab : Lib.TabIs Tryz.prog w "internal/strconv.uint64pow10" .u64 Lib.pow10Tab) :
    Calls Tryz.prog 95 #[.int .u64 (u : Int), .int .i64 10] w fun e w' => e = .returned (.string ⟨(Lib.decDigits u).toArray⟩) ∧ Below w.heap.size w w' := by
  by_cases hs : u < 100
  · have t0 : decide ((u : Int) < 100) = true := decide_eq_true (by omega)
    have hcv : IntKind.i64.wrap (u : Int) = (u : Int) := by rw [IntKind.wrap_i64]; omega
    go_enter Tryz.func95, Tryz.ntmps95
    go_wp2_with fail
    refine (Tryz.internal_strconv_small u hs _).mono ?_
    rintro e w' ⟨rfl, rfl⟩
    go_wp2_with fail
    go_ret
    exact ⟨rfl, Below.refl _ _⟩
  · have t0 : decide ((u : Int) < 100) = false := decide_eq_false (by omega)
    have hu1 : 1 ≤ u := by omega
    have hnd20 : Lib.nDigits u ≤ 20 := by have := Lib.numDigits_eq u hu1 hu64; split at this <;> omega
    have hal : Tryz.prog.arrayLen 142 = 24 := by kernel_rfl
    have hel : Tryz.prog.underlying 142 = some (.array 24 5) := Tryz.underlying142
    have hsl1 : ∀ W, (Instr.sliceAt 142 (.pointer (some ⟨w.heap.size, 0, none⟩)) none (some (.int .i64 (Lib.nDigits u : Int))) none).run Tryz.prog W = .ok (.slice (some ⟨w.heap.size, 0, none⟩) (Lib.nDigits u) 24) W := fun W => by
      rw [run_sliceAt_array_h W 142 ⟨w.heap.size, 0, none⟩ (by simp [Program.arrayLen, Program.elem, hel]) .i64 (Lib.nDigits u : Int) (by omega) (by rw [hal]; omega)]
      go_simp
      try omega
    have hH0 := holds_zero0 w 142 (Lib.nDigits u) (by omega)
    have hfmt := Tryz.internal_strconv_formatBase10 w.heap.size 0 24 u (Array.replicate (Lib.nDigits u) 0) (w.alloc (.cells Lib.zeros24 142)) hH0 (by rw [Array.size_replicate]; exact Lib.lt_pow_nDigits u) hu64 (by rw [Array.size_replicate]; omega)
    rw [Array.size_replicate] at hfmt
    have HH0 := Lib.hid hH0
    clear hH0 hal hel hs
    go_enter Tryz.func95, Tryz.ntmps95
    go_wp2_with fail
    refine (Tryz.internal_strconv_numDigits u hu1 hu64 _ (Lib.tabIs_alloc htab _)).mono ?_
    rintro e w' ⟨rfl, rfl⟩
    go_wp2_with fail
    refine hfmt.mono ?_
    rintro e w' ⟨rfl, k, v', dk, rfl, hF⟩
    have hcv : (convert 45 9 (.slice (some ⟨w.heap.size, 0, none⟩) (Lib.nDigits u) 24)).run Tryz.prog ((putRow (fun (b : UInt8) => Value.int .u8 (b.toNat : Int)) (w.alloc (.cells Lib.zeros24 142)) w.heap.size 0 dk).drewN k) = .ok (.string ⟨(Lib.decDigits u).toArray⟩) ((putRow (fun (b : UInt8) => Value.int .u8 (b.toNat : Int)) (w.alloc (.cells Lib.zeros24 142)) w.heap.size 0 dk).drewN k) := by
      have h := run_convert_bytes_back (P := Tryz.prog) ((putRow (fun (b : UInt8) => Value.int .u8 (b.toNat : Int)) (w.alloc (.cells Lib.zeros24 142)) w.heap.size 0 dk).drewN k) 45 9 5 ⟨w.heap.size, 0, none⟩ 24 (Lib.decDigits u) Tryz.underlying45 Tryz.underlying5 Tryz.underlying9 (fun j hj => by
        rw [Lib.row_is_numeral hF j hj, Lib.add_plain, World.cell?_drewN]
        exact cell?_putRow (fun (b : UInt8) => Value.int .u8 (b.toNat : Int)) _ w.heap.size 0 _ dk HH0.out (by rw [hF.size, Array.size_replicate]) j (by rw [hF.size]; rw [Lib.decDigits_length] at hj; exact hj))
      rw [Lib.decDigits_length] at h
      exact h
    clear hF
    go_wp2
    go_ret
    refine ⟨rfl, ?_⟩
    obtain ⟨os', _, e⟩ := putRow_grow_new (fun (b : UInt8) => Value.int .u8 (b.toNat : Int)) w #[.cells Lib.zeros24 142] w.heap.size 0 dk (Nat.le_refl _)
    rw [alloc_eq_grow, e]
    exact below_grow w.heap.size w (Nat.le_refl _) k os'
set_option maxHeartbeats 1000000 in
theorem strconv_FormatUint (u : Nat) (hu64 : u < 18446744073709551616) (w : World) (htab : Lib.TabIs Tryz.prog w "internal/strconv.uint64pow10" .u64 Lib.pow10Tab) :
    Calls Tryz.prog 82 #[.int .u64 (u : Int), .int .i64 10] w fun e w' => e = .returned (.string ⟨(Lib.decDigits u).toArray⟩) ∧ Below w.heap.size w w' := by
  go_enter Tryz.func82, Tryz.ntmps82
  go_wp2_with fail
  refine (internal_FormatUint u hu64 _ htab).mono ?_
  rintro e w' ⟨rfl, hb⟩
  go_wp2
  go_ret
  exact ⟨rfl, hb⟩
end Go.Proofs.YtknbhbppofphpaaGreatDoor.X

/-! lex's right: is an open word one? The tables and variables of the library as they are laid. -/
set_option linter.unusedVariables false
set_option linter.unusedSimpArgs false
namespace Go.Proofs.YtknbhbppofphpaaGreatDoor.X
open Go.RowKit Go.Shelf Go.Proofs.YtknbhbppofphpaaGreatDoorW.PrintWords Go.Proofs.YtknbhbppofphpaaGreatDoorW.PrintLast Go.Proofs.YtknbhbppofphpaaGreatDoorW.PrintMore
/-- What the library's variables hold. -/
structure LexTabs (w : World) : Prop where
  pow : Lib.TabIs Tryz.prog w "internal/strconv.uint64pow10" .u64 Lib.pow10Tab
  syn : ∃ t p, w.cell? ⟨4, 0, none⟩ = some (.iface t p)
  rng : ∃ t p, w.cell? ⟨5, 0, none⟩ = some (.iface t p)
theorem tabIs_below {w w' : World} {name : String} {k : IntKind} {zs : List Int} (h : Lib.TabIs Tryz.prog w name k zs) (hb : Below w.heap.size w w') : Lib.TabIs Tryz.prog w' name k zs := by
  unfold Lib.TabIs World.var? at *
  cases hg : Tryz.prog.globalNamed name with
  | none => simp [hg] at h
  | some g =>
    simp only [hg, Option.bind_some] at h ⊢
    have hlt : g < w.heap.size := by
      rcases Nat.lt_or_ge g w.heap.size with h' | h'
      · exact h'
      · rw [Array.getElem?_eq_none h'] at h; simp at h
    rw [hb.block g hlt]
    exact h
theorem LexTabs.below {w w' : World} (h : LexTabs w) (hb : Below w.heap.size w w') : LexTabs w' := by
  obtain ⟨t1, p1, h1⟩ := h.syn
  obtain ⟨t2, p2, h2⟩ := h.rng
  exact ⟨tabIs_below h.pow hb, ⟨t1, p1, pw_cell_below hb h1⟩, ⟨t2, p2, pw_cell_below hb h2⟩⟩
def numP (s : ByteArray) : Bool := match Lib.parseUintB 64 s.data.toList with
  | .ok u => decide (u ≤ 2147483647) && (Lib.decDigits u == s.toList)
  | _ => false
def rightV (x : Wd) : Bool := if x.kind = 1 then nameV (runesOf x.text) else numP x.text
set_option maxHeartbeats 4000000 in
set_option maxRecDepth 100000 in
theorem lex_right.calls (x : Wd) (w : World) (hs : x.text.size ≤ 70368744177664) (hT : LexTabs w) :
    Calls Tryz.prog 61 #[.agg #[.int .i64 x.kind, .string x.text, .int .i64 x.line, .int .i64 x.col]] w fun e w' => e = .returned (.bool (rightV x)) ∧ Below w.heap.size w w' := by
  have HT := Aside0.mk hT
  have HR : Aside0 (rightV x = if x.kind = 1 then nameV (runesOf x.text) else numP x.text) := ⟨rfl⟩
  obtain ⟨kind, text, line, col⟩ := x
  simp only at hs HR ⊢
  have HB0 : Aside0 (Below w.heap.size w (w.alloc (.cells #[.int .i64 kind, .string text, .int .i64 line, .int .i64 col] 90))) := ⟨below_alloc (Below.refl _ _) _⟩
  have HT0 := Aside0.mk (LexTabs.below hT HB0.out)
  obtain ⟨W, hW⟩ : ∃ W, W = w.alloc (.cells #[.int .i64 kind, .string text, .int .i64 line, .int .i64 col] 90) := ⟨_, rfl⟩
  have hbx := blk_new w (.cells #[.int .i64 kind, .string text, .int .i64 line, .int .i64 col] 90)
  have HBX := Aside0.mk hbx
  rw [← hW] at HB0 HT0 HBX
  have HW := Aside0.mk hW
  clear hT hW hbx
  go_enter Tryz.func61, Tryz.ntmps61
  by_cases hk : kind = 1
  · have t0 : (kind == 1) = true := beq_iff_eq.mpr hk
    rw [if_pos hk] at HR
    clear hk
    go_wp2_with fail
    refine (ident_Name.calls text _ (by omega)).mono ?_
    rintro e w2 ⟨rfl, hb⟩
    have HB2 : Aside0 (Below w.heap.size w w2) := ⟨by rw [← HW.out] at hb; exact below_step HB0.out hb⟩
    clear hb
    go_wp2_with fail
    go_ret
    exact ⟨congrArg (fun b => Ending.returned (Value.bool b)) HR.out.symm, HB2.out⟩
  have t0 : (kind == 1) = false := beq_eq_false_iff_ne.mpr hk
  rw [if_neg hk] at HR
  clear hk
  cases hp : Lib.parseUintB 64 text.data.toList with
  | ok u =>
    have HP := Aside0.mk hp
    have HNU : Aside0 (numP text = (decide (u ≤ 2147483647) && (Lib.decDigits u == text.toList))) := ⟨by unfold numP; rw [hp]⟩
    have hle := Lib.parseUintB_le hp
    have HLE : Aside0 (u < 18446744073709551616) := ⟨by omega⟩
    clear hle hp
    go_wp2_with fail
    rw [← HW.out]
    refine (Tryz.strconv_ParseUint_10_at64_ok text (by omega) u HP.out W).mono ?_
    rintro e w2 ⟨rfl, hw2⟩
    have hb2 : Below W.heap.size W w2 := by
      rcases hw2 with rfl | rfl
      · exact Below.refl _ _
      · exact bytes_below (Below.refl _ _) (Nat.le_refl _) _ _
    have hk2 := blk_below HBX.out hb2
    have c0 : w2.cell? ⟨w.heap.size, 0, none⟩ = some (.int .i64 kind) := blk_cell hk2 0
    have c1 : w2.cell? ⟨w.heap.size, 1, none⟩ = some (.string text) := blk_cell hk2 1
    have HB2 := Aside0.mk (below_step HB0.out hb2)
    have HT2 := Aside0.mk (HT0.out.below hb2)
    have HK2 := Aside0.mk hk2
    clear hw2 hb2 hk2
    by_cases hu : u ≤ 2147483647
    · have tu : decide ((u : Int) ≤ 2147483647) = true := decide_eq_true (by omega)
      rw [decide_eq_true hu, Bool.true_and] at HNU
      go_wp2_with fail
      have HS0 : Aside0 (w2.drew.cell? ⟨w.heap.size, 1, none⟩ = some (.string text) ∧ LexTabs w2.drew ∧ Below w.heap.size w w2.drew) := ⟨blk_cell (blk_drew HK2.out) 1, HT2.out.below (below_drew (Below.refl _ _)), below_drew HB2.out⟩
      go_region_held3 (fun w' => w'.cell? ⟨w.heap.size, 1, none⟩ = some (.string text) ∧ LexTabs w' ∧ Below w.heap.size w w') (first | exact HS0.out | exact ⟨pw_cell_below hb3 HS0.out.1, HS0.out.2.1.below hb3, below_step HS0.out.2.2 hb3⟩) (first | (go_at_call 82; refine (strconv_FormatUint u HLE.out _ HS0.out.2.1.pow).mono ?_; rintro e w3 ⟨rfl, hb3⟩))
      have HB3 := Aside0.mk (below_step HS0.out.2.2 hb3)
      generalize (Lib.decDigits u == text.toList) = z at *
      go_wp2_with fail
      go_ret
      exact ⟨congrArg (fun b => Ending.returned (Value.bool b)) (by rw [HR.out, HNU.out]), HB3.out⟩
    · have tu : decide ((u : Int) ≤ 2147483647) = false := decide_eq_false (by omega)
      rw [decide_eq_false hu, Bool.false_and] at HNU
      go_wp2_with fail
      go_quiet (fail)
      go_wp2_with fail
      go_ret
      exact ⟨congrArg (fun b => Ending.returned (Value.bool b)) (by rw [HR.out, HNU.out]), pw_below_drewN HB2.out _⟩
  | range =>
    have HP := Aside0.mk hp
    have HNU : Aside0 (numP text = false) := ⟨by unfold numP; rw [hp]⟩
    obtain ⟨te, pe, hev⟩ := HT0.out.rng
    clear hp
    go_wp2_with fail
    rw [← HW.out]
    refine (Tryz.strconv_ParseUint_10_at64_range text (by omega) HP.out _ W hev (Or.inr ⟨te, pe, rfl⟩)).mono ?_
    rintro e w2 ⟨N, rfl, _, _, hb2⟩
    have HB2 := Aside0.mk (below_step HB0.out hb2)
    clear hb2
    go_wp2_with fail
    go_quiet (fail)
    go_wp2_with fail
    go_ret
    exact ⟨congrArg (fun b => Ending.returned (Value.bool b)) (by rw [HR.out, HNU.out]), pw_below_drewN HB2.out _⟩
  | _ =>
    have HP := Aside0.mk hp
    have HNU : Aside0 (numP text = false) := ⟨by unfold numP; rw [hp]⟩
    obtain ⟨te, pe, hev⟩ := HT0.out.syn
    clear hp
    go_wp2_with fail
    rw [← HW.out]
    refine (Tryz.strconv_ParseUint_10_at64_syntax text (by omega) HP.out _ W hev (Or.inr ⟨te, pe, rfl⟩)).mono ?_
    rintro e w2 ⟨N, rfl, _, _, hb2⟩
    have HB2 := Aside0.mk (below_step HB0.out hb2)
    clear hb2
    go_wp2_with fail
    go_quiet (fail)
    go_wp2_with fail
    go_ret
    exact ⟨congrArg (fun b => Ending.returned (Value.bool b)) (by rw [HR.out, HNU.out]), pw_below_drewN HB2.out _⟩
end Go.Proofs.YtknbhbppofphpaaGreatDoor.X

/-! lex's scanner: fail. -/
set_option linter.unusedVariables false
set_option linter.unusedSimpArgs false
namespace Go.Proofs.YtknbhbppofphpaaGreatDoor.X
open Go.RowKit Go.Shelf Go.Proofs.YtknbhbppofphpaaGreatDoorW.PrintWords Go.Proofs.YtknbhbppofphpaaGreatDoorW.PrintLast Go.Proofs.YtknbhbppofphpaaGreatDoorW.PrintMore
set_option maxHeartbeats 4000000 in
set_option maxRecDepth 100000 in
theorem lex_fail.calls (B b : Nat) (v : Value) (σ : Sc) (e l c : Int) (w : World) (hw : B ≤ w.heap.size) (h : ScAt B b v σ w) :
    Calls Tryz.prog 34 #[.pointer (some ⟨b, 0, none⟩), .int .i64 e, .agg #[.int .i64 l, .int .i64 c]] w fun e' w' => e' = .returned (.tuple #[]) ∧ ScAt B b v (failS σ e l c) w' ∧ Below B w w' ∧ Lib.OthersKept 90 (some b) w w' := by
  obtain ⟨hB, hbk, hown, hl4⟩ := h
  have HK := Aside0.mk hbk
  have HO := Aside0.mk hown
  have HL := Aside0.mk hl4
  have hlt := blk_lt hbk
  have hne := own_ne hown hbk (by decide)
  have HNE := Aside0.mk hne
  have d12 : w.cell? ⟨b, 12, none⟩ = some (.int .i64 σ.end_) := blk_cell hbk 12
  have f12 := blk_frozen hbk 12
  have d13 : w.cell? ⟨b, 13, none⟩ = some (.int .i64 σ.pl) := blk_cell hbk 13
  have f13 := blk_frozen hbk 13
  have d14 : w.cell? ⟨b, 14, none⟩ = some (.int .i64 σ.pc) := blk_cell hbk 14
  have f14 := blk_frozen hbk 14
  clear hbk hown hne hl4
  have HBB := Aside0.mk (Below.refl B w)
  have HOT := Aside0.mk (Lib.OthersKept.refl 90 (some b) w)
  go_enter Tryz.func34, Tryz.ntmps34
  by_cases he : σ.end_ = 0
  · have t0 : (σ.end_ == 0) = true := beq_iff_eq.mpr he
    have HS : Aside0 (failS σ e l c = { σ with end_ := e, pl := l, pc := c }) := ⟨if_pos he⟩
    clear he
    go_wp2_with fail
    go_region
    go_end0
    rw [HS.out]
    exact ⟨rfl, ⟨hB, (by apply blk_as; (case hh1 => with_reducible repeat (first | exact HK.out | apply blk_drewN | apply blk_drew | apply blk_alloc | apply blk_set)); (case hh2 => rfl)), (by with_reducible repeat (first | exact HO.out | refine row_set ?_ HNE.out _ | refine row_alloc ?_ _ | refine row_drew ?_ | refine row_drewN ?_ _)), HL.out⟩, (by with_reducible repeat (first | exact HBB.out | refine bel_set ?_ hB _ | refine below_drew ?_ | refine pw_below_drewN ?_ _ | refine bel_alloc ?_ hw _)), (by with_reducible repeat (first | exact HOT.out | refine oth_set ?_ _ | refine oth_alloc ?_ _ | refine oth_drew ?_ | refine oth_drewN ?_ _))⟩
  · have t0 : (σ.end_ == 0) = false := beq_eq_false_iff_ne.mpr he
    have HS : Aside0 (failS σ e l c = σ) := ⟨if_neg he⟩
    clear he
    go_wp2_with fail
    go_end0
    rw [HS.out]
    exact ⟨rfl, ⟨hB, (by apply blk_as; (case hh1 => with_reducible repeat (first | exact HK.out | apply blk_drewN | apply blk_drew | apply blk_alloc | apply blk_set)); (case hh2 => rfl)), (by with_reducible repeat (first | exact HO.out | refine row_set ?_ HNE.out _ | refine row_alloc ?_ _ | refine row_drew ?_ | refine row_drewN ?_ _)), HL.out⟩, (by with_reducible repeat (first | exact HBB.out | refine bel_set ?_ hB _ | refine below_drew ?_ | refine pw_below_drewN ?_ _ | refine bel_alloc ?_ hw _)), (by with_reducible repeat (first | exact HOT.out | refine oth_set ?_ _ | refine oth_alloc ?_ _ | refine oth_drew ?_ | refine oth_drewN ?_ _))⟩
end Go.Proofs.YtknbhbppofphpaaGreatDoor.X

/-! lex's scanner: add. -/
set_option linter.unusedVariables false
set_option linter.unusedSimpArgs false
namespace Go.Proofs.YtknbhbppofphpaaGreatDoor.X
open Go.RowKit Go.Shelf Go.Proofs.YtknbhbppofphpaaGreatDoorW.PrintWords Go.Proofs.YtknbhbppofphpaaGreatDoorW.PrintLast Go.Proofs.YtknbhbppofphpaaGreatDoorW.PrintMore
theorem infoWord : (Tryz.prog.info? 90).map (fun i => (i.zero, i.size, i.bytes)) = some (some (.agg #[.int .i64 0, .string ⟨#[]⟩, .int .i64 0, .int .i64 0]), 4, 40) := by kernel_rfl
theorem own_kind {W : World} {B n : Nat} {e : TypeId} {v : Value} {xs : List Value} (h : W.ownsRow B e 4 v n xs) : ∀ g, v.ownBlock = some g → ∃ c fz, W.heap[g]? = some (.cells c e fz) := by
  intro g hg
  rcases h.2 with ⟨rfl, _⟩ | ⟨g', cap, cur, rfl, _, hgg, _⟩
  · simp [Value.ownBlock] at hg
  · simp [Value.ownBlock] at hg
    subst hg
    exact ⟨cur, (0, 0), hgg⟩
theorem add_done {B b g cap c : Nat} {A : Option Addr} {σ : Sc} {x : Wd} {w W w2 : World} (hB : B ≤ b) (hw : B ≤ w.heap.size) (hk : w2.heap[b]? = some (.cells (scCells (.slice A σ.words.length c) σ) 92 (0, 0)))
    (ho : w2.ownsRow B 90 4 (.slice (some ⟨g, 0, none⟩) (σ.words.length + 1) cap) (σ.words.length + 1) (rowCells σ.words ++ wdCells x)) (hg : W.grownBy w2 (Value.slice A σ.words.length c).ownBlock) (hl : σ.words.length ≤ 4000) (h4 : ¬ σ.words.length = 4000)
    (hoW : W.ownsRow B 90 4 (.slice A σ.words.length c) σ.words.length (rowCells σ.words)) (hbW : Below B w W) (hkW : Lib.OthersKept 90 (some b) w W) :
    ScPost B b { σ with words := σ.words ++ [x] } w (.returned (.tuple #[])) (w2.setCell ⟨b, 0, none⟩ (.slice (some ⟨g, 0, none⟩) (σ.words.length + 1) cap)) := by
  have hlen : (σ.words ++ [x]).length = σ.words.length + 1 := by simp
  refine ⟨rfl, ⟨.slice (some ⟨g, 0, none⟩) (σ.words.length + 1) cap, hB, ?_, ?_, by rw [hlen]; omega⟩, ?_, ?_⟩
  · exact (blk_set hk 0 _).trans rfl
  · rw [hlen, rowCells_append, rowCells_one]
    exact row_set ho (own_ne ho hk (by decide)) _
  · exact bel_set (pw_below_grown hbW _ (Nat.le_trans hw hbW.size) hg (fun k hk => own_base hoW k hk)) hB _
  · exact oth_set (Lib.OthersKept.grown hkW hg (own_kind hoW)) _
theorem lit_cellA {w : World} {x : Wd} {k : Nat} (hk : w.heap.size = k) : ∀ j u, (wdCells x)[j]? = some u → (w.alloc (.cells #[.int .i64 x.kind, .string x.text, .int .i64 x.line, .int .i64 x.col] 90)).cell? (Addr.add ⟨k, 0, none⟩ j) = some u := by
  intro j u hj
  subst hk
  rw [add_plain]
  refine (blk_cell (heap_alloc_new w _) j).trans ?_
  rw [← hj]
  rw [← List.getElem?_toArray]
  rfl
theorem lit_cellB {w : World} {x : Wd} {k : Nat} (hk : w.heap.size = k) : ∀ j u, (wdCells x)[j]? = some u → (w.alloc (.cells #[.int .i64 x.kind, .string x.text, .int .i64 x.line, .int .i64 x.col] 90)).drew.cell? (Addr.add ⟨k, 0, none⟩ j) = some u := lit_cellA hk
theorem wd_one (x : Wd) : ∀ u ∈ wdCells x, u.oneCell' = true := by
  intro u hu
  simp only [wdCells, List.mem_cons, List.not_mem_nil, or_false] at hu
  rcases hu with rfl | rfl | rfl | rfl <;> rfl
set_option maxHeartbeats 4000000 in
set_option maxRecDepth 100000 in
theorem lex_add.calls (B b : Nat) (v : Value) (σ : Sc) (x : Wd) (w : World) (hw : B ≤ w.heap.size) (h : ScAt B b v σ w) :
    Calls Tryz.prog 62 #[.pointer (some ⟨b, 0, none⟩), .agg #[.int .i64 x.kind, .string x.text, .int .i64 x.line, .int .i64 x.col]] w (ScPost B b (addS σ x) w) := by
  obtain ⟨A, c, rfl⟩ := own_slice h.2.2.1
  obtain ⟨hB, hbk, hown, hl4⟩ := h
  have HK := Aside0.mk hbk
  have HO := Aside0.mk hown
  have HL := Aside0.mk hl4
  have hlt := blk_lt hbk
  have hne := own_ne hown hbk (by decide)
  have HNE := Aside0.mk hne
  have d0 : w.cell? ⟨b, 0, none⟩ = some (.slice A σ.words.length c) := blk_cell hbk 0
  have f0 := blk_frozen hbk 0
  clear hbk hown hne hl4
  have HS4 : Aside0 (addS σ x = if σ.words.length = 4000 then failS σ 4 x.line x.col else { σ with words := σ.words ++ [x] }) := ⟨rfl⟩
  have HAT : Aside0 (ScAt B b (.slice A σ.words.length c) σ (w.alloc (.cells #[.int .i64 x.kind, .string x.text, .int .i64 x.line, .int .i64 x.col] 90))) := ⟨hB, blk_alloc HK.out _, row_alloc HO.out _, HL.out⟩
  have hl4 := HL.out
  obtain ⟨i0, hi, hz0, hz1, hz2⟩ := info_parts infoWord
  have HI := Aside0.mk (And.intro hi (And.intro hz0 (And.intro hz1 hz2)))
  clear hi hz0 hz1 hz2
  go_enter Tryz.func62, Tryz.ntmps62
  by_cases h4 : σ.words.length = 4000
  · have t0 : ((σ.words.length : Int) == 4000) = true := beq_iff_eq.mpr (by omega)
    have t1 : (σ.words.length == 4000) = true := beq_iff_eq.mpr h4
    rw [if_pos h4] at HS4
    have HN4 := Aside0.mk h4
    clear h4
    go_wp2_with fail
    refine (lex_fail.calls B b (.slice A σ.words.length c) σ 4 x.line x.col _ (by simp; omega) HAT.out).mono ?_
    rintro e w2 ⟨rfl, ha, hb, ho⟩
    have HX : Aside0 (ScPost B b (addS σ x) w (.returned (.tuple #[])) w2) := ⟨by
      rw [HS4.out]
      exact ⟨rfl, ⟨_, ha⟩, (bel_alloc (Below.refl B w) hw _).trans hb, (oth_alloc (Lib.OthersKept.refl _ _ w) _).trans ho⟩⟩
    clear ha hb ho
    go_wp2_with fail
    go_end0
    exact HX.out
  · have t0 : ((σ.words.length : Int) == 4000) = false := beq_eq_false_iff_ne.mpr (by omega)
    have t1 : (σ.words.length == 4000) = false := beq_eq_false_iff_ne.mpr h4
    rw [if_neg h4] at HS4
    have HN4 := Aside0.mk h4
    go_wp2_with fail
    go_region_law (refine step_append_lies _ rfl (.tmp 18) (.tmp 20) 53 rfl B 90 i0 (.agg #[.int .i64 0, .string ⟨#[]⟩, .int .i64 0, .int .i64 0]) 4 40 Tryz.underlying53 HI.out.1 HI.out.2.1 HI.out.2.2.1 HI.out.2.2.2 rfl (by decide) (.slice A σ.words.length c) σ.words.length (rowCells σ.words) (by simp [Act.eval, Act.put]) (by with_reducible repeat (first | exact HO.out | apply row_alloc | apply row_drew)) ⟨w.heap.size + 1, 0, none⟩ 1 1 (wdCells x) (by simp [Act.eval, Act.put]) rfl (by first | exact lit_cellA (by simp) | exact lit_cellB (by simp)) (wd_one x) (by decide) (by unfold maxLen; omega) (by omega) (by simp; omega) _ rfl ?_; intro g cap w2 hown2 hgrow2 hg2 hlt2; have hk2 := blk_grown (by with_reducible repeat (first | exact HK.out | apply blk_alloc | apply blk_drew)) hgrow2 HNE.out; have d0' : w2.cell? ⟨b, 0, none⟩ = some (.slice A σ.words.length c) := blk_cell hk2 0; have f0' := blk_frozen hk2 0; have HK2 := Aside0.mk hk2; have HO2 := Aside0.mk hown2; have HG2 := Aside0.mk hgrow2; have HGG := Aside0.mk hg2; clear hk2 hown2 hgrow2 hg2 hlt2)
    all_goals
      go_end0
      rw [HS4.out]
      exact add_done hB hw HK2.out HO2.out HG2.out HL.out HN4.out (by with_reducible repeat (first | exact HO.out | apply row_alloc | apply row_drew)) (by with_reducible repeat (first | exact Below.refl _ _ | refine below_drew ?_ | refine bel_alloc ?_ hw _)) (by with_reducible repeat (first | exact Lib.OthersKept.refl _ _ _ | refine oth_alloc ?_ _ | refine oth_drew ?_))
end Go.Proofs.YtknbhbppofphpaaGreatDoor.X

/-! lex's scanner: shut. -/
set_option linter.unusedVariables false
set_option linter.unusedSimpArgs false
namespace Go.Proofs.YtknbhbppofphpaaGreatDoor.X
open Go.RowKit Go.Shelf Go.Proofs.YtknbhbppofphpaaGreatDoorW.PrintWords Go.Proofs.YtknbhbppofphpaaGreatDoorW.PrintLast Go.Proofs.YtknbhbppofphpaaGreatDoorW.PrintMore
def shutS (σ : Sc) (text : ByteArray) (hi : Int) : Sc :=
  if σ.from_ < 0 then σ
  else
    let o : Wd := { σ.ok with text := text.extract σ.from_.toNat hi.toNat }
    let σ1 : Sc := { σ with ok := o, from_ := -1 }
    if rightV o = true then addS σ1 o else failS σ1 6 o.line o.col
theorem oth_below {b : Nat} {a w w' : World} (h : Lib.OthersKept 90 (some b) a w) (hb : Below w.heap.size w w') : Lib.OthersKept 90 (some b) a w' :=
  fun k o hk hkb ho => (hb.block k (Array.getElem?_eq_some_iff.1 (h k o hk hkb ho)).1).trans (h k o hk hkb ho)
set_option maxHeartbeats 4000000 in
set_option maxRecDepth 100000 in
theorem lex_shut.calls (w0 : World) (hT : LexTabs w0) (b : Nat) (v : Value) (σ : Sc) (text : ByteArray) (hi : Int) (w : World) (h0 : Below w0.heap.size w0 w) (h : ScAt w0.heap.size b v σ w) (hto : hi ≤ text.size) (hft : σ.from_ ≤ hi) (hts : text.size ≤ 70368744177664) :
    Calls Tryz.prog 33 #[.pointer (some ⟨b, 0, none⟩), .string text, .int .i64 hi] w (ScPost w0.heap.size b (shutS σ text hi) w) := by
  obtain ⟨B, hBe⟩ : ∃ B, B = w0.heap.size := ⟨_, rfl⟩
  rw [← hBe] at h h0 ⊢
  have hw : B ≤ w.heap.size := by rw [hBe]; rw [hBe] at h0; exact h0.size
  have HBE := Aside0.mk hBe
  have HT := Aside0.mk hT
  have H0 := Aside0.mk h0
  have HAT := Aside0.mk h
  clear hBe hT h0
  obtain ⟨hB, hbk, hown, hl4⟩ := h
  have HK := Aside0.mk hbk
  have HO := Aside0.mk hown
  have HL := Aside0.mk hl4
  have hlt := blk_lt hbk
  have hne := own_ne hown hbk (by decide)
  have HNE := Aside0.mk hne
  have d3 : w.cell? ⟨b, 3, none⟩ = some (.int .i64 σ.from_) := blk_cell hbk 3
  have f3 := blk_frozen hbk 3
  have d4 : w.cell? ⟨b, 4, none⟩ = some (.int .i64 σ.ok.kind) := blk_cell hbk 4
  have f4 := blk_frozen hbk 4
  have d5 : w.cell? ⟨b, 5, none⟩ = some (.string σ.ok.text) := blk_cell hbk 5
  have f5 := blk_frozen hbk 5
  have d6 : w.cell? ⟨b, 6, none⟩ = some (.int .i64 σ.ok.line) := blk_cell hbk 6
  have f6 := blk_frozen hbk 6
  have d7 : w.cell? ⟨b, 7, none⟩ = some (.int .i64 σ.ok.col) := blk_cell hbk 7
  have f7 := blk_frozen hbk 7
  clear hbk hown hne hl4
  have HBB := Aside0.mk (Below.refl B w)
  have HOT := Aside0.mk (Lib.OthersKept.refl 90 (some b) w)
  by_cases hf : σ.from_ < 0
  · have HS : Aside0 (shutS σ text hi = σ) := ⟨if_pos hf⟩
    have t0 : decide (σ.from_ < 0) = true := decide_eq_true hf
    clear hf
    go_enter Tryz.func33, Tryz.ntmps33
    go_wp2_with fail
    go_end0
    rw [HS.out]
    exact ⟨rfl, ⟨v, HAT.out⟩, HBB.out, HOT.out⟩
  have t0 : decide (σ.from_ < 0) = false := decide_eq_false hf
  have HS : Aside0 (shutS σ text hi = if rightV { σ.ok with text := text.extract σ.from_.toNat hi.toNat } = true then addS { σ with ok := { σ.ok with text := text.extract σ.from_.toNat hi.toNat }, from_ := -1 } { σ.ok with text := text.extract σ.from_.toNat hi.toNat } else failS { σ with ok := { σ.ok with text := text.extract σ.from_.toNat hi.toNat }, from_ := -1 } 6 σ.ok.line σ.ok.col) := ⟨if_neg hf⟩
  have hf0 : 0 ≤ σ.from_ := by omega
  have ht0 : 0 ≤ hi := by omega
  have HEX : Aside0 ((text.extract σ.from_.toNat hi.toNat).size ≤ 70368744177664) := ⟨by rw [ByteArray.size_extract]; omega⟩
  clear hf
  go_enter Tryz.func33, Tryz.ntmps33
  go_wp2_with fail
  have HK1 : Aside0 (ScAt B b v { σ with ok := { σ.ok with text := text.extract σ.from_.toNat hi.toNat }, from_ := -1 } ((w.setCell ⟨b, 5, none⟩ (.string (text.extract σ.from_.toNat hi.toNat))).setCell ⟨b, 3, none⟩ (.int .i64 (-1)))) := ⟨⟨hB, (by apply blk_as; (case hh1 => with_reducible repeat (first | exact HK.out | apply blk_drewN | apply blk_drew | apply blk_alloc | apply blk_set)); (case hh2 => rfl)), (by with_reducible repeat (first | exact HO.out | refine row_set ?_ HNE.out _ | refine row_alloc ?_ _ | refine row_drew ?_ | refine row_drewN ?_ _)), HL.out⟩⟩
  have HBB1 : Aside0 (Below B w ((w.setCell ⟨b, 5, none⟩ (.string (text.extract σ.from_.toNat hi.toNat))).setCell ⟨b, 3, none⟩ (.int .i64 (-1)))) := ⟨(by with_reducible repeat (first | exact HBB.out | refine bel_set ?_ hB _ | refine below_drew ?_ | refine pw_below_drewN ?_ _ | refine bel_alloc ?_ hw _))⟩
  have HOT1 : Aside0 (Lib.OthersKept 90 (some b) w ((w.setCell ⟨b, 5, none⟩ (.string (text.extract σ.from_.toNat hi.toNat))).setCell ⟨b, 3, none⟩ (.int .i64 (-1)))) := ⟨(by with_reducible repeat (first | exact HOT.out | refine oth_set ?_ _ | refine oth_alloc ?_ _ | refine oth_drew ?_ | refine oth_drewN ?_ _))⟩
  obtain ⟨T, hTx⟩ : ∃ T, T = text.extract σ.from_.toNat hi.toNat := ⟨_, rfl⟩
  obtain ⟨W1, hW1⟩ : ∃ W1, W1 = (w.setCell ⟨b, 5, none⟩ (.string (text.extract σ.from_.toNat hi.toNat))).setCell ⟨b, 3, none⟩ (.int .i64 (-1)) := ⟨_, rfl⟩
  rw [← hW1] at HK1 HBB1 HOT1 ⊢
  rw [← hTx] at HK1 HS HEX ⊢
  clear hW1 hTx d3 d4 d5 d6 d7 f3 f4 f5 f6 f7 HBB HOT
  have HT1 : Aside0 (LexTabs W1) := ⟨HT.out.below (by rw [← HBE.out]; exact H0.out.trans HBB1.out)⟩
  refine (lex_right.calls { σ.ok with text := T } W1 HEX.out HT1.out).mono ?_
  rintro e w2 ⟨rfl, hb⟩
  have hat2 := HK1.out.below hb
  have d4 : w2.cell? ⟨b, 4, none⟩ = some (.int .i64 σ.ok.kind) := blk_cell hat2.2.1 4
  have d5 : w2.cell? ⟨b, 5, none⟩ = some (.string T) := blk_cell hat2.2.1 5
  have d6 : w2.cell? ⟨b, 6, none⟩ = some (.int .i64 σ.ok.line) := blk_cell hat2.2.1 6
  have d7 : w2.cell? ⟨b, 7, none⟩ = some (.int .i64 σ.ok.col) := blk_cell hat2.2.1 7
  have HAT2 := Aside0.mk hat2
  have HBB2 := Aside0.mk (below_then HBB1.out (Nat.le_trans hw HBB1.out.size) hb)
  have HOT2 := Aside0.mk (oth_below HOT1.out hb)
  clear hb hat2
  obtain ⟨r, hr⟩ : ∃ r, rightV { σ.ok with text := T } = r := ⟨_, rfl⟩
  rw [hr] at HS ⊢
  clear hr
  cases r with
  | false =>
    rw [if_neg (by decide)] at HS
    go_wp2_with fail
    refine (lex_fail.calls B b v _ 6 σ.ok.line σ.ok.col w2 (Nat.le_trans hw HBB2.out.size) HAT2.out).mono ?_
    rintro e w3 ⟨rfl, ha, hb3, ho3⟩
    have HX : Aside0 (ScPost B b (shutS σ text hi) w (.returned (.tuple #[])) w3) := ⟨by
      rw [HS.out]
      exact ⟨rfl, ⟨_, ha⟩, HBB2.out.trans hb3, HOT2.out.trans ho3⟩⟩
    clear ha hb3 ho3
    go_wp2_with fail
    go_end0
    exact HX.out
  | true =>
    rw [if_pos rfl] at HS
    go_wp2_with fail
    refine (lex_add.calls B b v _ { σ.ok with text := T } w2 (Nat.le_trans hw HBB2.out.size) HAT2.out).mono ?_
    rintro e w3 ⟨rfl, ha, hb3, ho3⟩
    have HX : Aside0 (ScPost B b (shutS σ text hi) w (.returned (.tuple #[])) w3) := ⟨by
      rw [HS.out]
      exact ⟨rfl, ha, HBB2.out.trans hb3, HOT2.out.trans ho3⟩⟩
    clear ha hb3 ho3
    go_wp2_with fail
    go_end0
    exact HX.out
end Go.Proofs.YtknbhbppofphpaaGreatDoor.X

/-! strings.ContainsRune at lex's seven signs: every rune, and what is none. -/
set_option linter.unusedVariables false
set_option linter.unusedSimpArgs false
namespace Go.Proofs.YtknbhbppofphpaaGreatDoor.X
open Go.RowKit Go.Shelf Go.Proofs.YtknbhbppofphpaaGreatDoorW.PrintWords Go.Proofs.YtknbhbppofphpaaGreatDoorW.PrintLast Go.Proofs.YtknbhbppofphpaaGreatDoorW.PrintMore
def signV (r : Int) : Bool := decide (r = 123 ∨ r = 125 ∨ r = 40 ∨ r = 41 ∨ r = 61 ∨ r = 59 ∨ r = 46)
theorem sign_ascii_all : ∀ r : Nat, r < 128 → decide (0 ≤ Lib.indexByte [123, 125, 40, 41, 61, 59, 46] r.toUInt8) = signV (r : Int) := by decide +kernel
theorem sign_ascii {r : Int} (h0 : 0 ≤ r) (h1 : r < 128) : decide (0 ≤ Lib.indexByte ({ data := #[123, 125, 40, 41, 61, 59, 46] } : ByteArray).data.toList r.toNat.toUInt8) = signV r := by
  have h := sign_ascii_all r.toNat (by omega)
  rw [Int.toNat_of_nonneg h0] at h
  exact h
theorem sign_not {r : Int} (h : r < 0 ∨ 128 ≤ r) : signV r = false := by
  unfold signV
  exact decide_eq_false (by omega)
theorem indexByte_no : ∀ (l : List UInt8) (c : UInt8), (∀ b ∈ l, b ≠ c) → Lib.indexByte l c = -1
  | [], _, _ => rfl
  | b :: l, c, h => by
    unfold Lib.indexByte
    rw [if_neg (by simpa using h b List.mem_cons_self), indexByte_no l c (fun x hx => h x (List.mem_cons_of_mem _ hx)), if_pos (by rfl)]
set_option maxHeartbeats 4000000 in
set_option maxRecDepth 100000 in
theorem indexRune_signs (r : Int) (h : r < 0 ∨ 128 ≤ r) (h1 : r ≤ 2147483647) (w : World) :
    Calls Tryz.prog 92 #[.string { data := #[123, 125, 40, 41, 61, 59, 46] }, .int .i32 r] w fun e w' => e = .returned (.int .i64 (-1)) ∧ Below w.heap.size w w' := by
  have HB := Aside0.mk (Below.refl w.heap.size w)
  by_cases hneg : r < 0
  · have t0 : decide (0 ≤ r) = false := decide_eq_false (by omega)
    have t1 : (r == 65533) = false := beq_eq_false_iff_ne.mpr (by omega)
    have hv : Lib.validRune r = false := by unfold Lib.validRune; simp; omega
    go_enter Tryz.func92, Tryz.ntmps92
    go_wp2_with fail
    refine (Tryz.utf8_ValidRune r _).mono ?_
    rintro e w' ⟨rfl, rfl⟩
    rw [hv]
    go_wp2_with fail
    go_ret
    exact ⟨rfl, HB.out⟩
  have t0 : decide (0 ≤ r) = true := decide_eq_true (by omega)
  have t0b : decide (r < 128) = false := decide_eq_false (by omega)
  by_cases h65 : r = 65533
  · subst h65
    go_enter Tryz.func92, Tryz.ntmps92
    go_wp2_with fail
    go_loopw [] (fun wr => ∃ pos : Nat, Aside0 (wr.heap[w.heap.size]? = some (.stringIter { data := #[123, 125, 40, 41, 61, 59, 46] } pos)) ∧ Aside0 (Below w.heap.size w wr)) (fun wr => 7 - wr.iterPos w.heap.size)
    case atStart => exact ⟨0, ⟨World.iter_heap w _ 0⟩, ⟨(Below.refl _ w).alloc (Nat.le_refl _) _⟩⟩
    case round =>
      obtain ⟨pos, HI, HB⟩ := hrel
      have hsz : w.heap.size < wr.heap.size := (Array.getElem?_eq_some_iff.1 HI.out).1
      by_cases hp : pos < 7
      · have hnx : ∀ ty, (Instr.next (.pointer (some ⟨w.heap.size, 0, none⟩)) true ty).run Tryz.prog wr = _ := fun ty => Lib.run_next_any_at wr w.heap.size _ pos ty HI.out hp
        have hdec : ∀ p : Fin 7, (Utf8.decode { data := #[123, 125, 40, 41, 61, 59, 46] } p.val).2 = 1 ∧ (Utf8.decode { data := #[123, 125, 40, 41, 61, 59, 46] } p.val).1 ≠ 65533 := by decide +kernel
        have hd := hdec ⟨pos, hp⟩
        have HI2 := Aside0.mk (Lib.iterAt_heap wr w.heap.size _ pos (pos + (Utf8.decode { data := #[123, 125, 40, 41, 61, 59, 46] } pos).2) HI.out)
        have HB2 := Aside0.mk (Lib.below_iterAt HB.out (k := w.heap.size) (by omega) { data := #[123, 125, 40, 41, 61, 59, 46] } (pos + (Utf8.decode { data := #[123, 125, 40, 41, 61, 59, 46] } pos).2))
        have HM : Aside0 (wr.iterPos w.heap.size = pos) := ⟨by simp only [World.iterPos, HI.out]⟩
        have h1 := hd.1
        have h2 := hd.2
        simp only at h1 h2
        generalize (Utf8.decode { data := #[123, 125, 40, 41, 61, 59, 46] } pos).1 = x at *
        generalize (Utf8.decode { data := #[123, 125, 40, 41, 61, 59, 46] } pos).2 = d at *
        have tx : ((x : Int) == 65533) = false := beq_eq_false_iff_ne.mpr (by omega)
        have H1 := Aside0.mk h1
        clear h1 h2 hd hdec
        go_wp2_with fail
        go_roundw
        case rel => exact ⟨pos + d, HI2, HB2⟩
        case measure =>
          have h1 : World.iterPos (wr.iterAt w.heap.size { data := #[123, 125, 40, 41, 61, 59, 46] } (pos + d)) w.heap.size = pos + d := by simp only [World.iterPos, HI2.out]
          rw [h1, HM.out, H1.out]
          omega
      · have hnx : ∀ ty, (Instr.next (.pointer (some ⟨w.heap.size, 0, none⟩)) true ty).run Tryz.prog wr = _ := fun ty => Lib.run_next_end_at wr w.heap.size _ pos ty HI.out hp
        go_wp2_with fail
        go_ret
        exact ⟨rfl, HB.out⟩
  have t1 : (r == 65533) = false := beq_eq_false_iff_ne.mpr h65
  cases hv : Lib.validRune r with
  | false =>
    go_enter Tryz.func92, Tryz.ntmps92
    go_wp2_with fail
    refine (Tryz.utf8_ValidRune r _).mono ?_
    rintro e w' ⟨rfl, rfl⟩
    rw [hv]
    go_wp2_with fail
    go_ret
    exact ⟨rfl, HB.out⟩
  | true =>
    go_enter Tryz.func92, Tryz.ntmps92
    go_wp2_with fail
    refine (Tryz.utf8_ValidRune r _).mono ?_
    rintro e w' ⟨rfl, rfl⟩
    rw [hv]
    have hval : Utf8.valid r = true := by
      unfold Lib.validRune at hv
      unfold Utf8.valid
      simp at hv ⊢
      omega
    have hef := encode_facts r hval (by omega)
    clear hv hval
    go_wp2_with fail
    go_step3
    go_wp2_with fail
    generalize Utf8.encode r = E at *
    obtain ⟨x, hx, hxe⟩ : ∃ x : UInt8, 128 ≤ x.toNat ∧ ∀ h, E[E.size - 1]'h = x := ⟨E[E.size - 1]'(by omega), hef.2.2 (by omega), fun _ => rfl⟩
    have hidx : ∀ k, k < 7 → Lib.indexByte (({ data := #[123, 125, 40, 41, 61, 59, 46] } : ByteArray).extract k 7).data.toList x = -1 := by
      intro k hk
      refine indexByte_no _ _ (fun b hb e => ?_)
      subst e
      rw [Lib.extract_data] at hb
      have h2 := List.mem_of_mem_drop (List.mem_of_mem_take hb)
      simp at h2
      rcases h2 with rfl | rfl | rfl | rfl | rfl | rfl | rfl <;> revert hx <;> decide
    have HIDX := Aside0.mk hidx
    have hx256 := x.toNat_lt
    have H2 := Aside0.mk hef.2.1
    have H1 := Aside0.mk hef.1
    clear hidx hef
    go_loopw [9, 10] (fun v9 v10 wr => v9 = .int .i64 ((E.size : Int) - 1) ∧ v10 = .int .i64 0 ∧ Aside0 (wr = w')) (fun _ _ _ => 0)
    case atStart => exact ⟨rfl, rfl, ⟨rfl⟩⟩
    case round =>
      obtain ⟨rfl, rfl, HWR⟩ := hrel
      obtain rfl := HWR.out
      obtain ⟨n, hn⟩ : ∃ n, E.size = n := ⟨_, rfl⟩
      have hn2 : n = 2 ∨ n = 3 ∨ n = 4 := by have h1 := H1.out; have h2 := H2.out; omega
      have HN := Aside0.mk hn
      rcases hn2 with rfl | rfl | rfl
      · have hxe2 : ∀ h, E[1]'h = x := fun h => by have := hxe (by rw [hn]; omega); simp only [hn] at this; exact this
        have hi : ∀ h, (({ data := #[123, 125, 40, 41, 61, 59, 46] } : ByteArray)[1]'h) = 125 := fun _ => rfl
        have tne : ((125 : Int) != (x.toNat : Int)) = true := bne_iff_ne.mpr (by omega)
        have ww : IntKind.i64.wrap 2 = 2 := by decide
        have hid := HIDX.out 2 (by decide)
        have hxx : (x.toNat : Int).toNat.toUInt8 = x := by simp
        have HXX := Aside0.mk hxx
        clear hxe hxx
        go_wp2_with fail
        go_step3
        go_wp2_with fail
        go_quiet (fail)
        go_wp2_with fail
        have HB2 := Aside0.mk (pw_below_drewN HB.out nq)
        generalize wr.drewN nq = W2 at *
        have hcall := fun W => Tryz.strings_IndexByte (({ data := #[123, 125, 40, 41, 61, 59, 46] } : ByteArray).extract 2 7) (x.toNat : Int) W
        rw [HXX.out, hid] at hcall
        have HCALL := Aside0.mk hcall
        clear hcall hid
        go_quiet ((go_at_call 104; exact Calls.quiet_of_same (HCALL.out _)))
        go_wp2_with fail
        rw [Exit.noGoto_ret]
        go_wp2_with fail
        rw [Exit.noGoto_ret]
        go_wp2_with fail
        go_ret
        exact ⟨rfl, pw_below_drewN HB2.out _⟩
      · have hxe2 : ∀ h, E[2]'h = x := fun h => by have := hxe (by rw [hn]; omega); simp only [hn] at this; exact this
        have hi : ∀ h, (({ data := #[123, 125, 40, 41, 61, 59, 46] } : ByteArray)[2]'h) = 40 := fun _ => rfl
        have tne : ((40 : Int) != (x.toNat : Int)) = true := bne_iff_ne.mpr (by omega)
        have ww : IntKind.i64.wrap 3 = 3 := by decide
        have hid := HIDX.out 3 (by decide)
        have hxx : (x.toNat : Int).toNat.toUInt8 = x := by simp
        have HXX := Aside0.mk hxx
        clear hxe hxx
        go_wp2_with fail
        go_step3
        go_wp2_with fail
        go_quiet (fail)
        go_wp2_with fail
        have HB2 := Aside0.mk (pw_below_drewN HB.out nq)
        generalize wr.drewN nq = W2 at *
        have hcall := fun W => Tryz.strings_IndexByte (({ data := #[123, 125, 40, 41, 61, 59, 46] } : ByteArray).extract 3 7) (x.toNat : Int) W
        rw [HXX.out, hid] at hcall
        have HCALL := Aside0.mk hcall
        clear hcall hid
        go_quiet ((go_at_call 104; exact Calls.quiet_of_same (HCALL.out _)))
        go_wp2_with fail
        rw [Exit.noGoto_ret]
        go_wp2_with fail
        rw [Exit.noGoto_ret]
        go_wp2_with fail
        go_ret
        exact ⟨rfl, pw_below_drewN HB2.out _⟩
      · have hxe2 : ∀ h, E[3]'h = x := fun h => by have := hxe (by rw [hn]; omega); simp only [hn] at this; exact this
        have hi : ∀ h, (({ data := #[123, 125, 40, 41, 61, 59, 46] } : ByteArray)[3]'h) = 41 := fun _ => rfl
        have tne : ((41 : Int) != (x.toNat : Int)) = true := bne_iff_ne.mpr (by omega)
        have ww : IntKind.i64.wrap 4 = 4 := by decide
        have hid := HIDX.out 4 (by decide)
        have hxx : (x.toNat : Int).toNat.toUInt8 = x := by simp
        have HXX := Aside0.mk hxx
        clear hxe hxx
        go_wp2_with fail
        go_step3
        go_wp2_with fail
        go_quiet (fail)
        go_wp2_with fail
        have HB2 := Aside0.mk (pw_below_drewN HB.out nq)
        generalize wr.drewN nq = W2 at *
        have hcall := fun W => Tryz.strings_IndexByte (({ data := #[123, 125, 40, 41, 61, 59, 46] } : ByteArray).extract 4 7) (x.toNat : Int) W
        rw [HXX.out, hid] at hcall
        have HCALL := Aside0.mk hcall
        clear hcall hid
        go_quiet ((go_at_call 104; exact Calls.quiet_of_same (HCALL.out _)))
        go_wp2_with fail
        rw [Exit.noGoto_ret]
        go_wp2_with fail
        rw [Exit.noGoto_ret]
        go_wp2_with fail
        go_ret
        exact ⟨rfl, pw_below_drewN HB2.out _⟩
set_option maxHeartbeats 1000000 in
theorem contains_signs (r : Int) (h0 : -2147483648 ≤ r) (h1 : r ≤ 2147483647) (w : World) :
    Calls Tryz.prog 80 #[.string { data := #[123, 125, 40, 41, 61, 59, 46] }, .int .i32 r] w fun e w' => e = .returned (.bool (signV r)) ∧ Below w.heap.size w w' := by
  by_cases h : 0 ≤ r ∧ r < 128
  · refine (Tryz.strings_ContainsRune_ascii _ r w h.1 h.2).mono ?_
    rintro e w' ⟨rfl, rfl⟩
    rw [sign_ascii h.1 h.2]
    exact ⟨rfl, Below.refl _ _⟩
  · rw [sign_not (by omega)]
    go_enter Tryz.func80, Tryz.ntmps80
    go_wp2_with fail
    refine (indexRune_signs r (by omega) h1 _).mono ?_
    rintro e w' ⟨rfl, hb⟩
    have HB := Aside0.mk hb
    clear hb
    go_wp2_with fail
    go_ret
    exact ⟨rfl, HB.out⟩
end Go.Proofs.YtknbhbppofphpaaGreatDoor.X

/-! lex's scanner: rune. -/
set_option linter.unusedVariables false
set_option linter.unusedSimpArgs false
namespace Go.Proofs.YtknbhbppofphpaaGreatDoor.X
open Go.RowKit Go.Shelf Go.Proofs.YtknbhbppofphpaaGreatDoorW.PrintWords Go.Proofs.YtknbhbppofphpaaGreatDoorW.PrintLast Go.Proofs.YtknbhbppofphpaaGreatDoorW.PrintMore
def digitZ (r : Int) : Bool := decide (48 ≤ r ∧ r ≤ 57)
def letterZ (r : Int) : Bool := decide ((97 ≤ r ∧ r ≤ 122) ∨ (65 ≤ r ∧ r ≤ 90) ∨ (913 ≤ r ∧ r ≤ 969))
theorem letterZ_f (r : Int) : ident_Letter.f r = some (letterZ r) := by
  unfold ident_Letter.f letterZ
  repeat' split
  all_goals
    rw [Option.some.injEq, Bool.eq_iff_iff]
    simp only [decide_eq_true_eq, true_iff, Bool.false_eq_true, false_iff]
    omega
theorem digitZ_f (r : Int) : ident_Digit.f r = some (digitZ r) := by
  unfold ident_Digit.f digitZ
  repeat' split
  all_goals
    rw [Option.some.injEq, Bool.eq_iff_iff]
    simp only [decide_eq_true_eq, true_iff, Bool.false_eq_true, false_iff]
    omega
def emptyB : ByteArray := ⟨#[]⟩
/-- What the scanner does at a rune that is in no word. -/
def runeS (σ : Sc) (i r : Int) : Sc :=
  if r = 32 ∨ r = 9 ∨ r = 10 then σ
  else if letterZ r = true then { σ with from_ := i, ok := ⟨1, emptyB, σ.line, σ.col⟩ }
  else if digitZ r = true then { σ with from_ := i, ok := ⟨2, emptyB, σ.line, σ.col⟩ }
  else if signV r = true then addS σ ⟨3, Utf8.encode r, σ.line, σ.col⟩
  else if r = 47 then { σ with slash := true, bl := σ.line, bc := σ.col }
  else failS σ 6 σ.line σ.col
set_option maxHeartbeats 4000000 in
set_option maxRecDepth 100000 in
theorem lex_rune.calls (B b : Nat) (v : Value) (σ : Sc) (i r : Int) (w : World) (hw : B ≤ w.heap.size) (h : ScAt B b v σ w) (hr0 : -2147483648 ≤ r) (hr1 : r ≤ 2147483647) :
    Calls Tryz.prog 60 #[.pointer (some ⟨b, 0, none⟩), .int .i64 i, .int .i32 r] w (ScPost B b (runeS σ i r) w) := by
  have HAT := Aside0.mk h
  obtain ⟨hB, hbk, hown, hl4⟩ := h
  have HK := Aside0.mk hbk
  have HO := Aside0.mk hown
  have HL := Aside0.mk hl4
  have hlt := blk_lt hbk
  have hne := own_ne hown hbk (by decide)
  have HNE := Aside0.mk hne
  have d1 : w.cell? ⟨b, 1, none⟩ = some (.int .i64 σ.line) := blk_cell hbk 1
  have f1 := blk_frozen hbk 1
  have d2 : w.cell? ⟨b, 2, none⟩ = some (.int .i64 σ.col) := blk_cell hbk 2
  have f2 := blk_frozen hbk 2
  have d3 : w.cell? ⟨b, 3, none⟩ = some (.int .i64 σ.from_) := blk_cell hbk 3
  have f3 := blk_frozen hbk 3
  have d4 : w.cell? ⟨b, 4, none⟩ = some (.int .i64 σ.ok.kind) := blk_cell hbk 4
  have f4 := blk_frozen hbk 4
  have d5 : w.cell? ⟨b, 5, none⟩ = some (.string σ.ok.text) := blk_cell hbk 5
  have f5 := blk_frozen hbk 5
  have d6 : w.cell? ⟨b, 6, none⟩ = some (.int .i64 σ.ok.line) := blk_cell hbk 6
  have f6 := blk_frozen hbk 6
  have d7 : w.cell? ⟨b, 7, none⟩ = some (.int .i64 σ.ok.col) := blk_cell hbk 7
  have f7 := blk_frozen hbk 7
  have d9 : w.cell? ⟨b, 9, none⟩ = some (.bool σ.slash) := blk_cell hbk 9
  have f9 := blk_frozen hbk 9
  have d10 : w.cell? ⟨b, 10, none⟩ = some (.int .i64 σ.bl) := blk_cell hbk 10
  have f10 := blk_frozen hbk 10
  have d11 : w.cell? ⟨b, 11, none⟩ = some (.int .i64 σ.bc) := blk_cell hbk 11
  have f11 := blk_frozen hbk 11
  clear hbk hown hne hl4
  have HBB := Aside0.mk (Below.refl B w)
  have HOT := Aside0.mk (Lib.OthersKept.refl 90 (some b) w)
  have HR0 : Aside0 (runeS σ i r = if r = 32 ∨ r = 9 ∨ r = 10 then σ else if letterZ r = true then { σ with from_ := i, ok := ⟨1, emptyB, σ.line, σ.col⟩ } else if digitZ r = true then { σ with from_ := i, ok := ⟨2, emptyB, σ.line, σ.col⟩ } else if signV r = true then addS σ ⟨3, Utf8.encode r, σ.line, σ.col⟩ else if r = 47 then { σ with slash := true, bl := σ.line, bc := σ.col } else failS σ 6 σ.line σ.col) := ⟨rfl⟩
  by_cases hbl : r = 32 ∨ r = 9 ∨ r = 10
  · rw [if_pos hbl] at HR0
    go_enter Tryz.func60, Tryz.ntmps60
    rcases hbl with rfl | rfl | rfl
    all_goals
      go_wp2_with fail
      go_end0
      rw [HR0.out]
      exact ⟨rfl, ⟨v, HAT.out⟩, HBB.out, HOT.out⟩
  rw [if_neg hbl] at HR0
  have t1 : (r == 32) = false := beq_eq_false_iff_ne.mpr (by omega)
  have t2 : (r == 9) = false := beq_eq_false_iff_ne.mpr (by omega)
  have t3 : (r == 10) = false := beq_eq_false_iff_ne.mpr (by omega)
  clear hbl
  have HL1 := Aside0.mk (letterZ_f r)
  have HD1 := Aside0.mk (digitZ_f r)
  generalize letterZ r = z1 at *
  generalize digitZ r = z2 at *
  obtain ⟨z3, hz3⟩ : ∃ z3, signV r = z3 := ⟨_, rfl⟩
  rw [hz3] at HR0
  have HZ3 := Aside0.mk hz3
  clear hz3
  go_enter Tryz.func60, Tryz.ntmps60
  go_wp2_with fail
  refine (ident_Letter.calls r z1 _ HL1.out).mono ?_
  rintro e w' ⟨rfl, ⟨nd, rfl⟩⟩
  cases z1 with
  | true =>
    rw [if_pos rfl] at HR0
    go_wp2_with fail
    go_end0
    rw [HR0.out]
    exact ⟨rfl, ⟨v, hB, (by apply blk_as; (case hh1 => with_reducible repeat (first | exact HK.out | apply blk_drewN | apply blk_drew | apply blk_alloc | apply blk_set)); (case hh2 => rfl)), (by with_reducible repeat (first | exact HO.out | refine row_set ?_ HNE.out _ | refine row_alloc ?_ _ | refine row_drew ?_ | refine row_drewN ?_ _)), HL.out⟩, (by with_reducible repeat (first | exact HBB.out | refine bel_set ?_ hB _ | refine below_drew ?_ | refine pw_below_drewN ?_ _ | refine bel_alloc ?_ hw _)), (by with_reducible repeat (first | exact HOT.out | refine oth_set ?_ _ | refine oth_alloc ?_ _ | refine oth_drew ?_ | refine oth_drewN ?_ _))⟩
  | false =>
    rw [if_neg (by decide)] at HR0
    go_wp2_with fail
    refine (ident_Digit.calls r z2 _ HD1.out).mono ?_
    rintro e w' ⟨rfl, ⟨nd2, rfl⟩⟩
    cases z2 with
    | true =>
      rw [if_pos rfl] at HR0
      go_wp2_with fail
      go_end0
      rw [HR0.out]
      exact ⟨rfl, ⟨v, hB, (by apply blk_as; (case hh1 => with_reducible repeat (first | exact HK.out | apply blk_drewN | apply blk_drew | apply blk_alloc | apply blk_set)); (case hh2 => rfl)), (by with_reducible repeat (first | exact HO.out | refine row_set ?_ HNE.out _ | refine row_alloc ?_ _ | refine row_drew ?_ | refine row_drewN ?_ _)), HL.out⟩, (by with_reducible repeat (first | exact HBB.out | refine bel_set ?_ hB _ | refine below_drew ?_ | refine pw_below_drewN ?_ _ | refine bel_alloc ?_ hw _)), (by with_reducible repeat (first | exact HOT.out | refine oth_set ?_ _ | refine oth_alloc ?_ _ | refine oth_drew ?_ | refine oth_drewN ?_ _))⟩
    | false =>
      rw [if_neg (by decide)] at HR0
      have HK9 : Aside0 (ScAt B b v σ (w.drewN (nd + nd2))) := ⟨hB, (by apply blk_as; (case hh1 => with_reducible repeat (first | exact HK.out | apply blk_drewN | apply blk_drew | apply blk_alloc | apply blk_set)); (case hh2 => rfl)), (by with_reducible repeat (first | exact HO.out | refine row_set ?_ HNE.out _ | refine row_alloc ?_ _ | refine row_drew ?_ | refine row_drewN ?_ _)), HL.out⟩
      have HB9 : Aside0 (Below B w (w.drewN (nd + nd2))) := ⟨(by with_reducible repeat (first | exact HBB.out | refine bel_set ?_ hB _ | refine below_drew ?_ | refine pw_below_drewN ?_ _ | refine bel_alloc ?_ hw _))⟩
      have HO9 : Aside0 (Lib.OthersKept 90 (some b) w (w.drewN (nd + nd2))) := ⟨(by with_reducible repeat (first | exact HOT.out | refine oth_set ?_ _ | refine oth_alloc ?_ _ | refine oth_drew ?_ | refine oth_drewN ?_ _))⟩
      go_wp2_with fail
      refine (contains_signs r hr0 hr1 _).mono ?_
      rintro e w2 ⟨rfl, hb2⟩
      rw [HZ3.out]
      have hat2 := HK9.out.below hb2
      have HBBx := Aside0.mk (below_then HB9.out (by simpa using hw) hb2)
      have HOTx := Aside0.mk (oth_below HO9.out hb2)
      have hw2 : B ≤ w2.heap.size := Nat.le_trans hw HBBx.out.size
      clear d1 d2 d3 d4 d5 d6 d7 d9 d10 d11 f1 f2 f3 f4 f5 f6 f7 f9 f10 f11 hb2 HK9 HB9 HO9 HK HO HBB HOT HAT
      obtain ⟨_, hbk, hown, _⟩ := id hat2
      have d1 : w2.cell? ⟨b, 1, none⟩ = some (.int .i64 σ.line) := blk_cell hbk 1
      have f1 := blk_frozen hbk 1
      have d2 : w2.cell? ⟨b, 2, none⟩ = some (.int .i64 σ.col) := blk_cell hbk 2
      have f2 := blk_frozen hbk 2
      have d9 : w2.cell? ⟨b, 9, none⟩ = some (.bool σ.slash) := blk_cell hbk 9
      have f9 := blk_frozen hbk 9
      have d10 : w2.cell? ⟨b, 10, none⟩ = some (.int .i64 σ.bl) := blk_cell hbk 10
      have f10 := blk_frozen hbk 10
      have d11 : w2.cell? ⟨b, 11, none⟩ = some (.int .i64 σ.bc) := blk_cell hbk 11
      have f11 := blk_frozen hbk 11
      have HAT2 := Aside0.mk hat2
      have HK := Aside0.mk hbk
      have HO := Aside0.mk hown
      have HBB := HBBx
      have HOT := HOTx
      clear hat2 hbk hown
      cases z3 with
      | true =>
        rw [if_pos rfl] at HR0
        go_wp2_with fail
        refine (lex_add.calls B b v σ ⟨3, Utf8.encode r, σ.line, σ.col⟩ w2 hw2 HAT2.out).mono ?_
        rintro e w3 ⟨rfl, ha, hb3, ho3⟩
        have HX : Aside0 (ScPost B b (runeS σ i r) w (.returned (.tuple #[])) w3) := ⟨by
          rw [HR0.out]
          exact ⟨rfl, ha, HBB.out.trans hb3, HOT.out.trans ho3⟩⟩
        clear ha hb3 ho3
        go_wp2_with fail
        go_end0
        exact HX.out
      | false =>
        rw [if_neg (by decide)] at HR0
        by_cases h47 : r = 47
        · have t47 : (r == 47) = true := beq_iff_eq.mpr h47
          rw [if_pos h47] at HR0
          clear h47
          go_wp2_with fail
          go_end0
          rw [HR0.out]
          exact ⟨rfl, ⟨v, hB, (by apply blk_as; (case hh1 => with_reducible repeat (first | exact HK.out | apply blk_drewN | apply blk_drew | apply blk_alloc | apply blk_set)); (case hh2 => rfl)), (by with_reducible repeat (first | exact HO.out | refine row_set ?_ HNE.out _ | refine row_alloc ?_ _ | refine row_drew ?_ | refine row_drewN ?_ _)), HL.out⟩, (by with_reducible repeat (first | exact HBB.out | refine bel_set ?_ hB _ | refine below_drew ?_ | refine pw_below_drewN ?_ _ | refine bel_alloc ?_ hw _)), (by with_reducible repeat (first | exact HOT.out | refine oth_set ?_ _ | refine oth_alloc ?_ _ | refine oth_drew ?_ | refine oth_drewN ?_ _))⟩
        · have t47 : (r == 47) = false := beq_eq_false_iff_ne.mpr h47
          rw [if_neg h47] at HR0
          go_wp2_with fail
          refine (lex_fail.calls B b v σ 6 σ.line σ.col w2 hw2 HAT2.out).mono ?_
          rintro e w3 ⟨rfl, ha, hb3, ho3⟩
          have HX : Aside0 (ScPost B b (runeS σ i r) w (.returned (.tuple #[])) w3) := ⟨by
            rw [HR0.out]
            exact ⟨rfl, ⟨_, ha⟩, HBB.out.trans hb3, HOT.out.trans ho3⟩⟩
          clear ha hb3 ho3
          go_wp2_with fail
          go_end0
          exact HX.out
end Go.Proofs.YtknbhbppofphpaaGreatDoor.X
