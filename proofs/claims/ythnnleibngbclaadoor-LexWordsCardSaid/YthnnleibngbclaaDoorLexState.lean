/- The scanner of lex: its state, plainly; where it lies in memory. -/
import Derived.Test.YthnnleibngbclaaDoorRefName
import Derived.Lib.OthersKept
set_option linter.unusedVariables false
set_option linter.unusedSimpArgs false
namespace Go.Proofs.YthnnleibngbclaaDoor.X
open Go.RowKit Go.Shelf Go.Proofs.YthnnleibngbclaaDoorW.PrintWords Go.Proofs.YthnnleibngbclaaDoorW.PrintLast Go.Proofs.YthnnleibngbclaaDoorW.PrintMore
structure Wd where
  kind : Int
  text : ByteArray
  line : Int
  col : Int
structure Sc where
  words : List Wd
  line : Int
  col : Int
  from_ : Int
  ok : Wd
  note : Bool
  slash : Bool
  bl : Int
  bc : Int
  end_ : Int
  pl : Int
  pc : Int
def wdCells (x : Wd) : List Value := [.int .i64 x.kind, .string x.text, .int .i64 x.line, .int .i64 x.col]
def rowCells (l : List Wd) : List Value := l.flatMap wdCells
theorem rowCells_append (l m : List Wd) : rowCells (l ++ m) = rowCells l ++ rowCells m := by simp [rowCells]
theorem rowCells_one (x : Wd) : rowCells [x] = wdCells x := by simp [rowCells]
def scCells (v : Value) (σ : Sc) : Array Value :=
  #[v, .int .i64 σ.line, .int .i64 σ.col, .int .i64 σ.from_, .int .i64 σ.ok.kind, .string σ.ok.text, .int .i64 σ.ok.line, .int .i64 σ.ok.col, .bool σ.note, .bool σ.slash, .int .i64 σ.bl, .int .i64 σ.bc, .int .i64 σ.end_, .int .i64 σ.pl, .int .i64 σ.pc]
/-- The scanner lies at block b, its words in a row of the call's own. -/
def ScAt (B b : Nat) (v : Value) (σ : Sc) (w : World) : Prop :=
  B ≤ b ∧ w.heap[b]? = some (.cells (scCells v σ) 39 (0, 0)) ∧ w.ownsRow B 30 4 v σ.words.length (rowCells σ.words) ∧ σ.words.length ≤ 4000
/-- What a method leaves: the scanner, all below B, all that is neither it nor a row of words. -/
def ScPost (B b : Nat) (σ : Sc) (w : World) (e : Ending) (w' : World) : Prop :=
  e = .returned (.tuple #[]) ∧ (∃ v, ScAt B b v σ w') ∧ Below B w w' ∧ Lib.OthersKept 30 (some b) w w'
theorem ScAt.ne {B b : Nat} {v : Value} {σ : Sc} {w : World} (h : ScAt B b v σ w) : some b ≠ v.ownBlock := own_ne h.2.2.1 h.2.1 (by decide)
theorem ScAt.lt {B b : Nat} {v : Value} {σ : Sc} {w : World} (h : ScAt B b v σ w) : b < w.heap.size := blk_lt h.2.1
theorem ScAt.below {B b : Nat} {v : Value} {σ : Sc} {w w' : World} (h : ScAt B b v σ w) (hb : Below w.heap.size w w') : ScAt B b v σ w' :=
  ⟨h.1, blk_below h.2.1 hb, pw_own_below h.2.2.1 hb, h.2.2.2⟩
def failS (σ : Sc) (e l c : Int) : Sc := if σ.end_ = 0 then { σ with end_ := e, pl := l, pc := c } else σ
theorem failS_words (σ : Sc) (e l c : Int) : (failS σ e l c).words = σ.words := by unfold failS; split <;> rfl
def addS (σ : Sc) (x : Wd) : Sc := if σ.words.length = 4000 then failS σ 4 x.line x.col else { σ with words := σ.words ++ [x] }
theorem blk_as {a b c : Option Obj} (hh1 : a = b) (hh2 : b = c) : a = c := hh1.trans hh2
theorem oth_set {b i : Nat} {a w : World} (h : Lib.OthersKept 30 (some b) a w) (u : Value) : Lib.OthersKept 30 (some b) a (w.setCell ⟨b, i, none⟩ u) := h.setCell _ rfl u
theorem oth_alloc {b : Nat} {a w : World} (h : Lib.OthersKept 30 (some b) a w) (o : Obj) : Lib.OthersKept 30 (some b) a (w.alloc o) := h.alloc o
theorem oth_drew {b : Nat} {a w : World} (h : Lib.OthersKept 30 (some b) a w) : Lib.OthersKept 30 (some b) a w.drew := h
theorem oth_drewN {b : Nat} {a w : World} (h : Lib.OthersKept 30 (some b) a w) (n : Nat) : Lib.OthersKept 30 (some b) a (w.drewN n) := h
theorem bel_set {B b i : Nat} {a w : World} (h : Below B a w) (hB : B ≤ b) (u : Value) : Below B a (w.setCell ⟨b, i, none⟩ u) := h.setCell hB u
theorem bel_alloc {B : Nat} {a w : World} (h : Below B a w) (hw : B ≤ a.heap.size) (o : Obj) : Below B a (w.alloc o) := h.alloc (Nat.le_trans hw h.size) o
theorem row_set {B b i n : Nat} {e : TypeId} {w : World} {v : Value} {xs : List Value} (h : w.ownsRow B e 4 v n xs) (hne : some b ≠ v.ownBlock) (u : Value) : (w.setCell ⟨b, i, none⟩ u).ownsRow B e 4 v n xs := own_setCell h hne u
theorem row_alloc {B n : Nat} {e : TypeId} {w : World} {v : Value} {xs : List Value} (h : w.ownsRow B e 4 v n xs) (o : Obj) : (w.alloc o).ownsRow B e 4 v n xs := pw_own_below h (below_alloc (Below.refl _ _) o)
theorem row_drew {B n : Nat} {e : TypeId} {w : World} {v : Value} {xs : List Value} (h : w.ownsRow B e 4 v n xs) : w.drew.ownsRow B e 4 v n xs := pw_own_below h (below_drew (Below.refl _ _))
theorem row_drewN {B n : Nat} {e : TypeId} {w : World} {v : Value} {xs : List Value} (h : w.ownsRow B e 4 v n xs) (m : Nat) : (w.drewN m).ownsRow B e 4 v n xs := pw_own_below h (pw_below_drewN (Below.refl _ _) m)
end Go.Proofs.YthnnleibngbclaaDoor.X
