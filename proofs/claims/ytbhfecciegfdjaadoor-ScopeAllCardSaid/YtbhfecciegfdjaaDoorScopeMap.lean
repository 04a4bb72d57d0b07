/- A map of numbers by texts, told as a function: what it answers, what a store does; first names of a list of symbols. -/
import Derived.Test.YtbhfecciegfdjaaDoorScopeAll
import Derived.Maps.OwnSet
import Derived.Maps.Views
set_option linter.unusedVariables false
set_option linter.unusedSimpArgs false
namespace Go.Proofs.YtbhfecciegfdjaaDoor.X
open Go.RowKit Go.Proofs.YtbhfecciegfdjaaDoorW.PrintWords Go.Proofs.YtbhfecciegfdjaaDoorW.PrintLast Go.Proofs.YtbhfecciegfdjaaDoorW.PrintMore
def keyB (s : ByteArray) : Lit := .string s.data.toList
theorem keyB_inj {s t : ByteArray} (h : keyB s = keyB t) : s = t := by
  unfold keyB at h
  injection h with h
  exact ByteArray.ext (Array.toList_inj.mp h)
/-- Block b is a map that answers as g. -/
def Kmap (w : World) (b n : Nat) (g : ByteArray → Option Int) : Prop :=
  ∃ D : DataW Unit, w.ownsMap Tryd.prog 9 (plainElem Tryd.prog 3) b n D ∧ ∀ s : ByteArray, s.size ≤ maxLen → Maps.has D (keyB s) = (g s).isSome ∧ D.atKey (keyB s) (.lit (.int .i64 0)) = .lit (.int .i64 ((g s).getD 0))
theorem Kmap.made (w : World) : Kmap (w.alloc (.map #[] 0)) w.heap.size 0 (fun _ => none) :=
  ⟨.map [], World.ownsMap_made _ _ _ _, fun s _ => ⟨rfl, rfl⟩⟩
theorem zeroInt (w : World) : (zeroValue 3).run Tryd.prog w = .ok (.int .i64 0) w := by kernel_rfl
theorem Kmap.look_ok {w : World} {b n : Nat} {g : ByteArray → Option Int} (h : Kmap w b n g) (s : ByteArray) (hs : s.size ≤ maxLen) :
    (Instr.lookup 72 (.map (some b)) (.string s) true).run Tryd.prog w = .ok (.tuple #[.int .i64 ((g s).getD 0), .bool (g s).isSome]) w := by
  obtain ⟨D, ho, hD⟩ := h
  obtain ⟨v, ps, hr, hv⟩ := ho.look_ok (Maps.string_keyed Tryd.underlying9) Tryd.underlying72 (zeroInt w) (plainElem_int Tryd.underlying3 (by decide)) (key := .string s) (kl := keyB s) (WideMaps.keyOf_string_mk (P := Tryd.prog) Tryd.underlying9 hs)
  obtain ⟨c, rfl, hc, _⟩ := plainElem_int_inv Tryd.underlying3 hv
  have h1 : D.atKey (keyB s) (.lit (.int .i64 0)) = .lit (.int .i64 c) := congrArg Prod.fst hc
  have h2 : c = (g s).getD 0 := by
    have h3 := h1.symm.trans (hD s hs).2
    simpa using h3
  rw [(hD s hs).1, h2] at hr
  exact hr
theorem Kmap.look {w : World} {b n : Nat} {g : ByteArray → Option Int} (h : Kmap w b n g) (s : ByteArray) (hs : s.size ≤ maxLen) :
    (Instr.lookup 72 (.map (some b)) (.string s) false).run Tryd.prog w = .ok (.int .i64 ((g s).getD 0)) w := by
  obtain ⟨D, ho, hD⟩ := h
  obtain ⟨v, ps, hr, hv⟩ := ho.lookup (Maps.string_keyed Tryd.underlying9) Tryd.underlying72 (zeroInt w) (plainElem_int Tryd.underlying3 (by decide)) (key := .string s) (kl := keyB s) (WideMaps.keyOf_string_mk (P := Tryd.prog) Tryd.underlying9 hs)
  obtain ⟨c, rfl, hc, _⟩ := plainElem_int_inv Tryd.underlying3 hv
  have h1 : D.atKey (keyB s) (.lit (.int .i64 0)) = .lit (.int .i64 c) := congrArg Prod.fst hc
  have h2 : c = (g s).getD 0 := by
    have h3 := h1.symm.trans (hD s hs).2
    simpa using h3
  rw [h2] at hr
  exact hr
def putG (g : ByteArray → Option Int) (s : ByteArray) (x : Int) : ByteArray → Option Int := fun t => if t = s then some x else g t
theorem Kmap.store {w : World} {b n : Nat} {g : ByteArray → Option Int} (h : Kmap w b n g) (s : ByteArray) (hs : s.size ≤ maxLen) (x : Int) (hx : (Lit.int .i64 x).wf = true) (hn : n < maxLen) :
    ∃ w', (Instr.mapUpdate 72 (.map (some b)) (.string s) (.int .i64 x)).run Tryd.prog w = .ok () w' ∧ Kmap w' b (n + 1) (putG g s x) ∧ w.grownBy w' (some b) := by
  obtain ⟨D, ho, hD⟩ := h
  obtain ⟨w', hr, ho', hg⟩ := ho.update (Maps.string_keyed Tryd.underlying9) Tryd.underlying72 hn (key := .string s) (kl := keyB s) (val := .int .i64 x) (WideMaps.keyOf_string_mk (P := Tryd.prog) Tryd.underlying9 hs) (plainElem_int Tryd.underlying3 hx)
  refine ⟨w', hr, ⟨_, ho', fun t ht => ?_⟩, hg⟩
  unfold putG
  by_cases e : t = s
  · subst e
    rw [if_pos rfl, Maps.has_put_same ho.isMap (show WideAt.IsKeyLit (keyB t) from trivial), Maps.atKey_put_same ho.isMap (show WideAt.IsKeyLit (keyB t) from trivial)]
    exact ⟨rfl, rfl⟩
  · have hne : keyB t ≠ keyB s := fun h => e (keyB_inj h)
    rw [if_neg e, Maps.has_put_other hne, Maps.atKey_put_other hne]
    exact hD t ht
theorem Kmap.lt {w : World} {b n : Nat} {g : ByteArray → Option Int} (h : Kmap w b n g) : b < w.heap.size := by
  obtain ⟨D, ho, _⟩ := h
  exact ho.lt
theorem Kmap.grown {w w' : World} {b n : Nat} {g : ByteArray → Option Int} (h : Kmap w b n g) {row : Option Nat} (hg : w.grownBy w' row) (hne : some b ≠ row) : Kmap w' b n g := by
  obtain ⟨D, ho, hD⟩ := h
  exact ⟨D, ho.kept hg hne, hD⟩
theorem Kmap.alloc {w : World} {b n : Nat} {g : ByteArray → Option Int} (h : Kmap w b n g) (o : Obj) : Kmap (w.alloc o) b n g := h.grown (World.grownBy_alloc w o none) (by simp)
theorem Kmap.drew {w : World} {b n : Nat} {g : ByteArray → Option Int} (h : Kmap w b n g) : Kmap w.drew b n g := h
theorem Kmap.drewN {w : World} {b n : Nat} {g : ByteArray → Option Int} (h : Kmap w b n g) (m : Nat) : Kmap (w.drewN m) b n g := h
theorem Kmap.below {w w' : World} {b n : Nat} {g : ByteArray → Option Int} (h : Kmap w b n g) (hb : Below w.heap.size w w') : Kmap w' b n g := h.grown (grown_of_below hb none) (by simp)
theorem Kmap.set {w : World} {b n : Nat} {g : ByteArray → Option Int} (h : Kmap w b n g) {a : Addr} (ha : b ≠ a.block) (u : Value) : Kmap (w.setCell a u) b n g := by
  obtain ⟨D, ho, hD⟩ := h
  exact ⟨D, ho.setCell ha u, hD⟩
theorem Kmap.congr {w : World} {b n : Nat} {g g' : ByteArray → Option Int} (h : Kmap w b n g) (e : ∀ s, g s = g' s) : Kmap w b n g' := by
  rwa [← show g = g' from funext e]
/-- No cell lies in a map's block. -/
theorem Kmap.no_cell {w : World} {b n : Nat} {g : ByteArray → Option Int} (h : Kmap w b n g) {a : Addr} {v : Value} (hc : w.cell? a = some v) : a.block ≠ b := by
  obtain ⟨D, ⟨es, cl, hb, _⟩, _⟩ := h
  intro e
  unfold World.cell? at hc
  rw [e, hb] at hc
  simp at hc
theorem wpList_kstore (w : World) {ops : Array Oper} {rest : List Oper} {o : Oper} {a : Act} {Q : Exit → Act → World → Prop}
    (hg : o.guard = none) (m x v : Operand) (hop : o.op = Op.mapUpdate 72 m x v) (b n : Nat) (g : ByteArray → Option Int)
    (hm : a.eval m = .map (some b)) (h : Kmap w b n g) (s : ByteArray) (k : Int) (hx : a.eval x = .string s) (hv : a.eval v = .int .i64 k) (hs : s.size ≤ maxLen) (hk : (Lit.int .i64 k).wf = true) (hn : n < maxLen)
    (hK : ∀ w', Kmap w' b (n + 1) (putG g s k) → w.grownBy w' (some b) → wpList Tryd.prog ops Q rest (a.put o.dst undef) w') :
    wpList Tryd.prog ops Q (o :: rest) a w := by
  refine wpList_plain hg fun K' hK' => ?_
  obtain ⟨w', hrun, r1, r2⟩ := h.store s hs k hk hn
  unfold Oper.wp
  simp [execOp, hop, hm, hx, hv, hrun, Result.andThen]
  exact hK' _ _ (hK w' r1 r2)
/-- The kind of the first symbol of a name. -/
def kindOf : List RS → ByteArray → Option Int
  | [], _ => none
  | x :: l, s => if x.f0 = s then some x.f1 else kindOf l s
theorem kindOf_snoc : ∀ (l : List RS) (x : RS) (s : ByteArray), kindOf (l ++ [x]) s = if (kindOf l x.f0).isSome = true then kindOf l s else putG (kindOf l) x.f0 x.f1 s
  | [], x, s => by
    have e : (kindOf [] x.f0).isSome = false := rfl
    rw [e, if_neg (by decide), List.nil_append, kindOf, putG]
    by_cases h : x.f0 = s
    · rw [if_pos h, if_pos h.symm]
    · rw [if_neg h, if_neg (fun e => h e.symm)]
  | y :: l, x, s => by
    rw [List.cons_append, kindOf, kindOf_snoc l x s]
    by_cases h : y.f0 = s
    · rw [if_pos h]
      by_cases h1 : y.f0 = x.f0
      · simp only [kindOf, if_pos h1, if_pos h]
        rfl
      · simp only [kindOf, if_neg h1, if_pos h, putG]
        have : s ≠ x.f0 := fun e => h1 (h.trans e)
        rw [if_neg this]
        split <;> rfl
    · rw [if_neg h]
      by_cases h1 : y.f0 = x.f0
      · simp only [kindOf, if_pos h1, if_neg h, putG]
        have : s ≠ x.f0 := fun e => h (h1.trans e.symm)
        rw [if_neg this]
        simp
      · simp only [kindOf, if_neg h1, if_neg h, putG]
end Go.Proofs.YtbhfecciegfdjaaDoor.X
