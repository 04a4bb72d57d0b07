/- What holds of the world while printer.decl runs; strconv.Itoa. -/
import Derived.Test.YtknbhbppofphpaaGreatDoorPrOk
import Derived.Test.YtknbhbppofphpaaGreatDoorLexM
import Derived.Lib.AppendIntMem
import Derived.Lib.BufferKept
set_option linter.unusedVariables false
set_option linter.unusedSimpArgs false
namespace Go.Proofs.YtknbhbppofphpaaGreatDoor.X
open Go.RowKit Go.Shelf Go.Proofs.YtknbhbppofphpaaGreatDoorW.PrintWords Go.Proofs.YtknbhbppofphpaaGreatDoorW.PrintLast Go.Proofs.YtknbhbppofphpaaGreatDoorW.PrintMore
abbrev Pow (w : World) : Prop := Lib.TabIs Tryz.prog w "internal/strconv.uint64pow10" .u64 Lib.pow10Tab
theorem Pow.below {w w' : World} (h : Pow w) (hb : Below w.heap.size w w') : Pow w' := tabIs_below h hb
theorem itoa.calls (n : Int) (w : World) (hn : numV n = true) (h : Pow w) : Calls Tryz.prog 30 #[.int .i64 n] w fun e w' => e = .returned (.string (itoaB n)) ∧ Below w.heap.size w w' := by
  obtain ⟨h0, h1⟩ := numV_iff hn
  refine (Tryz.strconv_Itoa n (by omega) (by omega) w h).mono ?_
  rintro e w' ⟨rfl, k, os, rfl⟩
  exact ⟨rfl, Lib.below_grow _ _ (Nat.le_refl _) _ _⟩
/-- The printer, and the box k of what is printed. -/
structure DcI (B b : Nat) (w : World) (k : Nat) (cs : Array Value) (t : Nat) (S : ByteArray) (W : World) : Prop where
  pr : PrAt B b t S W
  bel : Below B w W
  oth : Lib.OthersKept 5 (some b) w W
  box : W.heap[k]? = some (.cells cs 41 (0, 0))
  ge : B ≤ W.heap.size
theorem DcI.step {B b : Nat} {w : World} {k : Nat} {cs : Array Value} {t : Nat} {S : ByteArray} {W W' : World} (h : DcI B b w k cs t S W) (hb : Below W.heap.size W W') : DcI B b w k cs t S W' :=
  ⟨h.pr.below hb, below_then h.bel h.ge hb, h.oth.below hb, blk_below h.box hb, Nat.le_trans h.ge hb.size⟩
theorem DcI.wrote {B b : Nat} {w : World} {k : Nat} {cs : Array Value} {t t' : Nat} {S S' : ByteArray} {W W' : World} (h : DcI B b w k cs t S W) (hp : PrAt B b t' S' W') (hb : Below B W W') (hk : Lib.OthersKept 5 (some b) W W') : DcI B b w k cs t' S' W' := by
  obtain ⟨ds, fz, hx⟩ := h.pr.block
  exact ⟨hp, h.bel.trans hb, h.oth.trans hk, kept_of (B := 0) hk h.box (ne_of_type h.box hx (by decide)) (by decide), Nat.le_trans h.ge hb.size⟩
theorem DcI.put {B b : Nat} {w : World} {k : Nat} {cs : Array Value} {t : Nat} {S : ByteArray} {W : World} (h : DcI B b w k cs t S W) (t' : Nat) : DcI B b w k cs t' S (W.setCell ⟨b, 2, none⟩ (.int .i64 t')) := by
  have hB : B ≤ b := by obtain ⟨p, _, hB, _⟩ := h.pr.any; exact hB
  exact h.wrote (h.pr.put t') ((Below.refl B W).setCell (p := ⟨b, 2, none⟩) hB _) ((Lib.OthersKept.refl _ _ W).setCell ⟨b, 2, none⟩ rfl _)
/-- Another box is kept too while something is written. -/
theorem DcI.other {B b : Nat} {w : World} {k : Nat} {cs : Array Value} {t : Nat} {S : ByteArray} {W W' : World} (h : DcI B b w k cs t S W) (hk : Lib.OthersKept 5 (some b) W W') {j : Nat} {ds : Array Value} {T : TypeId} {fz : Nat × Nat} (hj : W.heap[j]? = some (.cells ds T fz)) (hT : T ≠ 49) (hU : T ≠ 5) : W'.heap[j]? = some (.cells ds T fz) := by
  obtain ⟨es, fy, hx⟩ := h.pr.block
  exact kept_of (B := 0) hk hj (ne_of_type hj hx hT) hU
theorem kind_at (a : Int) (h1 : 1 ≤ a) (h3 : a ≤ 3) : [Value.string { data := #[109, 101, 115, 115, 97, 103, 101] }, Value.string { data := #[101, 110, 117, 109] }, Value.string { data := #[115, 101, 114, 118, 105, 99, 101] }][a.toNat - 1]? = some (.string (kindW a)) := by
  have ha : a = 1 ∨ a = 2 ∨ a = 3 := by omega
  rcases ha with rfl | rfl | rfl <;> rfl
theorem rowAt_new (W : World) (g : Nat) (hg : g = W.heap.size) (ps : List ByteArray) (o : Obj) (ho : o = .cells (ps.map Value.string).toArray 9 (0, 0)) : RowAt (some ⟨g, 0, none⟩) ps (W.alloc o) :=
  .inr ⟨g, rfl, by rw [hg, ho]; exact blk_new W _⟩
theorem RowAt.drew {A : Option Addr} {ps : List ByteArray} {W : World} (h : RowAt A ps W) : RowAt A ps W.drew := h
theorem catB_snoc (l : List ByteArray) (x : ByteArray) : catB (l ++ [x]) = catB l ++ x := by rw [catB_app, catB, catB, app_nil]
theorem fieldsB_take (fs : List PF) (t i : Nat) (h : i < fs.length) : fieldsB (fs.take (i + 1)) t = fieldsB (fs.take i) t ++ lineB t (fieldLs fs[i]) := by
  unfold fieldsB
  rw [List.take_succ_eq_append_getElem h, List.map_append, List.map_singleton, catB_snoc]
theorem valuesB_take (fs : List PV) (t i : Nat) (h : i < fs.length) : valuesB (fs.take (i + 1)) t = valuesB (fs.take i) t ++ lineB t (valueLs fs[i]) := by
  unfold valuesB
  rw [List.take_succ_eq_append_getElem h, List.map_append, List.map_singleton, catB_snoc]
theorem methodsB_take (fs : List PM) (t i : Nat) (h : i < fs.length) : methodsB (fs.take (i + 1)) t = methodsB (fs.take i) t ++ lineB t (methodLs fs[i]) := by
  unfold methodsB
  rw [List.take_succ_eq_append_getElem h, List.map_append, List.map_singleton, catB_snoc]
theorem declL_take (ds : List PD) (t i : Nat) (h : i < ds.length) : declL (ds.take (i + 1)) t = declL (ds.take i) t ++ declL [ds[i]] t := by
  rw [List.take_succ_eq_append_getElem h, declL_app]
theorem fieldsB_part (fs : List PF) (t i : Nat) : (fieldsB (fs.take i) t).size ≤ (fieldsB fs t).size := by
  have := catB_le (fs.map fun f => lineB t (fieldLs f)) i
  rwa [← List.map_take] at this
theorem valuesB_part (fs : List PV) (t i : Nat) : (valuesB (fs.take i) t).size ≤ (valuesB fs t).size := by
  have := catB_le (fs.map fun f => lineB t (valueLs f)) i
  rwa [← List.map_take] at this
theorem methodsB_part (fs : List PM) (t i : Nat) : (methodsB (fs.take i) t).size ≤ (methodsB fs t).size := by
  have := catB_le (fs.map fun f => lineB t (methodLs f)) i
  rwa [← List.map_take] at this
theorem declL_part (ds : List PD) (t i : Nat) : (declL (ds.take i) t).size ≤ (declL ds t).size := by
  have h : declL ds t = declL (ds.take i) t ++ declL (ds.drop i) t := by rw [← declL_app, List.take_append_drop]
  rw [h, ByteArray.size_append]
  omega
end Go.Proofs.YtknbhbppofphpaaGreatDoor.X
