/- Several texts of this claim in one: what each shows stands at its head. -/
import Derived.Test.YtbhfecciegfdjaaDoorScopeAll
import Derived.Maps.OwnSet
import Derived.Maps.Views
import Derived.BigQuiet
import Derived.StillTailTactics
import Derived.Test.YtbhfecciegfdjaaDoorPathM
import Derived.Lib.LastIndexByte
/-! A map of numbers by texts, told as a function: what it answers, what a store does; first names of a list of symbols. -/
set_option linter.unusedVariables false
set_option linter.unusedSimpArgs false
namespace Go.Proofs.YtbhfecciegfdjaaDoor.X
open Go.RowKit Go.Proofs.YtbhfecciegfdjaaDoorW.PrintWords Go.Proofs.YtbhfecciegfdjaaDoorW.PrintLast Go.Proofs.YtbhfecciegfdjaaDoorW.PrintMore
def keyB (s : ByteArray) : Lit := .string s.data.toList
theorem keyB_inj {s t : ByteArray} (h : keyB s = keyB t) : s = t := by
  unfold keyB at h
  injection h with h
  exact ByteArray.ext (Array.toList_inj.mp h)
/-- Block b is a map that answers as g. -/
def Kmap (w : World) (b n : Nat) (g : ByteArray → Option Int) : Prop :=
  ∃ D : DataW Unit, w.ownsMap Tryd.prog 9 (plainElem Tryd.prog 3) b n D ∧ ∀ s : ByteArray, s.size ≤ maxLen → Maps.has D (keyB s) = (g s).isSome ∧ D.atKey (keyB s) (.lit (.int .i64 0)) = .lit (.int .i64 ((g s).getD 0))
theorem Kmap.made (w : World) : Kmap (w.alloc (.map #[] 0)) w.heap.size 0 (fun _ => none) :=
  ⟨.map [], World.ownsMap_made _ _ _ _, fun s _ => ⟨rfl, rfl⟩⟩
theorem zeroInt (w : World) : (zeroValue 3).run Tryd.prog w = .ok (.int .i64 0) w := by kernel_rfl
theorem Kmap.look_ok {w : World} {b n : Nat} {g : ByteArray → Option Int} (h : Kmap w b n g) (s : ByteArray) (hs : s.size ≤ maxLen) :
    (Instr.lookup 72 (.map (some b)) (.string s) true).run Tryd.prog w = .ok (.tuple #[.int .i64 ((g s).getD 0), .bool (g s).isSome]) w := by
  obtain ⟨D, ho, hD⟩ := h
  obtain ⟨v, ps, hr, hv⟩ := ho.look_ok (Maps.string_keyed Tryd.underlying9) Tryd.underlying72 (zeroInt w) (plainElem_int Tryd.underlying3 (by decide)) (key := .string s) (kl := keyB s) (WideMaps.keyOf_string_mk (P := Tryd.prog) Tryd.underlying9 hs)
  obtain ⟨c, rfl, hc, _⟩ := plainElem_int_inv Tryd.underlying3 hv
  have h1 : D.atKey (keyB s) (.lit (.int .i64 0)) = .lit (.int .i64 c) := congrArg Prod.fst hc
  have h2 : c = (g s).getD 0 := by
    have h3 := h1.symm.trans (hD s hs).2
    simpa using h3
  rw [(hD s hs).1, h2] at hr
  exact hr
theorem Kmap.look {w : World} {b n : Nat} {g : ByteArray → Option Int} (h : Kmap w b n g) (s : ByteArray) (hs : s.size ≤ maxLen) :
    (Instr.lookup 72 (.map (some b)) (.string s) false).run Tryd.prog w = .ok (.int .i64 ((g s).getD 0)) w := by
  obtain ⟨D, ho, hD⟩ := h
  obtain ⟨v, ps, hr, hv⟩ := ho.lookup (Maps.string_keyed Tryd.underlying9) Tryd.underlying72 (zeroInt w) (plainElem_int Tryd.underlying3 (by decide)) (key := .string s) (kl := keyB s) (WideMaps.keyOf_string_mk (P := Tryd.prog) Tryd.underlying9 hs)
  obtain ⟨c, rfl, hc, _⟩ := plainElem_int_inv Tryd.underlying3 hv
  have h1 : D.atKey (keyB s) (.lit (.int .i64 0)) = .lit (.int .i64 c) := congrArg Prod.fst hc
  have h2 : c = (g s).getD 0 := by
    have h3 := h1.symm.trans (hD s hs).2
    simpa using h3
  rw [h2] at hr
  exact hr
def putG (g : ByteArray → Option Int) (s : ByteArray) (x : Int) : ByteArray → Option Int := fun t => if t = s then some x else g t
theorem Kmap.store {w : World} {b n : Nat} {g : ByteArray → Option Int} (h : Kmap w b n g) (s : ByteArray) (hs : s.size ≤ maxLen) (x : Int) (hx : (Lit.int .i64 x).wf = true) (hn : n < maxLen) :
    ∃ w', (Instr.mapUpdate 72 (.map (some b)) (.string s) (.int .i64 x)).run Tryd.prog w = .ok () w' ∧ Kmap w' b (n + 1) (putG g s x) ∧ w.grownBy w' (some b) := by
  obtain ⟨D, ho, hD⟩ := h
  obtain ⟨w', hr, ho', hg⟩ := ho.update (Maps.string_keyed Tryd.underlying9) Tryd.underlying72 hn (key := .string s) (kl := keyB s) (val := .int .i64 x) (WideMaps.keyOf_string_mk (P := Tryd.prog) Tryd.underlying9 hs) (plainElem_int Tryd.underlying3 hx)
  refine ⟨w', hr, ⟨_, ho', fun t ht => ?_⟩, hg⟩
  unfold putG
  by_cases e : t = s
  · subst e
    rw [if_pos rfl, Maps.has_put_same ho.isMap (show WideAt.IsKeyLit (keyB t) from trivial), Maps.atKey_put_same ho.isMap (show WideAt.IsKeyLit (keyB t) from trivial)]
    exact ⟨rfl, rfl⟩
  · have hne : keyB t ≠ keyB s := fun h => e (keyB_inj h)
    rw [if_neg e, Maps.has_put_other hne, Maps.atKey_put_other hne]
    exact hD t ht
theorem Kmap.lt {w : World} {b n : Nat} {g : ByteArray → Option Int} (h : Kmap w b n g) : b < w.heap.size := by
  obtain ⟨D, ho, _⟩ := h
  exact ho.lt
theorem Kmap.grown {w w' : World} {b n : Nat} {g : ByteArray → Option Int} (h : Kmap w b n g) {row : Option Nat} (hg : w.grownBy w' row) (hne : some b ≠ row) : Kmap w' b n g := by
  obtain ⟨D, ho, hD⟩ := h
  exact ⟨D, ho.kept hg hne, hD⟩
theorem Kmap.alloc {w : World} {b n : Nat} {g : ByteArray → Option Int} (h : Kmap w b n g) (o : Obj) : Kmap (w.alloc o) b n g := h.grown (World.grownBy_alloc w o none) (by simp)
theorem Kmap.drew {w : World} {b n : Nat} {g : ByteArray → Option Int} (h : Kmap w b n g) : Kmap w.drew b n g := h
theorem Kmap.drewN {w : World} {b n : Nat} {g : ByteArray → Option Int} (h : Kmap w b n g) (m : Nat) : Kmap (w.drewN m) b n g := h
theorem Kmap.below {w w' : World} {b n : Nat} {g : ByteArray → Option Int} (h : Kmap w b n g) (hb : Below w.heap.size w w') : Kmap w' b n g := h.grown (grown_of_below hb none) (by simp)
theorem Kmap.set {w : World} {b n : Nat} {g : ByteArray → Option Int} (h : Kmap w b n g) {a : Addr} (ha : b ≠ a.block) (u : Value) : Kmap (w.setCell a u) b n g := by
  obtain ⟨D, ho, hD⟩ := h
  exact ⟨D, ho.setCell ha u, hD⟩
theorem Kmap.congr {w : World} {b n : Nat} {g g' : ByteArray → Option Int} (h : Kmap w b n g) (e : ∀ s, g s = g' s) : Kmap w b n g' := by
  rwa [← show g = g' from funext e]
/-- No cell lies in a map's block. -/
theorem Kmap.no_cell {w : World} {b n : Nat} {g : ByteArray → Option Int} (h : Kmap w b n g) {a : Addr} {v : Value} (hc : w.cell? a = some v) : a.block ≠ b := by
  obtain ⟨D, ⟨es, cl, hb, _⟩, _⟩ := h
  intro e
  unfold World.cell? at hc
  rw [e, hb] at hc
  simp at hc
theorem wpList_kstore (w : World) {ops : Array Oper} {rest : List Oper} {o : Oper} {a : Act} {Q : Exit → Act → World → Prop}
    (hg : o.guard = none) (m x v : Operand) (hop : o.op = Op.mapUpdate 72 m x v) (b n : Nat) (g : ByteArray → Option Int)
    (hm : a.eval m = .map (some b)) (h : Kmap w b n g) (s : ByteArray) (k : Int) (hx : a.eval x = .string s) (hv : a.eval v = .int .i64 k) (hs : s.size ≤ maxLen) (hk : (Lit.int .i64 k).wf = true) (hn : n < maxLen)
    (hK : ∀ w', Kmap w' b (n + 1) (putG g s k) → w.grownBy w' (some b) → wpList Tryd.prog ops Q rest (a.put o.dst undef) w') :
    wpList Tryd.prog ops Q (o :: rest) a w := by
  refine wpList_plain hg fun K' hK' => ?_
  obtain ⟨w', hrun, r1, r2⟩ := h.store s hs k hk hn
  unfold Oper.wp
  simp [execOp, hop, hm, hx, hv, hrun, Result.andThen]
  exact hK' _ _ (hK w' r1 r2)
/-- The kind of the first symbol of a name. -/
def kindOf : List RS → ByteArray → Option Int
  | [], _ => none
  | x :: l, s => if x.f0 = s then some x.f1 else kindOf l s
theorem kindOf_snoc : ∀ (l : List RS) (x : RS) (s : ByteArray), kindOf (l ++ [x]) s = if (kindOf l x.f0).isSome = true then kindOf l s else putG (kindOf l) x.f0 x.f1 s
  | [], x, s => by
    have e : (kindOf [] x.f0).isSome = false := rfl
    rw [e, if_neg (by decide), List.nil_append, kindOf, putG]
    by_cases h : x.f0 = s
    · rw [if_pos h, if_pos h.symm]
    · rw [if_neg h, if_neg (fun e => h e.symm)]
  | y :: l, x, s => by
    rw [List.cons_append, kindOf, kindOf_snoc l x s]
    by_cases h : y.f0 = s
    · rw [if_pos h]
      by_cases h1 : y.f0 = x.f0
      · simp only [kindOf, if_pos h1, if_pos h]
        rfl
      · simp only [kindOf, if_neg h1, if_pos h, putG]
        have : s ≠ x.f0 := fun e => h1 (h.trans e)
        rw [if_neg this]
        split <;> rfl
    · rw [if_neg h]
      by_cases h1 : y.f0 = x.f0
      · simp only [kindOf, if_pos h1, if_neg h, putG]
        have : s ≠ x.f0 := fun e => h (h1.trans e.symm)
        rw [if_neg this]
        simp
      · simp only [kindOf, if_neg h1, if_neg h, putG]
end Go.Proofs.YtbhfecciegfdjaaDoor.X

/-! scope.New: a finder of any declarations: the first kind of each whole name. -/
set_option linter.unusedVariables false
set_option linter.unusedSimpArgs false
namespace Go.Proofs.YtbhfecciegfdjaaDoor.X
open Go.RowKit Go.Proofs.YtbhfecciegfdjaaDoorW.PrintWords Go.Proofs.YtbhfecciegfdjaaDoorW.PrintLast Go.Proofs.YtbhfecciegfdjaaDoorW.PrintMore
theorem alL_size : ∀ (l : List PD) (p : ByteArray), ∀ x ∈ alL l p, x.f0.size ≤ p.size + nmP l := by
  intro l
  induction l using pd_ind with
  | nil => intro p x hx; rw [alL] at hx; cases hx
  | cons a b c fs vs ms ds l ihd ihl =>
    intro p x hx
    rw [alL] at hx
    rw [nmP]
    have hd : dot.size = 1 := rfl
    rcases List.mem_cons.1 hx with rfl | hx
    · show (p ++ b).size ≤ _
      rw [ByteArray.size_append]
      omega
    · rcases List.mem_append.1 hx with hx | hx
      · have := ihd _ x hx
        rw [ByteArray.size_append, ByteArray.size_append] at this
        omega
      · have := ihl _ x hx
        omega
def Kinds (l : List RS) : Prop := ∀ x ∈ l, (Lit.int .i64 x.f1).wf = true
/-- A finder at block bf, its map at bm. -/
def FinderAt (w : World) (bf bm n : Nat) (g : ByteArray → Option Int) : Prop :=
  w.heap[bf]? = some (.cells #[.map (some bm)] 74 (0, 0)) ∧ Kmap w bm n g
def NewPost (g : ByteArray → Option Int) (w : World) (e : Ending) (w' : World) : Prop :=
  ∃ bf bm n, e = .returned (.pointer (some ⟨bf, 0, none⟩)) ∧ FinderAt w' bf bm n g ∧ Below w.heap.size w w'
theorem sym_split (l : List RS) (i : Int) (h0 : 0 ≤ i) (h1 : i < (l.length : Int)) : l.take (i.toNat + 1) = l.take i.toNat ++ [rd_T32 l i] ∧ rd_T32 l i ∈ l := by
  have hi : i.toNat < l.length := by omega
  have e : rd_T32 l i = l[i.toNat] := by simp [rd_T32, hi]
  rw [e]
  exact ⟨List.take_succ_eq_append_getElem hi, List.getElem_mem hi⟩
theorem keep_cell {w w1 : World} {b n : Nat} {g : ByteArray → Option Int} (hk : KeepBut w w1 b none) (hm : Kmap w b n g) {a : Addr} {v : Value} (hc : w.cell? a = some v) : w1.cell? a = some v := by
  have h1 := World.block_lt_of_cell? w a hc
  have h2 := hk.2 a.block h1 (hm.no_cell hc) (by simp)
  unfold World.cell? at hc ⊢
  rw [h2]
  exact hc
theorem KeepBut.alloc' {w w1 : World} {g : Nat} (h : KeepBut w w1 g none) (o : Obj) : KeepBut w (w1.alloc o) g none :=
  ⟨Nat.le_trans h.1 (below_alloc (Below.refl w1.heap.size w1) o).size, fun i hi h1 h2 => (Below.heap_alloc w1 o i (Nat.lt_of_lt_of_le hi h.1)).trans (h.2 i hi h1 h2)⟩
theorem KeepBut.drewN' {w w1 : World} {g : Nat} (h : KeepBut w w1 g none) (n : Nat) : KeepBut w (w1.drewN n) g none := h
theorem KeepBut.own' {w w1 w2 : World} {g : Nat} (h : KeepBut w w1 g none) (hg : w1.grownBy w2 (some g)) : KeepBut w w2 g none :=
  ⟨Nat.le_trans h.1 hg.size, fun i hi h1 h2 => (hg.block i (Nat.lt_of_lt_of_le hi h.1) (by simpa using h1)).trans (h.2 i hi h1 h2)⟩
set_option maxHeartbeats 4000000 in
set_option maxRecDepth 100000 in
theorem scope_New.calls (l : List PD) (A : Option Addr) (c : Nat) (w : World) (hC : Kd.C kP w A l.length l) (hc : l.length ≤ c) (hn : nmP l ≤ 900000000) (hk : Kinds (alL l ⟨#[]⟩)) :
    Calls Tryd.prog 17 #[.slice A l.length c] w (NewPost (kindOf (alL l ⟨#[]⟩)) w) := by
  have HC := Aside0.mk hC
  have HK := Aside0.mk hk
  clear hC hk
  have hmm := @run_makeMap Tryd.prog
  go_enter Tryd.func17, Tryd.ntmps17
  go_wp2_with fail
  obtain ⟨W0, hW0⟩ : ∃ W0, W0 = (w.alloc (.map #[] 0)).alloc (Obj.cells #[Value.map (some w.heap.size)] 74) := ⟨_, rfl⟩
  have hB0 : Below w.heap.size w W0 := by rw [hW0]; exact below_alloc (below_alloc (Below.refl _ _) _) _
  have hM0 : Kmap W0 w.heap.size 0 (kindOf []) := by rw [hW0]; exact (Kmap.made w).alloc _
  have hF0 : W0.heap[w.heap.size + 1]? = some (.cells #[.map (some w.heap.size)] 74 (0, 0)) := by
    rw [hW0]
    have h := blk_new (w.alloc (.map #[] 0)) (Obj.cells #[Value.map (some w.heap.size)] 74)
    simpa using h
  rw [← hW0]
  refine (scope_All.calls l A c W0 (Kd.C_below HC.out hB0) hc hn).mono ?_
  rintro e w1 ⟨v, rfl, hR, hB1⟩
  have hszA := alL_size l ⟨#[]⟩
  have hlenA := alL_len l ⟨#[]⟩
  have hz : (⟨#[]⟩ : ByteArray).size = 0 := rfl
  generalize alL l ⟨#[]⟩ = L at *
  obtain ⟨A1, c1, rfl, hlc, hCL⟩ := Kd.R_reads hR
  have HCL := Aside0.mk hCL
  have HS := Aside0.mk hszA
  have HB1 := Aside0.mk (below_step hB0 hB1)
  have HM1 := Aside0.mk (hM0.below hB1)
  have HF1 := Aside0.mk (blk_below hF0 hB1)
  have hln : L.length ≤ 900000000 := by omega
  clear hR hB1 hB0 hM0 hF0 hW0 hCL hszA hlenA
  go_wp2_with fail
  go_loopw [14] (fun v14 wr => ∃ (i : Int) (n : Nat), 0 ≤ i ∧ i ≤ (L.length : Int) ∧ (n : Int) ≤ i ∧ v14 = .int .i64 i ∧ Aside0 (FinderAt wr (w.heap.size + 1) w.heap.size n (kindOf (L.take i.toNat))) ∧ Aside0 (KeepBut w1 wr w.heap.size none) ∧ Aside0 (Below w.heap.size w wr)) (fun v14 _ => L.length - (intOf v14).toNat)
  case atStart => exact ⟨0, 0, by omega, by omega, by omega, rfl, ⟨⟨HF1.out, HM1.out⟩⟩, ⟨KeepBut.refl _ _ _⟩, HB1⟩
  case round =>
    obtain ⟨i, n, hi0, hil, hni, rfl, HFA, HKB, HBR⟩ := hrel
    by_cases hlt : i < (L.length : Int)
    · have t1 : decide (i < (L.length : Int)) = true := decide_eq_true hlt
      obtain ⟨ad, e0, x0, x1⟩ := at_T32 HCL.out i hi0 hlt
      cases e0
      have hsp := sym_split L i hi0 hlt
      have hsz := HS.out _ hsp.2
      have hkx := HK.out _ hsp.2
      have HSP := Aside0.mk hsp.1
      replace x0 := keep_cell HKB.out HM1.out x0
      replace x1 := keep_cell HKB.out HM1.out x1
      clear hsp
      generalize rd_T32 L i = s at *
      obtain ⟨nm, kd⟩ := s
      simp only at x0 x1 hsz hkx
      have HKX := Aside0.mk hkx
      clear hkx
      have hnm : nm.size ≤ maxLen := by unfold maxLen; omega
      have d0 : wr.cell? ⟨w.heap.size + 1, 0, none⟩ = some (.map (some w.heap.size)) := blk_cell HFA.out.1 0
      have hbf := blk_lt HFA.out.1
      have hlk : ∀ q, (Instr.lookup 72 (.map (some w.heap.size)) (.string nm) true).run Tryd.prog ((wr.alloc (.cells #[.string nm, .int .i64 kd] 33)).drewN q) = _ := fun q => ((HFA.out.2.alloc _).drewN q).look_ok nm hnm
      have hlk0 : (Instr.lookup 72 (.map (some w.heap.size)) (.string nm) true).run Tryd.prog (wr.alloc (.cells #[.string nm, .int .i64 kd] 33)) = _ := (HFA.out.2.alloc _).look_ok nm hnm
      obtain ⟨gv, hgv⟩ : ∃ gv, gv = kindOf (L.take i.toNat) nm := ⟨_, rfl⟩
      rw [← hgv] at hlk hlk0
      have HGV := Aside0.mk hgv
      clear hgv hnm
      cases gv with
      | none =>
        simp only [Option.getD_none, Option.isSome_none] at hlk hlk0
        go_wp2_with fail
        go_quiet (fail)
        go_wp2_with fail
        clear hlk hlk0 x0 x1
        obtain ⟨W2, hW2⟩ : ∃ W2, W2 = (wr.alloc (Obj.cells #[Value.string nm, Value.int IntKind.i64 kd] 33)).drewN nq := ⟨_, rfl⟩
        have hM2 : Kmap W2 w.heap.size n (kindOf (L.take i.toNat)) := by rw [hW2]; exact (HFA.out.2.alloc _).drewN _
        have hF2 : W2.heap[w.heap.size + 1]? = some (.cells #[.map (some w.heap.size)] 74 (0, 0)) := by rw [hW2]; exact blk_drewN (blk_alloc HFA.out.1 _) _
        have hX2 : W2.heap[wr.heap.size]? = some (.cells #[Value.string nm, Value.int IntKind.i64 kd] 33 (0, 0)) := by rw [hW2]; exact blk_drewN (blk_new wr _) _
        have hK2 : KeepBut w1 W2 w.heap.size none := by rw [hW2]; exact KeepBut.drewN' (KeepBut.alloc' HKB.out _) _
        have hB2 : Below w.heap.size w W2 := by rw [hW2]; exact pw_below_drewN (below_alloc HBR.out _) _
        rw [← hW2]
        have HM2 := Aside0.mk hM2
        have HK2 := Aside0.mk hK2
        have HB2 := Aside0.mk hB2
        have HF2 := Aside0.mk hF2
        have y0 : W2.cell? ⟨w.heap.size + 1, 0, none⟩ = some (.map (some w.heap.size)) := blk_cell hF2 0
        have y1 : W2.cell? ⟨wr.heap.size, 0, none⟩ = some (.string nm) := blk_cell hX2 0
        have y2 : W2.cell? ⟨wr.heap.size, 1, none⟩ = some (.int .i64 kd) := blk_cell hX2 1
        clear hW2 hM2 hF2 hX2 hK2 hB2 d0
        go_still_tail 8, (by kernel_rfl)
        refine wpList_kstore W2.drew rfl _ _ _ rfl w.heap.size n _ rfl HM2.out nm kd rfl rfl (by unfold maxLen; omega) HKX.out (by unfold maxLen; omega) ?_
        intro w3 hM3 hG3
        have HM3 := Aside0.mk hM3
        have HG3 := Aside0.mk hG3
        clear hM3 hG3 y0 y1 y2
        go_wp2_with fail
        go_roundw
        case rel =>
          have hG3 : W2.grownBy w3 (some w.heap.size) := ⟨HG3.out.os, HG3.out.tape, HG3.out.output, HG3.out.size, HG3.out.block⟩
          refine ⟨i + 1, n + 1, by omega, by omega, by omega, rfl, ⟨?_, HM3.out.congr ?_⟩, ⟨KeepBut.own' HK2.out hG3⟩, ⟨HB2.out.grown hG3 HB2.out.size (fun k hk => by cases hk; exact Nat.le_refl _)⟩⟩
          · exact blk_grown HF2.out hG3 (by intro e; injection e with e; omega)
          · intro t
            rw [show (i + 1).toNat = i.toNat + 1 by omega, HSP.out, kindOf_snoc, if_neg (by rw [← HGV.out]; decide)]
        case measure => simp [intOf]; omega
      | some old =>
        simp only [Option.getD_some, Option.isSome_some] at hlk hlk0
        go_wp2_with fail
        go_quiet (fail)
        go_wp2_with fail
        go_roundw
        case rel =>
          refine ⟨i + 1, n, by omega, by omega, by omega, rfl, ⟨?_, (HFA.out.2.alloc _).drewN _ |>.congr ?_⟩, ⟨KeepBut.drewN' (KeepBut.alloc' HKB.out _) _⟩, ⟨pw_below_drewN (below_alloc HBR.out _) _⟩⟩
          · exact blk_drewN (blk_alloc HFA.out.1 _) _
          · intro t
            rw [show (i + 1).toNat = i.toNat + 1 by omega, HSP.out, kindOf_snoc, if_pos (by rw [← HGV.out]; rfl)]
        case measure => simp [intOf]; omega
    · have t1 : decide (i < (L.length : Int)) = false := decide_eq_false hlt
      have hi : L.take i.toNat = L := List.take_of_length_le (by omega)
      rw [hi] at HFA
      go_wp2_with fail
      go_ret
      exact ⟨_, _, _, rfl, HFA.out, HBR.out⟩
end Go.Proofs.YtbhfecciegfdjaaDoor.X

/-! (*Finder).in: what is declared right in a scope. -/
set_option linter.unusedVariables false
set_option linter.unusedSimpArgs false
namespace Go.Proofs.YtbhfecciegfdjaaDoor.X
open Go.RowKit Go.Proofs.YtbhfecciegfdjaaDoorW.PrintWords Go.Proofs.YtbhfecciegfdjaaDoorW.PrintLast Go.Proofs.YtbhfecciegfdjaaDoorW.PrintMore
def kd0 (g : ByteArray → Option Int) (s : ByteArray) : Int := (g s).getD 0
def inN (scope name : ByteArray) : ByteArray := if scope.size = 0 then name else scope ++ dot ++ name
def inOk (g : ByteArray → Option Int) (s : ByteArray) : Bool := kd0 g s == 1 || kd0 g s == 2
theorem size_zero {s : ByteArray} (h : s.size = 0) : s = ⟨#[]⟩ := by
  have : s.data = #[] := Array.eq_empty_of_size_eq_zero h
  exact ByteArray.ext this
theorem ne_isEmpty {s : ByteArray} (h0 : ¬ s.size = 0) : s.toList.isEmpty = false := by
  rw [ByteArray.toList_eq]
  cases hh : s.data.toList with
  | nil => exact absurd (by rw [← data_length, hh]; rfl) h0
  | cons a l => rfl
set_option maxHeartbeats 4000000 in
set_option maxRecDepth 100000 in
theorem finder_in.calls (bf bm n : Nat) (g : ByteArray → Option Int) (scope name : ByteArray) (w : World) (h : FinderAt w bf bm n g) (hs : scope.size + name.size ≤ 1000000000) :
    Calls Tryd.prog 23 #[.pointer (some ⟨bf, 0, none⟩), .string scope, .string name] w fun e w' => e = .returned (.tuple #[.string (inN scope name), .bool (inOk g (inN scope name))]) ∧ w = w' := by
  have d0 : w.cell? ⟨bf, 0, none⟩ = some (.map (some bm)) := blk_cell h.1 0
  have hz : (inN scope name).size ≤ maxLen := by
    unfold inN maxLen
    split
    · omega
    · rw [ByteArray.size_append, ByteArray.size_append]
      have : dot.size = 1 := rfl
      omega
  have hlk := h.2.look (inN scope name) hz
  have hke : (g (inN scope name)).getD 0 = kd0 g (inN scope name) := rfl
  rw [hke] at hlk
  have HO : Aside0 (inOk g (inN scope name) = (kd0 g (inN scope name) == 1 || kd0 g (inN scope name) == 2)) := ⟨rfl⟩
  by_cases h0 : scope.size = 0
  · have e : inN scope name = name := if_pos h0
    rw [e] at hlk HO ⊢
    obtain rfl := size_zero h0
    clear hz hke e h h0
    generalize kd0 g name = k at *
    go_enter Tryd.func23, Tryd.ntmps23
    by_cases h1 : k = 1
    · have t1 : (k == 1) = true := beq_iff_eq.mpr h1
      rw [t1, Bool.true_or] at HO
      go_wp2_with fail
      go_ret2
      exact ⟨by rw [HO.out]; rfl, rfl⟩
    · have t1 : (k == 1) = false := beq_eq_false_iff_ne.mpr h1
      rw [t1, Bool.false_or] at HO
      go_wp2_with fail
      go_ret2
      exact ⟨by rw [HO.out]; rfl, rfl⟩
  · have e : inN scope name = scope ++ dot ++ name := if_neg h0
    rw [e] at hlk HO ⊢
    have k1 : (9223372036854775807 < scope.size + 1) = False := eq_false (by omega)
    have k2 : (9223372036854775807 < scope.size + 1 + name.size) = False := eq_false (by omega)
    have hdd : scope ++ dot ++ name = scope ++ ⟨#[46]⟩ ++ name := rfl
    rw [hdd] at hlk HO ⊢
    clear hz hke e h hdd
    generalize kd0 g (scope ++ ⟨#[46]⟩ ++ name) = k at *
    have he := ne_isEmpty h0
    go_enter Tryd.func23, Tryd.ntmps23
    by_cases h1 : k = 1
    · have t1 : (k == 1) = true := beq_iff_eq.mpr h1
      rw [t1, Bool.true_or] at HO
      go_wp2_with fail
      go_ret2
      exact ⟨by rw [HO.out]; rfl, rfl⟩
    · have t1 : (k == 1) = false := beq_eq_false_iff_ne.mpr h1
      rw [t1, Bool.false_or] at HO
      go_wp2_with fail
      go_ret2
      exact ⟨by rw [HO.out]; rfl, rfl⟩
end Go.Proofs.YtbhfecciegfdjaaDoor.X

/-! (*Finder).Find: what a path means in a scope; and Find of a list. -/
set_option linter.unusedVariables false
set_option linter.unusedSimpArgs false
namespace Go.Proofs.YtbhfecciegfdjaaDoor.X
open Go.RowKit Go.Shelf Go.Proofs.YtbhfecciegfdjaaDoorW.PrintWords Go.Proofs.YtbhfecciegfdjaaDoorW.PrintLast Go.Proofs.YtbhfecciegfdjaaDoorW.PrintMore
def mx0 (x : Int) : Int := if x < 0 then 0 else x
theorem max2_mx0 (k k' : IntKind) (x : Int) : Builtin.max2 (.int k x) (.int k' 0) = pure (.int k (mx0 x)) := by
  rw [max2_int]; rfl
attribute [local go_sem high] max2_mx0
attribute [local go_sem] max_two
def upS (s : ByteArray) : ByteArray := s.extract 0 (Lib.lastIndexByte s 46).toNat
theorem lastIdx_lt (s : ByteArray) (h : ¬ s.size = 0) : (Lib.lastIndexByte s 46).toNat < s.size := by
  rcases Lib.lastIndexByte_spec s 46 with ⟨h1, _⟩ | ⟨i, h1, h2, _⟩
  · rw [h1]; show (0 : Nat) < _; omega
  · rw [h2]; simpa using h1
theorem lastIdx_ge (s : ByteArray) : -1 ≤ Lib.lastIndexByte s 46 ∧ Lib.lastIndexByte s 46 ≤ s.size := by
  rcases Lib.lastIndexByte_spec s 46 with ⟨h1, _⟩ | ⟨i, h1, h2, _⟩
  · rw [h1]; omega
  · rw [h2]; omega
theorem upS_size (s : ByteArray) (h : ¬ s.size = 0) : (upS s).size < s.size := by
  have := lastIdx_lt s h
  unfold upS
  rw [ByteArray.size_extract]
  omega
/-- From a scope up to none: the first whole name that means something. -/
def climbS (g : ByteArray → Option Int) (n0 : ByteArray) : Nat → ByteArray → Option ByteArray
  | 0, sc => if inOk g (inN sc n0) = true then some (inN sc n0) else none
  | f + 1, sc => if inOk g (inN sc n0) = true then some (inN sc n0) else if sc.size = 0 then none else climbS g n0 f (upS sc)
def downS (g : ByteArray → Option Int) : Option ByteArray → List ByteArray → Option ByteArray
  | r, [] => r
  | none, _ :: _ => none
  | some x, n :: l => downS g (if inOk g (inN x n) = true then some (inN x n) else none) l
def findS (g : ByteArray → Option Int) (sc path : ByteArray) : Option RS :=
  if pathOk path = false then none
  else if sc.size ≠ 0 ∧ kd0 g sc ≠ 1 then none
  else match pathL path with
    | [] => none
    | n0 :: rest => (downS g (climbS g n0 sc.size sc) rest).map fun y => ⟨y, kd0 g y⟩
def nmR : Option RS → ByteArray
  | some x => x.f0
  | none => ⟨#[]⟩
def kdR : Option RS → Int
  | some x => x.f1
  | none => 0
def FindPost (r : Option RS) (w : World) (e : Ending) (w' : World) : Prop :=
  e = .returned (.tuple #[.agg #[.string (nmR r), .int .i64 (kdR r)], .bool r.isSome]) ∧ Below w.heap.size w w'
def szOf : Value → Nat
  | .string s => s.size
  | _ => 0
def okFirst (ok : Bool) (x : ByteArray) : Option ByteArray := if ok = true then some x else none
theorem upS_mx (s : ByteArray) : upS s = s.extract 0 (mx0 (Lib.lastIndexByte s 46)).toNat := by
  unfold upS mx0
  split
  · rw [show (Lib.lastIndexByte s 46).toNat = 0 by omega]; rfl
  · rfl
theorem mx0_bd (s : ByteArray) (h : ¬ s.size = 0) : 0 ≤ mx0 (Lib.lastIndexByte s 46) ∧ mx0 (Lib.lastIndexByte s 46) ≤ s.size := by
  have := lastIdx_ge s
  unfold mx0
  split <;> omega
theorem climb_fuel (g : ByteArray → Option Int) (n0 : ByteArray) : ∀ (f f' : Nat) (sc : ByteArray), sc.size ≤ f → sc.size ≤ f' → climbS g n0 f sc = climbS g n0 f' sc
  | 0, 0, _, _, _ => rfl
  | 0, f' + 1, sc, h, _ => by rw [climbS, climbS, if_pos (show sc.size = 0 by omega)]
  | f + 1, 0, sc, _, h => by rw [climbS, climbS, if_pos (show sc.size = 0 by omega)]
  | f + 1, f' + 1, sc, h, h' => by
    rw [climbS, climbS]
    by_cases h0 : sc.size = 0
    · rw [if_pos h0, if_pos h0]
    · have := upS_size sc h0
      rw [climb_fuel g n0 f f' (upS sc) (by omega) (by omega)]
theorem climb_ok (g : ByteArray → Option Int) (n0 sc : ByteArray) (h : inOk g (inN sc n0) = true) : climbS g n0 sc.size sc = some (inN sc n0) := by
  cases hs : sc.size with
  | zero => rw [climbS, if_pos h]
  | succ f => rw [climbS, if_pos h]
theorem climb_no (g : ByteArray → Option Int) (n0 sc : ByteArray) (h : inOk g (inN sc n0) = false) (h0 : sc.size = 0) : climbS g n0 sc.size sc = none := by
  rw [h0, climbS, if_neg (by rw [h]; decide)]
theorem climb_up (g : ByteArray → Option Int) (n0 sc : ByteArray) (h : inOk g (inN sc n0) = false) (h0 : ¬ sc.size = 0) : climbS g n0 sc.size sc = climbS g n0 (upS sc).size (upS sc) := by
  have hu := upS_size sc h0
  rw [show sc.size = (sc.size - 1) + 1 by omega, climbS, if_neg (by rw [h]; decide), if_neg h0]
  exact climb_fuel g n0 _ _ _ (by omega) (Nat.le_refl _)
theorem inN_size (sc n : ByteArray) : (inN sc n).size ≤ sc.size + 1 + n.size := by
  unfold inN
  split
  · omega
  · rw [ByteArray.size_append, ByteArray.size_append]
    have : dot.size = 1 := rfl
    omega
theorem ne_toList {s : ByteArray} (h0 : ¬ s.size = 0) : s.toList = [] ↔ False := by
  refine ⟨fun e => ?_, False.elim⟩
  have := ne_isEmpty h0
  rw [e] at this
  cases this
set_option maxHeartbeats 8000000 in
set_option maxRecDepth 100000 in
theorem finder_Find.calls (bf bm n : Nat) (g : ByteArray → Option Int) (sc path : ByteArray) (m : Int) (w : World) (h : FinderAt w bf bm n g) (hs : sc.size ≤ 100000000) (hp : path.size ≤ 1000000) (hm : w.cell? ⟨0, 0, none⟩ = some (.int .i64 m)) :
    Calls Tryd.prog 18 #[.pointer (some ⟨bf, 0, none⟩), .string sc, .string path] w (FindPost (findS g sc path) w) := by
  have HF := Aside0.mk h
  clear h
  go_enter Tryd.func18, Tryd.ntmps18
  go_wp2_with fail
  have hm1 : (w.alloc (.cells #[.string ⟨#[]⟩, .int .i64 0] 33)).cell? ⟨0, 0, none⟩ = some (.int .i64 m) := pw_cell_below (below_alloc (Below.refl _ _) _) hm
  obtain ⟨W0, hW0⟩ : ∃ W0, W0 = w.alloc (.cells #[.string ⟨#[]⟩, .int .i64 0] 33) := ⟨_, rfl⟩
  have hB0 : Below w.heap.size w W0 := by rw [hW0]; exact below_alloc (Below.refl _ _) _
  have hX0 : W0.heap[w.heap.size]? = some (.cells #[.string ⟨#[]⟩, .int .i64 0] 33 (0, 0)) := by rw [hW0]; exact blk_new w _
  rw [← hW0] at hm1 ⊢
  refine (ident_Path.calls path m W0 hp hm1).mono ?_
  rintro e w1 ⟨A, c, rfl, hC, hc, hb⟩
  have HB1 := Aside0.mk (below_step hB0 hb)
  have HX1 := Aside0.mk (blk_below hX0 hb)
  have hF1 : FinderAt w1 bf bm n g := ⟨blk_below HF.out.1 HB1.out, HF.out.2.below HB1.out⟩
  have HF1 := Aside0.mk hF1
  have HCP := Aside0.mk hC
  clear hm hm1 hW0 hB0 hX0 hb hC HF
  obtain ⟨ok, hok⟩ : ∃ ok, ok = pathOk path := ⟨_, rfl⟩
  rw [← hok]
  have HD : Aside0 (findS g sc path = if ok = false then none else if sc.size ≠ 0 ∧ kd0 g sc ≠ 1 then none else match pathL path with | [] => none | n0 :: rest => (downS g (climbS g n0 sc.size sc) rest).map fun y => ⟨y, kd0 g y⟩) := ⟨by rw [hok]; rfl⟩
  have hx0 : w1.cell? ⟨w.heap.size, 0, none⟩ = some (.string ⟨#[]⟩) := blk_cell HX1.out 0
  have hx1 : w1.cell? ⟨w.heap.size, 1, none⟩ = some (.int .i64 0) := blk_cell HX1.out 1
  have hfx0 := blk_frozen HX1.out 0
  have hfx1 := blk_frozen HX1.out 1
  have d0 : w1.cell? ⟨bf, 0, none⟩ = some (.map (some bm)) := blk_cell hF1.1 0
  have HOK := Aside0.mk hok
  clear hok hF1
  cases ok with
  | false =>
    rw [if_pos rfl] at HD
    have HR := HD
    go_wp2_with fail
    refine bodyPost_ret (results_ct rfl _ _ w.heap.size 33 #[.string ⟨#[]⟩, .int .i64 0] (0, 0) _ rfl ((blk_set (blk_set HX1.out 0 _) 1 _).trans rfl) Tryd.underlying33 rfl (by kernel_rfl)) rfl ?_
    exact ⟨by rw [HR.out]; rfl, (HB1.out.setCell (p := ⟨w.heap.size, 0, none⟩) (Nat.le_refl _) _).setCell (p := ⟨w.heap.size, 1, none⟩) (Nat.le_refl _) _⟩
  | true =>
    rw [if_neg (by decide)] at HD
    have hlk := HF1.out.2.look sc (by unfold maxLen; omega)
    rw [show (g sc).getD 0 = kd0 g sc from rfl] at hlk
    by_cases hbad : sc.size ≠ 0 ∧ kd0 g sc ≠ 1
    · have HR : Aside0 (findS g sc path = none) := ⟨by rw [HD.out, if_pos hbad]⟩
      have he := ne_isEmpty hbad.1
      have t1 : (kd0 g sc != 1) = true := bne_iff_ne.mpr hbad.2
      clear HD hbad
      generalize kd0 g sc = k at *
      go_wp2_with fail
      refine bodyPost_ret (results_ct rfl _ _ w.heap.size 33 #[.string ⟨#[]⟩, .int .i64 0] (0, 0) _ rfl ((blk_set (blk_set HX1.out 0 _) 1 _).trans rfl) Tryd.underlying33 rfl (by kernel_rfl)) rfl ?_
      exact ⟨by rw [HR.out]; rfl, (HB1.out.setCell (p := ⟨w.heap.size, 0, none⟩) (Nat.le_refl _) _).setCell (p := ⟨w.heap.size, 1, none⟩) (Nat.le_refl _) _⟩
    rw [if_neg hbad] at HD
    have hps := pieces_small path
    have hpl : pathL path = (piecesL path.data.toList).map txt8 := if_pos HOK.out.symm
    rw [← hpl] at hps
    obtain ⟨n0, rest, hnr⟩ : ∃ n0 rest, pathL path = n0 :: rest := by
      rw [hpl]
      cases hh : piecesL path.data.toList with
      | nil => exact absurd hh (piecesL_ne _)
      | cons a l => exact ⟨_, _, rfl⟩
    have h8 : (pathL path).length ≤ 8 := by
      have h := HOK.out.symm
      unfold pathOk at h
      rw [Bool.and_eq_true, decide_eq_true_eq] at h
      rw [hpl, List.length_map]
      exact h.1
    have HPS := Aside0.mk hps.2
    rw [hnr] at HD HCP HPS h8 hc
    have hz0 : n0.size ≤ path.size := HPS.out n0 List.mem_cons_self
    rw [hnr]
    clear hps hpl hnr
    obtain ⟨ad, hA, c0⟩ := Kd.at_string HCP.out 0 (by omega) (by rw [List.length_cons]; omega)
    subst hA
    have hrd : rdOf ByteArray.empty (n0 :: rest) 0 = n0 := rfl
    rw [hrd] at c0
    have c0' : w1.cell? ad = some (.string n0) := by simpa [Addr.add] using c0
    clear c0
    obtain ⟨infoS, hinfoS, hinfoZ⟩ := info_parts info9
    obtain ⟨A', hsl, hrest, hlr⟩ := print_drop_of (P := Tryd.prog) Value.string ByteArray.empty 37 9 .i64 Tryd.underlying37 hinfoS hinfoZ.2.1 (some ad) c (n0 :: rest) 1 (by omega) (by rw [List.length_cons]; omega) hc
    have hdr : (n0 :: rest).drop (1 : Int).toNat = rest := rfl
    rw [hdr] at hsl hrest hlr
    have HRC : Aside0 (Kd.C Kd.string w1 A' rest.length rest) := ⟨Kd.C_of_reads (h1 := fun _ => rfl) (hrest w1 (Kd.reads_of_C (h1 := fun _ => rfl) HCP.out))⟩
    have HCL := Aside0.mk HCP.out
    clear hrest hrd hdr hinfoS hinfoZ
    obtain ⟨rn, hrn⟩ : ∃ rn, rn = rest.length := ⟨_, rfl⟩
    rw [List.length_cons] at hsl
    rw [List.length_cons]
    rw [← hrn] at hsl hlr HRC ⊢
    have hr8 : rn ≤ 8 := by rw [hrn]; rw [List.length_cons] at h8; omega
    have HRN := Aside0.mk hrn
    have htest : sc.toList.isEmpty = true ∨ (sc.toList.isEmpty = false ∧ (kd0 g sc != 1) = false) := by
      by_cases h0 : sc.size = 0
      · left; rw [ByteArray.toList_eq, size_zero h0]; rfl
      · right; exact ⟨ne_isEmpty h0, by rw [bne_eq_false_iff_eq]; exact Decidable.byContradiction fun hk => hbad ⟨h0, hk⟩⟩
    clear hbad hrn
    obtain ⟨k0, hk0⟩ : ∃ k0, k0 = kd0 g sc := ⟨_, rfl⟩
    rw [← hk0] at hlk htest
    clear hk0
    rcases htest with he | ⟨he, t1⟩
    all_goals
      go_wp2_with fail
      refine (finder_in.calls bf bm n g sc n0 w1 HF1.out (by omega)).mono ?_
      rintro e w' ⟨rfl, rfl⟩
      clear hlk
      try clear t1
      clear he
      go_wp2_with fail
      go_loop [1, 9, 10] (fun v1 v9 v10 => ∃ (s : ByteArray) (ok : Bool) (x : ByteArray), v1 = .string s ∧ v9 = .bool ok ∧ v10 = .string x ∧ s.size ≤ sc.size ∧ Aside0 (ok = inOk g (inN s n0) ∧ x = inN s n0) ∧ Aside0 (climbS g n0 sc.size sc = climbS g n0 s.size s)) (fun v1 _ _ => szOf v1)
      case atStart => exact ⟨sc, _, _, rfl, rfl, rfl, Nat.le_refl _, ⟨rfl, rfl⟩, ⟨rfl⟩⟩
      case round =>
        obtain ⟨s, ok, x, rfl, rfl, rfl, hss, HOX, HCS⟩ := hrel
        by_cases hgo : ok = false ∧ ¬ s.size = 0
        · obtain ⟨rfl, hs0⟩ := hgo
          have he := ne_isEmpty hs0
          obtain ⟨hm0, hm1⟩ := mx0_bd s hs0
          have hup := upS_size s hs0
          have HCU : Aside0 (climbS g n0 sc.size sc = climbS g n0 (upS s).size (upS s)) := ⟨by rw [HCS.out]; exact climb_up g n0 s HOX.out.1.symm hs0⟩
          have HUP : Aside0 (upS s = s.extract 0 (mx0 (Lib.lastIndexByte s 46)).toNat) := ⟨upS_mx s⟩
          have HUZ := Aside0.mk hup
          clear hs0 hup
          go_wp2_with fail
          refine (Tryd.strings_LastIndexByte s 46 (by omega) w1).mono ?_
          rintro e w' ⟨rfl, rfl⟩
          generalize Lib.lastIndexByte s 46 = ix at *
          go_wp2_with fail
          rw [← HUP.out]
          refine (finder_in.calls bf bm n g (upS s) n0 _ HF1.out (by have := HUZ.out; omega)).mono ?_
          rintro e w' ⟨rfl, rfl⟩
          go_wp2_with fail
          go_round
          case rel => exact ⟨upS s, _, _, rfl, rfl, rfl, by have := HUZ.out; omega, ⟨rfl, rfl⟩, HCU⟩
          case measure => exact HUZ.out
        · have hc2 : ok = true ∨ (ok = false ∧ s.toList.isEmpty = true ∧ s.size = 0) := by
            cases ok with
            | true => exact .inl rfl
            | false =>
              have h0 : s.size = 0 := Decidable.byContradiction fun h => hgo ⟨rfl, h⟩
              exact .inr ⟨rfl, by rw [ByteArray.toList_eq, size_zero h0]; rfl, h0⟩
          have HST : Aside0 (climbS g n0 sc.size sc = okFirst ok x) := ⟨by
            rw [HCS.out]
            rcases hc2 with rfl | ⟨rfl, _, h0⟩
            · rw [HOX.out.2]; exact climb_ok g n0 s HOX.out.1.symm
            · exact climb_no g n0 s HOX.out.1.symm h0⟩
          have hxz : x.size ≤ 102000000 := by rw [HOX.out.2]; have := inN_size s n0; omega
          rw [HST.out] at HD
          clear HOX HCS hgo
          rcases hc2 with rfl | ⟨rfl, he, _⟩
          all_goals
            go_wp2_with fail
            try clear he
            go_loop [9, 10, 66] (fun v9 v10 v66 => ∃ (j : Nat) (ok' : Bool) (x' : ByteArray), j ≤ rn ∧ v9 = .bool ok' ∧ v10 = .string x' ∧ v66 = .int .i64 j ∧ x'.size ≤ 102000000 + 1000001 * j ∧ Aside0 (findS g sc path = (downS g (okFirst ok' x') (rest.drop j)).map fun y => ⟨y, kd0 g y⟩)) (fun _ _ v66 => rn - (intOf v66).toNat)
            case atStart => exact ⟨0, _, x, by omega, rfl, rfl, rfl, by omega, ⟨HD.out⟩⟩
            case round =>
              obtain ⟨j, ok', x', hj, rfl, rfl, rfl, hxz', HDN⟩ := hrel
              by_cases hlt : j < rn
              · have t1 : decide (j < rn) = true := decide_eq_true hlt
                obtain ⟨ad2, hA2, c2⟩ := Kd.at_string HRC.out (j : Int) (by omega) (by omega)
                subst hA2
                have hjm : j < rest.length := by rw [← HRN.out]; exact hlt
                have hrd : rdOf ByteArray.empty rest (j : Int) = rest[j]'hjm := by simp [rdOf, hjm]
                rw [hrd, Int.toNat_natCast] at c2
                have HDR : Aside0 (rest.drop j = rest[j]'hjm :: rest.drop (j + 1)) := ⟨List.drop_eq_getElem_cons hjm⟩
                have hz2 : (rest[j]'hjm).size ≤ path.size := HPS.out _ (List.mem_cons_of_mem _ (List.getElem_mem hjm))
                generalize rest[j]'hjm = nn at *
                clear hrd
                rw [HDR.out] at HDN
                cases ok' with
                | true =>
                  go_wp2_with fail
                  refine (finder_in.calls bf bm n g x' nn _ HF1.out (by omega)).mono ?_
                  rintro e w' ⟨rfl, rfl⟩
                  go_wp2_with fail
                  go_round
                  case rel => exact ⟨j + 1, _, _, by omega, rfl, rfl, by go_num, by have := inN_size x' nn; omega, HDN⟩
                  case measure => simp [intOf]; omega
                | false =>
                  go_wp2_with fail
                  go_round
                  case rel => exact ⟨j + 1, false, x', by omega, rfl, rfl, by go_num, by omega, ⟨by rw [HDN.out]; cases rest.drop (j + 1) <;> rfl⟩⟩
                  case measure => simp [intOf]; omega
              · have t1 : decide (j < rn) = false := decide_eq_false hlt
                have hdn : rest.drop j = [] := List.drop_eq_nil_of_le (by rw [← HRN.out]; omega)
                rw [hdn] at HDN
                cases ok' with
                | true =>
                  have HR : Aside0 (findS g sc path = some ⟨x', kd0 g x'⟩) := HDN
                  have hlk := HF1.out.2.look x' (by unfold maxLen; omega)
                  rw [show (g x').getD 0 = kd0 g x' from rfl] at hlk
                  generalize kd0 g x' = kx at *
                  go_wp2_with fail
                  refine bodyPost_ret (results_ct rfl _ _ w.heap.size 33 #[.string x', .int .i64 kx] (0, 0) _ rfl ((blk_set (blk_set HX1.out 0 _) 1 _).trans rfl) Tryd.underlying33 rfl (by kernel_rfl)) rfl ?_
                  exact ⟨by rw [HR.out]; rfl, (HB1.out.setCell (p := ⟨w.heap.size, 0, none⟩) (Nat.le_refl _) _).setCell (p := ⟨w.heap.size, 1, none⟩) (Nat.le_refl _) _⟩
                | false =>
                  have HR : Aside0 (findS g sc path = none) := HDN
                  go_wp2_with fail
                  refine bodyPost_ret (results_ct rfl _ _ w.heap.size 33 #[.string ⟨#[]⟩, .int .i64 0] (0, 0) _ rfl ((blk_set (blk_set HX1.out 0 _) 1 _).trans rfl) Tryd.underlying33 rfl (by kernel_rfl)) rfl ?_
                  exact ⟨by rw [HR.out]; rfl, (HB1.out.setCell (p := ⟨w.heap.size, 0, none⟩) (Nat.le_refl _) _).setCell (p := ⟨w.heap.size, 1, none⟩) (Nat.le_refl _) _⟩
end Go.Proofs.YtbhfecciegfdjaaDoor.X

/-! scope.Find at any declarations; and the law's first question, answered yes. -/
set_option linter.unusedVariables false
set_option linter.unusedSimpArgs false
namespace Go.Proofs.YtbhfecciegfdjaaDoor.X
open Go.RowKit Go.Shelf Go.Proofs.YtbhfecciegfdjaaDoorW.PrintWords Go.Proofs.YtbhfecciegfdjaaDoorW.PrintLast Go.Proofs.YtbhfecciegfdjaaDoorW.PrintMore
set_option maxHeartbeats 8000000 in
set_option maxRecDepth 100000 in
theorem scope_Find.calls (l : List PD) (A : Option Addr) (c : Nat) (sc path : ByteArray) (m : Int) (w : World) (hC : Kd.C kP w A l.length l) (hc : l.length ≤ c) (hn : nmP l ≤ 900000000) (hk : Kinds (alL l ⟨#[]⟩)) (hs : sc.size ≤ 100000000) (hp : path.size ≤ 1000000) (hm : w.cell? ⟨0, 0, none⟩ = some (.int .i64 m)) :
    Calls Tryd.prog 11 #[.slice A l.length c, .string sc, .string path] w (FindPost (findS (kindOf (alL l ⟨#[]⟩)) sc path) w) := by
  have HC := Aside0.mk hC
  have HK := Aside0.mk hk
  clear hC hk
  go_enter Tryd.func11, Tryd.ntmps11
  go_wp2_with fail
  obtain ⟨W0, hW0⟩ : ∃ W0, W0 = w.alloc (.cells #[.string ⟨#[]⟩, .int .i64 0] 33) := ⟨_, rfl⟩
  have hB0 : Below w.heap.size w W0 := by rw [hW0]; exact below_alloc (Below.refl _ _) _
  have hX0 : W0.heap[w.heap.size]? = some (.cells #[.string ⟨#[]⟩, .int .i64 0] 33 (0, 0)) := by rw [hW0]; exact blk_new w _
  have hm0 := pw_cell_below hB0 hm
  rw [← hW0]
  refine (scope_New.calls l A c W0 (Kd.C_below HC.out hB0) hc hn HK.out).mono ?_
  rintro e w1 ⟨bf, bm, nn, rfl, hF1, hb⟩
  have HB1 := Aside0.mk (below_step hB0 hb)
  have HX1 := Aside0.mk (blk_below hX0 hb)
  have HF1 := Aside0.mk hF1
  have HM1 := Aside0.mk (pw_cell_below hb hm0)
  clear hF1 hb hB0 hX0 hW0 hm0 hm
  go_wp2_with fail
  refine (finder_Find.calls bf bm nn _ sc path m w1 HF1.out hs hp HM1.out).mono ?_
  rintro e w2 ⟨rfl, hb⟩
  have HB2 := Aside0.mk (below_step HB1.out hb)
  have hx2 := blk_below HX1.out hb
  have HX2 := Aside0.mk hx2
  have x0 : w2.cell? ⟨w.heap.size, 0, none⟩ = some (.string ⟨#[]⟩) := blk_cell hx2 0
  have x1 : w2.cell? ⟨w.heap.size, 1, none⟩ = some (.int .i64 0) := blk_cell hx2 1
  have y0 := blk_frozen hx2 0
  have y1 := blk_frozen hx2 1
  clear hx2 hb
  obtain ⟨rn, hrn⟩ : ∃ rn, rn = nmR (findS (kindOf (alL l ⟨#[]⟩)) sc path) := ⟨_, rfl⟩
  obtain ⟨rk, hrk⟩ : ∃ rk, rk = kdR (findS (kindOf (alL l ⟨#[]⟩)) sc path) := ⟨_, rfl⟩
  obtain ⟨b, hb⟩ : ∃ b, b = (findS (kindOf (alL l ⟨#[]⟩)) sc path).isSome := ⟨_, rfl⟩
  have HR : Aside0 (FindPost (findS (kindOf (alL l ⟨#[]⟩)) sc path) w (.returned (.tuple #[.agg #[.string rn, .int .i64 rk], .bool b])) w) := ⟨⟨by rw [hrn, hrk, hb], Below.refl _ _⟩⟩
  rw [← hrn, ← hrk, ← hb]
  clear hrn hrk hb
  go_wp2_with fail
  refine bodyPost_ret (results_ct rfl _ _ w.heap.size 33 #[.string rn, .int .i64 rk] (0, 0) _ rfl ((blk_set (blk_set HX2.out 0 _) 1 _).trans rfl) Tryd.underlying33 rfl (by kernel_rfl)) rfl ?_
  exact ⟨HR.out.1, (HB2.out.setCell (p := ⟨w.heap.size, 0, none⟩) (Nat.le_refl _) _).setCell (p := ⟨w.heap.size, 1, none⟩) (Nat.le_refl _) _⟩
end Go.Proofs.YtbhfecciegfdjaaDoor.X
