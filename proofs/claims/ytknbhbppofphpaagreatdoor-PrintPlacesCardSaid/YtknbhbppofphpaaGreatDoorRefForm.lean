/- The reference's formedField, formed, Formed: what they answer of declarations of few bytes. -/
import Derived.Test.YtknbhbppofphpaaGreatDoorXA
import Derived.Test.YtknbhbppofphpaaGreatDoorTree
import Derived.Test.YtknbhbppofphpaaGreatDoorRefPathFn
set_option linter.unusedVariables false
set_option linter.unusedSimpArgs false
namespace Go.Proofs.YtknbhbppofphpaaGreatDoor.X
open Go.RowKit Go.Shelf Go.Proofs.YtknbhbppofphpaaGreatDoorW.PrintWords Go.Proofs.YtknbhbppofphpaaGreatDoorW.PrintLast Go.Proofs.YtknbhbppofphpaaGreatDoorW.PrintMore
abbrev U8 (w : World) : Prop := Lib.Utf8Tabs (Tryz.lays196_ren.g 3) (Tryz.lays196_ren.g 4) w
def scalI (s : ByteArray) : Int := (courierref03_Scalar.f s).getD 0
theorem scalar_f (s : ByteArray) : courierref03_Scalar.f s = some (scalI s) := by
  unfold scalI courierref03_Scalar.f
  repeat' split
  all_goals rfl
def numV (n : Int) : Bool := decide (0 ≤ n) && decide (n ≤ 2147483647)
def fieldV (f : RF) : Bool := plainV f.f2 && numV f.f3 && (pathOk f.f1 || decide (0 < scalI f.f1))
def valueV (v : RV) : Bool := plainV v.f0 && numV v.f1
def methodV (m : RM) : Bool := plainV m.f0 && pathOk m.f1 && pathOk m.f2
set_option maxHeartbeats 4000000 in
set_option maxRecDepth 100000 in
theorem formedField.calls (f : RF) (w : World) (h1 : f.f1.size ≤ 1000000) (h2 : f.f2.size ≤ 1000000) (hT : U8 w) :
    Calls Tryz.prog 54 #[.agg #[.bool f.f0, .string f.f1, .string f.f2, .int .i64 f.f3, .int .i64 f.f4.f0, .int .i64 f.f4.f1]] w fun e w' => e = .returned (.bool (fieldV f)) ∧ Below w.heap.size w w' := by
  obtain ⟨rep, ty, nm, num, p0, p1⟩ := f
  simp only at h1 h2 ⊢
  have HV : Aside0 (fieldV ⟨rep, ty, nm, num, ⟨p0, p1⟩⟩ = (plainV nm && numV num && (pathOk ty || decide (0 < scalI ty)))) := ⟨rfl⟩
  have HT := Aside0.mk hT
  clear hT
  go_enter Tryz.func54, Tryz.ntmps54
  go_wp2_with fail
  obtain ⟨W0, hW0⟩ : ∃ W0, W0 = w.alloc (.cells #[.bool rep, .string ty, .string nm, .int .i64 num, .int .i64 p0, .int .i64 p1] 63) := ⟨_, rfl⟩
  have hB0 : Below w.heap.size w W0 := by rw [hW0]; exact below_alloc (Below.refl _ _) _
  have hX0 : W0.heap[w.heap.size]? = some (.cells #[.bool rep, .string ty, .string nm, .int .i64 num, .int .i64 p0, .int .i64 p1] 63 (0, 0)) := by rw [hW0]; exact blk_new w _
  rw [← hW0]
  refine (courierref03_Path.calls ty W0 h1 (Utf8Tabs_below HT.out hB0)).mono ?_
  rintro e w1 ⟨A, c, rfl, _, _, hb⟩
  have HB1 := Aside0.mk (below_step hB0 hb)
  have hx1 := blk_below hX0 hb
  have HX1 := Aside0.mk hx1
  have c2 : w1.cell? ⟨w.heap.size, 2, none⟩ = some (.string nm) := blk_cell hx1 2
  clear hB0 hX0 hW0 hb hx1
  go_wp2_with fail
  refine (courierref03_Plain.calls nm w1 (by omega) (Utf8Tabs_below HT.out HB1.out)).mono ?_
  rintro e w2 ⟨rfl, hb⟩
  have HB2 := Aside0.mk (below_step HB1.out hb)
  have hx2 := blk_below HX1.out hb
  have c1 : w2.cell? ⟨w.heap.size, 1, none⟩ = some (.string ty) := blk_cell hx2 1
  have c3 : w2.cell? ⟨w.heap.size, 3, none⟩ = some (.int .i64 num) := blk_cell hx2 3
  clear hb hx2 c2
  generalize pathOk ty = po at *
  generalize plainV nm = pl at *
  have END : ∀ (b : Bool) (W : World), (pl && numV num && (po || decide (0 < scalI ty))) = b → Below w.heap.size w W → (Ending.returned (Value.bool b) = Ending.returned (Value.bool (fieldV ⟨rep, ty, nm, num, ⟨p0, p1⟩⟩)) ∧ Below w.heap.size w W) := fun b W h hb => ⟨by rw [HV.out, h], hb⟩
  cases pl with
  | false =>
    go_wp2_with fail
    go_ret
    exact END _ _ rfl HB2.out
  | true =>
    by_cases hn0 : 0 ≤ num
    rotate_left
    · have t0 : decide (0 ≤ num) = false := decide_eq_false hn0
      have HN : Aside0 (numV num = false) := ⟨by unfold numV; rw [t0]; rfl⟩
      go_wp2_with fail
      go_ret
      exact END _ _ (by rw [HN.out]; rfl) HB2.out
    have t0 : decide (0 ≤ num) = true := decide_eq_true hn0
    by_cases hn1 : num ≤ 2147483647
    rotate_left
    · have t1 : decide (num ≤ 2147483647) = false := decide_eq_false hn1
      have HN : Aside0 (numV num = false) := ⟨by unfold numV; rw [t0, t1]; rfl⟩
      go_wp2_with fail
      go_ret
      exact END _ _ (by rw [HN.out]; rfl) HB2.out
    have t1 : decide (num ≤ 2147483647) = true := decide_eq_true hn1
    have HN : Aside0 (numV num = true) := ⟨by unfold numV; rw [t0, t1]; rfl⟩
    clear hn0 hn1
    cases po with
    | true =>
      go_wp2_with fail
      go_ret
      exact END _ _ (by rw [HN.out]; rfl) HB2.out
    | false =>
      go_wp2_with fail
      refine (courierref03_Scalar.calls ty _ w2 (scalar_f ty)).mono ?_
      rintro e w' ⟨rfl, ⟨nd, rfl⟩⟩
      have HS : Aside0 ((true && true && (false || decide (0 < scalI ty))) = decide (0 < scalI ty)) := ⟨rfl⟩
      generalize scalI ty = si at *
      go_wp2_with fail
      go_ret
      exact END _ _ (by rw [HN.out, HS.out]) (pw_below_drewN HB2.out _)
def mn8 (x : Int) : Int := if 8 < x then 8 else x
theorem min_mn8 (x : Int) : min x 8 = mn8 x := by
  unfold mn8
  split <;> omega
theorem min2_mn8 (k k' : IntKind) (x : Int) : Builtin.min2 (.int k x) (.int k' 8) = pure (.int k (mn8 x)) := by
  rw [min2_int]; rfl
attribute [local go_sem high] min2_mn8
attribute [local go_sem] min_two
theorem drop_getD {α : Type} (l : List α) (z : α) (i : Int) (h0 : 0 ≤ i) (h1 : i < (l.length : Int)) : l.drop i.toNat = l.getD i.toNat z :: l.drop (i + 1).toNat ∧ l.getD i.toNat z ∈ l := by
  have hi : i.toNat < l.length := by omega
  have e : l.getD i.toNat z = l[i.toNat] := by simp [hi]
  rw [e, show (i + 1).toNat = i.toNat + 1 by omega]
  exact ⟨List.drop_eq_getElem_cons hi, List.getElem_mem hi⟩
def kindV (a : Int) (nf nv nm nd : Nat) (dep : Int) : Bool :=
  if a = 1 then decide (nv + nm = 0) else if a = 2 then decide (nf + nm + nd = 0) else if a = 3 then decide (nf + nv + nd = 0) && decide (dep ≤ 1) else false
def headV (a : Int) (b : ByteArray) (fs : List RF) (vs : List RV) (ms : List RM) (nd : Nat) (dep : Int) : Bool :=
  plainV b && decide (dep ≤ 8) && kindV a fs.length vs.length ms.length nd dep && fs.all fieldV && vs.all valueV && ms.all methodV
def deepV (a dep : Int) : Int := if a = 1 then dep else min dep 8
/-- What lies in a message whose own depth is one less. -/
def frmI : List RD → Int → Bool
  | [], _ => true
  | ⟨a, b, _, fs, vs, ms, ds⟩ :: l, dep => (if a = 3 then false else headV a b fs vs ms ds.length (deepV a dep) && frmI ds (deepV a dep + 1)) && frmI l dep
def frmD (d : RD) (dep : Int) : Bool := headV d.f0 d.f1 d.f3 d.f4 d.f5 d.f6.length dep && frmI d.f6 (dep + 1)
def frmT (l : List RD) : Bool := l.all fun d => frmD d 1
theorem frmI_cons (d : RD) (l : List RD) (dep : Int) : frmI (d :: l) dep = ((if d.f0 = 3 then false else frmD d (deepV d.f0 dep)) && frmI l dep) := by
  obtain ⟨a, b, c, fs, vs, ms, ds⟩ := d
  rw [frmI]
  rfl
theorem nmF_mem : ∀ {fs : List RF} {f : RF}, f ∈ fs → f.f2.size / 100 + f.f1.size / 100 ≤ nmF fs
  | x :: l, f, h => by
    rw [nmF]
    rcases List.mem_cons.1 h with rfl | h
    · omega
    · have := nmF_mem h; omega
theorem nmV_mem : ∀ {fs : List RV} {f : RV}, f ∈ fs → f.f0.size / 100 ≤ nmV fs
  | x :: l, f, h => by
    rw [nmV]
    rcases List.mem_cons.1 h with rfl | h
    · omega
    · have := nmV_mem h; omega
theorem nmM_mem : ∀ {fs : List RM} {f : RM}, f ∈ fs → f.f0.size / 100 + f.f1.size / 100 + f.f2.size / 100 ≤ nmM fs
  | x :: l, f, h => by
    rw [nmM]
    rcases List.mem_cons.1 h with rfl | h
    · omega
    · have := nmM_mem h; omega
theorem szL_mem : ∀ {l : List RD} {d : RD}, d ∈ l → szL [d] ≤ szL l
  | ⟨_, _, _, _, _, _, _⟩ :: l, d, h => by
    rcases List.mem_cons.1 h with rfl | h
    · rw [szL, szL, szL]; omega
    · have := szL_mem h
      rw [szL.eq_2]
      omega
set_option maxHeartbeats 16000000 in
set_option maxRecDepth 100000 in
theorem formed.calls : ∀ (n : Nat) (d : RD) (A4 A5 A6 A7 : Option Addr) (c4 c5 c6 c7 : Nat) (dep : Int) (w : World), szL [d] ≤ n → szL [d] ≤ 800 → 0 ≤ dep → dep ≤ 9 → U8 w →
    Kd.C k63 w A4 d.f3.length d.f3 → Kd.C k64 w A5 d.f4.length d.f4 → Kd.C k67 w A6 d.f5.length d.f5 → Kd.C k60 w A7 d.f6.length d.f6 →
    Calls Tryz.prog 27 #[.agg #[.int .i64 d.f0, .string d.f1, .int .i64 d.f2.f0, .int .i64 d.f2.f1, .slice A4 d.f3.length c4, .slice A5 d.f4.length c5, .slice A6 d.f5.length c6, .slice A7 d.f6.length c7], .int .i64 dep] w fun e w' => e = .returned (.bool (frmD d dep)) ∧ Below w.heap.size w w' := by
  intro n
  induction n using Nat.strongRecOn with
  | _ n ih =>
  intro d A4 A5 A6 A7 c4 c5 c6 c7 dep w hn hsz hd0 hd9 hT hC4 hC5 hC6 hC7
  obtain ⟨a, b, ⟨p0, p1⟩, fs, vs, ms, ds⟩ := d
  simp only at hC4 hC5 hC6 hC7 ⊢
  have HIH := Aside0.mk ih
  have HT := Aside0.mk hT
  rw [szL, szL] at hn hsz
  have HN := Aside0.mk hn
  have HZ := Aside0.mk hsz
  have hlf : fs.length ≤ 800 := by omega
  have hlv : vs.length ≤ 800 := by omega
  have hlm : ms.length ≤ 800 := by omega
  have hld : ds.length ≤ 800 := by have := len_le_sz ds; omega
  have hbz : b.size ≤ 1000000 := by omega
  clear ih hT hn hsz
  obtain ⟨nf, hnf⟩ : ∃ nf, nf = fs.length := ⟨_, rfl⟩
  obtain ⟨nv, hnv⟩ : ∃ nv, nv = vs.length := ⟨_, rfl⟩
  obtain ⟨nm, hnm⟩ : ∃ nm, nm = ms.length := ⟨_, rfl⟩
  obtain ⟨nd, hnd⟩ : ∃ nd, nd = ds.length := ⟨_, rfl⟩
  have HV : Aside0 (frmD ⟨a, b, ⟨p0, p1⟩, fs, vs, ms, ds⟩ dep = (plainV b && decide (dep ≤ 8) && kindV a nf nv nm nd dep && fs.all fieldV && vs.all valueV && ms.all methodV && frmI ds (dep + 1))) := ⟨by rw [hnf, hnv, hnm, hnd]; rfl⟩
  rw [← hnf] at hlf hC4
  rw [← hnv] at hlv hC5
  rw [← hnm] at hlm hC6
  rw [← hnd] at hld hC7
  rw [← hnf, ← hnv, ← hnm, ← hnd]
  have HNF := Aside0.mk hnf
  have HNV := Aside0.mk hnv
  have HNM := Aside0.mk hnm
  have HND := Aside0.mk hnd
  have HC4 := Aside0.mk hC4
  have HC5 := Aside0.mk hC5
  have HC6 := Aside0.mk hC6
  have HC7 := Aside0.mk hC7
  clear hnf hnv hnm hnd hC4 hC5 hC6 hC7
  have END : ∀ (r : Bool) (W : World), (plainV b && decide (dep ≤ 8) && kindV a nf nv nm nd dep && fs.all fieldV && vs.all valueV && ms.all methodV && frmI ds (dep + 1)) = r → Below w.heap.size w W → (Ending.returned (Value.bool r) = Ending.returned (Value.bool (frmD ⟨a, b, ⟨p0, p1⟩, fs, vs, ms, ds⟩ dep)) ∧ Below w.heap.size w W) := fun r W h hb => ⟨by rw [HV.out, h], hb⟩
  have HEND := Aside0.mk END
  clear END
  go_enter Tryz.func27, Tryz.ntmps27
  go_wp2_with fail
  obtain ⟨CS, hCS⟩ : ∃ CS : Array Value, CS = #[.int .i64 a, .string b, .int .i64 p0, .int .i64 p1, .slice A4 nf c4, .slice A5 nv c5, .slice A6 nm c6, .slice A7 nd c7] := ⟨_, rfl⟩
  obtain ⟨W0, hW0⟩ : ∃ W0, W0 = w.alloc (.cells #[.int .i64 a, .string b, .int .i64 p0, .int .i64 p1, .slice A4 nf c4, .slice A5 nv c5, .slice A6 nm c6, .slice A7 nd c7] 60) := ⟨_, rfl⟩
  have hB0 : Below w.heap.size w W0 := by rw [hW0]; exact below_alloc (Below.refl _ _) _
  have hX0 : W0.heap[w.heap.size]? = some (.cells #[.int .i64 a, .string b, .int .i64 p0, .int .i64 p1, .slice A4 nf c4, .slice A5 nv c5, .slice A6 nm c6, .slice A7 nd c7] 60 (0, 0)) := by rw [hW0]; exact blk_new w _
  rw [← hW0]
  refine (courierref03_Plain.calls b W0 (by omega) (Utf8Tabs_below HT.out hB0)).mono ?_
  rintro e w1 ⟨rfl, hb⟩
  have HB1 := Aside0.mk (below_step hB0 hb)
  have hx1 := blk_below hX0 hb
  have HX1 := Aside0.mk hx1
  have c0 : w1.cell? ⟨w.heap.size, 0, none⟩ = some (.int .i64 a) := blk_cell hx1 0
  have c14 : w1.cell? ⟨w.heap.size, 4, none⟩ = some (.slice A4 nf c4) := blk_cell hx1 4
  have c15 : w1.cell? ⟨w.heap.size, 5, none⟩ = some (.slice A5 nv c5) := blk_cell hx1 5
  have c16 : w1.cell? ⟨w.heap.size, 6, none⟩ = some (.slice A6 nm c6) := blk_cell hx1 6
  have c17 : w1.cell? ⟨w.heap.size, 7, none⟩ = some (.slice A7 nd c7) := blk_cell hx1 7
  clear hB0 hX0 hW0 hb hx1 hCS CS hbz
  generalize plainV b = pl at *
  cases pl with
  | false =>
    go_wp2_with fail
    go_ret
    exact HEND.out _ _ rfl HB1.out
  | true =>
  by_cases hd8 : dep ≤ 8
  rotate_left
  · have t0 : decide (8 < dep) = true := decide_eq_true (by omega)
    have HK : Aside0 (decide (dep ≤ 8) = false) := ⟨decide_eq_false hd8⟩
    clear hd8
    go_wp2_with fail
    go_ret
    exact HEND.out _ _ (by rw [HK.out]; rfl) HB1.out
  have t0 : decide (8 < dep) = false := decide_eq_false (by omega)
  have HK8 : Aside0 (decide (dep ≤ 8) = true) := ⟨decide_eq_true hd8⟩
  by_cases hk : kindV a nf nv nm nd dep = true
  rotate_left
  · have HK : Aside0 (kindV a nf nv nm nd dep = false) := ⟨Bool.eq_false_iff.mpr hk⟩
    have hcase : ((a == 1) = true ∧ decide (0 < (nv : Int) + nm) = true) ∨ ((a == 1) = false ∧ (a == 2) = true ∧ decide (0 < (nf : Int) + nm + nd) = true) ∨ ((a == 1) = false ∧ (a == 2) = false ∧ (a == 3) = true ∧ decide (0 < (nf : Int) + nv + nd) = true) ∨ ((a == 1) = false ∧ (a == 2) = false ∧ (a == 3) = true ∧ decide (0 < (nf : Int) + nv + nd) = false ∧ decide (1 < dep) = true) ∨ ((a == 1) = false ∧ (a == 2) = false ∧ (a == 3) = false) := by
      unfold kindV at hk
      by_cases ha1 : a = 1
      · rw [if_pos ha1, decide_eq_true_eq] at hk
        exact .inl ⟨beq_iff_eq.mpr ha1, decide_eq_true (by omega)⟩
      · rw [if_neg ha1] at hk
        have e1 : (a == 1) = false := beq_eq_false_iff_ne.mpr ha1
        by_cases ha2 : a = 2
        · rw [if_pos ha2, decide_eq_true_eq] at hk
          exact .inr (.inl ⟨e1, beq_iff_eq.mpr ha2, decide_eq_true (by omega)⟩)
        · rw [if_neg ha2] at hk
          have e2 : (a == 2) = false := beq_eq_false_iff_ne.mpr ha2
          by_cases ha3 : a = 3
          · rw [if_pos ha3, Bool.and_eq_true, decide_eq_true_eq, decide_eq_true_eq] at hk
            by_cases h0 : nf + nv + nd = 0
            · exact .inr (.inr (.inr (.inl ⟨e1, e2, beq_iff_eq.mpr ha3, decide_eq_false (by omega), decide_eq_true (by omega)⟩)))
            · exact .inr (.inr (.inl ⟨e1, e2, beq_iff_eq.mpr ha3, decide_eq_true (by omega)⟩))
          · exact .inr (.inr (.inr (.inr ⟨e1, e2, beq_eq_false_iff_ne.mpr ha3⟩)))
    clear hk
    rcases hcase with ⟨e1, e2⟩ | ⟨e1, e2, e3⟩ | ⟨e1, e2, e3, e4⟩ | ⟨e1, e2, e3, e4, e5⟩ | ⟨e1, e2, e3⟩
    all_goals
      go_wp2_with fail
      go_ret
      exact HEND.out _ _ (by rw [HK8.out, HK.out]; rfl) HB1.out
  have HKV : Aside0 (kindV a nf nv nm nd dep = true) := ⟨hk⟩
  have hcase : ((a == 1) = true ∧ decide (0 < (nv : Int) + nm) = false) ∨ ((a == 1) = false ∧ (a == 2) = true ∧ decide (0 < (nf : Int) + nm + nd) = false) ∨ ((a == 1) = false ∧ (a == 2) = false ∧ (a == 3) = true ∧ decide (0 < (nf : Int) + nv + nd) = false ∧ decide (1 < dep) = false) := by
    unfold kindV at hk
    by_cases ha1 : a = 1
    · rw [if_pos ha1, decide_eq_true_eq] at hk
      exact .inl ⟨beq_iff_eq.mpr ha1, decide_eq_false (by omega)⟩
    · rw [if_neg ha1] at hk
      have e1 : (a == 1) = false := beq_eq_false_iff_ne.mpr ha1
      by_cases ha2 : a = 2
      · rw [if_pos ha2, decide_eq_true_eq] at hk
        exact .inr (.inl ⟨e1, beq_iff_eq.mpr ha2, decide_eq_false (by omega)⟩)
      · rw [if_neg ha2] at hk
        have e2 : (a == 2) = false := beq_eq_false_iff_ne.mpr ha2
        by_cases ha3 : a = 3
        · rw [if_pos ha3, Bool.and_eq_true, decide_eq_true_eq, decide_eq_true_eq] at hk
          exact .inr (.inr ⟨e1, e2, beq_iff_eq.mpr ha3, decide_eq_false (by omega), decide_eq_false (by omega)⟩)
        · rw [if_neg ha3] at hk
          exact absurd hk (by decide)
  clear hk
  have HEND2 : Aside0 (∀ (r : Bool) (W : World), (fs.all fieldV && (vs.all valueV && (ms.all methodV && frmI ds (dep + 1)))) = r → Below w.heap.size w W → (Ending.returned (Value.bool r) = Ending.returned (Value.bool (frmD ⟨a, b, ⟨p0, p1⟩, fs, vs, ms, ds⟩ dep)) ∧ Below w.heap.size w W)) :=
    ⟨fun r W h hb => HEND.out r W (by rw [HK8.out, HKV.out, ← h, Bool.true_and, Bool.true_and, Bool.true_and, Bool.and_assoc, Bool.and_assoc]) hb⟩
  clear HEND HKV HK8
  rcases hcase with ⟨e1, e2⟩ | ⟨e1, e2, e3⟩ | ⟨e1, e2, e3, e4, e5⟩
  all_goals
    go_wp2_with fail
    try clear e1
    try clear e2
    try clear e3
    try clear e4
    try clear e5
    clear c0 c14 c15 c16 c17
    go_loopw [69] (fun v69 wr => ∃ i : Int, 0 ≤ i ∧ i ≤ (nf : Int) ∧ v69 = .int .i64 i ∧ Aside0 (Below w1.heap.size w1 wr) ∧ Aside0 (fs.all fieldV = (fs.drop i.toNat).all fieldV)) (fun v69 _ => nf - (intOf v69).toNat)
    case atStart => exact ⟨0, by omega, by omega, rfl, ⟨Below.refl _ _⟩, ⟨by rw [show (0 : Int).toNat = 0 from rfl, List.drop_zero]⟩⟩
    case round =>
      obtain ⟨i, hi0, hil, rfl, HB, HF⟩ := hrel
      have hxr := blk_below HX1.out HB.out
      have HXR := Aside0.mk hxr
      have HBR := Aside0.mk (below_step HB1.out HB.out)
      have c14 : wr.cell? ⟨w.heap.size, 4, none⟩ = some (.slice A4 nf c4) := blk_cell hxr 4
      by_cases hlt : i < (nf : Int)
      · have t1 : decide (i < (nf : Int)) = true := decide_eq_true hlt
        obtain ⟨ad, e0, x0, x1, x2, x3, x4, x5⟩ := at_T63 HC4.out i hi0 hlt
        subst e0
        replace x0 := (HBR.out.cell (World.block_lt_of_cell? w _ x0)).trans x0
        replace x1 := (HBR.out.cell (World.block_lt_of_cell? w _ x1)).trans x1
        replace x2 := (HBR.out.cell (World.block_lt_of_cell? w _ x2)).trans x2
        replace x3 := (HBR.out.cell (World.block_lt_of_cell? w _ x3)).trans x3
        replace x4 := (HBR.out.cell (World.block_lt_of_cell? w _ x4)).trans x4
        replace x5 := (HBR.out.cell (World.block_lt_of_cell? w _ x5)).trans x5
        have hd := drop_getD fs z63 i hi0 (by rw [← HNF.out]; exact hlt)
        have hrd : fs.getD i.toNat z63 = rd_T63 fs i := rfl
        rw [hrd] at hd
        have hm := nmF_mem hd.2
        have HD := Aside0.mk hd.1
        have hz := HZ.out
        clear hd hrd hxr
        generalize rd_T63 fs i = f at *
        have h1 : f.f1.size ≤ 1000000 := by omega
        have h2 : f.f2.size ≤ 1000000 := by omega
        clear hz hm
        rw [HD.out, List.all_cons] at HF
        go_wp2_with fail
        refine (formedField.calls f wr h1 h2 (Utf8Tabs_below HT.out HBR.out)).mono ?_
        rintro e w2 ⟨rfl, hb⟩
        have HB2 := Aside0.mk (below_step HB.out hb)
        clear hb
        generalize fieldV f = r at *
        cases r with
        | false =>
          rw [Bool.false_and] at HF
          go_wp2_with fail
          go_ret
          exact HEND2.out _ _ (by rw [HF.out]; rfl) (below_step HB1.out HB2.out)
        | true =>
          rw [Bool.true_and] at HF
          go_wp2_with fail
          go_roundw
          case rel => exact ⟨i + 1, by omega, by omega, rfl, HB2, HF⟩
          case measure => simp [intOf]; omega
      · have t1 : decide (i < (nf : Int)) = false := decide_eq_false hlt
        have hdn : fs.drop i.toNat = [] := List.drop_eq_nil_of_le (by rw [← HNF.out]; omega)
        rw [hdn, List.all_nil] at HF
        have HEND3 : Aside0 (∀ (r : Bool) (W : World), (vs.all valueV && (ms.all methodV && frmI ds (dep + 1))) = r → Below w.heap.size w W → (Ending.returned (Value.bool r) = Ending.returned (Value.bool (frmD ⟨a, b, ⟨p0, p1⟩, fs, vs, ms, ds⟩ dep)) ∧ Below w.heap.size w W)) :=
          ⟨fun r W h hb => HEND2.out r W (by rw [HF.out, Bool.true_and, h]) hb⟩
        obtain ⟨wa, rfl⟩ : ∃ wo : World, wo = wr := ⟨_, rfl⟩
        have c15 : wa.cell? ⟨w.heap.size, 5, none⟩ = some (.slice A5 nv c5) := blk_cell hxr 5
        have HBA := HBR
        have HXA := HXR
        clear hdn HF HEND2 hxr hlt HB HBR HXR hi0 hil HC4 hlf
        go_wp2_with fail
        clear c14 c15 t1
        go_loopw [83] (fun v83 wr => ∃ i : Int, 0 ≤ i ∧ i ≤ (nv : Int) ∧ v83 = .int .i64 i ∧ Aside0 (Below wa.heap.size wa wr) ∧ Aside0 (vs.all valueV = (vs.drop i.toNat).all valueV)) (fun v83 _ => nv - (intOf v83).toNat)
        case atStart => exact ⟨0, by omega, by omega, rfl, ⟨Below.refl _ _⟩, ⟨by rw [show (0 : Int).toNat = 0 from rfl, List.drop_zero]⟩⟩
        case round =>
          obtain ⟨i, hi0, hil, rfl, HB, HF⟩ := hrel
          have hxr := blk_below HXA.out HB.out
          have HXR := Aside0.mk hxr
          have HBR := Aside0.mk (below_step HBA.out HB.out)
          have c15 : wr.cell? ⟨w.heap.size, 5, none⟩ = some (.slice A5 nv c5) := blk_cell hxr 5
          by_cases hlt : i < (nv : Int)
          · have t1 : decide (i < (nv : Int)) = true := decide_eq_true hlt
            obtain ⟨ad, e0, x0, x1, x2, x3⟩ := at_T64 HC5.out i hi0 hlt
            subst e0
            replace x0 := (HBR.out.cell (World.block_lt_of_cell? w _ x0)).trans x0
            replace x1 := (HBR.out.cell (World.block_lt_of_cell? w _ x1)).trans x1
            clear x2 x3
            have hd := drop_getD vs z64 i hi0 (by rw [← HNV.out]; exact hlt)
            have hrd : vs.getD i.toNat z64 = rd_T64 vs i := rfl
            rw [hrd] at hd
            have hm := nmV_mem hd.2
            have HD := Aside0.mk hd.1
            have hz := HZ.out
            clear hd hrd
            generalize rd_T64 vs i = f at *
            obtain ⟨fn, num, fp⟩ := f
            simp only at x0 x1 hm
            have h1 : fn.size ≤ 1000000 := by omega
            clear hz hm
            rw [HD.out, List.all_cons] at HF
            have HFV : Aside0 (valueV ⟨fn, num, fp⟩ = (plainV fn && (decide (0 ≤ num) && decide (num ≤ 2147483647)))) := ⟨rfl⟩
            rw [HFV.out] at HF
            have HX0 := Aside0.mk x0
            have HX1' := Aside0.mk x1
            clear hxr x1
            go_wp2_with fail
            refine (courierref03_Plain.calls fn wr (by omega) (Utf8Tabs_below HT.out HBR.out)).mono ?_
            rintro e w2 ⟨rfl, hb⟩
            have HB2 := Aside0.mk (below_step HB.out hb)
            have hxr2 := blk_below HXR.out hb
            have c15' : w2.cell? ⟨w.heap.size, 5, none⟩ = some (.slice (some ad) nv c5) := blk_cell hxr2 5
            have x1' := (hb.cell (World.block_lt_of_cell? wr _ HX1'.out)).trans HX1'.out
            clear hb hxr2 x0 c15
            generalize plainV fn = r at *
            cases r with
            | false =>
              rw [Bool.false_and, Bool.false_and] at HF
              go_wp2_with fail
              go_ret
              exact HEND3.out _ _ (by rw [HF.out]; rfl) (below_step HBA.out HB2.out)
            | true =>
              rw [Bool.true_and] at HF
              by_cases hn0 : num < 0
              · have u0 : decide (num < 0) = true := decide_eq_true hn0
                rw [decide_eq_false (show ¬ 0 ≤ num by omega), Bool.false_and, Bool.false_and] at HF
                clear hn0
                go_wp2_with fail
                go_ret
                exact HEND3.out _ _ (by rw [HF.out]; rfl) (below_step HBA.out HB2.out)
              have u0 : decide (num < 0) = false := decide_eq_false hn0
              rw [decide_eq_true (show 0 ≤ num by omega), Bool.true_and] at HF
              by_cases hn1 : 2147483647 < num
              · have u1 : decide (2147483647 < num) = true := decide_eq_true hn1
                rw [decide_eq_false (show ¬ num ≤ 2147483647 by omega), Bool.false_and] at HF
                clear hn0 hn1
                go_wp2_with fail
                go_ret
                exact HEND3.out _ _ (by rw [HF.out]; rfl) (below_step HBA.out HB2.out)
              have u1 : decide (2147483647 < num) = false := decide_eq_false hn1
              rw [decide_eq_true (show num ≤ 2147483647 by omega), Bool.true_and] at HF
              clear hn0 hn1
              go_wp2_with fail
              go_roundw
              case rel => exact ⟨i + 1, by omega, by omega, rfl, HB2, HF⟩
              case measure => simp [intOf]; omega
          · have t1 : decide (i < (nv : Int)) = false := decide_eq_false hlt
            have hdn : vs.drop i.toNat = [] := List.drop_eq_nil_of_le (by rw [← HNV.out]; omega)
            rw [hdn, List.all_nil] at HF
            have HEND4 : Aside0 (∀ (r : Bool) (W : World), (ms.all methodV && frmI ds (dep + 1)) = r → Below w.heap.size w W → (Ending.returned (Value.bool r) = Ending.returned (Value.bool (frmD ⟨a, b, ⟨p0, p1⟩, fs, vs, ms, ds⟩ dep)) ∧ Below w.heap.size w W)) :=
              ⟨fun r W h hb => HEND3.out r W (by rw [HF.out, Bool.true_and, h]) hb⟩
            obtain ⟨wb, rfl⟩ : ∃ wo : World, wo = wr := ⟨_, rfl⟩
            have c16 : wb.cell? ⟨w.heap.size, 6, none⟩ = some (.slice A6 nm c6) := blk_cell hxr 6
            have HBB := HBR
            have HXB := HXR
            clear hdn HF HEND3 hxr hlt HB HBR HXR hi0 hil HC5 hlv HBA HXA
            go_wp2_with fail
            clear c15 c16 t1
            go_loopw [116] (fun v116 wr => ∃ i : Int, 0 ≤ i ∧ i ≤ (nm : Int) ∧ v116 = .int .i64 i ∧ Aside0 (Below wb.heap.size wb wr) ∧ Aside0 (ms.all methodV = (ms.drop i.toNat).all methodV)) (fun v116 _ => nm - (intOf v116).toNat)
            case atStart => exact ⟨0, by omega, by omega, rfl, ⟨Below.refl _ _⟩, ⟨by rw [show (0 : Int).toNat = 0 from rfl, List.drop_zero]⟩⟩
            case round =>
              obtain ⟨i, hi0, hil, rfl, HB, HF⟩ := hrel
              have hxr := blk_below HXB.out HB.out
              have HXR := Aside0.mk hxr
              have HBR := Aside0.mk (below_step HBB.out HB.out)
              have c16 : wr.cell? ⟨w.heap.size, 6, none⟩ = some (.slice A6 nm c6) := blk_cell hxr 6
              by_cases hlt : i < (nm : Int)
              · have t1 : decide (i < (nm : Int)) = true := decide_eq_true hlt
                obtain ⟨ad, e0, x0, x1, x2, x3, x4⟩ := at_T67 HC6.out i hi0 hlt
                subst e0
                replace x0 := (HBR.out.cell (World.block_lt_of_cell? w _ x0)).trans x0
                replace x1 := (HBR.out.cell (World.block_lt_of_cell? w _ x1)).trans x1
                replace x2 := (HBR.out.cell (World.block_lt_of_cell? w _ x2)).trans x2
                clear x3 x4
                have hd := drop_getD ms z67 i hi0 (by rw [← HNM.out]; exact hlt)
                have hrd : ms.getD i.toNat z67 = rd_T67 ms i := rfl
                rw [hrd] at hd
                have hm := nmM_mem hd.2
                have HD := Aside0.mk hd.1
                have hz := HZ.out
                clear hd hrd
                generalize rd_T67 ms i = f at *
                obtain ⟨mn, mi, mo, mp⟩ := f
                simp only at x0 x1 x2 hm
                have h0 : mn.size ≤ 1000000 := by omega
                have h1 : mi.size ≤ 1000000 := by omega
                have h2 : mo.size ≤ 1000000 := by omega
                clear hz hm
                rw [HD.out, List.all_cons] at HF
                have HFV : Aside0 (methodV ⟨mn, mi, mo, mp⟩ = (plainV mn && pathOk mi && pathOk mo)) := ⟨rfl⟩
                rw [HFV.out] at HF
                have HX0 := Aside0.mk x0
                have HX2 := Aside0.mk x2
                clear hxr x0 x2
                go_wp2_with fail
                refine (courierref03_Path.calls mi wr h1 (Utf8Tabs_below HT.out HBR.out)).mono ?_
                rintro e w2 ⟨AA, cc, rfl, _, _, hb⟩
                have HB2 := Aside0.mk (below_step HB.out hb)
                have hxr2 := blk_below HXR.out hb
                have HXR2 := Aside0.mk hxr2
                have c16' : w2.cell? ⟨w.heap.size, 6, none⟩ = some (.slice (some ad) nm c6) := blk_cell hxr2 6
                have x2' := (hb.cell (World.block_lt_of_cell? wr _ HX2.out)).trans HX2.out
                have HX0' := Aside0.mk ((hb.cell (World.block_lt_of_cell? wr _ HX0.out)).trans HX0.out)
                clear hb hxr2 x1 c16
                generalize pathOk mi = r1 at *
                go_wp2_with fail
                refine (courierref03_Path.calls mo w2 h2 (Utf8Tabs_below HT.out (below_step HBB.out HB2.out))).mono ?_
                rintro e w3 ⟨AA2, cc2, rfl, _, _, hb⟩
                have HB3 := Aside0.mk (below_step HB2.out hb)
                have hxr3 := blk_below HXR2.out hb
                have c16'' : w3.cell? ⟨w.heap.size, 6, none⟩ = some (.slice (some ad) nm c6) := blk_cell hxr3 6
                have x0' := (hb.cell (World.block_lt_of_cell? w2 _ HX0'.out)).trans HX0'.out
                clear hb hxr3 x2' c16'
                generalize pathOk mo = r2 at *
                go_wp2_with fail
                refine (courierref03_Plain.calls mn w3 (by omega) (Utf8Tabs_below HT.out (below_step HBB.out HB3.out))).mono ?_
                rintro e w4 ⟨rfl, hb⟩
                have HB4 := Aside0.mk (below_step HB3.out hb)
                clear hb x0' c16''
                generalize plainV mn = r0 at *
                have hcs : (r0 = true ∧ r1 = true ∧ r2 = true) ∨ (r0 && r1 && r2) = false := by clear HF HFV; revert r0 r1 r2; decide
                rcases hcs with ⟨rfl, rfl, rfl⟩ | hbad
                · rw [Bool.true_and, Bool.true_and, Bool.true_and] at HF
                  go_wp2_with fail
                  go_roundw
                  case rel => exact ⟨i + 1, by omega, by omega, rfl, HB4, HF⟩
                  case measure => simp [intOf]; omega
                · rw [hbad, Bool.false_and] at HF
                  have HBD := Aside0.mk hbad
                  clear hbad
                  have HE := HEND4.out false w4 (by rw [HF.out]; rfl) (below_step HBB.out HB4.out)
                  have HEE := Aside0.mk HE
                  clear HE
                  cases r0 with
                  | false =>
                    go_wp2_with fail
                    go_ret
                    exact HEE.out
                  | true =>
                    cases r1 with
                    | false =>
                      go_wp2_with fail
                      go_ret
                      exact HEE.out
                    | true =>
                      cases r2 with
                      | false =>
                        go_wp2_with fail
                        go_ret
                        exact HEE.out
                      | true => exact absurd HBD.out (by decide)
              · have t1 : decide (i < (nm : Int)) = false := decide_eq_false hlt
                have hdn : ms.drop i.toNat = [] := List.drop_eq_nil_of_le (by rw [← HNM.out]; omega)
                rw [hdn, List.all_nil] at HF
                have HEND5 : Aside0 (∀ (r : Bool) (W : World), frmI ds (dep + 1) = r → Below w.heap.size w W → (Ending.returned (Value.bool r) = Ending.returned (Value.bool (frmD ⟨a, b, ⟨p0, p1⟩, fs, vs, ms, ds⟩ dep)) ∧ Below w.heap.size w W)) :=
                  ⟨fun r W h hb => HEND4.out r W (by rw [HF.out, Bool.true_and, h]) hb⟩
                obtain ⟨wc, rfl⟩ : ∃ wo : World, wo = wr := ⟨_, rfl⟩
                have c17 : wc.cell? ⟨w.heap.size, 7, none⟩ = some (.slice A7 nd c7) := blk_cell hxr 7
                have HBC := HBR
                have HXC := HXR
                clear hdn HF HEND4 hxr hlt HB HBR HXR hi0 hil HC6 hlm HBB HXB
                go_wp2_with fail
                clear c16 c17 t1
                go_loopw [159] (fun v159 wr => ∃ i : Int, 0 ≤ i ∧ i ≤ (nd : Int) ∧ v159 = .int .i64 i ∧ Aside0 (Below wc.heap.size wc wr) ∧ Aside0 (frmI ds (dep + 1) = frmI (ds.drop i.toNat) (dep + 1))) (fun v159 _ => nd - (intOf v159).toNat)
                case atStart => exact ⟨0, by omega, by omega, rfl, ⟨Below.refl _ _⟩, ⟨by rw [show (0 : Int).toNat = 0 from rfl, List.drop_zero]⟩⟩
                case round =>
                  obtain ⟨i, hi0, hil, rfl, HB, HF⟩ := hrel
                  have hxr := blk_below HXC.out HB.out
                  have HXR := Aside0.mk hxr
                  have HBR := Aside0.mk (below_step HBC.out HB.out)
                  have c17 : wr.cell? ⟨w.heap.size, 7, none⟩ = some (.slice A7 nd c7) := blk_cell hxr 7
                  by_cases hlt : i < (nd : Int)
                  · have t1 : decide (i < (nd : Int)) = true := decide_eq_true hlt
                    obtain ⟨ad, B3, k3, B4, k4, B5, k5, B6, k6, e0, x0, x1, x2, x3, x4, x5, x6, x7, l3, g3, l4, g4, l5, g5, l6, g6⟩ := at_T60 HC7.out i hi0 hlt
                    subst e0
                    replace x0 := (HBR.out.cell (World.block_lt_of_cell? w _ x0)).trans x0
                    replace x1 := (HBR.out.cell (World.block_lt_of_cell? w _ x1)).trans x1
                    replace x2 := (HBR.out.cell (World.block_lt_of_cell? w _ x2)).trans x2
                    replace x3 := (HBR.out.cell (World.block_lt_of_cell? w _ x3)).trans x3
                    replace x4 := (HBR.out.cell (World.block_lt_of_cell? w _ x4)).trans x4
                    replace x5 := (HBR.out.cell (World.block_lt_of_cell? w _ x5)).trans x5
                    replace x6 := (HBR.out.cell (World.block_lt_of_cell? w _ x6)).trans x6
                    replace x7 := (HBR.out.cell (World.block_lt_of_cell? w _ x7)).trans x7
                    have hd := drop_getD ds z60 i hi0 (by rw [← HND.out]; exact hlt)
                    have hrd : ds.getD i.toNat z60 = rd_T60 ds i := rfl
                    rw [hrd] at hd
                    have hm := szL_mem hd.2
                    have HD := Aside0.mk hd.1
                    have hz := HZ.out
                    have hnn := HN.out
                    have HG3 := Aside0.mk (Kd.C_below g3 HBR.out)
                    have HG4 := Aside0.mk (Kd.C_below g4 HBR.out)
                    have HG5 := Aside0.mk (Kd.C_below g5 HBR.out)
                    have HG6 := Aside0.mk (Kd.C_below g6 HBR.out)
                    clear hd hrd l3 g3 l4 g4 l5 g5 l6 g6 hxr
                    generalize rd_T60 ds i = f at *
                    have hq1 : szL [f] < n := by omega
                    have hq2 : szL [f] ≤ 800 := by omega
                    have HQ1 := Aside0.mk hq1
                    have HQ2 := Aside0.mk hq2
                    clear hz hm hnn hq1 hq2
                    rw [HD.out, frmI_cons] at HF
                    have tw : IntKind.i64.wrap (dep + 1) = dep + 1 := by rw [IntKind.wrap_i64]; omega
                    have HDP : Aside0 (deepV f.f0 (dep + 1) = if f.f0 = 1 then dep + 1 else min (dep + 1) 8) := ⟨rfl⟩
                    obtain ⟨kf, hkf⟩ : ∃ kf, kf = f.f0 := ⟨_, rfl⟩
                    rw [← hkf] at x0 HF HDP
                    by_cases h3 : kf = 3
                    · have u0 : (kf != 1) = true := bne_iff_ne.mpr (by omega)
                      have u1 : (kf == 3) = true := beq_iff_eq.mpr h3
                      rw [if_pos h3, Bool.false_and] at HF
                      have HE := Aside0.mk (HEND5.out false wr HF.out HBR.out)
                      clear h3 hkf
                      go_wp2_with fail
                      go_ret
                      exact HE.out
                    rw [if_neg h3] at HF
                    have u1 : (kf == 3) = false := beq_eq_false_iff_ne.mpr h3
                    obtain ⟨dp, hdp, hdp0, hdp9⟩ : ∃ dp : Int, deepV kf (dep + 1) = dp ∧ 0 ≤ dp ∧ dp ≤ 9 := ⟨_, rfl, by rw [HDP.out]; split <;> omega, by rw [HDP.out]; split <;> omega⟩
                    rw [hdp] at HF HDP
                    have HKF := Aside0.mk hkf
                    have HDQ := Aside0.mk hdp
                    clear hdp hkf
                    have hcs : ((kf != 1) = false ∧ dp = dep + 1) ∨ ((kf != 1) = true ∧ dp = min (dep + 1) 8) := by
                      by_cases h1 : kf = 1
                      · exact .inl ⟨bne_eq_false_iff_eq.mpr h1, by rw [HDP.out, if_pos h1]⟩
                      · exact .inr ⟨bne_iff_ne.mpr h1, by rw [HDP.out, if_neg h1]⟩
                    clear h3 HDP
                    rcases hcs with ⟨u0, hdd⟩ | ⟨u0, hdd⟩
                    all_goals
                      have HDD := Aside0.mk hdd
                      clear hdd
                      go_wp2_with fail
                      rw [HKF.out]
                      refine (HIH.out (szL [f]) HQ1.out f B3 B4 B5 B6 k3 k4 k5 k6 _ wr (Nat.le_refl _) HQ2.out (by first | omega | (rw [← min_mn8, ← HDD.out]; exact hdp0)) (by first | omega | (rw [← min_mn8, ← HDD.out]; exact hdp9)) (Utf8Tabs_below HT.out HBR.out) HG3.out HG4.out HG5.out HG6.out).mono ?_
                      try rw [← min_mn8]
                      rw [← HDD.out]
                      rintro e w2 ⟨rfl, hb⟩
                      have HB2 := Aside0.mk (below_step HB.out hb)
                      clear hb
                      generalize frmD f dp = r at *
                      cases r with
                      | false =>
                        rw [Bool.false_and] at HF
                        have HE := Aside0.mk (HEND5.out false w2 HF.out (below_step HBC.out HB2.out))
                        go_wp2_with fail
                        go_ret
                        exact HE.out
                      | true =>
                        rw [Bool.true_and] at HF
                        go_wp2_with fail
                        go_roundw
                        case rel => exact ⟨i + 1, by omega, by omega, rfl, HB2, HF⟩
                        case measure => simp [intOf]; omega
                  · have t1 : decide (i < (nd : Int)) = false := decide_eq_false hlt
                    have hdn : ds.drop i.toNat = [] := List.drop_eq_nil_of_le (by rw [← HND.out]; omega)
                    rw [hdn, frmI] at HF
                    have HE := Aside0.mk (HEND5.out true wr HF.out HBR.out)
                    clear hdn hxr
                    go_wp2_with fail
                    go_ret
                    exact HE.out
end Go.Proofs.YtknbhbppofphpaaGreatDoor.X
