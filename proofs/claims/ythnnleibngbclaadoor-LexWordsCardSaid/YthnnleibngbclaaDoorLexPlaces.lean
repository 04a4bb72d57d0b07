/- The law LexPlaces walked: places rise along every text. -/
import Derived.Test.YthnnleibngbclaaDoorLexAwake
set_option linter.unusedVariables false
set_option linter.unusedSimpArgs false
namespace Go.Proofs.YthnnleibngbclaaDoor.X
open Go.RowKit Go.Shelf Go.Proofs.YthnnleibngbclaaDoorW.PrintWords Go.Proofs.YthnnleibngbclaaDoorW.PrintLast Go.Proofs.YthnnleibngbclaaDoorW.PrintMore
def ltP (a b : Wd) : Prop := a.line < b.line ∨ (a.line = b.line ∧ a.col < b.col)
def risesL (l : List Wd) : Prop := (∀ x ∈ l, 1 ≤ x.line ∧ 1 ≤ x.col) ∧ ∀ i (h : i + 1 < l.length), ltP (l[i]'(by omega)) (l[i + 1]'h)
/-- All words lie ahead of a place. -/
def ahead (l : List Wd) (ln c : Int) : Prop := ∀ x ∈ l, x.line < ln ∨ (x.line = ln ∧ x.col < c)
theorem rises_nil : risesL [] := ⟨fun x h => (by cases h), fun i h => absurd h (by simp)⟩
theorem rises_snoc {l : List Wd} {x : Wd} (h : risesL l) (ha : ahead l x.line x.col) (h1 : 1 ≤ x.line) (h2 : 1 ≤ x.col) : risesL (l ++ [x]) := by
  refine ⟨fun y hy => ?_, fun i hi => ?_⟩
  · rcases List.mem_append.mp hy with hy | hy
    · exact h.1 y hy
    · rw [List.mem_singleton] at hy; rw [hy]; exact ⟨h1, h2⟩
  · by_cases hlt : i + 1 < l.length
    · have e1 : (l ++ [x])[i]'(by simp; omega) = l[i]'(by omega) := List.getElem_append_left (by omega)
      have e2 : (l ++ [x])[i + 1]'hi = l[i + 1]'hlt := List.getElem_append_left hlt
      rw [e1, e2]
      exact h.2 i hlt
    · have hie : i + 1 = l.length := by simp at hi; omega
      have e1 : (l ++ [x])[i]'(by simp; omega) = l[i]'(by omega) := List.getElem_append_left (by omega)
      have e2 : (l ++ [x])[i + 1]'hi = x := by
        rw [List.getElem_append_right (by omega)]
        simp [hie]
      rw [e1, e2]
      exact ha _ (List.getElem_mem _)
theorem ahead_snoc {l : List Wd} {x : Wd} {ln c : Int} (h : ahead l ln c) (hx : x.line < ln ∨ (x.line = ln ∧ x.col < c)) : ahead (l ++ [x]) ln c := fun y hy => by
  rcases List.mem_append.mp hy with hy | hy
  · exact h y hy
  · rw [List.mem_singleton] at hy; rw [hy]; exact hx
theorem ahead_mono {l : List Wd} {ln c ln2 c2 : Int} (h : ahead l ln c) (hm : ln < ln2 ∨ (ln = ln2 ∧ c ≤ c2)) : ahead l ln2 c2 := fun y hy => by
  have := h y hy
  omega
/-- The scanner's places: words rise, an open word lies behind them, all ahead of (line, c). -/
def Pl (σ : Sc) (c : Int) : Prop := 1 ≤ σ.line ∧ 1 ≤ σ.col ∧ risesL σ.words ∧ ahead σ.words σ.line c ∧ (0 ≤ σ.from_ → 1 ≤ σ.ok.line ∧ 1 ≤ σ.ok.col ∧ ahead σ.words σ.ok.line σ.ok.col ∧ (σ.ok.line < σ.line ∨ (σ.ok.line = σ.line ∧ σ.ok.col < c)))
theorem failS_pl {σ : Sc} {c e l k : Int} (h : Pl σ c) : Pl (failS σ e l k) c := by
  unfold failS
  split
  · exact h
  · exact h
theorem addS_pl {σ : Sc} {c : Int} {x : Wd} (h : Pl σ c) (hf : σ.from_ < 0) (ha : ahead σ.words x.line x.col) (h1 : 1 ≤ x.line) (h2 : 1 ≤ x.col) (hx : x.line < σ.line ∨ (x.line = σ.line ∧ x.col < c)) : Pl (addS σ x) c := by
  unfold addS
  split
  · exact failS_pl h
  · exact ⟨h.1, h.2.1, rises_snoc h.2.2.1 ha h1 h2, ahead_snoc h.2.2.2.1 hx, fun h0 => absurd h0 (by simp only; omega)⟩
theorem shutS_pl {σ : Sc} {c : Int} {s : ByteArray} {i : Int} (h : Pl σ c) : Pl (shutS σ s i) c := by
  unfold shutS
  split
  · exact h
  · rename_i hf
    have ho := h.2.2.2.2 (by omega)
    have h1 : Pl { σ with ok := { σ.ok with text := s.extract σ.from_.toNat i.toNat }, from_ := -1 } c := ⟨h.1, h.2.1, h.2.2.1, h.2.2.2.1, fun h0 => absurd h0 (by simp only; omega)⟩
    simp only
    split
    · exact addS_pl h1 (by simp only; omega) ho.2.2.1 ho.1 ho.2.1 ho.2.2.2
    · exact failS_pl h1
theorem Pl.mono {σ : Sc} {c c2 : Int} (h : Pl σ c) (hc : c ≤ c2) : Pl σ c2 :=
  ⟨h.1, h.2.1, h.2.2.1, ahead_mono h.2.2.2.1 (Or.inr ⟨rfl, hc⟩), fun h0 => by
    have := h.2.2.2.2 h0
    exact ⟨this.1, this.2.1, this.2.2.1, by omega⟩⟩
theorem runeS_pl {σ : Sc} {i r : Int} (h : Pl σ σ.col) (hf : σ.from_ < 0) : Pl (runeS σ i r) (σ.col + 1) := by
  have hm := h.mono (c2 := σ.col + 1) (by omega)
  unfold runeS
  split
  · exact hm
  · split
    · exact ⟨h.1, h.2.1, h.2.2.1, hm.2.2.2.1, fun _ => ⟨h.1, h.2.1, h.2.2.2.1, Or.inr ⟨rfl, by simp only; omega⟩⟩⟩
    · split
      · exact ⟨h.1, h.2.1, h.2.2.1, hm.2.2.2.1, fun _ => ⟨h.1, h.2.1, h.2.2.2.1, Or.inr ⟨rfl, by simp only; omega⟩⟩⟩
      · split
        · exact addS_pl hm hf h.2.2.2.1 h.1 h.2.1 (Or.inr ⟨rfl, by simp only; omega⟩)
        · split
          · exact hm
          · exact failS_pl hm
theorem midS_pl {σ : Sc} {i r : Int} (h : Pl σ σ.col) : Pl (midS σ i r) (σ.col + 1) := by
  have hm := h.mono (c2 := σ.col + 1) (by omega)
  unfold midS
  split
  · exact hm
  · split
    · split
      · exact hm
      · exact failS_pl hm
    · split
      · rename_i hf
        exact runeS_pl h hf
      · exact hm
theorem finS_pl {σ : Sc} {r c : Int} (h : Pl σ (σ.col + 1)) : Pl (finS σ r) (finS σ r).col := by
  unfold finS
  split
  · refine ⟨by have := h.1; simp only; omega, by simp only; omega, h.2.2.1, ahead_mono h.2.2.2.1 (Or.inl (by simp only; omega)), fun h0 => ?_⟩
    have := h.2.2.2.2 h0
    exact ⟨this.1, this.2.1, this.2.2.1, by simp only; omega⟩
  · refine ⟨h.1, by have := h.2.1; simp only; omega, h.2.2.1, h.2.2.2.1, fun h0 => ?_⟩
    have := h.2.2.2.2 h0
    exact ⟨this.1, this.2.1, this.2.2.1, by simp only; omega⟩
theorem nextS_pl {σ : Sc} {s : ByteArray} {i r : Int} (h : Pl σ σ.col) : Pl (nextS σ s i r) (nextS σ s i r).col := by
  have h1 : Pl (preS σ s i r) (preS σ s i r).col := by
    rw [(preS_at σ s i r).2]
    unfold preS
    split
    · exact shutS_pl h
    · exact h
  have h2 := midS_pl (i := i) (r := r) h1
  unfold nextS
  refine finS_pl (c := 0) ?_
  rw [(midS_at (preS σ s i r) i r).2]
  exact h2
theorem scan_pl (s : ByteArray) : ∀ (f pos : Nat) (σ : Sc), Pl σ σ.col → Pl (scan s f pos σ) (scan s f pos σ).col
  | 0, _, _, h => h
  | f + 1, pos, σ, h => by
    unfold scan
    split
    · split
      · exact scan_pl s f _ _ (nextS_pl h)
      · exact nextS_pl h
    · exact h
theorem outS_pl {σ : Sc} {c : Int} (h : Pl σ c) : risesL (outS σ).1 ∧ ((outS σ).2.2.2 ≠ 0 → (outS σ).1 = []) := by
  unfold outS
  split
  · exact ⟨h.2.2.1, fun e => absurd rfl e⟩
  · exact ⟨rises_nil, fun _ => rfl⟩
/-- What LexPlaces says, plainly. -/
theorem wordsP_rises (s : ByteArray) : risesL (wordsP s).1 ∧ ((wordsP s).2.2.2 ≠ 0 → (wordsP s).1 = []) := by
  have h0 : Pl lxInit lxInit.col := ⟨by decide, by decide, rises_nil, fun x h => (by cases h), fun h => absurd h (by decide)⟩
  have h1 := scan_pl s s.size 0 lxInit h0
  unfold wordsP
  split
  · exact ⟨rises_nil, fun _ => rfl⟩
  · split
    · have h2 := shutS_pl (s := s) (i := (s.size : Int)) h1
      refine outS_pl (c := (scan s s.size 0 lxInit).col) ?_
      unfold lastS
      split
      · exact failS_pl h2
      · exact h2
    · exact outS_pl h1
set_option maxHeartbeats 4000000 in
set_option maxRecDepth 100000 in
theorem lexPlaces.calls (s : ByteArray) (w : World) (hT : LexTabs w) :
    Calls Tryd.prog 4 #[.string s] w fun e w' => e = .returned (.bool true) ∧ Below w.heap.size w w' := by
  have HT := Aside0.mk hT
  clear hT
  go_enter Tryd.func4, Tryd.ntmps4
  go_wp2_with fail
  refine (awake04.calls _ HT.out).mono ?_
  rintro e w1 ⟨rfl, hb⟩
  have HB1 := Aside0.mk hb
  have HT1 := Aside0.mk (HT.out.below hb)
  clear hb HT
  go_wp2_with fail
  refine (lex_Words.calls s _ HT1.out).mono ?_
  rintro e w2 ⟨v, rfl, hown, h4, hb⟩
  have hpl := wordsP_rises s
  generalize wordsP s = r at *
  obtain ⟨l, a, b, e⟩ := r
  simp only at hown hpl h4 ⊢
  have HB2 := Aside0.mk (below_step HB1.out hb)
  obtain ⟨A0, c0, rfl⟩ := own_slice hown
  clear hb HB1
  by_cases he : e = 0
  rotate_left
  · have te : (e != 0) = true := bne_iff_ne.mpr he
    have hl := hpl.2 he
    have t1 : ((l.length : Int) == 0) = true := by rw [hl]; rfl
    have t1n : (l.length == 0) = true := by rw [hl]; rfl
    clear he hl hpl hown
    go_wp2_with fail
    go_ret
    exact ⟨rfl, by repeat (first | exact HB2.out | refine below_drew ?_ | refine below_alloc ?_ _)⟩
  have te : (e != 0) = false := bne_eq_false_iff_eq.mpr he
  have HR := Aside0.mk hpl.1
  have HO := Aside0.mk hown
  obtain ⟨n, hn⟩ : ∃ n, n = l.length := ⟨_, rfl⟩
  rw [← hn] at h4 HO ⊢
  have HN := Aside0.mk hn
  clear he hpl hown hn
  go_wp2_with fail
  go_loopw [24] (fun v24 wr => ∃ j : Nat, j ≤ n ∧ v24 = .int .i64 j ∧ Aside0 (Below w2.heap.size w2 wr)) (fun v24 _ => n - (intOf v24).toNat)
  case atStart => exact ⟨0, by omega, rfl, ⟨by repeat (first | exact Below.refl _ _ | refine below_drew ?_ | refine below_alloc ?_ _)⟩⟩
  case round =>
    obtain ⟨j, hj, rfl, HB⟩ := hrel
    by_cases hlt : j < n
    · have t1 : decide (j < n) = true := decide_eq_true hlt
      obtain ⟨g, cap, hv, hc⟩ := word_at (pw_own_below HO.out HB.out) HN.out.symm (by omega)
      injection hv with hv1 hv2 hv3
      subst hv1
      have hjl : j < l.length := by rw [← HN.out]; exact hlt
      have hq := hc j hjl
      have hq1 := HR.out.1 _ (List.getElem_mem hjl)
      have q2 := hq.2.2.1
      have q3 := hq.2.2.2
      cases j with
      | zero =>
        generalize (l[0]'hjl).line = ql at *
        generalize (l[0]'hjl).col = qc at *
        have t2 : decide (ql < 1) = false := decide_eq_false (by omega)
        have t3 : decide (qc < 1) = false := decide_eq_false (by omega)
        have q2' : wr.cell? ⟨g, 2, none⟩ = some (.int .i64 ql) := q2
        have q3' : wr.cell? ⟨g, 3, none⟩ = some (.int .i64 qc) := q3
        clear hq hc q2 q3 hq1
        go_wp2_with fail
        go_roundw
        case rel => exact ⟨1, by omega, rfl, ⟨by repeat (first | exact HB.out | refine below_drew ?_ | refine below_alloc ?_ _)⟩⟩
        case measure => simp [intOf]; omega
      | succ m =>
        have hml : m < l.length := by omega
        have hp := hc m hml
        have hlp := HR.out.2 m hjl
        have p2 := hp.2.2.1
        have p3 := hp.2.2.2
        have p3b : wr.cell? ⟨g, m * 4 + 2 + 1, none⟩ = some (.int .i64 (l[m]'hml).col) := hp.2.2.2
        have q3b : wr.cell? ⟨g, (m + 1) * 4 + 2 + 1, none⟩ = some (.int .i64 (l[m + 1]'hjl).col) := q3
        unfold ltP at hlp
        have hm1 : ((m + 1 : Nat) : Int) - 1 = (m : Int) := by omega
        have hm2 : IntKind.i64.wrap (((m + 1 : Nat) : Int) - 1) = (m : Int) := by rw [IntKind.wrap_i64]; omega
        generalize (l[m + 1]'hjl).line = ql at *
        generalize (l[m + 1]'hjl).col = qc at *
        generalize (l[m]'hml).line = pl at *
        generalize (l[m]'hml).col = pc at *
        have t2 : decide (ql < 1) = false := decide_eq_false (by omega)
        have t3 : decide (qc < 1) = false := decide_eq_false (by omega)
        have t4 : decide (ql < pl) = false := decide_eq_false (by omega)
        have p2c : (wr.alloc (.cells #[.int .i64 ql, .int .i64 qc] 25)).cell? ⟨g, m * 4 + 2, none⟩ = some (.int .i64 pl) := pw_cell_below (below_alloc (Below.refl _ _) _) p2
        have p3c : (wr.alloc (.cells #[.int .i64 ql, .int .i64 qc] 25)).cell? ⟨g, m * 4 + 2 + 1, none⟩ = some (.int .i64 pc) := pw_cell_below (below_alloc (Below.refl _ _) _) p3b
        clear hq hc hp hq1
        by_cases hs : pl < ql
        · have t5 : (pl == ql) = false := beq_eq_false_iff_ne.mpr (by omega)
          clear hs hlp
          go_wp2_with fail
          go_roundw
          case rel => exact ⟨m + 1 + 1, by omega, by go_num, ⟨by repeat (first | exact HB.out | refine below_drew ?_ | refine below_alloc ?_ _)⟩⟩
          case measure => simp [intOf]; omega
        · have hpe : pl = ql := by omega
          have t6 : decide (qc ≤ pc) = false := decide_eq_false (by omega)
          subst hpe
          clear hs hlp
          go_wp2_with fail
          go_roundw
          case rel => exact ⟨m + 1 + 1, by omega, by go_num, ⟨by repeat (first | exact HB.out | refine below_drew ?_ | refine below_alloc ?_ _)⟩⟩
          case measure => simp [intOf]; omega
    · have t1 : decide (j < n) = false := decide_eq_false hlt
      go_wp2_with fail
      go_ret
      exact ⟨rfl, below_step HB2.out HB.out⟩
end Go.Proofs.YthnnleibngbclaaDoor.X
