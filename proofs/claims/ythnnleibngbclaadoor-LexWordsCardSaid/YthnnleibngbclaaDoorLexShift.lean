/- Behind a line feed all words are the same, one line further down: the plain law. -/
import Derived.Test.YthnnleibngbclaaDoorLexAwake
set_option linter.unusedVariables false
set_option linter.unusedSimpArgs false
namespace Go.Proofs.YthnnleibngbclaaDoor.X
open Go.RowKit Go.Shelf Go.Proofs.YthnnleibngbclaaDoorW.PrintWords Go.Proofs.YthnnleibngbclaaDoorW.PrintLast Go.Proofs.YthnnleibngbclaaDoorW.PrintMore
def nlB : ByteArray := ⟨#[10]⟩
theorem size_nl (s : ByteArray) : (nlB ++ s).size = s.size + 1 := by
  rw [ByteArray.size_append]
  show 1 + s.size = _
  omega
theorem get_nl (s : ByteArray) (i : Nat) : (nlB ++ s).get! (i + 1) = s.get! i := by
  have e : (nlB ++ s).data = #[10] ++ s.data := ByteArray.data_append
  show (nlB ++ s).data[i + 1]! = s.data[i]!
  rw [e]
  simp only [getElem!_def]
  rw [Array.getElem?_append_right (by simp)]
  simp
theorem decode_nl (s : ByteArray) (pos : Nat) : Utf8.decode (nlB ++ s) (pos + 1) = Utf8.decode s pos := by
  unfold Utf8.decode
  have e : ∀ k, pos + 1 + k = pos + k + 1 := fun k => by omega
  simp only [Nat.add_zero, e, get_nl, size_nl, Nat.add_lt_add_iff_right]
theorem extract_nl (s : ByteArray) (i j : Nat) : (nlB ++ s).extract (i + 1) (j + 1) = s.extract i j := by
  have := @ByteArray.extract_append_size_add nlB s i j
  rw [show nlB.size = 1 from rfl, Nat.add_comm 1 i, Nat.add_comm 1 j] at this
  exact this
theorem lxRune_nl (s : ByteArray) (pos : Nat) : lxRune (nlB ++ s) (pos + 1) = lxRune s pos := by
  unfold lxRune
  rw [decode_nl, size_nl, extract_nl]
def upW (x : Wd) : Wd := { x with line := x.line + 1 }
structure Up (σ τ : Sc) : Prop where
  words : τ.words = σ.words.map upW
  line : τ.line = σ.line + 1
  col : τ.col = σ.col
  note : τ.note = σ.note
  slash : τ.slash = σ.slash
  fr : (σ.from_ < 0 ∧ τ.from_ < 0) ∨ (0 ≤ σ.from_ ∧ τ.from_ = σ.from_ + 1 ∧ τ.ok = upW σ.ok)
  bl : σ.slash = true → τ.bl = σ.bl + 1 ∧ τ.bc = σ.bc
  en : τ.end_ = σ.end_
  pl : σ.end_ ≠ 0 → τ.pl = σ.pl + 1 ∧ τ.pc = σ.pc
theorem failS_up {σ τ : Sc} (h : Up σ τ) (e l c : Int) : Up (failS σ e l c) (failS τ e (l + 1) c) := by
  unfold failS
  rw [h.en]
  split
  · exact ⟨h.words, h.line, h.col, h.note, h.slash, h.fr, h.bl, rfl, fun _ => ⟨rfl, rfl⟩⟩
  · exact h
theorem addS_up {σ τ : Sc} (h : Up σ τ) (x : Wd) : Up (addS σ x) (addS τ (upW x)) := by
  unfold addS
  have hl : τ.words.length = σ.words.length := by rw [h.words, List.length_map]
  rw [hl]
  split
  · exact failS_up h 4 x.line x.col
  · exact ⟨by simp [h.words], h.line, h.col, h.note, h.slash, h.fr, h.bl, h.en, h.pl⟩
theorem shutS_eq {σ : Sc} (h : 0 ≤ σ.from_) (s : ByteArray) (i : Int) (o : Wd) (ho : { σ.ok with text := s.extract σ.from_.toNat i.toNat } = o) :
    shutS σ s i = if rightV o = true then addS { σ with ok := o, from_ := -1 } o else failS { σ with ok := o, from_ := -1 } 6 o.line o.col := by
  subst ho
  unfold shutS
  rw [if_neg (show ¬ σ.from_ < 0 by omega)]
theorem neg1 : (-1 : Int) < 0 := by decide
theorem shutS_up {σ τ : Sc} (h : Up σ τ) (s : ByteArray) {i : Int} (hi : 0 ≤ i) : Up (shutS σ s i) (shutS τ (nlB ++ s) (i + 1)) := by
  rcases h.fr with ⟨f1, f2⟩ | ⟨f1, f2, f3⟩
  · unfold shutS
    rw [if_pos f1, if_pos f2]
    exact h
  · obtain ⟨o, ho⟩ : ∃ o : Wd, { σ.ok with text := s.extract σ.from_.toNat i.toNat } = o := ⟨_, rfl⟩
    have ho2 : { τ.ok with text := (nlB ++ s).extract τ.from_.toNat (i + 1).toNat } = upW o := by
      rw [show τ.from_.toNat = σ.from_.toNat + 1 by omega, show (i + 1).toNat = i.toNat + 1 by omega, extract_nl, f3, ← ho]
      rfl
    rw [shutS_eq f1 s i o ho, shutS_eq (show 0 ≤ τ.from_ by omega) (nlB ++ s) (i + 1) (upW o) ho2]
    have h1 : Up { σ with ok := o, from_ := -1 } { τ with ok := upW o, from_ := -1 } :=
      ⟨h.words, h.line, h.col, h.note, h.slash, Or.inl ⟨neg1, neg1⟩, h.bl, h.en, h.pl⟩
    rw [show rightV (upW o) = rightV o from rfl]
    by_cases hr : rightV o = true
    · rw [if_pos hr, if_pos hr]
      exact addS_up h1 o
    · rw [if_neg hr, if_neg hr]
      exact failS_up h1 6 _ _
theorem runeS_up {σ τ : Sc} (h : Up σ τ) (hf : σ.from_ < 0 ∧ τ.from_ < 0) {i : Int} (hi : 0 ≤ i) (r : Int) : Up (runeS σ i r) (runeS τ (i + 1) r) := by
  unfold runeS
  rw [h.line, h.col]
  split
  · exact h
  · split
    · exact ⟨h.words, rfl, rfl, h.note, h.slash, Or.inr ⟨hi, rfl, rfl⟩, h.bl, h.en, h.pl⟩
    · split
      · exact ⟨h.words, rfl, rfl, h.note, h.slash, Or.inr ⟨hi, rfl, rfl⟩, h.bl, h.en, h.pl⟩
      · split
        · exact addS_up h ⟨3, Utf8.encode r, σ.line, σ.col⟩
        · split
          · exact ⟨h.words, rfl, rfl, h.note, rfl, h.fr, fun _ => ⟨rfl, rfl⟩, h.en, h.pl⟩
          · exact failS_up h 6 _ _
theorem midS_up {σ τ : Sc} (h : Up σ τ) {i : Int} (hi : 0 ≤ i) (r : Int) : Up (midS σ i r) (midS τ (i + 1) r) := by
  unfold midS
  rw [h.note, h.slash]
  split
  · exact ⟨h.words, h.line, h.col, rfl, rfl, h.fr, h.bl, h.en, h.pl⟩
  · split
    · rename_i hs
      have hb := h.bl hs
      rw [hb.1, hb.2]
      split
      · exact ⟨h.words, h.line, h.col, rfl, rfl, h.fr, fun e => (by cases e), h.en, h.pl⟩
      · exact failS_up h 6 _ _
    · rcases h.fr with hf | hf
      · rw [if_pos hf.1, if_pos hf.2]
        exact runeS_up h hf hi r
      · rw [if_neg (by omega), if_neg (by omega)]
        exact h
theorem preS_up {σ τ : Sc} (h : Up σ τ) (s : ByteArray) {i : Int} (hi : 0 ≤ i) (r : Int) : Up (preS σ s i r) (preS τ (nlB ++ s) (i + 1) r) := by
  unfold preS
  have e : (0 ≤ τ.from_ ∧ insideZ r = false) ↔ (0 ≤ σ.from_ ∧ insideZ r = false) := by
    rcases h.fr with hf | hf
    · constructor
      · intro hh; omega
      · intro hh; omega
    · constructor
      · intro hh; exact ⟨hf.1, hh.2⟩
      · intro hh; exact ⟨by omega, hh.2⟩
  by_cases hc : 0 ≤ σ.from_ ∧ insideZ r = false
  · rw [if_pos hc, if_pos (e.mpr hc)]
    exact shutS_up h s hi
  · rw [if_neg hc, if_neg (fun hh => hc (e.mp hh))]
    exact h
theorem finS_up {σ τ : Sc} (h : Up σ τ) (r : Int) : Up (finS σ r) (finS τ r) := by
  unfold finS
  split
  · exact ⟨h.words, by simp only [h.line], rfl, h.note, h.slash, h.fr, h.bl, h.en, h.pl⟩
  · exact ⟨h.words, h.line, by simp only [h.col], h.note, h.slash, h.fr, h.bl, h.en, h.pl⟩
theorem nextS_up {σ τ : Sc} (h : Up σ τ) (s : ByteArray) {i : Int} (hi : 0 ≤ i) (r : Int) : Up (nextS σ s i r) (nextS τ (nlB ++ s) (i + 1) r) := by
  unfold nextS
  exact finS_up (midS_up (preS_up h s hi r) hi r) r
theorem scan_up (s : ByteArray) : ∀ (f pos : Nat) (σ τ : Sc), Up σ τ → Up (scan s f pos σ) (scan (nlB ++ s) f (pos + 1) τ)
  | 0, _, _, _, h => h
  | f + 1, pos, σ, τ, h => by
    unfold scan
    rw [size_nl, lxRune_nl, decode_nl]
    have hn := nextS_up h s (i := (pos : Int)) (by omega) (lxRune s pos)
    rw [show (pos : Int) + 1 = ((pos + 1 : Nat) : Int) from rfl] at hn
    by_cases hp : pos < s.size
    · rw [if_pos hp, if_pos (show pos + 1 < s.size + 1 by omega), hn.en]
      split
      · have hr := scan_up s f (pos + (Utf8.decode s pos).2) _ _ hn
        rw [show pos + 1 + (Utf8.decode s pos).2 = pos + (Utf8.decode s pos).2 + 1 by omega]
        exact hr
      · exact hn
    · rw [if_neg hp, if_neg (show ¬ pos + 1 < s.size + 1 by omega)]
      exact h
theorem decode_nl0 (s : ByteArray) : Utf8.decode (nlB ++ s) 0 = (10, 1) := by
  have e : (nlB ++ s).get! 0 = 10 := by
    have e : (nlB ++ s).data = #[10] ++ s.data := ByteArray.data_append
    show (nlB ++ s).data[0]! = 10
    rw [e]
    simp only [getElem!_def]
    rw [Array.getElem?_append_left (by simp)]
    simp
  unfold Utf8.decode
  simp only [Nat.add_zero, e]
  rfl
theorem scan_nl (s : ByteArray) : Up (scan s s.size 0 lxInit) (scan (nlB ++ s) (s.size + 1) 0 lxInit) := by
  have e1 : lxRune (nlB ++ s) 0 = 10 := by
    unfold lxRune
    rw [decode_nl0]
    rfl
  have e2 : nextS lxInit (nlB ++ s) ((0 : Nat) : Int) 10 = { lxInit with line := 2 } := by
    unfold nextS preS
    rw [if_neg (fun h => absurd h.1 (by decide))]
    rfl
  have e3 : scan (nlB ++ s) (s.size + 1) 0 lxInit = scan (nlB ++ s) s.size 1 { lxInit with line := 2 } := by
    rw [scan]
    rw [size_nl, if_pos (by omega), e1, e2, decode_nl0]
    rfl
  rw [e3]
  exact scan_up s s.size 0 _ _ ⟨rfl, rfl, rfl, rfl, rfl, Or.inl ⟨by decide, by decide⟩, fun e => (by cases e), rfl, fun e => absurd rfl e⟩
theorem outS_up {σ τ : Sc} (h : Up σ τ) : (outS τ).1 = (outS σ).1.map upW ∧ (outS τ).2.2.2 = (outS σ).2.2.2 ∧ ((outS σ).2.2.2 ≠ 0 → (outS τ).2.1 = (outS σ).2.1 + 1 ∧ (outS τ).2.2.1 = (outS σ).2.2.1) := by
  unfold outS
  rw [h.en]
  split
  · exact ⟨h.words, rfl, fun e => absurd rfl e⟩
  · rename_i hn
    exact ⟨rfl, rfl, fun _ => h.pl hn⟩
theorem lastS_up {σ τ : Sc} (h : Up σ τ) : Up (lastS σ) (lastS τ) := by
  unfold lastS
  rw [h.slash]
  split
  · rename_i hs
    have hb := h.bl hs
    rw [hb.1, hb.2]
    exact failS_up h 6 _ _
  · exact h
/-- What LexLines says, plainly. -/
theorem wordsP_up (s : ByteArray) (hs : s.size ≤ 10000) : (wordsP (nlB ++ s)).1 = (wordsP s).1.map upW ∧ (wordsP (nlB ++ s)).2.2.2 = (wordsP s).2.2.2 ∧ ((wordsP s).2.2.2 ≠ 0 → (wordsP (nlB ++ s)).2.1 = (wordsP s).2.1 + 1 ∧ (wordsP (nlB ++ s)).2.2.1 = (wordsP s).2.2.1) := by
  have h := scan_nl s
  unfold wordsP
  rw [size_nl, if_neg (show ¬ 20000 < s.size + 1 by omega), if_neg (show ¬ 20000 < s.size by omega), h.en]
  split
  · have h2 := lastS_up (shutS_up h s (i := (s.size : Int)) (by omega))
    exact outS_up h2
  · exact outS_up h
/-- Every line that the scanner keeps lies at or above the one it stands in. -/
structure Bd (σ : Sc) : Prop where
  line : 0 ≤ σ.line
  words : ∀ x ∈ σ.words, 0 ≤ x.line ∧ x.line ≤ σ.line
  ok : 0 ≤ σ.ok.line ∧ σ.ok.line ≤ σ.line
  bl : 0 ≤ σ.bl ∧ σ.bl ≤ σ.line
  pl : 0 ≤ σ.pl ∧ σ.pl ≤ σ.line
theorem failS_bd {σ : Sc} (h : Bd σ) {e l c : Int} (hl : 0 ≤ l ∧ l ≤ σ.line) : Bd (failS σ e l c) := by
  unfold failS
  split
  · exact ⟨h.line, h.words, h.ok, h.bl, hl⟩
  · exact h
theorem addS_bd {σ : Sc} (h : Bd σ) {x : Wd} (hl : 0 ≤ x.line ∧ x.line ≤ σ.line) : Bd (addS σ x) := by
  unfold addS
  split
  · exact failS_bd h hl
  · exact ⟨h.line, fun y hy => by
      rcases List.mem_append.mp hy with hy | hy
      · exact h.words y hy
      · rw [List.mem_singleton] at hy; rw [hy]; exact hl, h.ok, h.bl, h.pl⟩
theorem shutS_bd {σ : Sc} (h : Bd σ) (s : ByteArray) (i : Int) : Bd (shutS σ s i) := by
  by_cases hf : σ.from_ < 0
  · unfold shutS
    rw [if_pos hf]
    exact h
  · obtain ⟨o, ho⟩ : ∃ o : Wd, { σ.ok with text := s.extract σ.from_.toNat i.toNat } = o := ⟨_, rfl⟩
    rw [shutS_eq (by omega) s i o ho]
    have hol : 0 ≤ o.line ∧ o.line ≤ σ.line := by rw [← ho]; exact h.ok
    have h1 : Bd { σ with ok := o, from_ := -1 } := ⟨h.line, h.words, hol, h.bl, h.pl⟩
    split
    · exact addS_bd h1 hol
    · exact failS_bd h1 hol
theorem runeS_bd {σ : Sc} (h : Bd σ) (i r : Int) : Bd (runeS σ i r) := by
  have hl : 0 ≤ σ.line ∧ σ.line ≤ σ.line := ⟨h.line, Int.le_refl _⟩
  unfold runeS
  split
  · exact h
  · split
    · exact ⟨h.line, h.words, hl, h.bl, h.pl⟩
    · split
      · exact ⟨h.line, h.words, hl, h.bl, h.pl⟩
      · split
        · exact addS_bd h hl
        · split
          · exact ⟨h.line, h.words, h.ok, hl, h.pl⟩
          · exact failS_bd h hl
theorem midS_bd {σ : Sc} (h : Bd σ) (i r : Int) : Bd (midS σ i r) := by
  unfold midS
  split
  · exact ⟨h.line, h.words, h.ok, h.bl, h.pl⟩
  · split
    · split
      · exact ⟨h.line, h.words, h.ok, h.bl, h.pl⟩
      · exact failS_bd h h.bl
    · split
      · exact runeS_bd h i r
      · exact h
theorem finS_bd {σ : Sc} (h : Bd σ) (r : Int) : Bd (finS σ r) := by
  have hl := h.line
  have ho := h.ok
  have hb := h.bl
  have hp := h.pl
  unfold finS
  split
  · refine ⟨?_, fun x hx => ?_, ?_, ?_, ?_⟩
    · show 0 ≤ σ.line + 1
      omega
    · have := h.words x hx
      show 0 ≤ x.line ∧ x.line ≤ σ.line + 1
      omega
    · show 0 ≤ σ.ok.line ∧ σ.ok.line ≤ σ.line + 1
      omega
    · show 0 ≤ σ.bl ∧ σ.bl ≤ σ.line + 1
      omega
    · show 0 ≤ σ.pl ∧ σ.pl ≤ σ.line + 1
      omega
  · exact ⟨h.line, h.words, h.ok, h.bl, h.pl⟩
theorem nextS_bd {σ : Sc} (h : Bd σ) (s : ByteArray) (i r : Int) : Bd (nextS σ s i r) ∧ (nextS σ s i r).line ≤ σ.line + 1 := by
  have h1 : Bd (preS σ s i r) := by
    unfold preS
    split
    · exact shutS_bd h s i
    · exact h
  have h2 := midS_bd h1 i r
  have e1 := (preS_at σ s i r).1
  have e2 := (midS_at (preS σ s i r) i r).1
  refine ⟨finS_bd h2 r, ?_⟩
  unfold nextS finS
  split
  · show (midS (preS σ s i r) i r).line + 1 ≤ σ.line + 1
    rw [e2, e1]
    exact Int.le_refl _
  · show (midS (preS σ s i r) i r).line ≤ σ.line + 1
    rw [e2, e1]
    omega
theorem scan_bd (s : ByteArray) : ∀ (f pos : Nat) (σ : Sc), Bd σ → Bd (scan s f pos σ) ∧ (scan s f pos σ).line ≤ σ.line + f
  | 0, _, σ, h => ⟨h, by unfold scan; omega⟩
  | f + 1, pos, σ, h => by
    have hn := nextS_bd h s pos (lxRune s pos)
    unfold scan
    split
    · split
      · have := scan_bd s f (pos + (Utf8.decode s pos).2) _ hn.1
        exact ⟨this.1, by omega⟩
      · exact ⟨hn.1, by omega⟩
    · exact ⟨h, by omega⟩
theorem failS_line (σ : Sc) (e l c : Int) : (failS σ e l c).line = σ.line := by unfold failS; split <;> rfl
theorem addS_line (σ : Sc) (x : Wd) : (addS σ x).line = σ.line := by
  unfold addS
  split
  · exact failS_line _ _ _ _
  · rfl
theorem shutS_line (σ : Sc) (s : ByteArray) (i : Int) : (shutS σ s i).line = σ.line := by
  unfold shutS
  simp only
  split
  · rfl
  · split
    · exact addS_line _ _
    · exact failS_line _ _ _ _
theorem lastS_bd {σ : Sc} (h : Bd σ) : Bd (lastS σ) ∧ (lastS σ).line = σ.line := by
  unfold lastS
  split
  · exact ⟨failS_bd h h.bl, failS_line _ _ _ _⟩
  · exact ⟨h, rfl⟩
theorem outS_bd {σ : Sc} {n : Int} (h : Bd σ) (hn : σ.line ≤ n) : (∀ x ∈ (outS σ).1, 0 ≤ x.line ∧ x.line ≤ n) ∧ 0 ≤ (outS σ).2.1 ∧ (outS σ).2.1 ≤ n := by
  have hl := h.line
  have hp := h.pl
  unfold outS
  split
  · refine ⟨fun x hx => ?_, by show (0 : Int) ≤ 0; omega, by show (0 : Int) ≤ n; omega⟩
    have := h.words x hx
    omega
  · exact ⟨fun x hx => (by cases hx), hp.1, by show σ.pl ≤ n; omega⟩
theorem wordsP_bd (s : ByteArray) : (∀ x ∈ (wordsP s).1, 0 ≤ x.line ∧ x.line ≤ 20001) ∧ 0 ≤ (wordsP s).2.1 ∧ (wordsP s).2.1 ≤ 20001 := by
  have h0 : Bd lxInit := ⟨by decide, fun x hx => (by cases hx), by decide, by decide, by decide⟩
  have h := scan_bd s s.size 0 lxInit h0
  have hi : lxInit.line = 1 := rfl
  unfold wordsP
  by_cases hs : 20000 < s.size
  · rw [if_pos hs]
    exact ⟨fun x hx => (by cases hx), by decide, by decide⟩
  · rw [if_neg hs]
    split
    · have h2 := lastS_bd (shutS_bd h.1 s s.size)
      refine outS_bd h2.1 ?_
      rw [h2.2, shutS_line]
      omega
    · exact outS_bd h.1 (by omega)
end Go.Proofs.YthnnleibngbclaaDoor.X
