/- A remark says nothing: the plain law of LexRemarks. -/
import Derived.Test.YthnnleibngbclaaDoorLexHead
set_option linter.unusedVariables false
set_option linter.unusedSimpArgs false
namespace Go.Proofs.YthnnleibngbclaaDoor.X
open Go.RowKit Go.Shelf Go.Proofs.YthnnleibngbclaaDoorW.PrintWords Go.Proofs.YthnnleibngbclaaDoorW.PrintLast Go.Proofs.YthnnleibngbclaaDoorW.PrintMore
theorem decodeN_lt (n b0 b1 b2 b3 : Nat) (hn : 2 ≤ n) (l2 : n = 2 → b1 < 128) (l3 : n = 3 → b2 < 128) (l4 : n = 4 → b3 < 128) : (Lib.decodeN n b0 b1 b2 b3).2 ≤ n - 1 := by
  unfold Lib.decodeN
  repeat' split
  all_goals (dsimp only; omega)
theorem decodeN_ten (n b0 b1 b2 b3 : Nat) (h : (Lib.decodeN n b0 b1 b2 b3).1 = 10) : b0 = 10 := by
  unfold Lib.decodeN at h
  repeat' split at h
  all_goals (dsimp only at h; omega)
theorem width_lt {X : ByteArray} (hx : EndsPlain X) {pos : Nat} (h : pos + 1 < X.size) : pos + (Utf8.decode X pos).2 < X.size := by
  have hl := hx.2
  have := decodeN_lt (X.size - pos) (X.get! pos).toNat (X.get! (pos + 1)).toNat (X.get! (pos + 2)).toNat (X.get! (pos + 3)).toNat (by omega) (fun k => by rw [show pos + 1 = X.size - 1 by omega]; exact hl) (fun k => by rw [show pos + 2 = X.size - 1 by omega]; exact hl) (fun k => by rw [show pos + 3 = X.size - 1 by omega]; exact hl)
  rw [← Lib.decode_at] at this
  omega
theorem decode_plain {X : ByteArray} {pos b : Nat} (hb : (X.get! pos).toNat = b) (hlt : b < 128) : Utf8.decode X pos = (b, 1) := by
  rw [Lib.decode_at, hb]
  unfold Lib.decodeN
  rw [if_pos hlt]
theorem lxRune_plain {X : ByteArray} {pos b : Nat} (hb : (X.get! pos).toNat = b) (hlt : b < 128) : lxRune X pos = (b : Int) := by
  unfold lxRune
  rw [decode_plain hb hlt]
  rw [if_neg (fun h => by have := h.1; dsimp only at this; omega)]
theorem lxRune_ten {X : ByteArray} {pos : Nat} (h : lxRune X pos = 10) : (X.get! pos).toNat = 10 := by
  unfold lxRune at h
  split at h
  · omega
  · have h1 : (Utf8.decode X pos).1 = 10 := by omega
    rw [Lib.decode_at] at h1
    exact decodeN_ten _ _ _ _ _ h1
def Nv (σ : Sc) : Prop := σ.note = true → σ.slash = false
theorem failS_keeps (σ : Sc) (e l c : Int) : (failS σ e l c).note = σ.note ∧ (failS σ e l c).slash = σ.slash ∧ (failS σ e l c).from_ = σ.from_ := by
  unfold failS
  split <;> exact ⟨rfl, rfl, rfl⟩
theorem addS_keeps (σ : Sc) (x : Wd) : (addS σ x).note = σ.note ∧ (addS σ x).slash = σ.slash ∧ (addS σ x).from_ = σ.from_ := by
  unfold addS
  split
  · exact failS_keeps _ _ _ _
  · exact ⟨rfl, rfl, rfl⟩
theorem shutS_keeps (σ : Sc) (s : ByteArray) (i : Int) : (shutS σ s i).note = σ.note ∧ (shutS σ s i).slash = σ.slash ∧ (shutS σ s i).from_ < 0 := by
  by_cases hf : σ.from_ < 0
  · unfold shutS
    rw [if_pos hf]
    exact ⟨rfl, rfl, hf⟩
  · obtain ⟨o, ho⟩ : ∃ o : Wd, { σ.ok with text := s.extract σ.from_.toNat i.toNat } = o := ⟨_, rfl⟩
    rw [shutS_eq (by omega) s i o ho]
    split
    · have := addS_keeps { σ with ok := o, from_ := -1 } o
      exact ⟨this.1, this.2.1, by rw [this.2.2]; exact neg1⟩
    · have := failS_keeps { σ with ok := o, from_ := -1 } 6 o.line o.col
      exact ⟨this.1, this.2.1, by rw [this.2.2]; exact neg1⟩
theorem preS_keeps (σ : Sc) (s : ByteArray) (i r : Int) : (preS σ s i r).note = σ.note ∧ (preS σ s i r).slash = σ.slash := by
  unfold preS
  split
  · have := shutS_keeps σ s i
    exact ⟨this.1, this.2.1⟩
  · exact ⟨rfl, rfl⟩
theorem preS_ten (σ : Sc) (s : ByteArray) (i : Int) : (preS σ s i 10).from_ < 0 := by
  unfold preS
  split
  · exact (shutS_keeps σ s i).2.2
  · rename_i h
    have hi : insideZ 10 = false := by decide
    by_cases h0 : 0 ≤ σ.from_
    · exact absurd ⟨h0, hi⟩ h
    · omega
theorem failS_end {σ : Sc} {e l c : Int} (he : e ≠ 0) : (failS σ e l c).end_ ≠ 0 := by
  unfold failS
  split
  · exact he
  · rename_i h
    exact h
/-- Behind a line feed nothing is open. -/
theorem nextS_ten {σ : Sc} (s : ByteArray) (i : Int) (hv : Nv σ) (h0 : (nextS σ s i 10).end_ = 0) : (nextS σ s i 10).note = false ∧ (nextS σ s i 10).slash = false ∧ (nextS σ s i 10).from_ < 0 := by
  have hk := preS_keeps σ s i 10
  have hf := preS_ten σ s i
  have key : ∀ ρ : Sc, Nv ρ → ρ.from_ < 0 → (midS ρ i 10).end_ = 0 → (midS ρ i 10).note = false ∧ (midS ρ i 10).slash = false ∧ (midS ρ i 10).from_ < 0 := by
    intro ρ hn hneg he
    unfold midS at he ⊢
    by_cases h1 : ρ.note = true
    · rw [if_pos h1]
      exact ⟨by show decide ((10 : Int) ≠ 10) = false; decide, hn h1, hneg⟩
    · rw [if_neg h1] at he ⊢
      by_cases h2 : ρ.slash = true
      · rw [if_pos h2, if_neg (by decide)] at he
        exact absurd he (failS_end (by decide))
      · rw [if_neg h2, if_pos hneg]
        unfold runeS
        rw [if_pos (Or.inr (Or.inr rfl))]
        exact ⟨by simpa using h1, by simpa using h2, hneg⟩
  have hn : Nv (preS σ s i 10) := fun h => by rw [hk.2]; exact hv (by rw [← hk.1]; exact h)
  have hfin : ∀ ρ : Sc, (finS ρ 10).end_ = ρ.end_ ∧ (finS ρ 10).note = ρ.note ∧ (finS ρ 10).slash = ρ.slash ∧ (finS ρ 10).from_ = ρ.from_ := fun ρ => by
    unfold finS
    rw [if_pos rfl]
    exact ⟨rfl, rfl, rfl, rfl⟩
  unfold nextS at h0 ⊢
  obtain ⟨f1, f2, f3, f4⟩ := hfin (midS (preS σ s i 10) i 10)
  rw [f1] at h0
  rw [f2, f3, f4]
  exact key _ hn hf h0
theorem runeS_note (σ : Sc) (i r : Int) : (runeS σ i r).note = σ.note := by
  unfold runeS
  split
  · rfl
  · split
    · rfl
    · split
      · rfl
      · split
        · exact (addS_keeps _ _).1
        · split
          · rfl
          · exact (failS_keeps _ _ _ _).1
theorem midS_nv {ρ : Sc} (hn : Nv ρ) (i r : Int) : Nv (midS ρ i r) := by
  unfold midS
  by_cases h1 : ρ.note = true
  · rw [if_pos h1]
    exact fun _ => hn h1
  · rw [if_neg h1]
    by_cases h2 : ρ.slash = true
    · rw [if_pos h2]
      split
      · exact fun _ => rfl
      · intro h
        rw [(failS_keeps _ _ _ _).1] at h
        exact absurd h h1
    · rw [if_neg h2]
      split
      · intro h
        rw [runeS_note] at h
        exact absurd h h1
      · exact hn
theorem nextS_nv {σ : Sc} (s : ByteArray) (i r : Int) (hv : Nv σ) : Nv (nextS σ s i r) := by
  have hk := preS_keeps σ s i r
  have hn : Nv (preS σ s i r) := fun h => by rw [hk.2]; exact hv (by rw [← hk.1]; exact h)
  have hm := midS_nv hn i r
  unfold nextS finS
  split
  · exact hm
  · exact hm
def Nd (σ : Sc) : Prop := σ.note = false ∧ σ.slash = false ∧ σ.from_ < 0
def EndsTen (X : ByteArray) : Prop := 0 < X.size ∧ (X.get! (X.size - 1)).toNat = 10
theorem EndsTen.plain {X : ByteArray} (h : EndsTen X) : EndsPlain X := ⟨h.1, by rw [h.2]; decide⟩
theorem scan_ends {X : ByteArray} (hx : EndsTen X) : ∀ (n pos : Nat) (σ : Sc), X.size - pos ≤ n → pos < X.size → Nv σ → (scanC X pos σ).end_ = 0 → Nd (scanC X pos σ)
  | 0, pos, σ, hn, hp, _, _ => by omega
  | n + 1, pos, σ, hn, hp, hv, he => by
    have hw := Lib.width_pos X pos
    rw [scanC_step hp] at he ⊢
    by_cases h0 : (nextS σ X pos (lxRune X pos)).end_ = 0
    · rw [if_pos h0] at he ⊢
      by_cases hl : pos + 1 < X.size
      · have := width_lt hx.plain hl
        exact scan_ends hx n _ _ (by omega) this (nextS_nv _ _ _ hv) he
      · have hb : (X.get! pos).toNat = 10 := by rw [show pos = X.size - 1 by omega]; exact hx.2
        have hr : lxRune X pos = 10 := lxRune_plain hb (by decide)
        rw [scanC_end (by omega), hr]
        rw [hr] at h0
        exact nextS_ten X pos hv h0
    · rw [if_neg h0] at he
      exact absurd he h0
/-- In a remark nothing is kept. -/
theorem nextS_note {σ : Sc} (s : ByteArray) (i r : Int) (h1 : σ.note = true) (h3 : σ.from_ < 0) : (nextS σ s i r).words = σ.words ∧ (nextS σ s i r).note = decide (r ≠ 10) ∧ (nextS σ s i r).slash = σ.slash ∧ (nextS σ s i r).from_ < 0 ∧ (nextS σ s i r).end_ = σ.end_ := by
  have hp : preS σ s i r = σ := by
    unfold preS
    rw [if_neg (fun h => by have := h.1; omega)]
  unfold nextS
  rw [hp]
  unfold midS finS
  rw [if_pos h1]
  split
  · exact ⟨rfl, rfl, rfl, h3, rfl⟩
  · exact ⟨rfl, rfl, rfl, h3, rfl⟩
theorem note_run {X : ByteArray} (hx : EndsTen X) : ∀ (n pos : Nat) (σ : Sc), X.size - pos ≤ n → pos < X.size → (∀ k, pos ≤ k → k + 1 < X.size → (X.get! k).toNat ≠ 10) → σ.note = true → σ.from_ < 0 → σ.end_ = 0 →
    (scanC X pos σ).words = σ.words ∧ (scanC X pos σ).end_ = 0
  | 0, pos, σ, hn, hp, _, _, _, _ => by omega
  | n + 1, pos, σ, hn, hp, hb, h1, h3, h4 => by
    have hw := Lib.width_pos X pos
    obtain ⟨q1, q2, q3, q4, q5⟩ := nextS_note X pos (lxRune X pos) h1 h3
    rw [scanC_step hp, if_pos (by rw [q5]; exact h4)]
    by_cases hl : pos + 1 < X.size
    · have hwl := width_lt hx.plain hl
      have hne : lxRune X pos ≠ 10 := fun e => hb pos (Nat.le_refl _) hl (lxRune_ten e)
      have := note_run hx n (pos + (Utf8.decode X pos).2) (nextS σ X pos (lxRune X pos)) (by omega) hwl (fun k hk => hb k (by omega)) (by rw [q2]; exact decide_eq_true hne) q4 (by rw [q5]; exact h4)
      rw [q1] at this
      exact this
    · rw [scanC_end (by omega)]
      exact ⟨q1, by rw [q5]; exact h4⟩
theorem slash_one {σ : Sc} (s : ByteArray) (i : Int) (h : Nd σ) (he : σ.end_ = 0) : (nextS σ s i 47).words = σ.words ∧ (nextS σ s i 47).note = false ∧ (nextS σ s i 47).slash = true ∧ (nextS σ s i 47).from_ < 0 ∧ (nextS σ s i 47).end_ = 0 := by
  have hp : preS σ s i 47 = σ := by
    unfold preS
    rw [if_neg (fun h1 => by have := h1.1; have := h.2.2; omega)]
  unfold nextS
  rw [hp]
  unfold midS finS runeS
  rw [if_neg (show ¬ (47 : Int) = 10 by decide), if_neg (show ¬ σ.note = true by rw [h.1]; decide), if_neg (show ¬ σ.slash = true by rw [h.2.1]; decide), if_pos h.2.2, if_neg (show ¬ ((47 : Int) = 32 ∨ (47 : Int) = 9 ∨ (47 : Int) = 10) by decide), if_neg (show ¬ letterZ 47 = true by decide), if_neg (show ¬ digitZ 47 = true by decide), if_neg (show ¬ signV 47 = true by decide), if_pos rfl]
  exact ⟨rfl, h.1, rfl, h.2.2, he⟩
theorem slash_two {σ : Sc} (s : ByteArray) (i : Int) (h1 : σ.note = false) (h2 : σ.slash = true) (h3 : σ.from_ < 0) (he : σ.end_ = 0) : (nextS σ s i 47).words = σ.words ∧ (nextS σ s i 47).note = true ∧ (nextS σ s i 47).from_ < 0 ∧ (nextS σ s i 47).end_ = 0 := by
  have hp : preS σ s i 47 = σ := by
    unfold preS
    rw [if_neg (fun h1 => by have := h1.1; omega)]
  unfold nextS
  rw [hp]
  unfold midS finS
  rw [if_neg (show ¬ (47 : Int) = 10 by decide), if_neg (show ¬ σ.note = true by rw [h1]; decide), if_pos h2, if_pos rfl]
  exact ⟨rfl, rfl, h3, he⟩
/-- A remark, scanned where nothing is open. -/
theorem remark_run {R : ByteArray} (hx : EndsTen R) (hz : 3 ≤ R.size) (h0 : (R.get! 0).toNat = 47) (h1 : (R.get! 1).toNat = 47) (hb : ∀ k, 2 ≤ k → k + 1 < R.size → (R.get! k).toNat ≠ 10) {ρ : Sc} (h : Nd ρ) (he : ρ.end_ = 0) :
    (scanC R 0 ρ).words = ρ.words ∧ (scanC R 0 ρ).end_ = 0 ∧ Nd (scanC R 0 ρ) := by
  have key : (scanC R 0 ρ).words = ρ.words ∧ (scanC R 0 ρ).end_ = 0 := by
    have hr0 : lxRune R 0 = 47 := lxRune_plain h0 (by decide)
    have hr1 : lxRune R (0 + 1) = 47 := lxRune_plain (pos := 0 + 1) h1 (by decide)
    obtain ⟨a1, a2, a3, a4, a5⟩ := slash_one R ((0 : Nat) : Int) h he
    rw [scanC_step (by omega), hr0, decode_plain h0 (by decide)]
    rw [if_pos a5]
    generalize nextS ρ R ((0 : Nat) : Int) 47 = σ1 at *
    obtain ⟨b1, b2, b3, b4⟩ := slash_two (σ := σ1) R ((0 + 1 : Nat) : Int) a2 a3 a4 a5
    show (scanC R (0 + 1) σ1).words = ρ.words ∧ (scanC R (0 + 1) σ1).end_ = 0
    rw [scanC_step (by omega), hr1, decode_plain (pos := 0 + 1) h1 (by decide)]
    rw [if_pos b4]
    have := note_run hx R.size (0 + 1 + 1) _ (by omega) (by omega) hb b2 b3 b4
    rw [this.1]
    exact ⟨by rw [← a1]; exact b1, this.2⟩
  exact ⟨key.1, key.2, scan_ends hx R.size 0 ρ (by omega) (by omega) (fun hn => by rw [h.1] at hn; cases hn) key.2⟩
/-- What is left when the scan has ended. -/
def wordsOf (s : ByteArray) (σ : Sc) : List Wd × Int × Int × Int := if σ.end_ = 0 then outS (lastS (shutS σ s s.size)) else outS σ
theorem wordsP_of {s : ByteArray} (h : s.size ≤ 20000) : wordsP s = wordsOf s (scanC s 0 lxInit) := by
  unfold wordsP wordsOf
  rw [if_neg (by omega), scan_scanC]
def Kt (a b : List Wd × Int × Int × Int) : Prop := b.1.map kt = a.1.map kt ∧ b.2.2.2 = a.2.2.2
theorem Kt.symm {a b : List Wd × Int × Int × Int} (h : Kt a b) : Kt b a := ⟨h.1.symm, h.2.symm⟩
theorem Kt.trans {a b c : List Wd × Int × Int × Int} (h : Kt a b) (h2 : Kt b c) : Kt a c := ⟨h2.1.trans h.1, h2.2.trans h.2⟩
theorem outS_sh {d : Nat} {σ τ : Sc} (h : Sh d σ τ) : Kt (outS σ) (outS τ) := by
  unfold outS Kt
  rw [h.en]
  split
  · exact ⟨h.words, rfl⟩
  · exact ⟨rfl, rfl⟩
theorem lastS_sh {d : Nat} {σ τ : Sc} (h : Sh d σ τ) : Sh d (lastS σ) (lastS τ) := by
  unfold lastS
  rw [h.slash]
  split
  · exact failS_sh h 6 _ _ _ _
  · exact h
theorem wordsOf_sh {σ τ : Sc} {X : ByteArray} (h : Sh X.size σ τ) (s : ByteArray) : Kt (wordsOf s σ) (wordsOf (X ++ s) τ) := by
  unfold wordsOf
  rw [h.en]
  split
  · have h2 := lastS_sh (shutS_sh h s (i := (s.size : Int)) (by omega))
    rw [ByteArray.size_append, show ((X.size + s.size : Nat) : Int) = (s.size : Int) + (X.size : Int) by omega]
    exact outS_sh h2
  · exact outS_sh h
theorem sh_of_nd {d : Nat} {σ τ : Sc} (h : Nd σ) (h2 : Nd τ) (hw : τ.words.map kt = σ.words.map kt) (he : τ.end_ = σ.end_) : Sh d σ τ :=
  ⟨hw, by rw [h.1, h2.1], by rw [h.2.1, h2.2.1], Or.inl ⟨h.2.2, h2.2.2⟩, he⟩
/-- The words of a text, by its head. -/
theorem wordsP_head {X : ByteArray} (hx : EndsTen X) (b : ByteArray) (hz : X.size + b.size ≤ 20000) :
    ((scanC X 0 lxInit).end_ = 0 → Nd (scanC X 0 lxInit) ∧ ∀ σ : Sc, Nd σ → (scanC X 0 lxInit).words.map kt = σ.words.map kt → σ.end_ = 0 → Kt (wordsOf b (scanC b 0 σ)) (wordsP (X ++ b))) ∧
    ((scanC X 0 lxInit).end_ ≠ 0 → wordsP (X ++ b) = outS (scanC X 0 lxInit)) := by
  have hsz : (X ++ b).size ≤ 20000 := by rw [ByteArray.size_append]; exact hz
  have ht := scan_tl hx.plain b X.size 0 lxInit (by omega) (by omega) rfl
  refine ⟨fun h0 => ?_, fun h0 => ?_⟩
  · have hnd := scan_ends hx X.size 0 lxInit (by omega) hx.1 (fun h => by cases h) h0
    refine ⟨hnd, fun σ hs hw he => ?_⟩
    rw [if_pos h0] at ht
    rw [wordsP_of hsz, ht]
    exact wordsOf_sh (scanC_sh X b (sh_of_nd hs hnd hw (by rw [h0, he]))) b
  · rw [if_neg h0] at ht
    rw [wordsP_of hsz, ht]
    unfold wordsOf
    rw [if_neg h0]
theorem endsTen_nl (X : ByteArray) : EndsTen (X ++ nlB) := by
  have hz : (X ++ nlB).size = X.size + 1 := ByteArray.size_append
  refine ⟨by omega, ?_⟩
  have := get_hd X nlB 0
  rw [hz, Nat.add_sub_cancel, ← Nat.zero_add X.size, this]
  rfl
def slB : ByteArray := ⟨#[47, 47]⟩
/-- What LexRemarks says, plainly. -/
theorem wordsP_remark (s r b : ByteArray) (hs : s.size ≤ 5000) (hr : r.size ≤ 5000) (hb : b.size ≤ 5000) (hn : ∀ k, k < r.size → (r.get! k).toNat ≠ 10) :
    Kt (wordsP (s ++ nlB ++ b)) (wordsP (s ++ nlB ++ (slB ++ r ++ nlB) ++ b)) ∨ ((wordsP (s ++ nlB ++ b)).2.2.2 ≠ 0 ∧ (wordsP (s ++ nlB ++ (slB ++ r ++ nlB) ++ b)).2.2.2 = (wordsP (s ++ nlB ++ b)).2.2.2) := by
  have zn : nlB.size = 1 := rfl
  have zs : slB.size = 2 := rfl
  have zR : (slB ++ r ++ nlB).size = r.size + 3 := by rw [ByteArray.size_append, ByteArray.size_append, zn, zs]; omega
  have zH : (s ++ nlB).size = s.size + 1 := by rw [ByteArray.size_append, zn]
  have hH := endsTen_nl s
  have hR := endsTen_nl (slB ++ r)
  have eA : s ++ nlB ++ (slB ++ r ++ nlB) = (s ++ nlB ++ (slB ++ r)) ++ nlB := by simp only [ByteArray.append_assoc]
  have hHR : EndsTen (s ++ nlB ++ (slB ++ r ++ nlB)) := by rw [eA]; exact endsTen_nl _
  have w1 := wordsP_head hH b (by omega)
  have w2 := wordsP_head hHR b (by rw [ByteArray.size_append, zH, zR]; omega)
  have ht := scan_tl hH.plain (slB ++ r ++ nlB) (s ++ nlB).size 0 lxInit (by omega) (by omega) rfl
  by_cases h0 : (scanC (s ++ nlB) 0 lxInit).end_ = 0
  · left
    rw [if_pos h0] at ht
    obtain ⟨hnd, k1⟩ := w1.1 h0
    have hget : ∀ k, k < 2 → ((slB ++ r ++ nlB).get! k).toNat = 47 := by
      intro k hk
      rw [ByteArray.append_assoc, get_tl slB (r ++ nlB) k (by omega)]
      rcases (show k = 0 ∨ k = 1 by omega) with rfl | rfl <;> rfl
    have hrun := remark_run hR (by omega) (hget 0 (by decide)) (hget 1 (by decide)) (fun k h2 h3 => by
      rw [get_tl (slB ++ r) nlB k (by rw [ByteArray.size_append, zs]; omega), show k = (k - 2) + slB.size by omega, get_hd]
      exact hn _ (by omega)) hnd h0
    have hsh := scanC_sh (s ++ nlB) (slB ++ r ++ nlB) (sh_of_nd (d := (s ++ nlB).size) hnd hnd rfl rfl)
    rw [← ht] at hsh
    have h2 : (scanC (s ++ nlB ++ (slB ++ r ++ nlB)) 0 lxInit).end_ = 0 := by rw [hsh.en]; exact hrun.2.1
    obtain ⟨hnd2, k2⟩ := w2.1 h2
    have q1 := k1 _ hnd rfl h0
    have q2 := k2 _ hnd (by rw [hsh.words, hrun.1]) h0
    exact q1.symm.trans q2
  · right
    rw [if_neg h0] at ht
    have e1 := w1.2 h0
    have e2 := w2.2 (by rw [ht]; exact h0)
    rw [e1, e2, ht]
    refine ⟨?_, rfl⟩
    unfold outS
    rw [if_neg h0]
    exact h0
end Go.Proofs.YthnnleibngbclaaDoor.X
