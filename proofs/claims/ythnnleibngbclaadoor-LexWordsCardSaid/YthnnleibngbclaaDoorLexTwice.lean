/- What is written of the words, a blank behind each, has the same words: the plain law of LexAgain. -/
import Derived.Test.YthnnleibngbclaaDoorLexRem
set_option linter.unusedVariables false
set_option linter.unusedSimpArgs false
namespace Go.Proofs.YthnnleibngbclaaDoor.X
open Go.RowKit Go.Shelf Go.Proofs.YthnnleibngbclaaDoorW.PrintWords Go.Proofs.YthnnleibngbclaaDoorW.PrintLast Go.Proofs.YthnnleibngbclaaDoorW.PrintMore
/-! ### what a word is -/
def GoodW (n : Nat) (x : Wd) : Prop := x.text.size ≤ n + 1 ∧ ((x.kind = 1 ∧ nameV (runesOf x.text) = true) ∨ (x.kind = 2 ∧ numP x.text = true) ∨ (x.kind = 3 ∧ ∃ r : Int, signV r = true ∧ x.text = Utf8.encode r))
structure Gd (n : Nat) (σ : Sc) : Prop where
  words : ∀ x ∈ σ.words, GoodW n x
  kind : 0 ≤ σ.from_ → σ.ok.kind = 1 ∨ σ.ok.kind = 2
  len : σ.words.length ≤ 4000
theorem failS_gd {n : Nat} {σ : Sc} (h : Gd n σ) (e l c : Int) : Gd n (failS σ e l c) := by
  unfold failS
  split
  · exact ⟨h.words, h.kind, h.len⟩
  · exact h
theorem addS_gd {n : Nat} {σ : Sc} (h : Gd n σ) (x : Wd) (hx : GoodW n x) : Gd n (addS σ x) := by
  unfold addS
  split
  · exact failS_gd h _ _ _
  · refine ⟨fun y hy => ?_, h.kind, ?_⟩
    · rcases List.mem_append.1 hy with hy | hy
      · exact h.words y hy
      · rw [List.mem_singleton.1 hy]; exact hx
    · have := h.len
      simp only [List.length_append, List.length_cons, List.length_nil]
      omega
theorem shutS_gd {s : ByteArray} {σ : Sc} (h : Gd s.size σ) (i : Int) : Gd s.size (shutS σ s i) := by
  by_cases hf : σ.from_ < 0
  · unfold shutS
    rw [if_pos hf]
    exact h
  · obtain ⟨o, ho⟩ : ∃ o : Wd, { σ.ok with text := s.extract σ.from_.toNat i.toNat } = o := ⟨_, rfl⟩
    rw [shutS_eq (by omega) s i o ho]
    have h1 : Gd s.size { σ with ok := o, from_ := -1 } := ⟨h.words, fun hh => absurd (show (0 : Int) ≤ -1 from hh) (by decide), h.len⟩
    have hk : o.kind = 1 ∨ o.kind = 2 := by rw [← ho]; exact h.kind (by omega)
    have hz : o.text.size ≤ s.size + 1 := by
      rw [← ho]
      show (s.extract σ.from_.toNat i.toNat).size ≤ s.size + 1
      rw [ByteArray.size_extract]
      omega
    split
    · rename_i hr
      refine addS_gd h1 o ⟨hz, ?_⟩
      unfold rightV at hr
      rcases hk with hk | hk
      · rw [if_pos hk] at hr
        exact .inl ⟨hk, hr⟩
      · rw [if_neg (by omega)] at hr
        exact .inr (.inl ⟨hk, hr⟩)
    · exact failS_gd h1 _ _ _
theorem sign_cases {r : Int} (h : signV r = true) : r = 123 ∨ r = 125 ∨ r = 40 ∨ r = 41 ∨ r = 61 ∨ r = 59 ∨ r = 46 := of_decide_eq_true h
theorem sign_size {r : Int} (h : signV r = true) : (Utf8.encode r).size = 1 := by
  rcases sign_cases h with rfl | rfl | rfl | rfl | rfl | rfl | rfl <;> rfl
theorem runeS_gd {n : Nat} {σ : Sc} (h : Gd n σ) (i r : Int) : Gd n (runeS σ i r) := by
  unfold runeS
  split
  · exact h
  split
  · exact ⟨h.words, fun _ => .inl rfl, h.len⟩
  split
  · exact ⟨h.words, fun _ => .inr rfl, h.len⟩
  split
  · rename_i hs
    exact addS_gd h _ ⟨by show (Utf8.encode r).size ≤ n + 1; rw [sign_size hs]; omega, .inr (.inr ⟨rfl, r, hs, rfl⟩)⟩
  split
  · exact ⟨h.words, h.kind, h.len⟩
  · exact failS_gd h _ _ _
theorem nextS_gd {s : ByteArray} {σ : Sc} (h : Gd s.size σ) (i r : Int) : Gd s.size (nextS σ s i r) := by
  have h1 : Gd s.size (preS σ s i r) := by
    unfold preS
    split
    · exact shutS_gd h i
    · exact h
  have h2 : Gd s.size (midS (preS σ s i r) i r) := by
    unfold midS
    split
    · exact ⟨h1.words, h1.kind, h1.len⟩
    split
    · split
      · exact ⟨h1.words, h1.kind, h1.len⟩
      · exact failS_gd h1 _ _ _
    split
    · exact runeS_gd h1 i r
    · exact h1
  unfold nextS finS
  split
  · exact ⟨h2.words, h2.kind, h2.len⟩
  · exact ⟨h2.words, h2.kind, h2.len⟩
theorem scan_gd (s : ByteArray) : ∀ (f pos : Nat) (σ : Sc), Gd s.size σ → Gd s.size (scan s f pos σ)
  | 0, _, _, h => h
  | f + 1, pos, σ, h => by
    unfold scan
    split
    · split
      · exact scan_gd s f _ _ (nextS_gd h _ _)
      · exact nextS_gd h _ _
    · exact h
theorem outS_gd {n : Nat} {σ : Sc} (h : Gd n σ) : (∀ x ∈ (outS σ).1, GoodW n x) ∧ (outS σ).1.length ≤ 4000 := by
  unfold outS
  split
  · exact ⟨h.words, h.len⟩
  · exact ⟨fun x hx => (by cases hx), by simp⟩
theorem wordsP_gd (s : ByteArray) : (∀ x ∈ (wordsP s).1, GoodW s.size x) ∧ (wordsP s).1.length ≤ 4000 := by
  have h0 : Gd s.size lxInit := ⟨fun x hx => (by cases hx), fun h => absurd (show (0 : Int) ≤ -1 from h) (by decide), by decide⟩
  have h1 := scan_gd s s.size 0 lxInit h0
  unfold wordsP
  split
  · exact ⟨fun x hx => (by cases hx), by simp⟩
  split
  · have h2 := shutS_gd h1 s.size
    refine outS_gd ?_
    unfold lastS
    split
    · exact failS_gd h2 _ _ _
    · exact h2
  · exact outS_gd h1
/-! ### a word and a blank -/
def blB : ByteArray := ⟨#[32]⟩
theorem get_over (s : ByteArray) (i : Nat) (h : s.size ≤ i) : (s.get! i).toNat = 0 := by
  show (s.data[i]!).toNat = 0
  rw [getElem!_neg s.data i (by show ¬ i < s.size; omega)]
  rfl
theorem get_bl (X : ByteArray) : ((X ++ blB).get! X.size).toNat = 32 := by
  have := get_hd X blB 0
  rw [Nat.zero_add] at this
  rw [this]
  rfl
theorem size_bl (X : ByteArray) : (X ++ blB).size = X.size + 1 := ByteArray.size_append
theorem decodeN_bl (n b0 b1 b2 b3 c1 c2 c3 : Nat) (hn : 1 ≤ n) (h1 : 1 < n → c1 = b1) (h2 : 2 < n → c2 = b2) (h3 : 3 < n → c3 = b3) (l1 : n = 1 → c1 < 128) (l2 : n = 2 → c2 < 128) (l3 : n = 3 → c3 < 128) :
    Lib.decodeN (n + 1) b0 c1 c2 c3 = Lib.decodeN n b0 b1 b2 b3 := by
  have m1 : (1 < n + 1 ∧ c1 / 64 = 2) = (1 < n ∧ b1 / 64 = 2) := propext (by
    by_cases k : n = 1
    · have := l1 k; omega
    · have := h1 (by omega); omega)
  have m2 : (2 < n + 1 ∧ c2 / 64 = 2) = (2 < n ∧ b2 / 64 = 2) := propext (by
    by_cases k : n = 2
    · have := l2 k; omega
    · by_cases k2 : n < 2
      · omega
      · have := h2 (by omega); omega)
  have m3 : (3 < n + 1 ∧ c3 / 64 = 2) = (3 < n ∧ b3 / 64 = 2) := propext (by
    by_cases k : n = 3
    · have := l3 k; omega
    · by_cases k2 : n < 3
      · omega
      · have := h3 (by omega); omega)
  by_cases hb : b0 < 128
  · unfold Lib.decodeN
    rw [if_pos hb, if_pos hb]
  · unfold Lib.decodeN
    simp only [m1, m2, m3, if_neg hb]
    by_cases q1 : 1 < n
    · rw [h1 q1]
      by_cases q2 : 2 < n
      · rw [h2 q2]
        by_cases q3 : 3 < n
        · rw [h3 q3]
        · simp only [q3, false_and, and_false, if_false]
      · simp only [q2, false_and, and_false, if_false]
    · simp only [q1, false_and, and_false, if_false]
theorem decode_bl (X : ByteArray) {pos : Nat} (h : pos < X.size) : Utf8.decode (X ++ blB) pos = Utf8.decode X pos := by
  rw [Lib.decode_at, Lib.decode_at, get_tl X blB pos h, size_bl, show X.size + 1 - pos = (X.size - pos) + 1 by omega]
  refine decodeN_bl _ _ _ _ _ _ _ _ (by omega) (fun k => ?_) (fun k => ?_) (fun k => ?_) (fun k => ?_) (fun k => ?_) (fun k => ?_)
  · rw [get_tl X blB _ (by omega)]
  · rw [get_tl X blB _ (by omega)]
  · rw [get_tl X blB _ (by omega)]
  · rw [show pos + 1 = X.size by omega, get_bl]; decide
  · rw [show pos + 2 = X.size by omega, get_bl]; decide
  · rw [show pos + 3 = X.size by omega, get_bl]; decide
theorem lxRune_ins {s : ByteArray} {pos : Nat} (h : insideV (Utf8.decode s pos).1 = true) : lxRune s pos = ((Utf8.decode s pos).1 : Int) := by
  unfold lxRune
  rw [if_neg]
  rintro ⟨e, _⟩
  rw [e] at h
  exact absurd h (by decide)
theorem insideZ_cast (r : Nat) : insideZ (r : Int) = insideV r := by
  unfold insideZ insideV letterZ letterV digitZ
  rw [Bool.eq_iff_iff]
  simp only [Bool.or_eq_true, decide_eq_true_eq]
  omega
theorem letterZ_cast (r : Nat) : letterZ (r : Int) = letterV r := by
  unfold letterZ letterV
  rw [Bool.eq_iff_iff]
  simp only [decide_eq_true_eq]
  omega
/-- The same, but for the column. -/
def Op (σ τ : Sc) : Prop := τ.words = σ.words ∧ τ.note = σ.note ∧ τ.slash = σ.slash ∧ τ.from_ = σ.from_ ∧ τ.ok = σ.ok ∧ τ.end_ = σ.end_
theorem inside_ne10 {r : Int} (h : insideZ r = true) : ¬ r = 10 := by
  intro e
  rw [e] at h
  exact absurd h (by decide)
theorem nextS_ins {σ : Sc} (s : ByteArray) (i r : Int) (h : insideZ r = true) (h1 : σ.note = false) (h2 : σ.slash = false) (h3 : 0 ≤ σ.from_) : nextS σ s i r = { σ with col := σ.col + 1 } := by
  unfold nextS preS midS
  rw [if_neg (show ¬ (0 ≤ σ.from_ ∧ insideZ r = false) by rw [h]; simp), if_neg (show ¬ σ.note = true by rw [h1]; decide), if_neg (show ¬ σ.slash = true by rw [h2]; decide), if_neg (by omega), finS_F (inside_ne10 h)]
theorem run_ins (X : ByteArray) : ∀ (f pos : Nat) (σ : Sc), X.size ≤ pos + f → pos ≤ X.size → (∀ y ∈ runesFrom X f pos, insideV y = true) → σ.note = false → σ.slash = false → 0 ≤ σ.from_ → σ.end_ = 0 →
    ∃ τ, scanC (X ++ blB) pos σ = scanC (X ++ blB) X.size τ ∧ Op σ τ
  | 0, pos, σ, hf, hp, _, _, _, _, _ => by
    obtain rfl : pos = X.size := by omega
    exact ⟨σ, rfl, rfl, rfl, rfl, rfl, rfl, rfl⟩
  | f + 1, pos, σ, hf, hp, hy, h1, h2, h3, he => by
    by_cases hlt : pos < X.size
    · rw [runesFrom_next X f pos hlt] at hy
      have hi := hy _ (List.mem_cons_self ..)
      have hw := Lib.width_pos X pos
      have hin := width_in hlt
      have hd := decode_bl X hlt
      have hl : lxRune (X ++ blB) pos = ((Utf8.decode X pos).1 : Int) := by rw [lxRune_ins (by rw [hd]; exact hi), hd]
      have hn := nextS_ins (σ := σ) (X ++ blB) pos (lxRune (X ++ blB) pos) (by rw [hl, insideZ_cast]; exact hi) h1 h2 h3
      obtain ⟨τ, ht, k1, k2, k3, k4, k5, k6⟩ := run_ins X f (pos + (Utf8.decode X pos).2) { σ with col := σ.col + 1 } (by omega) hin (fun y hm => hy y (List.mem_cons_of_mem _ hm)) h1 h2 h3 he
      refine ⟨τ, ?_, k1, k2, k3, k4, k5, k6⟩
      rw [scanC_step (by rw [size_bl]; omega), hn, hd, if_pos (show ({ σ with col := σ.col + 1 } : Sc).end_ = 0 from he), ht]
    · obtain rfl : pos = X.size := by omega
      exact ⟨σ, rfl, rfl, rfl, rfl, rfl, rfl, rfl⟩
theorem last_bl {X : ByteArray} {τ : Sc} (k : Int) (h1 : τ.note = false) (h2 : τ.slash = false) (h3 : τ.from_ = 0) (hk : τ.ok.kind = k) (hr : ∀ l c, rightV ⟨k, X, l, c⟩ = true) (hl : τ.words.length < 4000) (he : τ.end_ = 0) :
    ∃ y, kt y = (k, X) ∧ (scanC (X ++ blB) X.size τ).words = τ.words ++ [y] ∧ Nd (scanC (X ++ blB) X.size τ) ∧ (scanC (X ++ blB) X.size τ).end_ = 0 := by
  obtain ⟨o, ho⟩ : ∃ o : Wd, { τ.ok with text := (X ++ blB).extract τ.from_.toNat (X.size : Int).toNat } = o := ⟨_, rfl⟩
  have hx : (X ++ blB).extract τ.from_.toNat (X.size : Int).toNat = X := by
    rw [h3]
    show (X ++ blB).extract 0 X.size = X
    rw [extract_tl X blB 0 X.size (Nat.le_refl _)]
    exact ByteArray.extract_zero_size
  have hoo : o = ⟨k, X, τ.ok.line, τ.ok.col⟩ := by rw [← ho, hx, ← hk]
  have hs : shutS τ (X ++ blB) X.size = { τ with ok := o, from_ := -1, words := τ.words ++ [o] } := by
    rw [shutS_eq (by omega) (X ++ blB) X.size o ho, if_pos (by rw [hoo]; exact hr _ _)]
    unfold addS
    rw [if_neg (show ¬ ({ τ with ok := o, from_ := -1 } : Sc).words.length = 4000 by show ¬ τ.words.length = 4000; omega)]
  have hrn : lxRune (X ++ blB) X.size = 32 := lxRune_plain (get_bl X) (by decide)
  have hn : nextS τ (X ++ blB) X.size 32 = { τ with ok := o, from_ := -1, words := τ.words ++ [o], col := τ.col + 1 } := by
    unfold nextS preS midS runeS
    rw [if_pos (show 0 ≤ τ.from_ ∧ insideZ 32 = false from ⟨by omega, by decide⟩), hs, if_neg (show ¬ ({ τ with ok := o, from_ := -1, words := τ.words ++ [o] } : Sc).note = true by show ¬ τ.note = true; rw [h1]; decide),
      if_neg (show ¬ ({ τ with ok := o, from_ := -1, words := τ.words ++ [o] } : Sc).slash = true by show ¬ τ.slash = true; rw [h2]; decide), if_pos (show ({ τ with ok := o, from_ := -1, words := τ.words ++ [o] } : Sc).from_ < 0 from (by decide : (-1 : Int) < 0)), if_pos (Or.inl rfl), finS_F (by decide)]
  have hfin : scanC (X ++ blB) X.size τ = { τ with ok := o, from_ := -1, words := τ.words ++ [o], col := τ.col + 1 } := by
    rw [scanC_step (by rw [size_bl]; omega), hrn, hn, if_pos (show ({ τ with ok := o, from_ := -1, words := τ.words ++ [o], col := τ.col + 1 } : Sc).end_ = 0 from he), scanC_end]
    have := Lib.width_pos (X ++ blB) X.size
    rw [size_bl]
    omega
  rw [hfin]
  refine ⟨o, by rw [hoo]; rfl, rfl, ⟨h1, h2, (by decide : (-1 : Int) < 0)⟩, he⟩
theorem first_run {X : ByteArray} (k : Int) (hX : 0 < X.size) (hi : ∀ y ∈ runesOf X, insideV y = true) (hr : ∀ l c, rightV ⟨k, X, l, c⟩ = true)
    (hk : (k = 1 ∧ letterZ ((Utf8.decode X 0).1 : Int) = true) ∨ (k = 2 ∧ letterZ ((Utf8.decode X 0).1 : Int) = false ∧ digitZ ((Utf8.decode X 0).1 : Int) = true)) {σ : Sc} (h : Nd σ) (hl : σ.words.length < 4000) (he : σ.end_ = 0) :
    ∃ y, kt y = (k, X) ∧ (scanC (X ++ blB) 0 σ).words = σ.words ++ [y] ∧ Nd (scanC (X ++ blB) 0 σ) ∧ (scanC (X ++ blB) 0 σ).end_ = 0 := by
  obtain ⟨f, hf⟩ : ∃ f, X.size = f + 1 := ⟨X.size - 1, by omega⟩
  have hy := hi
  unfold runesOf at hy
  rw [hf, runesFrom_next X f 0 hX] at hy
  have h0 := hy _ (List.mem_cons_self ..)
  have hd := decode_bl X hX
  have hln : lxRune (X ++ blB) 0 = ((Utf8.decode X 0).1 : Int) := by rw [lxRune_ins (by rw [hd]; exact h0), hd]
  have hz : insideZ ((Utf8.decode X 0).1 : Int) = true := by rw [insideZ_cast]; exact h0
  have hin := width_in hX
  have hw := Lib.width_pos X 0
  have hn : nextS σ (X ++ blB) ((0 : Nat) : Int) (lxRune (X ++ blB) 0) = { σ with from_ := 0, ok := ⟨k, emptyB, σ.line, σ.col⟩, col := σ.col + 1 } := by
    rw [hln]
    have hbl : ¬ (((Utf8.decode X 0).1 : Int) = 32 ∨ ((Utf8.decode X 0).1 : Int) = 9 ∨ ((Utf8.decode X 0).1 : Int) = 10) := by
      rintro (e | e | e) <;> (rw [e] at hz; exact absurd hz (by decide))
    unfold nextS preS midS runeS
    rw [if_neg (show ¬ (0 ≤ σ.from_ ∧ insideZ ((Utf8.decode X 0).1 : Int) = false) by rw [hz]; simp), if_neg (show ¬ σ.note = true by rw [h.1]; decide), if_neg (show ¬ σ.slash = true by rw [h.2.1]; decide), if_pos h.2.2, if_neg hbl]
    rcases hk with ⟨rfl, hk⟩ | ⟨rfl, hk1, hk2⟩
    · rw [if_pos hk, finS_F (inside_ne10 hz)]
      rfl
    · rw [if_neg (by rw [hk1]; decide), if_pos hk2, finS_F (inside_ne10 hz)]
      rfl
  obtain ⟨τ, ht, k1, k2, k3, k4, k5, k6⟩ := run_ins X f (0 + (Utf8.decode X 0).2) { σ with from_ := 0, ok := ⟨k, emptyB, σ.line, σ.col⟩, col := σ.col + 1 } (by omega) (by omega) (fun y hm => hy y (List.mem_cons_of_mem _ hm)) h.1 h.2.1 (Int.le_refl 0) he
  obtain ⟨y, q1, q2, q3, q4⟩ := last_bl (X := X) (τ := τ) k (k2.trans h.1) (k3.trans h.2.1) k4 (by rw [k5]) hr (by rw [k1]; exact hl) (k6.trans he)
  have hs : scanC (X ++ blB) 0 σ = scanC (X ++ blB) X.size τ := by
    rw [scanC_step (by rw [size_bl]; omega), hn, if_pos (show ({ σ with from_ := 0, ok := ⟨k, emptyB, σ.line, σ.col⟩, col := σ.col + 1 } : Sc).end_ = 0 from he), hd, ht]
  rw [hs]
  exact ⟨y, q1, by rw [q2, k1], q3, q4⟩
theorem nameGo_ins : ∀ (l : List Nat) (n : Nat), nameGo n l = true → ∀ y ∈ l, insideV y = true
  | [], _, _, y, hy => by cases hy
  | x :: l, n, h, y, hy => by
    unfold nameGo at h
    split at h
    · rename_i hc
      rcases List.mem_cons.1 hy with rfl | hy
      · exact hc.1
      · exact nameGo_ins l (n + 1) h y hy
    · cases h
theorem runes_dig (X : ByteArray) (h : ∀ c ∈ X.data.toList, 48 ≤ c.toNat ∧ c.toNat ≤ 57) : ∀ (f pos : Nat), ∀ y ∈ runesFrom X f pos, insideV y = true
  | 0, _, y, hy => by cases hy
  | f + 1, pos, y, hy => by
    unfold runesFrom at hy
    split at hy
    · rename_i hlt
      have hg : (X.get! pos) ∈ X.data.toList := by
        have : X.get! pos = X.data[pos]'hlt := getElem!_pos X.data pos hlt
        rw [this]
        exact Array.getElem_mem_toList ..
      have hb := h _ hg
      have hd := decode_plain (X := X) (pos := pos) rfl (by omega)
      rcases List.mem_cons.1 hy with e | hy
      · rw [e, hd]
        unfold insideV
        simp only [Bool.or_eq_true, decide_eq_true_eq]
        exact .inr (.inl hb)
      · exact runes_dig X h f _ y hy
    · cases hy
theorem decDigits_dig : ∀ (u : Nat), ∀ c ∈ Lib.decDigits u, 48 ≤ c.toNat ∧ c.toNat ≤ 57 := by
  intro u
  induction u using Nat.strongRecOn with
  | _ u ih =>
    intro c hc
    rw [Lib.decDigits] at hc
    split at hc
    · rename_i h
      simp at hc
      subst hc
      simp
      omega
    · rename_i h
      rcases List.mem_append.1 hc with hc | hc
      · exact ih (u / 10) (by omega) c hc
      · simp at hc
        subst hc
        have : u % 10 < 10 := Nat.mod_lt _ (by decide)
        simp
        omega
theorem numP_dig {s : ByteArray} (h : numP s = true) : (∀ c ∈ s.data.toList, 48 ≤ c.toNat ∧ c.toNat ≤ 57) ∧ 0 < s.size := by
  unfold numP at h
  split at h
  · rename_i u hu
    have hb := (Bool.and_eq_true_iff.1 h).2
    have he : Lib.decDigits u = s.toList := eq_of_beq hb
    rw [ByteArray.toList_eq] at he
    rw [← he]
    refine ⟨decDigits_dig u, ?_⟩
    have h1 : (Lib.decDigits u).length = s.size := by rw [he, Array.length_toList]; rfl
    have h2 := Lib.nDigits_pos u
    rw [Lib.decDigits_length] at h1
    omega
  · cases h
/-- A word and a blank, scanned: that word. -/
theorem word_again {n : Nat} {x : Wd} (hx : GoodW n x) {σ : Sc} (h : Nd σ) (hl : σ.words.length < 4000) (he : σ.end_ = 0) :
    ∃ y, kt y = kt x ∧ (scanC (x.text ++ blB) 0 σ).words = σ.words ++ [y] ∧ Nd (scanC (x.text ++ blB) 0 σ) ∧ (scanC (x.text ++ blB) 0 σ).end_ = 0 := by
  obtain ⟨kind, X, ln, cl⟩ := x
  rcases hx.2 with ⟨hk, hv⟩ | ⟨hk, hv⟩ | ⟨hk, r, hr, ht⟩
  · simp only at hk hv
    subst hk
    have hX : 0 < X.size := by
      by_cases hX : 0 < X.size
      · exact hX
      · exfalso
        have hz : X.size = 0 := by omega
        unfold runesOf at hv
        rw [hz] at hv
        exact absurd (show nameV [] = true from hv) (by decide)
    refine first_run 1 hX (nameGo_ins _ 0 hv) (fun l c => hv) (.inl ⟨rfl, ?_⟩) h hl he
    obtain ⟨f, hf⟩ : ∃ f, X.size = f + 1 := ⟨X.size - 1, by omega⟩
    unfold nameV runesOf at hv
    rw [hf, runesFrom_next X f 0 hX] at hv
    unfold nameGo at hv
    split at hv
    · rename_i hc
      rw [letterZ_cast]
      exact hc.2 rfl
    · cases hv
  · simp only at hk hv
    subst hk
    obtain ⟨hd, hX⟩ := numP_dig hv
    have hb : 48 ≤ (X.get! 0).toNat ∧ (X.get! 0).toNat ≤ 57 := by
      refine hd _ ?_
      have : X.get! 0 = X.data[0]'hX := getElem!_pos X.data 0 hX
      rw [this]
      exact Array.getElem_mem_toList ..
    have hd0 := decode_plain (X := X) (pos := 0) rfl (by omega)
    refine first_run 2 hX (runes_dig X hd _ _) (fun l c => hv) (.inr ⟨rfl, ?_, ?_⟩) h hl he
    · rw [hd0]
      unfold letterZ
      simp only [decide_eq_false_iff_not]
      omega
    · rw [hd0]
      unfold digitZ
      simp only [decide_eq_true_eq]
      omega
  · simp only at hk ht
    subst hk
    have hz : X.size = 1 := by rw [ht]; exact sign_size hr
    have hg : (X.get! 0).toNat = r.toNat ∧ r.toNat < 128 ∧ (r.toNat : Int) = r := by
      rw [ht]
      rcases sign_cases hr with rfl | rfl | rfl | rfl | rfl | rfl | rfl <;> exact ⟨by rfl, by decide, by decide⟩
    have hg2 : ((X ++ blB).get! 0).toNat = r.toNat := by rw [get_tl X blB 0 (by omega)]; exact hg.1
    have hl0 : lxRune (X ++ blB) 0 = r := by rw [lxRune_plain hg2 hg.2.1]; exact hg.2.2
    have hd0 := decode_plain hg2 hg.2.1
    have hl1 : lxRune (X ++ blB) 1 = 32 := by
      have := lxRune_plain (get_bl X) (by decide)
      rw [hz] at this
      exact this
    have hd1 := decode_plain (get_bl X) (by decide)
    rw [hz] at hd1
    have hfacts : ¬ (r = 32 ∨ r = 9 ∨ r = 10) ∧ letterZ r = false ∧ digitZ r = false ∧ ¬ r = 10 := by
      rcases sign_cases hr with rfl | rfl | rfl | rfl | rfl | rfl | rfl <;> decide
    have hn0 : nextS σ (X ++ blB) ((0 : Nat) : Int) r = { σ with words := σ.words ++ [⟨3, Utf8.encode r, σ.line, σ.col⟩], col := σ.col + 1 } := by
      unfold nextS preS midS runeS addS
      rw [if_neg (show ¬ (0 ≤ σ.from_ ∧ insideZ r = false) by have := h.2.2; omega), if_neg (show ¬ σ.note = true by rw [h.1]; decide), if_neg (show ¬ σ.slash = true by rw [h.2.1]; decide), if_pos h.2.2, if_neg hfacts.1, if_neg (by rw [hfacts.2.1]; decide), if_neg (by rw [hfacts.2.2.1]; decide), if_pos hr, if_neg (by omega), finS_F hfacts.2.2.2]
    obtain ⟨ρ, hρ⟩ : ∃ ρ : Sc, ({ σ with words := σ.words ++ [⟨3, Utf8.encode r, σ.line, σ.col⟩], col := σ.col + 1 } : Sc) = ρ := ⟨_, rfl⟩
    rw [hρ] at hn0
    have hρn : Nd ρ := by rw [← hρ]; exact h
    have hρe : ρ.end_ = 0 := by rw [← hρ]; exact he
    have hρw : ρ.words = σ.words ++ [⟨3, Utf8.encode r, σ.line, σ.col⟩] := by rw [← hρ]
    have hn1 : nextS ρ (X ++ blB) ((1 : Nat) : Int) 32 = { ρ with col := ρ.col + 1 } := by
      unfold nextS preS midS runeS
      rw [if_neg (show ¬ (0 ≤ ρ.from_ ∧ insideZ 32 = false) by have := hρn.2.2; omega), if_neg (show ¬ ρ.note = true by rw [hρn.1]; decide), if_neg (show ¬ ρ.slash = true by rw [hρn.2.1]; decide), if_pos hρn.2.2, if_pos (Or.inl rfl), finS_F (by decide)]
    have hsz := size_bl X
    have hs : scanC (X ++ blB) 0 σ = { ρ with col := ρ.col + 1 } := by
      rw [scanC_step (by omega), hl0, hn0, if_pos hρe, hd0]
      show scanC (X ++ blB) 1 ρ = _
      rw [scanC_step (by omega), hl1, hn1, if_pos (show ({ ρ with col := ρ.col + 1 } : Sc).end_ = 0 from hρe), hd1]
      exact scanC_end (by omega) _
    rw [hs]
    exact ⟨⟨3, Utf8.encode r, σ.line, σ.col⟩, by unfold kt; rw [ht], hρw, hρn, hρe⟩
/-! ### all of them -/
def againT : List Wd → ByteArray
  | [] => emptyB
  | x :: l => (x.text ++ blB) ++ againT l
theorem emptyB_app (X : ByteArray) : emptyB ++ X = X := ByteArray.empty_append
theorem app_emptyB (X : ByteArray) : X ++ emptyB = X := ByteArray.append_empty
theorem againT_snoc : ∀ (l : List Wd) (x : Wd), againT (l ++ [x]) = againT l ++ x.text ++ blB
  | [], x => by show (x.text ++ blB) ++ emptyB = emptyB ++ x.text ++ blB; rw [app_emptyB, emptyB_app]
  | y :: l, x => by
    show (y.text ++ blB) ++ againT (l ++ [x]) = (y.text ++ blB) ++ againT l ++ x.text ++ blB
    rw [againT_snoc l x]
    simp only [ByteArray.append_assoc]
theorem again_scan {n : Nat} : ∀ (ws : List Wd) (σ : Sc), (∀ x ∈ ws, GoodW n x) → Nd σ → σ.end_ = 0 → σ.words.length + ws.length ≤ 4000 →
    (scanC (againT ws) 0 σ).words.map kt = σ.words.map kt ++ ws.map kt ∧ Nd (scanC (againT ws) 0 σ) ∧ (scanC (againT ws) 0 σ).end_ = 0
  | [], σ, _, h, he, _ => by
    rw [scanC_end (s := againT []) (show emptyB.size ≤ 0 from Nat.le_refl 0)]
    exact ⟨by simp, h, he⟩
  | x :: l, σ, hg, h, he, hl => by
    simp only [List.length_cons] at hl
    obtain ⟨y, hy, hw, hn, h0⟩ := word_again (hg x (List.mem_cons_self ..)) h (by omega) he
    have hE : EndsPlain (x.text ++ blB) := by
      have hz := size_bl x.text
      refine ⟨by omega, ?_⟩
      rw [hz, Nat.add_sub_cancel, get_bl]
      decide
    have ht := scan_tl hE (againT l) (x.text ++ blB).size 0 σ (by omega) (by omega) he
    rw [if_pos h0] at ht
    have hsh := scanC_sh (x.text ++ blB) (againT l) (sh_of_nd (d := (x.text ++ blB).size) hn hn rfl rfl)
    have hlen : (scanC (x.text ++ blB) 0 σ).words.length = σ.words.length + 1 := by rw [hw]; simp
    obtain ⟨i1, i2, i3⟩ := again_scan l (scanC (x.text ++ blB) 0 σ) (fun z hz => hg z (List.mem_cons_of_mem _ hz)) hn h0 (by omega)
    show (scanC ((x.text ++ blB) ++ againT l) 0 σ).words.map kt = _ ∧ Nd (scanC ((x.text ++ blB) ++ againT l) 0 σ) ∧ (scanC ((x.text ++ blB) ++ againT l) 0 σ).end_ = 0
    rw [ht]
    refine ⟨?_, ⟨by rw [hsh.note]; exact i2.1, by rw [hsh.slash]; exact i2.2.1, ?_⟩, by rw [hsh.en]; exact i3⟩
    · rw [hsh.words, i1, hw]
      simp [hy]
    · rcases hsh.fr with hh | hh
      · exact hh.2
      · exact absurd i2.2.2 (by omega)
/-- What LexAgain says, plainly. -/
theorem wordsP_again (s : ByteArray) : ((againT (wordsP s).1).size ≤ 20000 → (wordsP (againT (wordsP s).1)).1.map kt = (wordsP s).1.map kt ∧ (wordsP (againT (wordsP s).1)).2.2.2 = 0) ∧
    (20000 < (againT (wordsP s).1).size → (wordsP (againT (wordsP s).1)).2.2.2 = 4) := by
  obtain ⟨hg, hl⟩ := wordsP_gd s
  refine ⟨fun hz => ?_, fun hz => ?_⟩
  · obtain ⟨i1, i2, i3⟩ := again_scan (n := s.size) (wordsP s).1 lxInit hg ⟨rfl, rfl, by decide⟩ rfl (by simpa [lxInit] using hl)
    rw [wordsP_of hz]
    generalize scanC (againT (wordsP s).1) 0 lxInit = τ at *
    unfold wordsOf shutS lastS outS
    rw [if_pos i3, if_pos i2.2.2, if_neg (show ¬ τ.slash = true by rw [i2.2.1]; decide), if_pos i3]
    exact ⟨by rw [i1]; simp [lxInit], rfl⟩
  · generalize againT (wordsP s).1 = t at *
    unfold wordsP
    rw [if_pos hz]
/-- How long the text becomes. -/
theorem againT_size {n : Nat} : ∀ (l : List Wd), (∀ x ∈ l, GoodW n x) → (againT l).size ≤ l.length * (n + 2)
  | [], _ => Nat.zero_le _
  | x :: l, h => by
    have h1 := againT_size l (fun y hy => h y (List.mem_cons_of_mem _ hy))
    have h2 := (h x (List.mem_cons_self ..)).1
    show ((x.text ++ blB) ++ againT l).size ≤ _
    rw [ByteArray.size_append, size_bl, List.length_cons, Nat.add_mul]
    omega
end Go.Proofs.YthnnleibngbclaaDoor.X
