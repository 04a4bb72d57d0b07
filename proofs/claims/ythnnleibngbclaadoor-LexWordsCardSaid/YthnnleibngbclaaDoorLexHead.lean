/- A text's head that ends in a plain byte is scanned by itself; a text behind any head is scanned as if it stood alone. -/
import Derived.Test.YthnnleibngbclaaDoorLexShift
import Derived.Lib.DecodeN
import Derived.Lib.QuoteLoop
import Derived.Lib.TrimU
set_option linter.unusedVariables false
set_option linter.unusedSimpArgs false
namespace Go.Proofs.YthnnleibngbclaaDoor.X
open Go.RowKit Go.Shelf Go.Proofs.YthnnleibngbclaaDoorW.PrintWords Go.Proofs.YthnnleibngbclaaDoorW.PrintLast Go.Proofs.YthnnleibngbclaaDoorW.PrintMore
/-! ### behind a head -/
theorem get_hd (X s : ByteArray) (i : Nat) : (X ++ s).get! (i + X.size) = s.get! i := by
  have e : (X ++ s).data = X.data ++ s.data := ByteArray.data_append
  have ez : X.data.size = X.size := rfl
  show (X ++ s).data[i + X.size]! = s.data[i]!
  rw [e]
  simp only [getElem!_def]
  rw [Array.getElem?_append_right (by omega), ez, Nat.add_sub_cancel]
theorem decode_hd (X s : ByteArray) (pos : Nat) : Utf8.decode (X ++ s) (pos + X.size) = Utf8.decode s pos := by
  have e : ∀ k, pos + X.size + k = pos + k + X.size := fun k => by omega
  rw [Lib.decode_at, Lib.decode_at, e 1, e 2, e 3, get_hd, get_hd, get_hd, get_hd, ByteArray.size_append]
  congr 1
  omega
theorem extract_hd (X s : ByteArray) (i j : Nat) : (X ++ s).extract (i + X.size) (j + X.size) = s.extract i j := by
  have := @ByteArray.extract_append_size_add X s i j
  rw [Nat.add_comm X.size i, Nat.add_comm X.size j] at this
  exact this
theorem lxRune_hd (X s : ByteArray) (pos : Nat) : lxRune (X ++ s) (pos + X.size) = lxRune s pos := by
  unfold lxRune
  rw [decode_hd, ByteArray.size_append, Nat.add_comm X.size s.size, extract_hd]
/-! ### ahead of a tail -/
theorem get_tl (X s : ByteArray) (i : Nat) (h : i < X.size) : (X ++ s).get! i = X.get! i := by
  have e : (X ++ s).data = X.data ++ s.data := ByteArray.data_append
  have ez : X.data.size = X.size := rfl
  show (X ++ s).data[i]! = X.data[i]!
  rw [e]
  simp only [getElem!_def]
  rw [Array.getElem?_append_left (by omega)]
theorem decodeN_pre (n m b0 b1 b2 b3 c1 c2 c3 : Nat) (hn : 1 ≤ n) (hm : n ≤ m) (h1 : 1 < n → c1 = b1) (h2 : 2 < n → c2 = b2) (h3 : 3 < n → c3 = b3) (l1 : n = 1 → b0 < 128) (l2 : n = 2 → b1 < 128) (l3 : n = 3 → b2 < 128) :
    Lib.decodeN m b0 c1 c2 c3 = Lib.decodeN n b0 b1 b2 b3 := by
  by_cases k1 : n = 1
  · have := l1 k1
    unfold Lib.decodeN
    rw [if_pos this, if_pos this]
  · obtain rfl := h1 (by omega)
    have g1 : 1 < n := by omega
    have g1m : 1 < m := by omega
    by_cases k2 : n = 2
    · have hb : ¬ c1 / 64 = 2 := by have := l2 k2; omega
      unfold Lib.decodeN
      simp only [hb, and_false, false_and, if_false]
    · obtain rfl := h2 (by omega)
      have g2 : 2 < n := by omega
      have g2m : 2 < m := by omega
      by_cases k3 : n = 3
      · have hb : ¬ c2 / 64 = 2 := by have := l3 k3; omega
        unfold Lib.decodeN
        simp only [hb, g1, g1m, true_and, and_false, false_and, if_false]
      · obtain rfl := h3 (by omega)
        have g3 : 3 < n := by omega
        have g3m : 3 < m := by omega
        unfold Lib.decodeN
        simp only [g1, g1m, g2, g2m, g3, g3m, true_and]
/-- The last byte of the head is plain. -/
def EndsPlain (X : ByteArray) : Prop := 0 < X.size ∧ (X.get! (X.size - 1)).toNat < 128
theorem decode_tl {X : ByteArray} (hx : EndsPlain X) (s : ByteArray) {pos : Nat} (h : pos < X.size) : Utf8.decode (X ++ s) pos = Utf8.decode X pos := by
  rw [Lib.decode_at, Lib.decode_at, get_tl X s pos h]
  have hl := hx.2
  refine decodeN_pre _ _ _ _ _ _ _ _ _ (by omega) (by rw [ByteArray.size_append]; omega) (fun k => ?_) (fun k => ?_) (fun k => ?_) (fun k => ?_) (fun k => ?_) (fun k => ?_)
  · rw [get_tl X s _ (by omega)]
  · rw [get_tl X s _ (by omega)]
  · rw [get_tl X s _ (by omega)]
  · rw [show pos = X.size - 1 by omega]; exact hl
  · rw [show pos + 1 = X.size - 1 by omega]; exact hl
  · rw [show pos + 2 = X.size - 1 by omega]; exact hl
theorem width_in {X : ByteArray} {pos : Nat} (h : pos < X.size) : pos + (Utf8.decode X pos).2 ≤ X.size := by
  have := Lib.decodeN_width_le (X.size - pos) (X.get! pos).toNat (X.get! (pos + 1)).toNat (X.get! (pos + 2)).toNat (X.get! (pos + 3)).toNat (by omega)
  rw [← Lib.decode_at] at this
  omega
/-! ### the fuel -/
theorem scan_fuel (s : ByteArray) : ∀ (f g pos : Nat) (σ : Sc), s.size ≤ pos + f → s.size ≤ pos + g → scan s f pos σ = scan s g pos σ
  | 0, 0, _, _, _, _ => rfl
  | 0, g + 1, pos, σ, hf, _ => by rw [scan, scan, if_neg (by omega)]
  | f + 1, 0, pos, σ, _, hg => by rw [scan, scan, if_neg (by omega)]
  | f + 1, g + 1, pos, σ, hf, hg => by
    have hw := Lib.width_pos s pos
    rw [scan, scan, scan_fuel s f g (pos + (Utf8.decode s pos).2) (nextS σ s pos (lxRune s pos)) (by omega) (by omega)]
/-- The scan from a place to the text's end. -/
def scanC (s : ByteArray) (pos : Nat) (σ : Sc) : Sc := scan s (s.size - pos) pos σ
theorem scanC_end {s : ByteArray} {pos : Nat} (h : s.size ≤ pos) (σ : Sc) : scanC s pos σ = σ := by
  unfold scanC
  rw [show s.size - pos = 0 by omega]
  rfl
theorem scanC_step {s : ByteArray} {pos : Nat} (h : pos < s.size) (σ : Sc) : scanC s pos σ = if (nextS σ s pos (lxRune s pos)).end_ = 0 then scanC s (pos + (Utf8.decode s pos).2) (nextS σ s pos (lxRune s pos)) else nextS σ s pos (lxRune s pos) := by
  have hw := Lib.width_pos s pos
  unfold scanC
  rw [show s.size - pos = (s.size - pos - 1) + 1 by omega, scan, if_pos h, scan_fuel s (s.size - pos - 1) (s.size - (pos + (Utf8.decode s pos).2)) _ _ (by omega) (by omega)]
theorem scan_scanC (s : ByteArray) (σ : Sc) : scan s s.size 0 σ = scanC s 0 σ := rfl
theorem ext_list (s : ByteArray) (pos : Nat) : (s.extract pos s.size).data.toList = s.data.toList.drop pos := by
  have e : s.size = s.data.toList.length := by rw [Array.length_toList]; rfl
  rw [ByteArray.data_extract, Array.toList_extract, List.extract_eq_take_drop, e, ← List.length_drop, List.take_length]
theorem extract_tl (X s : ByteArray) (i j : Nat) (h : j ≤ X.size) : (X ++ s).extract i j = X.extract i j := by
  have e : s.extract (i - X.size) 0 = ByteArray.empty := ByteArray.ext (by simp)
  rw [ByteArray.extract_append, show j - X.size = 0 by omega, e, ByteArray.append_empty]
theorem take_tl : ∀ (A S : List UInt8), A ≠ [] → (∀ h : A ≠ [], (A.getLast h).toNat < 128) → ((A ++ S).take 3 = [239, 191, 189] ↔ A.take 3 = [239, 191, 189])
  | [], _, h, _ => absurd rfl h
  | [a], S, _, hl => by
    have h := hl (by simp)
    simp only [List.getLast_singleton] at h
    constructor
    · intro e
      simp at e
      obtain ⟨rfl, _⟩ := e
      exact absurd h (by decide)
    · intro e
      simp at e
  | [a, b], S, _, hl => by
    have h := hl (by simp)
    constructor
    · intro e
      simp at e
      obtain ⟨_, rfl, _⟩ := e
      have h2 : (191 : UInt8).toNat < 128 := h
      exact absurd h2 (by decide)
    · intro e
      simp at e
  | a :: b :: c :: A, S, _, _ => by simp
theorem lxRune_tl {X : ByteArray} (hx : EndsPlain X) (s : ByteArray) {pos : Nat} (h : pos < X.size) : lxRune (X ++ s) pos = lxRune X pos := by
  have hlen : X.size = X.data.toList.length := by rw [Array.length_toList]; rfl
  have hd : X.data.toList.drop pos ≠ [] := by
    intro e
    have := congrArg List.length e
    rw [List.length_drop] at this
    simp only [List.length_nil] at this
    omega
  have hl : ∀ h : X.data.toList.drop pos ≠ [], ((X.data.toList.drop pos).getLast h).toNat < 128 := by
    intro h1
    rw [List.getLast_drop, List.getLast_eq_getElem]
    have h2 := hx.2
    have e : X.get! (X.size - 1) = X.data[X.size - 1]! := rfl
    rw [e, getElem!_pos X.data (X.size - 1) (by show X.size - 1 < X.size; omega)] at h2
    simp only [Array.length_toList, Array.getElem_toList]
    exact h2
  have e2 : (X ++ s).data.toList.drop pos = X.data.toList.drop pos ++ s.data.toList := by
    rw [ByteArray.data_append, Array.toList_append, List.drop_append_of_le_length (by omega)]
  unfold lxRune
  rw [decode_tl hx s h, ext_list, ext_list, e2]
  have ht := take_tl (X.data.toList.drop pos) s.data.toList hd hl
  by_cases hc : (Utf8.decode X pos).1 = 65533 ∧ (X.data.toList.drop pos).take 3 ≠ [239, 191, 189]
  · rw [if_pos hc, if_pos ⟨hc.1, fun e => hc.2 (ht.mp e)⟩]
  · rw [if_neg hc, if_neg (fun e => hc ⟨e.1, fun e1 => e.2 (ht.mpr e1)⟩)]
theorem nextS_tl (X s : ByteArray) {pos : Nat} (h : pos < X.size) (σ : Sc) (r : Int) : nextS σ (X ++ s) pos r = nextS σ X pos r := by
  unfold nextS preS shutS
  rw [extract_tl X s _ _ (show (pos : Int).toNat ≤ X.size by omega)]
/-- A text is scanned head first. -/
theorem scan_tl {X : ByteArray} (hx : EndsPlain X) (s : ByteArray) : ∀ (n pos : Nat) (σ : Sc), X.size - pos ≤ n → pos ≤ X.size → σ.end_ = 0 →
    scanC (X ++ s) pos σ = if (scanC X pos σ).end_ = 0 then scanC (X ++ s) X.size (scanC X pos σ) else scanC X pos σ
  | n, pos, σ, hn, hp, he => by
    by_cases hlt : pos < X.size
    · cases n with
      | zero => omega
      | succ n =>
        rw [scanC_step (s := X ++ s) (by rw [ByteArray.size_append]; omega), scanC_step (s := X) hlt, nextS_tl X s hlt, lxRune_tl hx s hlt, decode_tl hx s hlt]
        have hw := Lib.width_pos X pos
        by_cases h0 : (nextS σ X pos (lxRune X pos)).end_ = 0
        · rw [if_pos h0, if_pos h0]
          exact scan_tl hx s n _ _ (by omega) (width_in hlt) h0
        · rw [if_neg h0, if_neg h0, if_neg h0]
    · obtain rfl : pos = X.size := by omega
      rw [scanC_end (s := X) (Nat.le_refl _), if_pos he]
/-! ### the same words behind another head -/
def kt (x : Wd) : Int × ByteArray := (x.kind, x.text)
structure Sh (d : Nat) (σ τ : Sc) : Prop where
  words : τ.words.map kt = σ.words.map kt
  note : τ.note = σ.note
  slash : τ.slash = σ.slash
  fr : (σ.from_ < 0 ∧ τ.from_ < 0) ∨ (0 ≤ σ.from_ ∧ τ.from_ = σ.from_ + d ∧ τ.ok.kind = σ.ok.kind)
  en : τ.end_ = σ.end_
theorem Sh.len {d : Nat} {σ τ : Sc} (h : Sh d σ τ) : τ.words.length = σ.words.length := by
  have := congrArg List.length h.words
  simpa using this
theorem failS_sh {d : Nat} {σ τ : Sc} (h : Sh d σ τ) (e l c l2 c2 : Int) : Sh d (failS σ e l c) (failS τ e l2 c2) := by
  unfold failS
  rw [h.en]
  split
  · exact ⟨h.words, h.note, h.slash, h.fr, rfl⟩
  · exact h
theorem addS_sh {d : Nat} {σ τ : Sc} (h : Sh d σ τ) (x y : Wd) (hxy : kt y = kt x) : Sh d (addS σ x) (addS τ y) := by
  unfold addS
  rw [h.len]
  split
  · exact failS_sh h 4 _ _ _ _
  · exact ⟨by simp [h.words, hxy], h.note, h.slash, h.fr, h.en⟩
theorem rightV_kt (x y : Wd) (h : kt y = kt x) : rightV y = rightV x := by
  have h1 : y.kind = x.kind := congrArg Prod.fst h
  have h2 : y.text = x.text := congrArg Prod.snd h
  unfold rightV
  rw [h1, h2]
theorem shutS_sh {σ τ : Sc} {X : ByteArray} (h : Sh X.size σ τ) (s : ByteArray) {i : Int} (hi : 0 ≤ i) : Sh X.size (shutS σ s i) (shutS τ (X ++ s) (i + X.size)) := by
  rcases h.fr with ⟨f1, f2⟩ | ⟨f1, f2, f3⟩
  · unfold shutS
    rw [if_pos f1, if_pos f2]
    exact h
  · obtain ⟨o, ho⟩ : ∃ o : Wd, { σ.ok with text := s.extract σ.from_.toNat i.toNat } = o := ⟨_, rfl⟩
    obtain ⟨p, hp⟩ : ∃ p : Wd, { τ.ok with text := (X ++ s).extract τ.from_.toNat (i + X.size).toNat } = p := ⟨_, rfl⟩
    have hk : kt p = kt o := by
      rw [← ho, ← hp, show τ.from_.toNat = σ.from_.toNat + X.size by omega, show (i + X.size).toNat = i.toNat + X.size by omega, extract_hd]
      show (τ.ok.kind, _) = (σ.ok.kind, _)
      rw [f3]
    rw [shutS_eq f1 s i o ho, shutS_eq (show 0 ≤ τ.from_ by omega) (X ++ s) (i + X.size) p hp, rightV_kt o p hk]
    have h1 : Sh X.size { σ with ok := o, from_ := -1 } { τ with ok := p, from_ := -1 } :=
      ⟨h.words, h.note, h.slash, Or.inl ⟨neg1, neg1⟩, h.en⟩
    by_cases hr : rightV o = true
    · rw [if_pos hr, if_pos hr]
      exact addS_sh h1 o p hk
    · rw [if_neg hr, if_neg hr]
      exact failS_sh h1 6 _ _ _ _
theorem runeS_sh {d : Nat} {σ τ : Sc} (h : Sh d σ τ) (hf : σ.from_ < 0 ∧ τ.from_ < 0) {i : Int} (hi : 0 ≤ i) (r : Int) : Sh d (runeS σ i r) (runeS τ (i + d) r) := by
  unfold runeS
  split
  · exact h
  · split
    · exact ⟨h.words, h.note, h.slash, Or.inr ⟨hi, rfl, rfl⟩, h.en⟩
    · split
      · exact ⟨h.words, h.note, h.slash, Or.inr ⟨hi, rfl, rfl⟩, h.en⟩
      · split
        · exact addS_sh h _ _ rfl
        · split
          · exact ⟨h.words, h.note, rfl, h.fr, h.en⟩
          · exact failS_sh h 6 _ _ _ _
theorem midS_sh {d : Nat} {σ τ : Sc} (h : Sh d σ τ) {i : Int} (hi : 0 ≤ i) (r : Int) : Sh d (midS σ i r) (midS τ (i + d) r) := by
  unfold midS
  rw [h.note, h.slash]
  split
  · exact ⟨h.words, rfl, rfl, h.fr, h.en⟩
  · split
    · split
      · exact ⟨h.words, rfl, rfl, h.fr, h.en⟩
      · exact failS_sh h 6 _ _ _ _
    · rcases h.fr with hf | hf
      · rw [if_pos hf.1, if_pos hf.2]
        exact runeS_sh h hf hi r
      · rw [if_neg (show ¬ σ.from_ < 0 by omega), if_neg (show ¬ τ.from_ < 0 by omega)]
        exact h
theorem preS_sh {σ τ : Sc} {X : ByteArray} (h : Sh X.size σ τ) (s : ByteArray) {i : Int} (hi : 0 ≤ i) (r : Int) : Sh X.size (preS σ s i r) (preS τ (X ++ s) (i + X.size) r) := by
  unfold preS
  have e : (0 ≤ τ.from_ ∧ insideZ r = false) ↔ (0 ≤ σ.from_ ∧ insideZ r = false) := by
    rcases h.fr with hf | hf
    · constructor
      · intro hh; omega
      · intro hh; omega
    · constructor
      · intro hh; exact ⟨hf.1, hh.2⟩
      · intro hh; exact ⟨by omega, hh.2⟩
  by_cases hc : 0 ≤ σ.from_ ∧ insideZ r = false
  · rw [if_pos hc, if_pos (e.mpr hc)]
    exact shutS_sh h s hi
  · rw [if_neg hc, if_neg (fun hh => hc (e.mp hh))]
    exact h
theorem finS_sh {d : Nat} {σ τ : Sc} (h : Sh d σ τ) (r : Int) : Sh d (finS σ r) (finS τ r) := by
  unfold finS
  split
  · exact ⟨h.words, h.note, h.slash, h.fr, h.en⟩
  · exact ⟨h.words, h.note, h.slash, h.fr, h.en⟩
theorem nextS_sh {σ τ : Sc} {X : ByteArray} (h : Sh X.size σ τ) (s : ByteArray) {i : Int} (hi : 0 ≤ i) (r : Int) : Sh X.size (nextS σ s i r) (nextS τ (X ++ s) (i + X.size) r) := by
  unfold nextS
  exact finS_sh (midS_sh (preS_sh h s hi r) hi r) r
/-- Behind a head a text is scanned as if it stood alone. -/
theorem scan_sh (X s : ByteArray) : ∀ (f pos : Nat) (σ τ : Sc), Sh X.size σ τ → Sh X.size (scan s f pos σ) (scan (X ++ s) f (pos + X.size) τ)
  | 0, _, _, _, h => h
  | f + 1, pos, σ, τ, h => by
    have hn := nextS_sh h s (i := (pos : Int)) (by omega) (lxRune s pos)
    rw [show (pos : Int) + (X.size : Int) = ((pos + X.size : Nat) : Int) by omega] at hn
    unfold scan
    rw [ByteArray.size_append, lxRune_hd, decode_hd]
    by_cases hp : pos < s.size
    · rw [if_pos hp, if_pos (show pos + X.size < X.size + s.size by omega), hn.en]
      split
      · have hr := scan_sh X s f (pos + (Utf8.decode s pos).2) _ _ hn
        rw [show pos + X.size + (Utf8.decode s pos).2 = pos + (Utf8.decode s pos).2 + X.size by omega]
        exact hr
      · exact hn
    · rw [if_neg hp, if_neg (show ¬ pos + X.size < X.size + s.size by omega)]
      exact h
theorem scanC_sh (X s : ByteArray) {σ τ : Sc} (h : Sh X.size σ τ) : Sh X.size (scanC s 0 σ) (scanC (X ++ s) X.size τ) := by
  have := scan_sh X s s.size 0 σ τ h
  unfold scanC
  rw [ByteArray.size_append, Nat.add_sub_cancel_left, Nat.sub_zero]
  rw [Nat.zero_add] at this
  exact this
end Go.Proofs.YthnnleibngbclaaDoor.X
