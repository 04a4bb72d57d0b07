/- The reference's words, plainly; they are the program's. -/
import Derived.Test.YthnnleibngbclaaDoorLexTwice
set_option linter.unusedVariables false
set_option linter.unusedSimpArgs false
namespace Go.Proofs.YthnnleibngbclaaDoor.X
open Go.RowKit Go.Shelf Go.Proofs.YthnnleibngbclaaDoorW.PrintWords Go.Proofs.YthnnleibngbclaaDoorW.PrintLast Go.Proofs.YthnnleibngbclaaDoorW.PrintMore
/-! ### numbers -/
def digL (l : List UInt8) : Bool := l.all fun c => decide (48 ≤ c.toNat ∧ c.toNat ≤ 57)
def valF (a : Nat) (l : List UInt8) : Nat := l.foldl (fun a c => a * 10 + (c.toNat - 48)) a
def numR (l : List UInt8) : Bool := !(decide (10 < l.length)) && (!(decide (l.head? = some 48) && decide (1 < l.length)) && decide (valF 0 l ≤ 2147483647))
theorem digL_iff {l : List UInt8} : digL l = true ↔ ∀ c ∈ l, 48 ≤ c.toNat ∧ c.toNat ≤ 57 := by
  unfold digL
  rw [List.all_eq_true]
  simp only [decide_eq_true_eq]
theorem valF_mono : ∀ (l : List UInt8) (a : Nat), a ≤ valF a l
  | [], a => Nat.le_refl _
  | c :: r, a => by
    have := valF_mono r (a * 10 + (c.toNat - 48))
    show a ≤ valF (a * 10 + (c.toNat - 48)) r
    omega
theorem valF_bd : ∀ (l : List UInt8) (a : Nat), (∀ c ∈ l, 48 ≤ c.toNat ∧ c.toNat ≤ 57) → valF a l < (a + 1) * 10 ^ l.length
  | [], a, _ => by show a < (a + 1) * 1; omega
  | c :: r, a, h => by
    have h1 := valF_bd r (a * 10 + (c.toNat - 48)) (fun x hx => h x (List.mem_cons_of_mem _ hx))
    have h2 := h c (List.mem_cons_self ..)
    show valF (a * 10 + (c.toNat - 48)) r < _
    refine Nat.lt_of_lt_of_le h1 ?_
    rw [List.length_cons, Nat.pow_succ, Nat.mul_comm (10 ^ r.length) 10, ← Nat.mul_assoc]
    exact Nat.mul_le_mul_right _ (by omega)
theorem parseM_ok (M : Nat) (hM : 2147483647 ≤ M) : ∀ (l : List UInt8) (a : Nat), (∀ c ∈ l, 48 ≤ c.toNat ∧ c.toNat ≤ 57) → valF a l ≤ 2147483647 → Lib.parseUintM M a l = .ok (valF a l)
  | [], a, _, _ => rfl
  | c :: r, a, h, hv => by
    have h2 := h c (List.mem_cons_self ..)
    have hm := valF_mono r (a * 10 + (c.toNat - 48))
    have hv2 : valF (a * 10 + (c.toNat - 48)) r ≤ 2147483647 := hv
    unfold Lib.parseUintM
    rw [if_pos h2, if_neg (by omega), if_neg (by omega)]
    exact parseM_ok M hM r _ (fun x hx => h x (List.mem_cons_of_mem _ hx)) hv
theorem parseM_val (M : Nat) : ∀ (l : List UInt8) (a u : Nat), Lib.parseUintM M a l = .ok u → valF a l = u
  | [], a, u, h => by
    unfold Lib.parseUintM at h
    injection h
  | c :: r, a, u, h => by
    unfold Lib.parseUintM at h
    split at h
    · split at h
      · cases h
      · split at h
        · cases h
        · exact parseM_val M r _ u h
    · cases h
theorem ofNat_dig (c : UInt8) (h : 48 ≤ c.toNat ∧ c.toNat ≤ 57) : UInt8.ofNat (48 + (c.toNat - 48)) = c := by
  rw [show 48 + (c.toNat - 48) = c.toNat by omega]
  exact UInt8.ofNat_toNat
theorem decD_small {u : Nat} (h : u < 10) : Lib.decDigits u = [UInt8.ofNat (48 + u)] := Lib.decDigits_one h
theorem decD_big {u : Nat} (h : ¬ u < 10) : Lib.decDigits u = Lib.decDigits (u / 10) ++ [UInt8.ofNat (48 + u % 10)] := by
  rw [Lib.decDigits, dif_neg h]
theorem decD_fold : ∀ (l : List UInt8) (a : Nat), 1 ≤ a → (∀ c ∈ l, 48 ≤ c.toNat ∧ c.toNat ≤ 57) → Lib.decDigits (valF a l) = Lib.decDigits a ++ l
  | [], a, _, _ => by show Lib.decDigits a = _; rw [List.append_nil]
  | c :: r, a, h1, h => by
    have h2 := h c (List.mem_cons_self ..)
    show Lib.decDigits (valF (a * 10 + (c.toNat - 48)) r) = _
    rw [decD_fold r _ (by omega) (fun x hx => h x (List.mem_cons_of_mem _ hx)), decD_big (show ¬ a * 10 + (c.toNat - 48) < 10 by omega), show (a * 10 + (c.toNat - 48)) / 10 = a by omega, show (a * 10 + (c.toNat - 48)) % 10 = c.toNat - 48 by omega, ofNat_dig c h2]
    simp
theorem decD_head : ∀ (u : Nat), 1 ≤ u → ∃ c r, Lib.decDigits u = c :: r ∧ 49 ≤ c.toNat := by
  intro u
  induction u using Nat.strongRecOn with
  | _ u ih =>
    intro h1
    by_cases h : u < 10
    · refine ⟨_, _, decD_small h, ?_⟩
      simp
      omega
    · obtain ⟨c, r, e, hc⟩ := ih (u / 10) (by omega) (by omega)
      refine ⟨c, r ++ [UInt8.ofNat (48 + u % 10)], ?_, hc⟩
      rw [decD_big h, e]
      rfl
theorem nD_le : ∀ (k u : Nat), u < 10 ^ (k + 1) → Lib.nDigits u ≤ k + 1
  | 0, u, h => by
    rw [Lib.nDigits_small (by simpa using h)]
    exact Nat.le_refl _
  | k + 1, u, h => by
    by_cases h1 : u < 10
    · rw [Lib.nDigits_small h1]; omega
    · rw [Lib.nDigits_big h1]
      have := nD_le k (u / 10) (by rw [Nat.pow_succ] at h; omega)
      omega
theorem numP_eq {s : ByteArray} (hs : 0 < s.size) : numP s = (digL s.data.toList && numR s.data.toList) := by
  have hne : s.data.toList ≠ [] := by
    intro e
    have := congrArg List.length e
    rw [Array.length_toList] at this
    have h2 : s.data.size = s.size := rfl
    rw [h2] at this
    simp only [List.length_nil] at this
    omega
  have hM : (2147483647 : Nat) ≤ 2 ^ 64 - 1 := by decide
  have ht : s.toList = s.data.toList := ByteArray.toList_eq ..
  unfold numP
  rw [ht]
  generalize s.data.toList = l at *
  rw [Bool.eq_iff_iff]
  constructor
  · intro h
    split at h
    · rename_i u hu
      unfold Lib.parseUintB at hu
      rw [if_neg hne] at hu
      have hv := parseM_val _ _ _ _ hu
      obtain ⟨hb, hd⟩ := Bool.and_eq_true_iff.1 h
      have hb := of_decide_eq_true hb
      have hd : Lib.decDigits u = l := eq_of_beq hd
      have hdg : ∀ c ∈ l, 48 ≤ c.toNat ∧ c.toNat ≤ 57 := by rw [← hd]; exact decDigits_dig u
      have hlen : l.length ≤ 10 := by
        rw [← hd, Lib.decDigits_length]
        exact nD_le 9 u (Nat.lt_of_le_of_lt hb (by decide))
      refine Bool.and_eq_true_iff.2 ⟨digL_iff.2 hdg, ?_⟩
      unfold numR
      rw [decide_eq_false (show ¬ 10 < l.length by omega), hv, decide_eq_true hb]
      have : (decide (l.head? = some 48) && decide (1 < l.length)) = false := by
        by_cases h0 : u = 0
        · have : l = [48] := by rw [← hd, h0]; exact decD_small (by decide)
          rw [this]
          rfl
        · obtain ⟨c, r, e, hc⟩ := decD_head u (by omega)
          rw [hd] at e
          have hn : ¬ l.head? = some 48 := by
            rw [e]
            intro hh
            injection hh with hh
            rw [hh] at hc
            exact absurd hc (by decide)
          rw [decide_eq_false hn]
          rfl
      rw [this]
      rfl
    · cases h
  · intro h
    obtain ⟨hd, hn⟩ := Bool.and_eq_true_iff.1 h
    have hdg := digL_iff.1 hd
    unfold numR at hn
    obtain ⟨h1, hn⟩ := Bool.and_eq_true_iff.1 hn
    obtain ⟨h2, h3⟩ := Bool.and_eq_true_iff.1 hn
    have h3 := of_decide_eq_true h3
    have hp : Lib.parseUintB 64 l = .ok (valF 0 l) := by
      unfold Lib.parseUintB
      rw [if_neg hne]
      exact parseM_ok _ hM l 0 hdg h3
    rw [hp]
    refine Bool.and_eq_true_iff.2 ⟨decide_eq_true h3, beq_iff_eq.2 ?_⟩
    cases l with
    | nil => exact absurd rfl hne
    | cons c r =>
      have hc := hdg c (List.mem_cons_self ..)
      cases r with
      | nil =>
        show Lib.decDigits (0 * 10 + (c.toNat - 48)) = [c]
        rw [show 0 * 10 + (c.toNat - 48) = c.toNat - 48 by omega, decD_small (by omega), ofNat_dig c hc]
      | cons b q =>
        have hc0 : ¬ c = 48 := by
          intro e
          rw [e] at h2
          simp at h2
        have hc1 : c.toNat ≠ 48 := fun e => hc0 (UInt8.toNat_inj.1 e)
        show Lib.decDigits (valF (0 * 10 + (c.toNat - 48)) (b :: q)) = _
        rw [decD_fold (b :: q) _ (by omega) (fun x hx => hdg x (List.mem_cons_of_mem _ hx)), show 0 * 10 + (c.toNat - 48) = c.toNat - 48 by omega, decD_small (by omega), ofNat_dig c hc]
        rfl
/-! ### the reference -/
/-- Where a run of letters, digits and _ ends, and how many runes it has. -/
def runR (s : ByteArray) : Nat → Nat → Nat × Nat
  | 0, pos => (pos, 0)
  | f + 1, pos => if pos < s.size ∧ insideZ (lxRune s pos) = true then ((runR s f (pos + (Utf8.decode s pos).2)).1, (runR s f (pos + (Utf8.decode s pos).2)).2 + 1) else (pos, 0)
/-- Where a remark ends, and the column there. -/
def remR (s : ByteArray) : Nat → Nat → Int → Nat × Int
  | 0, pos, c => (pos, c)
  | f + 1, pos, c => if pos < s.size ∧ (s.get! pos).toNat ≠ 10 then remR s f (pos + (Utf8.decode s pos).2) (c + 1) else (pos, c)
def rightR (x : Wd) (r : Int) : Bool := if x.kind = 1 then nameV (runesOf x.text) else if x.kind = 2 then digL x.text.data.toList && numR x.text.data.toList else signV r
/-- The word that begins at a place, where it ends, how many runes it has. -/
def wdR (s : ByteArray) (pos : Nat) (l c : Int) : Wd × Nat × Nat :=
  if letterZ (lxRune s pos) = true then (⟨1, s.extract pos (runR s s.size pos).1, l, c⟩, (runR s s.size pos).1, (runR s s.size pos).2)
  else if digitZ (lxRune s pos) = true then (⟨2, s.extract pos (runR s s.size pos).1, l, c⟩, (runR s s.size pos).1, (runR s s.size pos).2)
  else (⟨3, s.extract pos (pos + (Utf8.decode s pos).2), l, c⟩, pos + (Utf8.decode s pos).2, 1)
def refW (s : ByteArray) : Nat → Nat → List Wd → Int → Int → List Wd × Int × Int × Int
  | 0, _, out, _, _ => (out, 0, 0, 0)
  | f + 1, pos, out, l, c =>
    if pos < s.size then
      if lxRune s pos = 10 then refW s f (pos + 1) out (l + 1) 1
      else if lxRune s pos = 32 ∨ lxRune s pos = 9 then refW s f (pos + 1) out l (c + 1)
      else if lxRune s pos = 47 ∧ pos + 1 < s.size ∧ (s.get! (pos + 1)).toNat = 47 then refW s f (remR s s.size pos c).1 out l (remR s s.size pos c).2
      else if rightR (wdR s pos l c).1 (lxRune s pos) = true then
        (if out.length = 4000 then ([], l, c, 4) else refW s f (wdR s pos l c).2.1 (out ++ [(wdR s pos l c).1]) l (c + (wdR s pos l c).2.2))
      else ([], l, c, 6)
    else (out, 0, 0, 0)
def refWords (s : ByteArray) : List Wd × Int × Int × Int := if 20000 < s.size then ([], 1, 1, 4) else refW s s.size 0 [] 1 1
/-! ### bytes and runes -/
theorem lxRune_byte {s : ByteArray} {pos b : Nat} (hb : b < 128) (h : lxRune s pos = (b : Int)) : (s.get! pos).toNat = b := by
  unfold lxRune at h
  split at h
  · omega
  · have h1 : (Utf8.decode s pos).1 = b := by omega
    rw [Lib.decode_at] at h1
    unfold Lib.decodeN at h1
    repeat' split at h1
    all_goals (dsimp only at h1; omega)
theorem lxRune_wid {s : ByteArray} {pos b : Nat} (hb : b < 128) (h : lxRune s pos = (b : Int)) : (Utf8.decode s pos).2 = 1 := by
  rw [decode_plain (lxRune_byte hb h) hb]
theorem runR_le (s : ByteArray) : ∀ (f pos : Nat), pos ≤ s.size → pos ≤ (runR s f pos).1 ∧ (runR s f pos).1 ≤ s.size ∧ (runR s f pos).2 ≤ (runR s f pos).1 - pos
  | 0, pos, h => by unfold runR; exact ⟨Nat.le_refl _, h, by omega⟩
  | f + 1, pos, h => by
    unfold runR
    split
    · rename_i hc
      have hw := Lib.width_pos s pos
      have hi := width_in hc.1
      have := runR_le s f (pos + (Utf8.decode s pos).2) hi
      dsimp only
      omega
    · exact ⟨Nat.le_refl _, h, by omega⟩
theorem runR_go {s : ByteArray} {f pos : Nat} (hf : s.size ≤ pos + f) (hp : pos < s.size) (hi : insideZ (lxRune s pos) = true) : pos < (runR s f pos).1 := by
  cases f with
  | zero => omega
  | succ f =>
    unfold runR
    rw [if_pos ⟨hp, hi⟩]
    have hw := Lib.width_pos s pos
    have := runR_le s f (pos + (Utf8.decode s pos).2) (width_in hp)
    dsimp only
    omega
theorem remR_le (s : ByteArray) : ∀ (f pos : Nat) (c : Int), pos ≤ s.size → pos ≤ (remR s f pos c).1 ∧ (remR s f pos c).1 ≤ s.size ∧ c ≤ (remR s f pos c).2 ∧ (remR s f pos c).2 ≤ c + ((remR s f pos c).1 - pos : Nat)
  | 0, pos, c, h => by unfold remR; exact ⟨Nat.le_refl _, h, Int.le_refl _, by omega⟩
  | f + 1, pos, c, h => by
    unfold remR
    split
    · rename_i hc
      have hw := Lib.width_pos s pos
      have hi := width_in hc.1
      have := remR_le s f (pos + (Utf8.decode s pos).2) (c + 1) hi
      omega
    · exact ⟨Nat.le_refl _, h, Int.le_refl _, by omega⟩
theorem remR_go {s : ByteArray} {f pos : Nat} (hf : s.size ≤ pos + f) (hp : pos < s.size) (hi : (s.get! pos).toNat ≠ 10) (c : Int) : pos < (remR s f pos c).1 := by
  cases f with
  | zero => omega
  | succ f =>
    unfold remR
    rw [if_pos ⟨hp, hi⟩]
    have hw := Lib.width_pos s pos
    have := remR_le s f (pos + (Utf8.decode s pos).2) (c + 1) (width_in hp)
    omega
/-! ### the scanner goes as the reference does -/
theorem runR_fuel (s : ByteArray) : ∀ (f g pos : Nat), s.size ≤ pos + f → s.size ≤ pos + g → runR s f pos = runR s g pos
  | 0, 0, _, _, _ => rfl
  | 0, g + 1, pos, hf, _ => by unfold runR; rw [if_neg (by omega)]
  | f + 1, 0, pos, _, hg => by unfold runR; rw [if_neg (by omega)]
  | f + 1, g + 1, pos, hf, hg => by
    have hw := Lib.width_pos s pos
    unfold runR
    rw [runR_fuel s f g _ (by omega) (by omega)]
/-- A run of inside runes: only the column moves. -/
theorem scan_run (s : ByteArray) : ∀ (f pos : Nat) (σ : Sc), s.size ≤ pos + f → pos ≤ s.size → σ.note = false → σ.slash = false → 0 ≤ σ.from_ → σ.end_ = 0 →
    scanC s pos σ = scanC s (runR s f pos).1 { σ with col := σ.col + (runR s f pos).2 } ∧ ((runR s f pos).1 < s.size → insideZ (lxRune s (runR s f pos).1) = false)
  | 0, pos, σ, hf, hp, _, _, _, _ => by
    unfold runR
    refine ⟨?_, fun h => absurd h (by dsimp only; omega)⟩
    show scanC s pos σ = scanC s pos { σ with col := σ.col + 0 }
    rw [Int.add_zero]
  | f + 1, pos, σ, hf, hp, h1, h2, h3, he => by
    by_cases hc : pos < s.size ∧ insideZ (lxRune s pos) = true
    · have hw := Lib.width_pos s pos
      have hi := width_in hc.1
      have ih := scan_run s f (pos + (Utf8.decode s pos).2) { σ with col := σ.col + 1 } (by omega) hi h1 h2 h3 he
      unfold runR
      rw [if_pos hc]
      dsimp only
      refine ⟨?_, ih.2⟩
      rw [scanC_step hc.1, nextS_ins s pos _ hc.2 h1 h2 h3, if_pos (show ({ σ with col := σ.col + 1 } : Sc).end_ = 0 from he), ih.1]
      dsimp only
      rw [show σ.col + 1 + ((runR s f (pos + (Utf8.decode s pos).2)).2 : Int) = σ.col + (((runR s f (pos + (Utf8.decode s pos).2)).2 + 1 : Nat) : Int) by omega]
    · unfold runR
      rw [if_neg hc]
      refine ⟨?_, fun h => ?_⟩
      · show scanC s pos σ = scanC s pos { σ with col := σ.col + 0 }
        rw [Int.add_zero]
      · have : ¬ insideZ (lxRune s pos) = true := fun e => hc ⟨h, e⟩
        exact Bool.eq_false_iff.2 this
/-- A remark: only the column moves. -/
theorem scan_rem (s : ByteArray) : ∀ (f pos : Nat) (σ : Sc), s.size ≤ pos + f → pos ≤ s.size → σ.note = true → σ.from_ < 0 → σ.end_ = 0 →
    scanC s pos σ = scanC s (remR s f pos σ.col).1 { σ with col := (remR s f pos σ.col).2 } ∧ ((remR s f pos σ.col).1 < s.size → (s.get! (remR s f pos σ.col).1).toNat = 10)
  | 0, pos, σ, hf, hp, _, _, _ => by
    unfold remR
    exact ⟨rfl, fun h => absurd h (by dsimp only; omega)⟩
  | f + 1, pos, σ, hf, hp, h1, h3, he => by
    by_cases hc : pos < s.size ∧ (s.get! pos).toNat ≠ 10
    · have hw := Lib.width_pos s pos
      have hi := width_in hc.1
      have hr : ¬ lxRune s pos = 10 := fun e => hc.2 (lxRune_ten e)
      have hn : nextS σ s pos (lxRune s pos) = { σ with col := σ.col + 1 } := by
        unfold nextS preS midS
        rw [if_neg (show ¬ (0 ≤ σ.from_ ∧ insideZ (lxRune s pos) = false) by omega), if_pos h1, finS_F hr, dec_F hr]
        rw [← h1]
      have ih := scan_rem s f (pos + (Utf8.decode s pos).2) { σ with col := σ.col + 1 } (by omega) hi h1 h3 he
      unfold remR
      rw [if_pos hc]
      refine ⟨?_, ih.2⟩
      rw [scanC_step hc.1, hn, if_pos (show ({ σ with col := σ.col + 1 } : Sc).end_ = 0 from he), ih.1]
    · unfold remR
      rw [if_neg hc]
      refine ⟨rfl, fun h => ?_⟩
      by_cases h10 : (s.get! pos).toNat = 10
      · exact h10
      · exact absurd ⟨h, h10⟩ hc
theorem wordsOf_err {s : ByteArray} {σ : Sc} (h : σ.end_ ≠ 0) : wordsOf s σ = ([], σ.pl, σ.pc, σ.end_) := by
  unfold wordsOf outS
  rw [if_neg h, if_neg h]
theorem lastS_F {σ : Sc} (h : σ.slash = false) : lastS σ = σ := by
  unfold lastS
  rw [if_neg (by rw [h]; decide)]
theorem outS_T {σ : Sc} (h : σ.end_ = 0) : outS σ = (σ.words, 0, 0, 0) := if_pos h
theorem outS_F {σ : Sc} (h : σ.end_ ≠ 0) : outS σ = ([], σ.pl, σ.pc, σ.end_) := if_neg h
theorem outL_F {σ : Sc} (h : σ.slash = false) (he : σ.end_ ≠ 0) : outS (lastS σ) = ([], σ.pl, σ.pc, σ.end_) := by rw [lastS_F h, outS_F he]
theorem outL_T {σ : Sc} (h : σ.slash = false) (he : σ.end_ = 0) : outS (lastS σ) = (σ.words, 0, 0, 0) := by rw [lastS_F h, outS_T he]
theorem wordsOf_ok {s : ByteArray} {σ : Sc} (h : σ.end_ = 0) (h1 : σ.slash = false) (h2 : σ.from_ < 0) : wordsOf s σ = (σ.words, 0, 0, 0) := by
  unfold wordsOf shutS
  rw [if_pos h, if_pos h2, lastS_F h1, outS_T h]
theorem failS_hold {σ : Sc} (h : σ.end_ ≠ 0) (e l c : Int) : failS σ e l c = σ := by
  unfold failS
  rw [if_neg h]
/-- An error stays. -/
theorem midS_hold {σ : Sc} (h : σ.end_ ≠ 0) (i r : Int) : (midS σ i r).end_ = σ.end_ ∧ (midS σ i r).pl = σ.pl ∧ (midS σ i r).pc = σ.pc := by
  unfold midS
  split
  · exact ⟨rfl, rfl, rfl⟩
  split
  · split
    · exact ⟨rfl, rfl, rfl⟩
    · rw [failS_hold h]; exact ⟨rfl, rfl, rfl⟩
  split
  · unfold runeS
    split
    · exact ⟨rfl, rfl, rfl⟩
    split
    · exact ⟨rfl, rfl, rfl⟩
    split
    · exact ⟨rfl, rfl, rfl⟩
    split
    · unfold addS
      split
      · rw [failS_hold h]; exact ⟨rfl, rfl, rfl⟩
      · exact ⟨rfl, rfl, rfl⟩
    split
    · exact ⟨rfl, rfl, rfl⟩
    · rw [failS_hold h]; exact ⟨rfl, rfl, rfl⟩
  · exact ⟨rfl, rfl, rfl⟩
theorem finS_hold (σ : Sc) (r : Int) : (finS σ r).end_ = σ.end_ ∧ (finS σ r).pl = σ.pl ∧ (finS σ r).pc = σ.pc := by
  unfold finS
  split <;> exact ⟨rfl, rfl, rfl⟩
theorem scan_err {s : ByteArray} {σ : Sc} {pos : Nat} (hp : pos < s.size) {e l c : Int} (he : e ≠ 0) (h : (preS σ s pos (lxRune s pos)).end_ = e ∧ (preS σ s pos (lxRune s pos)).pl = l ∧ (preS σ s pos (lxRune s pos)).pc = c) :
    wordsOf s (scanC s pos σ) = ([], l, c, e) := by
  have h1 := midS_hold (σ := preS σ s pos (lxRune s pos)) (by rw [h.1]; exact he) pos (lxRune s pos)
  have h2 := finS_hold (midS (preS σ s pos (lxRune s pos)) pos (lxRune s pos)) (lxRune s pos)
  have h3 : (nextS σ s pos (lxRune s pos)).end_ = e ∧ (nextS σ s pos (lxRune s pos)).pl = l ∧ (nextS σ s pos (lxRune s pos)).pc = c := by
    unfold nextS
    exact ⟨h2.1.trans (h1.1.trans h.1), h2.2.1.trans (h1.2.1.trans h.2.1), h2.2.2.trans (h1.2.2.trans h.2.2)⟩
  rw [scanC_step hp, if_neg (by rw [h3.1]; exact he), wordsOf_err (by rw [h3.1]; exact he), h3.1, h3.2.1, h3.2.2]
theorem scan_err2 {s : ByteArray} {σ : Sc} {pos : Nat} (hp : pos < s.size) {e l c : Int} (he : e ≠ 0) (h : (midS (preS σ s pos (lxRune s pos)) pos (lxRune s pos)).end_ = e ∧ (midS (preS σ s pos (lxRune s pos)) pos (lxRune s pos)).pl = l ∧ (midS (preS σ s pos (lxRune s pos)) pos (lxRune s pos)).pc = c) :
    wordsOf s (scanC s pos σ) = ([], l, c, e) := by
  have h2 := finS_hold (midS (preS σ s pos (lxRune s pos)) pos (lxRune s pos)) (lxRune s pos)
  have h3 : (nextS σ s pos (lxRune s pos)).end_ = e ∧ (nextS σ s pos (lxRune s pos)).pl = l ∧ (nextS σ s pos (lxRune s pos)).pc = c := by
    unfold nextS
    exact ⟨h2.1.trans h.1, h2.2.1.trans h.2.1, h2.2.2.trans h.2.2⟩
  rw [scanC_step hp, if_neg (by rw [h3.1]; exact he), wordsOf_err (by rw [h3.1]; exact he), h3.1, h3.2.1, h3.2.2]
theorem rightV_R {x : Wd} {r : Int} (hk : x.kind = 1 ∨ x.kind = 2) (hz : 0 < x.text.size) : rightV x = rightR x r := by
  unfold rightV rightR
  rcases hk with hk | hk
  · rw [if_pos hk, if_pos hk]
  · rw [if_neg (by omega), if_neg (by omega), if_pos hk, numP_eq hz]
/-- An open word is shut where it ends. -/
theorem scan_word {s : ByteArray} {σ : Sc} {pos p : Nat} {r : Int} (h1 : σ.note = false) (h2 : σ.slash = false) (h3 : σ.from_ = (pos : Int)) (he : σ.end_ = 0) (hk : σ.ok.kind = 1 ∨ σ.ok.kind = 2) (hpp : pos < p) (hp : p ≤ s.size)
    (hin : p < s.size → insideZ (lxRune s p) = false) (o : Wd) (ho : { σ.ok with text := s.extract pos p } = o) :
    wordsOf s (scanC s p σ) = if rightR o r = true then (if σ.words.length = 4000 then ([], o.line, o.col, 4) else wordsOf s (scanC s p { σ with ok := o, from_ := -1, words := σ.words ++ [o] })) else ([], o.line, o.col, 6) := by
  have hoo : { σ.ok with text := s.extract σ.from_.toNat (p : Int).toNat } = o := by rw [h3]; exact ho
  have hz : 0 < o.text.size := by
    rw [← ho]
    show 0 < (s.extract pos p).size
    rw [ByteArray.size_extract]
    omega
  have hkk : o.kind = 1 ∨ o.kind = 2 := by rw [← ho]; exact hk
  have hsh := shutS_eq (show 0 ≤ σ.from_ by omega) s p o hoo
  rw [rightV_R (r := r) hkk hz] at hsh
  by_cases hlt : p < s.size
  · have hpre : preS σ s p (lxRune s p) = shutS σ s p := by
      unfold preS
      rw [if_pos ⟨by omega, hin hlt⟩]
    by_cases hr : rightR o r = true
    · rw [if_pos hr] at hsh ⊢
      by_cases hl : σ.words.length = 4000
      · rw [if_pos hl]
        refine scan_err hlt (by decide) ?_
        rw [hpre, hsh]
        unfold addS failS
        rw [if_pos hl, if_pos (show ({ σ with ok := o, from_ := -1 } : Sc).end_ = 0 from he)]
        exact ⟨rfl, rfl, rfl⟩
      · rw [if_neg hl]
        have hadd : shutS σ s p = { σ with ok := o, from_ := -1, words := σ.words ++ [o] } := by
          rw [hsh]
          unfold addS
          rw [if_neg hl]
        have hn : nextS σ s p (lxRune s p) = nextS { σ with ok := o, from_ := -1, words := σ.words ++ [o] } s p (lxRune s p) := by
          unfold nextS
          rw [hpre, hadd]
          have hp2 : preS { σ with ok := o, from_ := -1, words := σ.words ++ [o] } s p (lxRune s p) = { σ with ok := o, from_ := -1, words := σ.words ++ [o] } := by
            unfold preS
            rw [if_neg]
            rintro ⟨q, _⟩
            exact absurd (show (0 : Int) ≤ -1 from q) (by decide)
          rw [hp2]
        rw [scanC_step hlt, scanC_step hlt, hn]
    · rw [if_neg hr] at hsh ⊢
      refine scan_err hlt (by decide) ?_
      rw [hpre, hsh]
      unfold failS
      rw [if_pos (show ({ σ with ok := o, from_ := -1 } : Sc).end_ = 0 from he)]
      exact ⟨rfl, rfl, rfl⟩
  · obtain rfl : p = s.size := by omega
    rw [scanC_end (Nat.le_refl _), scanC_end (Nat.le_refl _)]
    have hw : wordsOf s σ = outS (lastS (shutS σ s s.size)) := by
      unfold wordsOf
      rw [if_pos he]
    rw [hw, hsh]
    by_cases hr : rightR o r = true
    · rw [if_pos hr, if_pos hr]
      unfold addS
      by_cases hl : σ.words.length = 4000
      · rw [if_pos hl, if_pos hl]
        unfold failS
        rw [if_pos (show ({ σ with ok := o, from_ := -1 } : Sc).end_ = 0 from he)]
        exact outL_F h2 (show (4 : Int) ≠ 0 by decide)
      · rw [if_neg hl, if_neg hl]
        rw [wordsOf_ok (s := s) (σ := { σ with ok := o, from_ := -1, words := σ.words ++ [o] }) he h2 (show (-1 : Int) < 0 by decide)]
        exact outL_T h2 he
    · rw [if_neg hr, if_neg hr]
      unfold failS
      rw [if_pos (show ({ σ with ok := o, from_ := -1 } : Sc).end_ = 0 from he)]
      exact outL_F h2 (show (6 : Int) ≠ 0 by decide)
theorem preS_out {σ : Sc} (h : σ.from_ < 0) (s : ByteArray) (i r : Int) : preS σ s i r = σ := by
  unfold preS
  rw [if_neg]
  omega
theorem ext_byte {s : ByteArray} {pos : Nat} (h : pos < s.size) : s.extract pos (pos + 1) = ⟨#[s.get! pos]⟩ := by
  apply ByteArray.ext
  have hd : s.get! pos = s.data[pos]'h := getElem!_pos s.data pos h
  rw [ByteArray.data_extract, hd]
  apply Array.ext
  · simp
    have : s.data.size = s.size := rfl
    omega
  · intro i h1 h2
    have hi : i = 0 := by simp at h2; omega
    subst hi
    simp
theorem ref_eq (s : ByteArray) : ∀ (f pos : Nat) (σ : Sc), s.size ≤ pos + f → pos ≤ s.size → Nd σ → σ.end_ = 0 → wordsOf s (scanC s pos σ) = refW s f pos σ.words σ.line σ.col
  | 0, pos, σ, hf, hp, h, he => by
    rw [scanC_end (by omega), wordsOf_ok he h.2.1 h.2.2]
    rfl
  | f + 1, pos, σ, hf, hp, h, he => by
    unfold refW
    by_cases hlt : pos < s.size
    rotate_left
    · rw [if_neg hlt, scanC_end (by omega), wordsOf_ok he h.2.1 h.2.2]
    rw [if_pos hlt]
    have hw := Lib.width_pos s pos
    have hin := width_in hlt
    have hpre : preS σ s pos (lxRune s pos) = σ := by
      unfold preS
      rw [if_neg]
      have := h.2.2
      omega
    have hmid : midS σ pos (lxRune s pos) = runeS σ pos (lxRune s pos) := by
      unfold midS
      rw [if_neg (show ¬ σ.note = true by rw [h.1]; decide), if_neg (show ¬ σ.slash = true by rw [h.2.1]; decide), if_pos h.2.2]
    have hnx : nextS σ s pos (lxRune s pos) = finS (runeS σ pos (lxRune s pos)) (lxRune s pos) := by
      unfold nextS
      rw [hpre, hmid]
    by_cases h10 : lxRune s pos = 10
    · rw [if_pos h10]
      have hn : nextS σ s pos (lxRune s pos) = { σ with line := σ.line + 1, col := 1 } := by
        rw [hnx]
        unfold runeS
        rw [if_pos (Or.inr (Or.inr h10)), finS_T h10]
      have hwd := lxRune_wid (b := 10) (by decide) h10
      rw [scanC_step hlt, hn, if_pos (show ({ σ with line := σ.line + 1, col := 1 } : Sc).end_ = 0 from he), hwd]
      exact ref_eq s f (pos + 1) { σ with line := σ.line + 1, col := 1 } (by omega) (by omega) h he
    rw [if_neg h10]
    by_cases h32 : lxRune s pos = 32 ∨ lxRune s pos = 9
    · rw [if_pos h32]
      have hn : nextS σ s pos (lxRune s pos) = { σ with col := σ.col + 1 } := by
        rw [hnx]
        unfold runeS
        rw [if_pos (by rcases h32 with e | e; exact .inl e; exact .inr (.inl e)), finS_F h10]
      have hwd : (Utf8.decode s pos).2 = 1 := by
        rcases h32 with e | e
        · exact lxRune_wid (b := 32) (by decide) e
        · exact lxRune_wid (b := 9) (by decide) e
      rw [scanC_step hlt, hn, if_pos (show ({ σ with col := σ.col + 1 } : Sc).end_ = 0 from he), hwd]
      exact ref_eq s f (pos + 1) { σ with col := σ.col + 1 } (by omega) (by omega) h he
    rw [if_neg h32]
    have hnb : ¬ (lxRune s pos = 32 ∨ lxRune s pos = 9 ∨ lxRune s pos = 10) := by
      rintro (e | e | e)
      · exact h32 (.inl e)
      · exact h32 (.inr e)
      · exact h10 e
    by_cases hsl : lxRune s pos = 47
    · have hbyte := lxRune_byte (b := 47) (by decide) hsl
      have hwd := lxRune_wid (b := 47) (by decide) hsl
      have hn : nextS σ s pos (lxRune s pos) = { σ with slash := true, bl := σ.line, bc := σ.col, col := σ.col + 1 } := by
        rw [hnx, hsl]
        unfold runeS
        rw [if_neg (by decide), if_neg (by decide), if_neg (by decide), if_neg (by decide), if_pos rfl, finS_F (by decide)]
      rw [scanC_step hlt, hn, if_pos (show ({ σ with slash := true, bl := σ.line, bc := σ.col, col := σ.col + 1 } : Sc).end_ = 0 from he), hwd]
      by_cases h2 : lxRune s pos = 47 ∧ pos + 1 < s.size ∧ (s.get! (pos + 1)).toNat = 47
      · rw [if_pos h2]
        have hr2 : lxRune s (pos + 1) = 47 := lxRune_plain h2.2.2 (by decide)
        have hwd2 := lxRune_wid (b := 47) (by decide) hr2
        have hn2 : nextS { σ with slash := true, bl := σ.line, bc := σ.col, col := σ.col + 1 } s ((pos + 1 : Nat) : Int) (lxRune s (pos + 1)) = { σ with note := true, slash := false, bl := σ.line, bc := σ.col, col := σ.col + 1 + 1 } := by
          unfold nextS
          rw [preS_out (σ := { σ with slash := true, bl := σ.line, bc := σ.col, col := σ.col + 1 }) h.2.2]
          unfold midS
          rw [if_neg (show ¬ σ.note = true by rw [h.1]; decide), if_pos rfl, if_pos hr2, finS_F (by rw [hr2]; decide)]
        rw [scanC_step h2.2.1, hn2, if_pos (show ({ σ with note := true, slash := false, bl := σ.line, bc := σ.col, col := σ.col + 1 + 1 } : Sc).end_ = 0 from he), hwd2]
        have hsr := scan_rem s (s.size - 1 - 1) (pos + 1 + 1) { σ with note := true, slash := false, bl := σ.line, bc := σ.col, col := σ.col + 1 + 1 } (by omega) (by omega) rfl h.2.2 he
        have hrr : remR s s.size pos σ.col = remR s (s.size - 1 - 1) (pos + 1 + 1) (σ.col + 1 + 1) := by
          rw [show s.size = (s.size - 1 - 1) + 1 + 1 by omega]
          rw [remR, ← show s.size = (s.size - 1 - 1) + 1 + 1 by omega, if_pos ⟨hlt, by rw [hbyte]; decide⟩, hwd, remR, if_pos ⟨h2.2.1, by rw [h2.2.2]; decide⟩, hwd2]
        have hle := remR_le s s.size pos σ.col (by omega)
        have hgo := remR_go (f := s.size) (by omega) hlt (by rw [hbyte]; decide) σ.col
        dsimp only at hsr
        rw [← hrr] at hsr
        rw [hsr.1]
        have hsr2 := hsr.2
        clear hsr hrr
        generalize (remR s s.size pos σ.col).1 = p at *
        generalize (remR s s.size pos σ.col).2 = c at *
        by_cases hpz : p < s.size
        · have hb10 := hsr2 hpz
          have hr10 : lxRune s p = 10 := lxRune_plain hb10 (by decide)
          have hwp := lxRune_wid (b := 10) (by decide) hr10
          obtain ⟨g, rfl⟩ : ∃ g, f = g + 1 := ⟨f - 1, by omega⟩
          unfold refW
          rw [if_pos hpz, if_pos hr10]
          have hn3 : nextS { σ with note := true, slash := false, bl := σ.line, bc := σ.col, col := c } s p (lxRune s p) = { σ with note := false, slash := false, bl := σ.line, bc := σ.col, line := σ.line + 1, col := 1 } := by
            unfold nextS
            rw [preS_out (σ := { σ with note := true, slash := false, bl := σ.line, bc := σ.col, col := c }) h.2.2]
            unfold midS
            rw [if_pos rfl, finS_T hr10, dec_T hr10]
          rw [scanC_step hpz, hn3, if_pos (show ({ σ with note := false, slash := false, bl := σ.line, bc := σ.col, line := σ.line + 1, col := 1 } : Sc).end_ = 0 from he), hwp]
          exact ref_eq s g (p + 1) { σ with note := false, slash := false, bl := σ.line, bc := σ.col, line := σ.line + 1, col := 1 } (by omega) (by omega) ⟨rfl, rfl, h.2.2⟩ he
        · rw [scanC_end (by omega)]
          rw [wordsOf_ok (s := s) (σ := { σ with note := true, slash := false, bl := σ.line, bc := σ.col, col := c }) he rfl h.2.2]
          cases f with
          | zero => rfl
          | succ g => unfold refW; rw [if_neg hpz]
      · rw [if_neg h2]
        have hnr : ¬ rightR (wdR s pos σ.line σ.col).1 (lxRune s pos) = true := by
          have hwr : wdR s pos σ.line σ.col = (⟨3, s.extract pos (pos + (Utf8.decode s pos).2), σ.line, σ.col⟩, pos + (Utf8.decode s pos).2, 1) := by
            unfold wdR
            rw [if_neg (by rw [hsl]; decide), if_neg (by rw [hsl]; decide)]
          rw [hwr]
          unfold rightR
          rw [if_neg (show ¬ (3 : Int) = 1 by decide), if_neg (show ¬ (3 : Int) = 2 by decide), hsl]
          decide
        rw [if_neg hnr]
        by_cases hp2 : pos + 1 < s.size
        · have hr2 : ¬ lxRune s (pos + 1) = 47 := fun e => h2 ⟨hsl, hp2, lxRune_byte (b := 47) (by decide) e⟩
          refine scan_err2 hp2 (by decide) ?_
          have hpre2 : preS { σ with slash := true, bl := σ.line, bc := σ.col, col := σ.col + 1 } s ((pos + 1 : Nat) : Int) (lxRune s (pos + 1)) = { σ with slash := true, bl := σ.line, bc := σ.col, col := σ.col + 1 } := by
            unfold preS
            rw [if_neg]
            have := h.2.2
            show ¬ (0 ≤ σ.from_ ∧ _)
            omega
          rw [hpre2]
          unfold midS
          rw [if_neg (show ¬ σ.note = true by rw [h.1]; decide), if_pos rfl, if_neg hr2]
          unfold failS
          rw [if_pos (show ({ σ with slash := true, bl := σ.line, bc := σ.col, col := σ.col + 1 } : Sc).end_ = 0 from he)]
          exact ⟨rfl, rfl, rfl⟩
        · rw [scanC_end (by omega)]
          unfold wordsOf shutS lastS failS
          rw [if_pos (show ({ σ with slash := true, bl := σ.line, bc := σ.col, col := σ.col + 1 } : Sc).end_ = 0 from he), if_pos (show ({ σ with slash := true, bl := σ.line, bc := σ.col, col := σ.col + 1 } : Sc).from_ < 0 from h.2.2), if_pos rfl, if_pos (show ({ σ with slash := true, bl := σ.line, bc := σ.col, col := σ.col + 1 } : Sc).end_ = 0 from he)]
          exact outS_F (show (6 : Int) ≠ 0 by decide)
    rw [if_neg (fun e => hsl e.1)]
    by_cases hld : letterZ (lxRune s pos) = true ∨ digitZ (lxRune s pos) = true
    · have hinz : insideZ (lxRune s pos) = true := by
        unfold insideZ
        rcases hld with e | e <;> rw [e] <;> simp
      obtain ⟨k, hk, hwr, hn⟩ : ∃ k : Int, (k = 1 ∨ k = 2) ∧ wdR s pos σ.line σ.col = (⟨k, s.extract pos (runR s s.size pos).1, σ.line, σ.col⟩, (runR s s.size pos).1, (runR s s.size pos).2) ∧ nextS σ s pos (lxRune s pos) = { σ with from_ := pos, ok := ⟨k, emptyB, σ.line, σ.col⟩, col := σ.col + 1 } := by
        by_cases hl : letterZ (lxRune s pos) = true
        · refine ⟨1, .inl rfl, ?_, ?_⟩
          · unfold wdR
            rw [if_pos hl]
          · rw [hnx]
            unfold runeS
            rw [if_neg hnb, if_pos hl, finS_F h10]
        · have hd : digitZ (lxRune s pos) = true := hld.resolve_left hl
          refine ⟨2, .inr rfl, ?_, ?_⟩
          · unfold wdR
            rw [if_neg hl, if_pos hd]
          · rw [hnx]
            unfold runeS
            rw [if_neg hnb, if_neg hl, if_pos hd, finS_F h10]
      have hrr : runR s s.size pos = ((runR s (s.size - 1) (pos + (Utf8.decode s pos).2)).1, (runR s (s.size - 1) (pos + (Utf8.decode s pos).2)).2 + 1) := by
        rw [show s.size = (s.size - 1) + 1 by omega]
        rw [runR, ← show s.size = (s.size - 1) + 1 by omega, if_pos ⟨hlt, hinz⟩]
      have hsr := scan_run s (s.size - 1) (pos + (Utf8.decode s pos).2) { σ with from_ := pos, ok := ⟨k, emptyB, σ.line, σ.col⟩, col := σ.col + 1 } (by omega) hin h.1 h.2.1 (show (0 : Int) ≤ pos by omega) he
      have hle := runR_le s s.size pos (by omega)
      have hgo := runR_go (f := s.size) (by omega) hlt hinz
      have e1 : (runR s (s.size - 1) (pos + (Utf8.decode s pos).2)).1 = (runR s s.size pos).1 := by rw [hrr]
      have e2 : σ.col + 1 + ((runR s (s.size - 1) (pos + (Utf8.decode s pos).2)).2 : Int) = σ.col + ((runR s s.size pos).2 : Int) := by rw [hrr]; dsimp only; omega
      dsimp only at hsr
      rw [e2, e1] at hsr
      rw [hwr]
      dsimp only
      rw [scanC_step hlt, hn, if_pos (show ({ σ with from_ := (pos : Int), ok := ⟨k, emptyB, σ.line, σ.col⟩, col := σ.col + 1 } : Sc).end_ = 0 from he), hsr.1]
      have hsr2 := hsr.2
      clear hsr hrr e1 e2 hwr
      generalize (runR s s.size pos).1 = p at *
      generalize ((runR s s.size pos).2 : Int) = n at *
      rw [scan_word (r := lxRune s pos) (pos := pos) (p := p) (σ := { σ with from_ := (pos : Int), ok := ⟨k, emptyB, σ.line, σ.col⟩, col := σ.col + n }) h.1 h.2.1 rfl he hk hgo hle.2.1 hsr2 ⟨k, s.extract pos p, σ.line, σ.col⟩ rfl]
      dsimp only
      split
      · split
        · rfl
        · exact ref_eq s f p { σ with from_ := -1, ok := ⟨k, s.extract pos p, σ.line, σ.col⟩, col := σ.col + n, words := σ.words ++ [⟨k, s.extract pos p, σ.line, σ.col⟩] } (by omega) hle.2.1 ⟨h.1, h.2.1, by show (-1 : Int) < 0; decide⟩ he
      · rfl
    · have hl : ¬ letterZ (lxRune s pos) = true := fun e => hld (.inl e)
      have hd : ¬ digitZ (lxRune s pos) = true := fun e => hld (.inr e)
      have hwr : wdR s pos σ.line σ.col = (⟨3, s.extract pos (pos + (Utf8.decode s pos).2), σ.line, σ.col⟩, pos + (Utf8.decode s pos).2, 1) := by
        unfold wdR
        rw [if_neg hl, if_neg hd]
      have hrt : rightR (wdR s pos σ.line σ.col).1 (lxRune s pos) = signV (lxRune s pos) := by
        rw [hwr]
        unfold rightR
        rw [if_neg (by show ¬ (3 : Int) = 1; decide), if_neg (by show ¬ (3 : Int) = 2; decide)]
      rw [hrt]
      by_cases hs : signV (lxRune s pos) = true
      · rw [if_pos hs]
        have hb : ∃ b : Nat, b < 128 ∧ lxRune s pos = (b : Int) ∧ Utf8.encode (b : Int) = ⟨#[b.toUInt8]⟩ := by
          rcases sign_cases hs with e | e | e | e | e | e | e
          · exact ⟨123, by decide, e, rfl⟩
          · exact ⟨125, by decide, e, rfl⟩
          · exact ⟨40, by decide, e, rfl⟩
          · exact ⟨41, by decide, e, rfl⟩
          · exact ⟨61, by decide, e, rfl⟩
          · exact ⟨59, by decide, e, rfl⟩
          · exact ⟨46, by decide, e, rfl⟩
        obtain ⟨b, hb, hbr, hbe⟩ := hb
        have hbyte := lxRune_byte hb hbr
        have hwd := lxRune_wid hb hbr
        have htx : Utf8.encode (lxRune s pos) = s.extract pos (pos + (Utf8.decode s pos).2) := by
          have hbb : b.toUInt8 = s.get! pos := by
            rw [← hbyte]
            exact UInt8.ofNat_toNat
          rw [hbr, hbe, hwd, ext_byte hlt, hbb]
        have hrn : runeS σ pos (lxRune s pos) = addS σ ⟨3, s.extract pos (pos + (Utf8.decode s pos).2), σ.line, σ.col⟩ := by
          unfold runeS
          rw [if_neg hnb, if_neg hl, if_neg hd, if_pos hs, htx]
        by_cases hlen : σ.words.length = 4000
        · rw [if_pos hlen]
          refine scan_err2 hlt (by decide) ?_
          rw [hpre, hmid, hrn]
          unfold addS failS
          rw [if_pos hlen, if_pos he]
          exact ⟨rfl, rfl, rfl⟩
        · rw [if_neg hlen, hwr]
          dsimp only
          have hn : nextS σ s pos (lxRune s pos) = { σ with words := σ.words ++ [⟨3, s.extract pos (pos + (Utf8.decode s pos).2), σ.line, σ.col⟩], col := σ.col + 1 } := by
            rw [hnx, hrn]
            unfold addS
            rw [if_neg hlen, finS_F h10]
          rw [scanC_step hlt, hn, if_pos (show ({ σ with words := σ.words ++ [⟨3, s.extract pos (pos + (Utf8.decode s pos).2), σ.line, σ.col⟩], col := σ.col + 1 } : Sc).end_ = 0 from he)]
          exact ref_eq s f (pos + (Utf8.decode s pos).2) { σ with words := σ.words ++ [⟨3, s.extract pos (pos + (Utf8.decode s pos).2), σ.line, σ.col⟩], col := σ.col + 1 } (by omega) hin h he
      · rw [if_neg hs]
        refine scan_err2 hlt (by decide) ?_
        rw [hpre, hmid]
        unfold runeS
        rw [if_neg hnb, if_neg hl, if_neg hd, if_neg hs, if_neg hsl]
        unfold failS
        rw [if_pos he]
        exact ⟨rfl, rfl, rfl⟩
theorem wordsP_ref (s : ByteArray) : wordsP s = refWords s := by
  unfold refWords
  split
  · rename_i h
    unfold wordsP
    rw [if_pos h]
  · rename_i h
    rw [wordsP_of (by omega)]
    exact ref_eq s s.size 0 lxInit (by omega) (by omega) ⟨rfl, rfl, by decide⟩ rfl
end Go.Proofs.YthnnleibngbclaaDoor.X
