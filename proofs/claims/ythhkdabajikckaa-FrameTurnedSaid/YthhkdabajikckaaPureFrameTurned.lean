/- The statement FrameTurned over plain values: a frame's bytes with one byte turned, or cut off, or with one more, are none; no further condition. -/
import Derived.Test.YthhkdabajikckaaGFrameTurned
import Derived.Test.YthhkdabajikckaaSpecParse
set_option linter.unusedVariables false
namespace Go.Proofs.Ythhkdabajikckaa.Pure
open Go.RowKit Go.Proofs.YthhkdabajikckaaW.PrintWords Go.Proofs.YthhkdabajikckaaW.PrintMore Go.Proofs.Ythhkdabajikckaa.Math Go.Proofs.Ythhkdabajikckaa.X Go.Proofs.Ythhkdabajikckaa

theorem encV_inj {n n' : Nat} (hn : n < 18446744073709551616) (hn' : n' < 18446744073709551616) {r r' : List Int} (h : encV n ++ r = encV n' ++ r') : n = n' ∧ r = r' := by
  have e := takeV_back r n 0 0 (by omega) (by omega)
  have e' := takeV_back r' n' 0 0 (by omega) (by omega)
  rw [h, e'] at e
  have e1 := congrArg Prod.fst e
  simp only at e1
  have : n = n' := by omega
  subst this
  exact ⟨rfl, List.append_cancel_left h⟩
theorem encs_inj : ∀ (ns ns' : List Nat) {r r' : List Int}, ns.length = ns'.length → (∀ m ∈ ns, m < 18446744073709551616) → (∀ m ∈ ns', m < 18446744073709551616) → X.encs ns ++ r = X.encs ns' ++ r' → ns = ns' ∧ r = r' := by
  intro ns
  induction ns with
  | nil =>
    intro ns' r r' hl _ _ h
    cases ns' with
    | nil => exact ⟨rfl, h⟩
    | cons => simp at hl
  | cons n ns ih =>
    intro ns' r r' hl h1 h2 h
    cases ns' with
    | nil => simp at hl
    | cons n' ns' =>
      simp only [X.encs, List.append_assoc] at h
      obtain ⟨rfl, h3⟩ := encV_inj (h1 n List.mem_cons_self) (h2 n' List.mem_cons_self) h
      obtain ⟨rfl, h4⟩ := ih ns' (by simpa using hl) (fun m hm => h1 m (List.mem_cons_of_mem _ hm)) (fun m hm => h2 m (List.mem_cons_of_mem _ hm)) h3
      exact ⟨rfl, h4⟩
/-- No frame's bytes begin another's. -/
theorem frame_prefix {f f' : FrameT} (hf : GoodFrame f) (hf' : GoodFrame f') {r : List Int} (h : frameB f' ++ r = frameB f) : r = [] := by
  obtain ⟨a0, a1, a2, a3, a4, a5, a6, a7, l⟩ := f
  obtain ⟨b0, b1, b2, b3, b4, b5, b6, b7, l'⟩ := f'
  have h1 := numsF_lt hf.2.1 hf.1
  have h2 := numsF_lt hf'.2.1 hf'.1
  simp only at h1 h2
  simp only [frameB, frameV, signed, List.cons_append, List.append_assoc] at h
  have h3 := List.cons.inj h
  obtain ⟨h4, h5⟩ := encs_inj _ _ (by simp [numsF]) h2 h1 h3.2
  have h6 : l'.length = l.length := by
    simp only [numsF, List.cons.injEq] at h4
    exact h4.2.2.2.2.2.2.2.2.1
  have h7 := congrArg List.length h5
  simp only [List.length_append, sumB, List.length_cons, List.length_nil] at h7
  exact List.length_eq_zero_iff.mp (by omega)
theorem set_parts {B S : List Int} {m : Nat} (h : m < (B ++ S).length) (x : Int) : (∃ p c q, B = p ++ c :: q ∧ (B ++ S).set m x = (p ++ x :: q) ++ S ∧ (B ++ S)[m]? = some c) ∨ (∃ p c q, S = p ++ c :: q ∧ (B ++ S).set m x = B ++ (p ++ x :: q) ∧ (B ++ S)[m]? = some c) := by
  have split : ∀ (l : List Int) (m : Nat), m < l.length → ∃ p c q, l = p ++ c :: q ∧ l.set m x = p ++ x :: q ∧ l[m]? = some c := by
    intro l
    induction l with
    | nil => intro m h; simp at h
    | cons y l ih =>
      intro m h
      cases m with
      | zero => exact ⟨[], y, l, rfl, rfl, rfl⟩
      | succ m =>
        obtain ⟨p, c, q, e1, e2, e3⟩ := ih m (by simpa using h)
        exact ⟨y :: p, c, q, by rw [e1]; rfl, by rw [List.set_cons_succ, e2]; rfl, by simpa using e3⟩
  rcases Nat.lt_or_ge m B.length with hlt | hge
  · obtain ⟨p, c, q, e1, e2, e3⟩ := split B m hlt
    exact .inl ⟨p, c, q, e1, by rw [List.set_append_left _ _ hlt, e2], by rw [List.getElem?_append_left hlt, e3]⟩
  · obtain ⟨p, c, q, e1, e2, e3⟩ := split S (m - B.length) (by rw [List.length_append] at h; omega)
    exact .inr ⟨p, c, q, e1, by rw [List.set_append_right _ _ hge, e2], by rw [List.getElem?_append_right hge, e3]⟩
/-- One byte turned: no frame. -/
theorem frame_turned {f f' : FrameT} (hf : GoodFrame f) (hf' : GoodFrame f') {m : Nat} (hm : m < (frameB f).length) {x c : Int} (hc : (frameB f)[m]? = some c) (hx : 0 ≤ x ∧ x < 256) (h : (frameB f).set m x = frameB f') : x = c := by
  have hl := congrArg List.length h
  rw [List.length_set] at hl
  obtain ⟨B, hB, hbB⟩ : ∃ B, frameB f = B ++ sumB (crcUpd 0 B) ∧ Bytes B := ⟨_, rfl, (Bytes.cons (by omega) (by omega) (encs_bytes _)).append hf.2.2⟩
  obtain ⟨B', hB', hbB'⟩ : ∃ B, frameB f' = B ++ sumB (crcUpd 0 B) ∧ Bytes B := ⟨_, rfl, (Bytes.cons (by omega) (by omega) (encs_bytes _)).append hf'.2.2⟩
  rw [hB, hB'] at hl
  simp only [List.length_append, sumB, List.length_cons, List.length_nil] at hl
  rw [hB] at hm hc h
  rw [hB'] at h
  rcases set_parts hm x with ⟨p, d, q, e1, e2, e3⟩ | ⟨p, d, q, e1, e2, e3⟩
  · rw [e3] at hc
    obtain rfl := Option.some.inj hc
    rw [e2] at h
    have e4 := congrArg List.length e1
    simp only [List.length_append, List.length_cons] at e4
    obtain ⟨h1, h2⟩ := List.append_inj h (by simp only [List.length_append, List.length_cons]; omega)
    have h3 := sumB_inj (crcUpd_lt (by omega) _ hbB) (crcUpd_lt (by omega) _ hbB') h2
    rw [← h1, e1] at h3
    have hd : 0 ≤ d ∧ d < 256 := hbB d (by rw [e1]; simp)
    exact (crcUpd_turn 0 p q d x hd hx h3).symm
  · rw [e3] at hc
    obtain rfl := Option.some.inj hc
    rw [e2] at h
    obtain ⟨h1, h2⟩ := List.append_inj h (by omega)
    subst h1
    rw [e1] at h2
    have := List.append_cancel_left h2
    exact (List.cons.inj this).1
theorem parsed_bad {l : List Int} (hb : Bytes l) (hl : l.length ≤ 10000) {k : Nat} (hk : 30000 ≤ k) (h : ∀ f, GoodFrame f → l ≠ frameB f) : parsedE k l = some 2 := by
  rcases parse_any hb hl hk with ⟨f, hf, e, _⟩ | ⟨_, e⟩
  · exact absurd e (h f hf)
  · unfold parsedE
    rw [e]
    rfl
theorem xor_byte {c d : Nat} (hc : c < 256) (hd : d < 256) : 0 ≤ Go.bits .xor .u8 (c : Int) (d : Int) ∧ Go.bits .xor .u8 (c : Int) (d : Int) < 256 ∧ (Go.bits .xor .u8 (c : Int) (d : Int) = (c : Int) → d = 0) := by
  have h := Nat.xor_lt_two_pow (n := 8) hc hd
  rw [xor_nat_u8 hc hd]
  refine ⟨by omega, by omega, fun e => ?_⟩
  exact xor_cancel (y := c) (by omega)
theorem FrameTurned : courierlaw15_FrameTurned.Pure := by
  intro y0 a1 by_ ⟨b, h0, h1, h2, h3, h4, h5, h6, h7, h8, h9, h10⟩ ⟨_, hu⟩ ⟨_, hv⟩
  obtain ⟨a0, a1', a2, a3, a4, a5, a6, a7, l⟩ := y0
  simp only [Opens.gInt] at h0 h1 h2 h3 h4 h5 h6 h7 h10
  have hu' : (Lit.int .u64 a1).wf = true := hu
  have hv' : (Lit.int .u8 by_).wf = true := hv
  have hb : Bytes l := Bytes.of_wf h10
  rw [wf_u64] at h2 h4 hu'
  rw [wf_u8] at hv'
  refine ⟨42001, ?_⟩
  simp only
  unfold courierlaw15_FrameTurned.f
  rw [frame_awake _ (by omega), bsome, if_pos rfl]
  unfold courierlaw15_Few.f
  rw [bsome]
  by_cases hl : (l.length : Int) ≤ 6000
  rotate_left
  · rw [decide_eq_false hl, if_neg (by decide)]
  rw [decide_eq_true hl, if_pos rfl]
  by_cases hf : FormedP a0 a1' a2 a3 a4 a5 a6 a7 (l.length : Int)
  rotate_left
  · rw [frame_build_no h2.1 h4.1 hf _ (by omega), bsome, if_neg (by decide)]
  have hG : GoodFrame (a0, a1', a2, a3, a4, a5, a6, a7, l) := ⟨hf, h2.2, hb⟩
  have hB := frameB_bytes hG
  have hL := frameB_len hG
  rw [frame_build_yes hb h2.2 hf _ (by omega), bsome, if_pos rfl]
  have eB : frameV a0 a1' a2 a3 a4 a5 a6 a7 l = frameB (a0, a1', a2, a3, a4, a5, a6, a7, l) := rfl
  simp only [eB]
  generalize hF : (a0, a1', a2, a3, a4, a5, a6, a7, l) = f at hG hB hL
  clear hF eB
  rw [if_pos ⟨by omega, by omega, hu'.1⟩]
  obtain ⟨q, rfl⟩ := Int.eq_ofNat_of_zero_le hu'.1
  rw [Int.toNat_natCast]
  have hm : q % (frameB f).length < (frameB f).length := Nat.mod_lt _ (by omega)
  generalize q % (frameB f).length = m at hm
  have g1 : parsedE 42001 ((frameB f).take m) = some 2 := by
    refine parsed_bad (hB.take m) (by rw [List.length_take]; omega) (by omega) (fun f' hf' e => ?_)
    have h1 := frame_prefix hG hf' (r := (frameB f).drop m) (by rw [← e, List.take_append_drop])
    have h2 := congrArg List.length h1
    rw [List.length_drop] at h2
    simp only [List.length_nil] at h2
    omega
  obtain ⟨d, rfl⟩ := Int.eq_ofNat_of_zero_le hv'.1
  have hd : d < 256 := by omega
  have g3 : parsedE 42001 (frameB f ++ [(d : Int)]) = some 2 := by
    refine parsed_bad (hB.append (Bytes.cons (by omega) (by omega) Bytes.nil)) (by rw [List.length_append]; simp only [List.length_cons, List.length_nil]; omega) (by omega) (fun f' hf' e => ?_)
    have h1 := frame_prefix hf' hG e
    cases h1
  have hrd := rd_bytes hB hm
  have hget : (frameB f)[m]? = some (rd (frameB f) (m : Int)) := by
    rw [rd_nat, List.getD_eq_getElem?_getD, List.getElem?_eq_getElem hm]
    rfl
  generalize hc : rd (frameB f) (m : Int) = c at hrd hget
  obtain ⟨c, rfl⟩ := Int.eq_ofNat_of_zero_le hrd.1
  obtain ⟨x0, x1, x2⟩ := xor_byte (c := c) (d := d) (by omega) hd
  rw [g1, bsome]
  by_cases hd0 : d = 0
  · subst hd0
    have e0 : Go.bits .xor .u8 (c : Int) ((0 : Nat) : Int) = (c : Int) := by rw [xor_nat_u8 (by omega) hd, Nat.xor_zero]
    rw [e0]
    have es : (frameB f).set m (c : Int) = frameB f := by
      have := List.getElem?_eq_some_iff.mp hget
      obtain ⟨h1, h2⟩ := this
      rw [← h2]
      exact List.set_getElem_self h1
    rw [es]
    have g2 : parsedE 42001 (frameB f) = some 0 := by
      unfold parsedE
      rw [parse_back hG (by omega)]
      rfl
    rw [g2, bsome, g3, bsome, if_pos (by decide)]
  · have g2 : parsedE 42001 ((frameB f).set m (Go.bits .xor .u8 (c : Int) (d : Int))) = some 2 := by
      have hbs : Bytes ((frameB f).set m (Go.bits .xor .u8 (c : Int) (d : Int))) := by
        intro y hy
        rcases List.mem_or_eq_of_mem_set hy with h | rfl
        · exact hB y h
        · exact ⟨x0, x1⟩
      refine parsed_bad hbs (by rw [List.length_set]; omega) (by omega) (fun f' hf' e => ?_)
      exact hd0 (x2 (frame_turned hG hf' hm hget ⟨x0, x1⟩ e))
    rw [g2, bsome, g3, bsome]
    have : turnedF (d : Int) 2 2 2 = true := by
      unfold turnedF
      rw [beq_eq_false_iff_ne.mpr (show ¬ (d : Int) = 0 by omega)]
      decide
    rw [if_pos this]
end Go.Proofs.Ythhkdabajikckaa.Pure
