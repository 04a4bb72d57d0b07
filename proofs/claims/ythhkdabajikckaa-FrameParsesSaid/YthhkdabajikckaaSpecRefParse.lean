/- What the reference's Parse of a frame comes to: the formed frame whose bytes they are, if there is one, else none; for at most 10000 bytes. -/
import Derived.Test.YthhkdabajikckaaX20
import Derived.Test.YthhkdabajikckaaX19
import Derived.Test.YthhkdabajikckaaSpecParse
set_option linter.unusedVariables false
namespace Go.Proofs.Ythhkdabajikckaa.X
open Go.RowKit Go.Proofs.YthhkdabajikckaaW.PrintWords Go.Proofs.YthhkdabajikckaaW.PrintLast Go.Proofs.YthhkdabajikckaaW.PrintMore Go.Proofs.Ythhkdabajikckaa.Math
theorem i64w_id {n : Int} (h0 : -9223372036854775808 ≤ n) (h1 : n < 9223372036854775808) : IntKind.i64.wrap n = n := by rw [IntKind.wrap_i64]; omega
theorem ref_take_ok {l : List Int} (hb : Bytes l) {k : Nat} (hk : 2 * l.length + 2 ≤ k) : courierref01_Take.f k l = some (takeV 0 0 l) := ref_take_l0 l hb l.length 0 0 (by omega) (by omega) (by omega) (by omega) k hk
theorem takes_total {k : Nat} : ∀ (n : Nat) {l : List Int}, Bytes l → 2 * l.length + 2 ≤ k → takesF k n l = some none ∨ ∃ ns r, takesF k n l = some (some (ns, r)) ∧ ns.length = n ∧ (∀ x ∈ ns, 0 ≤ x ∧ x < 18446744073709551616) ∧ Bytes r ∧ r.length ≤ l.length
  | 0, l, hb, _ => .inr ⟨[], l, rfl, rfl, fun x hx => (by cases hx), hb, Nat.le_refl _⟩
  | n + 1, l, hb, hk => by
    unfold takesF
    rw [ref_take_ok hb hk, bsome]
    rcases takeV_all l hb 0 0 (by omega) (by omega) with ⟨v, m, e, hn, hm, hml⟩ | e | e
    · rw [e]
      simp only [Int.toNat_natCast]
      rw [if_pos trivial, if_pos (by omega), if_pos (by omega)]
      rcases takes_total n (hb.drop m) (k := k) (by rw [List.length_drop]; omega) with h | ⟨ns, r, h, h1, h2, h3, h4⟩
      · rw [h]
        exact .inl rfl
      · rw [h]
        rw [List.length_drop] at h4
        refine .inr ⟨(v : Int) :: ns, r, rfl, by rw [List.length_cons, h1], fun x hx => ?_, h3, by omega⟩
        rcases List.mem_cons.1 hx with rfl | hx
        · omega
        · exact h2 x hx
    · rw [e]
      exact .inl rfl
    · rw [e]
      exact .inl rfl
theorem takes_enc {k : Nat} {r : List Int} (hr : Bytes r) : ∀ (ns : List Nat), (∀ n ∈ ns, n < 18446744073709551616) → 2 * (r.length + 10 * ns.length) + 2 ≤ k → takesF k ns.length (encs ns ++ r) = some (some (ns.map Int.ofNat, r))
  | [], _, _ => rfl
  | n :: ns, h, hk => by
    have hn := h n (List.mem_cons_self ..)
    have hB : Bytes (encs ns ++ r) := (encs_bytes ns).append hr
    have hL := encs_len (fun m hm => h m (List.mem_cons_of_mem _ hm))
    have h10 := encV_len10 hn
    have e := takeV_back (encs ns ++ r) n 0 0 (by omega) (by omega)
    rw [show 0 + 2 ^ (7 * 0) * n = n by omega, show 0 + (encV n).length = (encV n).length by omega] at e
    rw [List.length_cons] at hk
    show takesF k (ns.length + 1) (encV n ++ encs ns ++ r) = _
    rw [List.append_assoc]
    unfold takesF
    rw [ref_take_ok ((encV_bytes n).append hB) (by rw [List.length_append, List.length_append]; omega), bsome, e]
    simp only [Int.toNat_natCast]
    rw [if_pos trivial, if_pos (by omega), if_pos (by rw [List.length_append]; omega), List.drop_left, takes_enc hr ns (fun m hm => h m (List.mem_cons_of_mem _ hm)) (by omega)]
    rfl
theorem refparse_back {f : FrameT} (h : GoodFrame f) {k : Nat} (hk : 50000 ≤ k) : courierref15_Parse.f k (frameB f) = some (okT f) := by
  have hB := frameB_bytes h
  have hL := frameB_len h
  obtain ⟨a0, a1, a2, a3, a4, a5, a6, a7, l⟩ := f
  obtain ⟨h1, h2, h3⟩ := h
  simp only at h1 h2 h3
  have hf := h1
  have hlt := numsF_lt h2 h1
  unfold FormedP at h1
  obtain ⟨t, ht⟩ : ∃ t, t = crcUpd 0 (199 :: encs (numsF a0 a1 a2 a3 a4 a5 a6 a7 l.length) ++ l) := ⟨_, rfl⟩
  have hT : Bytes (l ++ sumB t) := h3.append (sumB_bytes t)
  have hTl : (l ++ sumB t).length = l.length + 4 := by simp [sumB]
  have e0 : (frameB (a0, a1, a2, a3, a4, a5, a6, a7, l)).drop 1 = encs (numsF a0 a1 a2 a3 a4 a5 a6 a7 l.length) ++ (l ++ sumB t) := by
    unfold frameB frameV signed
    simp only
    rw [← ht]
    simp only [List.cons_append, List.drop_succ_cons, List.drop_zero, List.append_assoc]
  have htk := takes_enc (k := k) hT (numsF a0 a1 a2 a3 a4 a5 a6 a7 l.length) hlt (by rw [hTl]; simp only [numsF, List.length_cons, List.length_nil]; omega)
  unfold courierref15_Parse.f
  rw [if_neg (by omega), e0]
  rw [show (numsF a0 a1 a2 a3 a4 a5 a6 a7 l.length).length = 9 from rfl] at htk
  rw [htk, bsome]
  simp only
  rw [hTl]
  have hns : (numsF a0 a1 a2 a3 a4 a5 a6 a7 l.length).map Int.ofNat = [a0, a1, a2, a3, a4, a5, a6, a7, (l.length : Int)] := by
    simp only [numsF, List.map_cons, List.map_nil, List.cons.injEq, Int.ofNat_eq_natCast, and_true]
    omega
  rw [hns]
  have hg8 : ([a0, a1, a2, a3, a4, a5, a6, a7, (l.length : Int)] : List Int).getD 8 0 = (l.length : Int) := rfl
  rw [hg8]
  rw [if_neg (by omega), if_pos (by omega), if_pos (by omega)]
  have hbig : bigF [a0, a1, a2, a3, a4, a5, a6, a7, (l.length : Int)] = false := by
    unfold bigF
    simp only [List.getD_cons_zero, List.getD_cons_succ]
    rw [decide_eq_false (show ¬ a0 > 1099511627776 by omega), decide_eq_false (show ¬ a1 > 1099511627776 by omega), decide_eq_false (show ¬ a3 > 1099511627776 by omega), decide_eq_false (show ¬ a5 > 1099511627776 by omega), decide_eq_false (show ¬ a6 > 1099511627776 by omega), decide_eq_false (show ¬ a7 > 1099511627776 by omega), decide_eq_false (show ¬ (l.length : Int) > 1099511627776 by omega)]
    rfl
  rw [hbig, if_neg (by decide), Int.toNat_natCast, List.take_append_of_le_length (Nat.le_refl _), List.take_of_length_le (Nat.le_refl _)]
  simp only [List.getD_cons_zero, List.getD_cons_succ]
  rw [i64w_id (n := a0) (by omega) (by omega), i64w_id (n := a1) (by omega) (by omega), i64w_id (n := a3) (by omega) (by omega), i64w_id (n := a5) (by omega) (by omega), i64w_id (n := a6) (by omega) (by omega), i64w_id (n := a7) (by omega) (by omega)]
  rw [ref_build_yes h3 h2 hf k (by omega), bsome]
  rw [if_pos rfl]
  exact if_pos rfl
theorem refparse_any {l : List Int} (hb : Bytes l) (hl : l.length ≤ 10000) {k : Nat} (hk : 50000 ≤ k) :
    (∃ f, GoodFrame f ∧ l = frameB f ∧ courierref15_Parse.f k l = some (okT f)) ∨ ((∀ f, GoodFrame f → l ≠ frameB f) ∧ courierref15_Parse.f k l = some badT) := by
  by_cases hx : ∃ f, GoodFrame f ∧ l = frameB f
  · obtain ⟨f, hf, rfl⟩ := hx
    exact .inl ⟨f, hf, rfl, refparse_back hf hk⟩
  refine .inr ⟨fun f hf e => hx ⟨f, hf, e⟩, ?_⟩
  unfold courierref15_Parse.f
  by_cases h1 : (l.length : Int) < 1
  · rw [if_pos h1]; rfl
  rw [if_neg h1]
  rcases takes_total 9 (hb.drop 1) (k := k) (by rw [List.length_drop]; omega) with h | ⟨ns, r, h, hn, h2, h3, h4⟩
  · rw [h]; rfl
  rw [h, bsome]
  simp only
  by_cases h8 : ns.getD 8 0 > 4096
  · rw [if_pos h8]; rfl
  rw [if_neg h8]
  have h80 : 0 ≤ ns.getD 8 0 := by
    have h9 : 8 < ns.length := by omega
    have : ns.getD 8 0 = ns[8]'h9 := by simp [List.getD, h9]
    rw [this]
    exact (h2 _ (List.getElem_mem h9)).1
  rw [if_pos h80]
  by_cases hln : (r.length : Int) = ns.getD 8 0 + 4
  rotate_left
  · rw [if_neg hln]; rfl
  rw [if_pos hln]
  by_cases hbig : bigF ns = true
  · rw [if_pos hbig]; rfl
  rw [if_neg hbig]
  clear h h80
  match ns, hn with
  | [a0, a1, a2, a3, a4, a5, a6, a7, a8], _ =>
    have hr : ∀ x ∈ [a0, a1, a2, a3, a4, a5, a6, a7, a8], 0 ≤ x ∧ x < 18446744073709551616 := h2
    have q2 := hr a2 (by simp)
    have q4 := hr a4 (by simp)
    have q8 := hr a8 (by simp)
    simp only [List.getD_cons_zero, List.getD_cons_succ] at h8 hln ⊢
    obtain ⟨p, hp⟩ : ∃ p, p = r.take a8.toNat := ⟨_, rfl⟩
    have hpb : Bytes p := by rw [hp]; exact h3.take _
    have hpl : p.length ≤ r.length := by rw [hp, List.length_take]; omega
    rw [List.length_drop] at h4
    rw [← hp]
    have hbf : bigF [a0, a1, a2, a3, a4, a5, a6, a7, a8] = false := Bool.eq_false_iff.2 hbig
    have big : ∀ j, j < 9 → j ≠ 2 → j ≠ 4 → ([a0, a1, a2, a3, a4, a5, a6, a7, a8] : List Int).getD j 0 ≤ 1099511627776 := by
      intro j hj h2 h4
      by_cases hc : ([a0, a1, a2, a3, a4, a5, a6, a7, a8] : List Int).getD j 0 ≤ 1099511627776
      · exact hc
      · exact absurd (bigF_of hj ⟨h2, h4, by omega⟩) hbig
    have b0 : a0 ≤ 1099511627776 := big 0 (by omega) (by omega) (by omega)
    have b1 : a1 ≤ 1099511627776 := big 1 (by omega) (by omega) (by omega)
    have b3 : a3 ≤ 1099511627776 := big 3 (by omega) (by omega) (by omega)
    have b5 : a5 ≤ 1099511627776 := big 5 (by omega) (by omega) (by omega)
    have b6 : a6 ≤ 1099511627776 := big 6 (by omega) (by omega) (by omega)
    have b7 : a7 ≤ 1099511627776 := big 7 (by omega) (by omega) (by omega)
    have q0 := (hr a0 (by simp)).1
    have q1 := (hr a1 (by simp)).1
    have q3 := (hr a3 (by simp)).1
    have q5 := (hr a5 (by simp)).1
    have q6 := (hr a6 (by simp)).1
    have q7 := (hr a7 (by simp)).1
    rw [i64w_id (n := a0) (by omega) (by omega), i64w_id (n := a1) (by omega) (by omega), i64w_id (n := a3) (by omega) (by omega), i64w_id (n := a5) (by omega) (by omega), i64w_id (n := a6) (by omega) (by omega), i64w_id (n := a7) (by omega) (by omega)]
    by_cases hf : FormedP a0 a1 a2 a3 a4 a5 a6 a7 (p.length : Int)
    · have hG : GoodFrame (a0, a1, a2, a3, a4, a5, a6, a7, p) := ⟨hf, q2.2, hpb⟩
      rw [ref_build_yes hpb q2.2 hf k (by omega), bsome]
      simp only
      have hne : ¬ (Go.strOfNums (frameV a0 a1 a2 a3 a4 a5 a6 a7 p)).toList = (Go.strOfNums l).toList := by
        intro e
        exact hx ⟨_, hG, ((str_eq_iff (frameB_bytes hG) hb).1 e).symm⟩
      rw [if_pos trivial, if_neg hne]
      rfl
    · rw [ref_build_no q2.1 q4.1 hf k (by omega), bsome]
      rfl
end Go.Proofs.Ythhkdabajikckaa.X
