/- The statement WireJoins over plain values: fields that are appended one behind the other are split as they were; where what comes in is of bulk at most 1048576. -/
import Derived.Test.YtopmelffmakklaaGUWireJoins
import Derived.Test.YtopmelffmakklaaSpecField
import Derived.Test.YtopmelffmakklaaSpecSplit
set_option linter.unusedVariables false
set_option linter.unusedSimpArgs false
namespace Go.Proofs.Ytopmelffmakklaa.Pure
open Go.RowKit Go.Proofs.YtopmelffmakklaaW.PrintWords Go.Proofs.YtopmelffmakklaaW.PrintLast Go.Proofs.YtopmelffmakklaaW.PrintMore Go.Proofs.Ytopmelffmakklaa.Math Go.Proofs.Ytopmelffmakklaa.X Go.Proofs.Ytopmelffmakklaa
theorem wire_append_to {num ty n : Nat} {d b : List Int} (h : GoodP num ty n d) (hn : n < 18446744073709551616) (hd : d.length < 1099511627776) (hb : b.length < 1099511627776) : ∃ K, ∀ k, K ≤ k → wire_Append.f k b (num : Int) (ty : Int) (n : Int) d = some (b ++ fieldE num ty n d, 0) := by
  obtain ⟨hk1, hk2, hk3, hk4⟩ := key_lt h
  have l0 := encV_len10 hk1
  have l1 := encV_len10 hn
  have l2 := encV_len10 (show d.length < 18446744073709551616 by omega)
  obtain ⟨K1, e1⟩ := varint_append (8 * num + ty) b (by omega)
  obtain ⟨K2, e2⟩ := varint_append n (b ++ encV (8 * num + ty)) (by rw [List.length_append]; omega)
  obtain ⟨K3, e3⟩ := varint_append d.length (b ++ encV (8 * num + ty)) (by rw [List.length_append]; omega)
  have hf : formedV (num : Int) (ty : Int) (n : Int) d = true := by
    obtain ⟨h1, h2, h3⟩ := h
    unfold formedV
    rw [if_neg (by omega)]
    rcases h3 with ⟨h3, rfl⟩ | ⟨rfl, rfl, h5⟩ | ⟨rfl, rfl⟩
    · rw [if_pos (by omega)]; rfl
    · rw [if_neg (by omega), if_pos (by omega), decide_eq_true (by omega)]; rfl
    · rw [if_neg (by omega), if_neg (by omega)]; rfl
  refine ⟨K1 + K2 + K3 + 2, fun k hk => ?_⟩
  unfold wire_Append.f
  rw [wire_formed _ _ _ _ k (by omega), hf, bsome, if_pos rfl, key_or h, e1 k (by omega), bsome]
  unfold fieldE bodyV
  obtain ⟨h1, h2, h3⟩ := h
  have hbl : (b ++ encV (8 * num + ty)).length < 1099511627800 := by rw [List.length_append]; omega
  have ht : ty = 0 ∨ ty = 1 ∨ ty = 5 ∨ ty = 2 := by omega
  rcases ht with rfl | rfl | rfl | rfl
  · rw [if_pos (show ((0 : Nat) : Int) = 0 from rfl), e2 k (by omega), bsome, if_pos rfl, List.append_assoc]
  · rw [if_neg (by decide), if_pos (show ((1 : Nat) : Int) = 1 from rfl), varint_append64 n _ (by omega) (by omega), bsome, if_neg (by decide), if_pos rfl, List.append_assoc]
  · have hn5 : n < 4294967296 := by omega
    rw [if_neg (by decide), if_neg (by decide), if_pos (show ((5 : Nat) : Int) = 5 from rfl), show (n : Int) % 4294967296 = (n : Int) by omega, varint_append32 n _ (by omega), bsome, if_neg (by decide), if_neg (by decide), if_pos rfl, List.append_assoc]
  · rw [if_neg (by decide), if_neg (by decide), if_neg (by decide), if_pos (show ((2 : Nat) : Int) = 2 from rfl), u64_id (by omega) (by omega), e3 k (by omega), bsome, if_pos (by rw [List.length_append]; omega), if_neg (by decide), if_neg (by decide), if_neg (by decide), List.append_assoc, List.append_assoc]
def goodS (x : S30) : Bool := formedV x.f0 x.f1 x.f2 x.f3
def encS (x : S30) : List Int := fieldE x.f0.toNat x.f1.toNat x.f2.toNat x.f3
def encA : List S30 → List Int
  | [] => []
  | x :: l => encS x ++ encA l
def OkS (x : S30) : Prop := 0 ≤ x.f2 ∧ x.f2 < 18446744073709551616 ∧ x.f3.length ≤ 1048576 ∧ Bytes x.f3
theorem good_parts {x : S30} (h : OkS x) (hg : goodS x = true) : ∃ a b c : Nat, x = ⟨(a : Int), (b : Int), (c : Int), x.f3⟩ ∧ GoodP a b c x.f3 ∧ c < 18446744073709551616 ∧ encS x = fieldE a b c x.f3 := by
  obtain ⟨x0, x1, x2, x3⟩ := x
  obtain ⟨h1, h2, h3, h4⟩ := h
  simp only at h1 h2 h3 h4
  obtain ⟨a, b, c, rfl, rfl, rfl, hp⟩ := good_of h1 hg
  exact ⟨a, b, c, rfl, hp, by omega, by unfold encS; simp⟩
theorem encS_len {x : S30} (h : OkS x) (hg : goodS x = true) : (encS x).length ≤ 1048600 := by
  obtain ⟨a, b, c, e, hp, hc, he⟩ := good_parts h hg
  have h3 := h.2.2.1
  rw [he]
  have := fieldE_len hp hc (by omega)
  omega
theorem encA_len : ∀ (l : List S30), (∀ x ∈ l, OkS x ∧ goodS x = true) → (encA l).length ≤ l.length * 1048600
  | [], _ => Nat.zero_le _
  | x :: l, h => by
    have h1 := encA_len l (fun y hy => h y (List.mem_cons_of_mem _ hy))
    have h2 := h x (List.mem_cons_self ..)
    have h3 := encS_len h2.1 h2.2
    show (encS x ++ encA l).length ≤ (l.length + 1) * 1048600
    rw [List.length_append, Nat.add_mul]
    omega
theorem joins_val : ∀ (l : List S30) (b : List Int) (want : List S30), (∀ x ∈ l, OkS x) → b.length + l.length * 1048600 < 549755813888 →
    ∃ K, ∀ k, K ≤ k → joinsF k l b want = some (b ++ encA (l.filter goodS), want ++ l.filter goodS)
  | [], b, want, _, _ => ⟨0, fun k _ => by simp [joinsF, encA]⟩
  | x :: l, b, want, h, hb => by
    have hx := h x (List.mem_cons_self ..)
    have hl := fun y hy => h y (List.mem_cons_of_mem _ hy)
    rw [List.length_cons, Nat.add_mul] at hb
    by_cases hg : goodS x = true
    · have h3 := encS_len hx hg
      obtain ⟨a, c, n, e, hp, hn, he⟩ := good_parts hx hg
      obtain ⟨K1, e1⟩ := wire_append_to (b := b) hp hn (by have := hx.2.2.1; omega) (by omega)
      obtain ⟨K2, e2⟩ := joins_val l (b ++ encS x) (want ++ [x]) hl (by rw [List.length_append]; omega)
      refine ⟨K1 + K2, fun k hk => ?_⟩
      have hap : wire_Append.f k b x.f0 x.f1 x.f2 x.f3 = some (b ++ encS x, 0) := by
        have := e1 k (by omega)
        rw [he]
        have e0 : x.f0 = (a : Int) := congrArg S30.f0 e
        have e1' : x.f1 = (c : Int) := congrArg S30.f1 e
        have e2' : x.f2 = (n : Int) := congrArg S30.f2 e
        rw [e0, e1', e2']
        exact this
      unfold joinsF
      rw [hap, bsome]
      simp only [if_true]
      rw [e2 k (by omega), List.filter_cons_of_pos hg]
      simp [encA]
    · obtain ⟨K2, e2⟩ := joins_val l b want hl (Nat.lt_of_le_of_lt (Nat.add_le_add_left (Nat.le_add_right _ _) _) hb)
      refine ⟨K2 + 2, fun k hk => ?_⟩
      have hap : wire_Append.f k b x.f0 x.f1 x.f2 x.f3 = some ([], 1) := by
        unfold wire_Append.f
        have hf : formedV x.f0 x.f1 x.f2 x.f3 = false := Bool.eq_false_iff.2 hg
        rw [wire_formed _ _ _ _ k (by omega), hf, bsome, if_neg (by decide)]
      unfold joinsF
      rw [hap, bsome]
      simp only
      rw [if_neg (by decide), e2 k (by omega), List.filter_cons_of_neg hg]
def tupS (x : S30) : FieldT := (x.f0, x.f1, x.f2, x.f3)
theorem split_enc : ∀ (g : List S30) (d : Nat), (∀ x ∈ g, OkS x ∧ goodS x = true) → (encA g).length ≤ d → splitV d (encA g) = some (g.map tupS, g.map encS)
  | [], d, _, _ => by cases d <;> rfl
  | x :: g, d, h, hd => by
    obtain ⟨hx, hg⟩ := h x (List.mem_cons_self ..)
    obtain ⟨a, b, c, e, hp, hc, he⟩ := good_parts hx hg
    have hpos : 0 < (encS x).length := by rw [he]; exact fieldE_pos
    have hd2 : (encS x).length + (encA g).length ≤ d := by rw [← List.length_append]; exact hd
    obtain ⟨d, rfl⟩ : ∃ m, d = m + 1 := ⟨d - 1, by omega⟩
    have hv := fieldV_back hp hc (by have := hx.2.2.1; omega) (encA g)
    rw [← he] at hv
    have e0 : x.f0 = (a : Int) := congrArg S30.f0 e
    have e1 : x.f1 = (b : Int) := congrArg S30.f1 e
    have e2 : x.f2 = (c : Int) := congrArg S30.f2 e
    rw [← e0, ← e1, ← e2] at hv
    show splitV (d + 1) (encS x ++ encA g) = _
    have hne : ¬ (encS x ++ encA g) = [] := by
      intro hh
      have := congrArg List.length hh
      rw [List.length_append] at this
      simp only [List.length_nil] at this
      omega
    unfold splitV
    rw [if_neg hne, hv]
    simp only [if_true, Int.toNat_natCast]
    rw [List.drop_left, List.take_left, split_enc g d (fun y hy => h y (List.mem_cons_of_mem _ hy)) (by omega)]
    rfl
theorem cmp_self : ∀ (g : List S30), cmpF ((g.map tupS).map mk26) g = some true
  | [] => rfl
  | x :: g => by
    show cmpF (mk26 (tupS x) :: (g.map tupS).map mk26) (x :: g) = some true
    unfold cmpF
    have hs : courierref01_Same.f (mk26 (tupS x)).f0 (mk26 (tupS x)).f1 (mk26 (tupS x)).f2 (mk26 (tupS x)).f3 x.f0 x.f1 x.f2 x.f3 = some true := by
      show courierref01_Same.f x.f0 x.f1 x.f2 x.f3 x.f0 x.f1 x.f2 x.f3 = some true
      unfold courierref01_Same.f
      simp
    rw [hs, bsome, if_pos rfl, cmp_self g]
theorem encA_bytes : ∀ (g : List S30), (∀ x ∈ g, OkS x ∧ goodS x = true) → Bytes (encA g)
  | [], _ => Bytes.nil
  | x :: g, h => by
    obtain ⟨hx, hg⟩ := h x (List.mem_cons_self ..)
    obtain ⟨a, b, c, e, hp, hc, he⟩ := good_parts hx hg
    show Bytes (encS x ++ encA g)
    rw [he]
    exact (fieldE_bytes hx.2.2.2).append (encA_bytes g (fun y hy => h y (List.mem_cons_of_mem _ hy)))
theorem WireJoinsUpto : courierlaw02_WireJoins.PureUpto := by
  intro l ⟨_, _, hl⟩
  have hok : ∀ x ∈ l, OkS x := by
    intro x hx
    obtain ⟨h0, h1, h2, h3, h4, h5⟩ := hl x hx
    have h2' : (Lit.int .u64 x.f2).wf = true := h2
    rw [wf_u64] at h2'
    exact ⟨h2'.1, h2'.2, h4, Bytes.of_wf h5⟩
  by_cases h3 : (l.length : Int) > 300
  · refine ⟨0, ?_⟩
    unfold courierlaw02_WireJoins.f
    rw [if_pos h3]
  · obtain ⟨K1, e1⟩ := joins_val l [] [] hok (by simp only [List.length_nil]; omega)
    have hg : ∀ x ∈ l.filter goodS, OkS x ∧ goodS x = true := fun x hx => ⟨hok x (List.mem_filter.1 hx).1, (List.mem_filter.1 hx).2⟩
    have hfl : (l.filter goodS).length ≤ l.length := List.length_filter_le _ _
    have hle := encA_len (l.filter goodS) hg
    obtain ⟨K2, e2⟩ := wire_split (encA_bytes (l.filter goodS) hg) (by omega)
    refine ⟨K1 + K2, ?_⟩
    unfold courierlaw02_WireJoins.f
    rw [if_neg h3, e1 _ (by omega), bsome]
    simp only [List.nil_append]
    rw [e2 _ (by omega), bsome, split_enc (l.filter goodS) _ hg (Nat.le_refl _)]
    simp only [out26, List.nil_append, List.length_map, if_true]
    exact cmp_self _
end Go.Proofs.Ytopmelffmakklaa.Pure
