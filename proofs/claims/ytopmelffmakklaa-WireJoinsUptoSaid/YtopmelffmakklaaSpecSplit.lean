/- What Split comes to in the program and in the reference: the fields that bytes are, one behind the other, and each one's bytes; or none; for bytes below 2^40 of them. -/
import Derived.Test.YtopmelffmakklaaX17
import Derived.Test.YtopmelffmakklaaX18
import Derived.Test.YtopmelffmakklaaSpecWire
set_option linter.unusedVariables false
namespace Go.Proofs.Ytopmelffmakklaa.X
open Go.RowKit Go.Proofs.YtopmelffmakklaaW.PrintWords Go.Proofs.YtopmelffmakklaaW.PrintLast Go.Proofs.YtopmelffmakklaaW.PrintMore Go.Proofs.Ytopmelffmakklaa.Math

/-- A field that is taken takes at least one byte, and no more than there are. -/
theorem fieldV_cases {l : List Int} (hb : Bytes l) : (∃ (a b c : Int) (d : List Int) (m : Nat), fieldV l = (a, b, c, d, (m : Int), 0) ∧ 1 ≤ m ∧ m ≤ l.length) ∨ ∃ e : Int, e ≠ 0 ∧ fieldV l = badF e := by
  rcases takeV_cases l hb 0 0 (by omega) (by omega) with ⟨n, m, e, hn, hm, hml⟩ | e | e
  rotate_left
  · exact .inr ⟨5, by decide, fieldV_5 e⟩
  · exact .inr ⟨2, by decide, fieldV_2 e⟩
  rw [Nat.zero_add] at hml
  rw [fieldV_ok e]
  have hlr : (l.drop m).length = l.length - m := List.length_drop
  by_cases hg : goodF n
  rotate_left
  · exact .inr ⟨2, by decide, fieldB_not hg⟩
  rcases hg.2.2 with t | t | t | t
  · rw [fieldB_0 hg t]
    rcases takeV_cases (l.drop m) (hb.drop m) 0 0 (by omega) (by omega) with ⟨x, j, e2, hx, hj, hjl⟩ | e2 | e2
    · rw [e2, field0_ok]
      exact .inl ⟨_, _, _, _, m + j, rfl, by omega, by omega⟩
    · rw [e2, field0_bad _ _ (by decide)]; exact .inr ⟨5, by decide, rfl⟩
    · rw [e2, field0_bad _ _ (by decide)]; exact .inr ⟨2, by decide, rfl⟩
  · by_cases h8 : (l.drop m).length < 8
    · rw [fieldB_1s hg t h8]; exact .inr ⟨5, by decide, rfl⟩
    · rw [fieldB_1 hg t (by omega)]; exact .inl ⟨_, _, _, _, m + 8, rfl, by omega, by omega⟩
  · rw [fieldB_2 hg t]
    rcases takeV_cases (l.drop m) (hb.drop m) 0 0 (by omega) (by omega) with ⟨x, j, e2, hx, hj, hjl⟩ | e2 | e2
    · rw [e2]
      by_cases hbig : (l.drop m).length < x + j
      · rw [field2_big _ _ _ hbig]; exact .inr ⟨5, by decide, rfl⟩
      · rw [field2_ok _ _ _ (by omega)]; exact .inl ⟨_, _, _, _, m + j + x, rfl, by omega, by omega⟩
    · rw [e2, field2_bad _ _ _ (by decide)]; exact .inr ⟨5, by decide, rfl⟩
    · rw [e2, field2_bad _ _ _ (by decide)]; exact .inr ⟨2, by decide, rfl⟩
  · by_cases h4 : (l.drop m).length < 4
    · rw [fieldB_5s hg t h4]; exact .inr ⟨5, by decide, rfl⟩
    · rw [fieldB_5 hg t (by omega)]; exact .inl ⟨_, _, _, _, m + 4, rfl, by omega, by omega⟩

abbrev FieldT : Type := Int × Int × Int × List Int
/-- All fields of bytes, and each one's bytes. -/
def splitV : Nat → List Int → Option (List FieldT × List (List Int))
  | 0, l => if l = [] then some ([], []) else none
  | k + 1, l => if l = [] then some ([], []) else if (fieldV l).2.2.2.2.2 = 0 then (splitV k (l.drop (fieldV l).2.2.2.2.1.toNat)).map fun r => (((fieldV l).1, (fieldV l).2.1, (fieldV l).2.2.1, (fieldV l).2.2.2.1) :: r.1, l.take (fieldV l).2.2.2.2.1.toNat :: r.2) else none
theorem splitV_flat (k : Nat) : ∀ (l : List Int) fs rs, splitV k l = some (fs, rs) → rs.flatten = l ∧ fs.length = rs.length := by
  induction k with
  | zero =>
    intro l fs rs h
    unfold splitV at h
    split at h
    · cases h; subst_vars; exact ⟨rfl, rfl⟩
    · cases h
  | succ k ih =>
    intro l fs rs h
    unfold splitV at h
    split at h
    · cases h; subst_vars; exact ⟨rfl, rfl⟩
    split at h
    · rw [Option.map_eq_some_iff] at h
      obtain ⟨⟨fs', rs'⟩, h1, h2⟩ := h
      cases h2
      obtain ⟨e1, e2⟩ := ih _ _ _ h1
      refine ⟨?_, by simp [e2]⟩
      simp only [List.flatten_cons, e1, List.take_append_drop]
    · cases h
def mk26 (f : FieldT) : S26 := ⟨f.1, f.2.1, f.2.2.1, f.2.2.2⟩
def mk30 (f : FieldT) : S30 := ⟨f.1, f.2.1, f.2.2.1, f.2.2.2⟩
def out26 (x2 : List S26) (x3 : List (List Int)) (r : Option (List FieldT × List (List Int))) : List S26 × List (List Int) × Int := match r with | some (fs, rs) => (x2 ++ fs.map mk26, x3 ++ rs, 0) | none => ([], [], 2)
def out30 (x2 : List S30) (x3 : List (List Int)) (r : Option (List FieldT × List (List Int))) : List S30 × List (List Int) × Int := match r with | some (fs, rs) => (x2 ++ fs.map mk30, x3 ++ rs, 0) | none => ([], [], 2)
theorem out26_cons (x2 : List S26) (x3 : List (List Int)) (f : FieldT) (r : List Int) (o : Option (List FieldT × List (List Int))) : out26 (x2 ++ [mk26 f]) (x3 ++ [r]) o = out26 x2 x3 (o.map fun z => (f :: z.1, r :: z.2)) := by
  cases o with
  | none => rfl
  | some z => simp [out26]
theorem out30_cons (x2 : List S30) (x3 : List (List Int)) (f : FieldT) (r : List Int) (o : Option (List FieldT × List (List Int))) : out30 (x2 ++ [mk30 f]) (x3 ++ [r]) o = out30 x2 x3 (o.map fun z => (f :: z.1, r :: z.2)) := by
  cases o with
  | none => rfl
  | some z => simp [out30]
theorem wire_split_l0 (d : Nat) : ∀ (l : List Int) (x2 : List S26) (x3 : List (List Int)), Bytes l → l.length ≤ d → x2.length + l.length < 1099511627776 → x3.length = x2.length → ∃ K, ∀ k, K ≤ k → wire_Split.l0 k l x2 x3 = some (out26 x2 x3 (splitV d l)) := by
  induction d with
  | zero =>
    intro l x2 x3 hb hd hx h3
    obtain rfl : l = [] := List.length_eq_zero_iff.mp (by omega)
    refine ⟨1, fun k hk => ?_⟩
    obtain ⟨k, rfl⟩ : ∃ m, k = m + 1 := ⟨k - 1, by omega⟩
    simp only [wire_Split.l0]
    rw [if_neg (by simp)]
    simp [splitV, out26]
  | succ d ih =>
    intro l x2 x3 hb hd hx h3
    by_cases hl : l = []
    · subst hl
      refine ⟨1, fun k hk => ?_⟩
      obtain ⟨k, rfl⟩ : ∃ m, k = m + 1 := ⟨k - 1, by omega⟩
      simp only [wire_Split.l0]
      rw [if_neg (by simp)]
      simp [splitV, out26]
    have hpos : 0 < l.length := List.length_pos_iff.mpr hl
    obtain ⟨K1, h1⟩ := wire_take l hb (by omega)
    rcases fieldV_cases hb with ⟨a, b, c, dd, m, e, hm1, hm2⟩ | ⟨e0, he, e⟩
    · obtain ⟨K2, h2⟩ := ih (l.drop m) (x2 ++ [mk26 (a, b, c, dd)]) (x3 ++ [l.take m]) (hb.drop m) (by rw [List.length_drop]; omega) (by rw [List.length_append, List.length_drop]; simp only [List.length_cons, List.length_nil]; omega) (by simp [h3])
      refine ⟨max K1 K2 + 1, fun k hk => ?_⟩
      obtain ⟨k, rfl⟩ : ∃ m, k = m + 1 := ⟨k - 1, by omega⟩
      have k1 : K1 ≤ k := by omega
      have k2 : K2 ≤ k := by omega
      simp only [wire_Split.l0]
      rw [if_pos (by omega), h1 k k1, bsome, e]
      simp only [if_true, Int.toNat_natCast]
      rw [if_pos (by omega), if_pos (by omega), if_pos (by omega)]
      unfold slices_Clone_byte_byte.f
      rw [if_pos (by rw [List.length_take]; omega), bsome, if_pos (by omega)]
      have e3 : splitV (d + 1) l = (splitV d (l.drop m)).map fun r => ((a, b, c, dd) :: r.1, l.take m :: r.2) := by
        simp only [splitV, if_neg hl, e, if_true, Int.toNat_natCast]
      rw [e3, ← out26_cons]
      exact h2 k k2
    · refine ⟨K1 + 1, fun k hk => ?_⟩
      obtain ⟨k, rfl⟩ : ∃ m, k = m + 1 := ⟨k - 1, by omega⟩
      simp only [wire_Split.l0]
      rw [if_pos (by omega), h1 k (by omega), bsome, e]
      have e3 : splitV (d + 1) l = none := by
        simp only [splitV, if_neg hl, e, badF, if_neg he]
      rw [e3]
      rw [if_neg (show ¬ (badF e0).2.2.2.2.2 = 0 from he)]
      rfl
theorem ref_split_l0 (d : Nat) : ∀ (l : List Int) (x2 : List S30) (x3 : List (List Int)), Bytes l → l.length ≤ d → x2.length + l.length < 1099511627776 → x3.length = x2.length → ∃ K, ∀ k, K ≤ k → courierref01_Split.l0 k l x2 x3 = some (out30 x2 x3 (splitV d l)) := by
  induction d with
  | zero =>
    intro l x2 x3 hb hd hx h3
    obtain rfl : l = [] := List.length_eq_zero_iff.mp (by omega)
    refine ⟨1, fun k hk => ?_⟩
    obtain ⟨k, rfl⟩ : ∃ m, k = m + 1 := ⟨k - 1, by omega⟩
    simp only [courierref01_Split.l0]
    rw [if_neg (by simp)]
    simp [splitV, out30]
  | succ d ih =>
    intro l x2 x3 hb hd hx h3
    by_cases hl : l = []
    · subst hl
      refine ⟨1, fun k hk => ?_⟩
      obtain ⟨k, rfl⟩ : ∃ m, k = m + 1 := ⟨k - 1, by omega⟩
      simp only [courierref01_Split.l0]
      rw [if_neg (by simp)]
      simp [splitV, out30]
    have hpos : 0 < l.length := List.length_pos_iff.mpr hl
    obtain ⟨K1, h1⟩ := ref_takeField l hb (by omega)
    rcases fieldV_cases hb with ⟨a, b, c, dd, m, e, hm1, hm2⟩ | ⟨e0, he, e⟩
    · obtain ⟨K2, h2⟩ := ih (l.drop m) (x2 ++ [mk30 (a, b, c, dd)]) (x3 ++ [l.take m]) (hb.drop m) (by rw [List.length_drop]; omega) (by rw [List.length_append, List.length_drop]; simp only [List.length_cons, List.length_nil]; omega) (by simp [h3])
      refine ⟨max K1 K2 + 1, fun k hk => ?_⟩
      obtain ⟨k, rfl⟩ : ∃ m, k = m + 1 := ⟨k - 1, by omega⟩
      have k1 : K1 ≤ k := by omega
      have k2 : K2 ≤ k := by omega
      simp only [courierref01_Split.l0]
      rw [if_pos (by omega), h1 k k1, bsome, e]
      simp only [if_true, bsome, Int.toNat_natCast, List.nil_append, List.length_nil, List.length_cons]
      rw [if_pos (by omega), if_pos (by omega), if_pos (by omega), if_pos (by rw [List.length_take]; omega), if_pos (by omega)]
      have e3 : splitV (d + 1) l = (splitV d (l.drop m)).map fun r => ((a, b, c, dd) :: r.1, l.take m :: r.2) := by
        simp only [splitV, if_neg hl, e, if_true, Int.toNat_natCast]
      rw [e3, ← out30_cons]
      exact h2 k k2
    · refine ⟨K1 + 1, fun k hk => ?_⟩
      obtain ⟨k, rfl⟩ : ∃ m, k = m + 1 := ⟨k - 1, by omega⟩
      simp only [courierref01_Split.l0]
      rw [if_pos (by omega), h1 k (by omega), bsome, e]
      have e3 : splitV (d + 1) l = none := by
        simp only [splitV, if_neg hl, e, badF, if_neg he]
      rw [e3]
      rw [if_neg (show ¬ (badF e0).2.2.2.2.2 = 0 from he)]
      rfl
theorem wire_split {l : List Int} (hb : Bytes l) (hl : l.length < 1099511627776) : ∃ K, ∀ k, K ≤ k → wire_Split.f k l = some (out26 [] [] (splitV l.length l)) := wire_split_l0 l.length l [] [] hb (Nat.le_refl _) (by simpa using hl) rfl
theorem ref_split {l : List Int} (hb : Bytes l) (hl : l.length < 1099511627776) : ∃ K, ∀ k, K ≤ k → courierref01_Split.f k l = some (out30 [] [] (splitV l.length l)) := ref_split_l0 l.length l [] [] hb (Nat.le_refl _) (by simpa using hl) rfl
end Go.Proofs.Ytopmelffmakklaa.X
