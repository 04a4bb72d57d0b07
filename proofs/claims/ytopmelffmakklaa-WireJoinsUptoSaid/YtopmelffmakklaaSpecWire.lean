/- What the fields' functions come to in the program and in the reference: whether a field is formed, and the field that any bytes begin with, or the error. -/
import Derived.Test.YtopmelffmakklaaX1
import Derived.Test.YtopmelffmakklaaX8
import Derived.Test.YtopmelffmakklaaX11
import Derived.Test.YtopmelffmakklaaX14
import Derived.Test.YtopmelffmakklaaSpecTake
import Derived.Test.YtopmelffmakklaaSpecFixed
set_option linter.unusedVariables false
namespace Go.Proofs.Ytopmelffmakklaa.X
open Go.RowKit Go.Proofs.YtopmelffmakklaaW.PrintWords Go.Proofs.YtopmelffmakklaaW.PrintLast Go.Proofs.YtopmelffmakklaaW.PrintMore Go.Proofs.Ytopmelffmakklaa.Math

def formedV (num ty n : Int) (d : List Int) : Bool :=
  if num < 1 ∨ num > 536870911 then false else if ty = 0 ∨ ty = 1 then (d.length : Int) == 0 else if ty = 5 then (d.length : Int) == 0 && decide (n ≤ 4294967295) else ty == 2 && n == 0

theorem formedV_out {num ty n : Int} {d : List Int} (h : num < 1 ∨ num > 536870911) : formedV num ty n d = false := if_pos h
theorem formedV_in {num ty n : Int} {d : List Int} (h : ¬ (num < 1 ∨ num > 536870911)) : formedV num ty n d = if ty = 0 ∨ ty = 1 then (d.length : Int) == 0 else if ty = 5 then (d.length : Int) == 0 && decide (n ≤ 4294967295) else ty == 2 && n == 0 := if_neg h
theorem wire_formed (num ty n : Int) (d : List Int) : ∀ k, 2 ≤ k → wire_Formed.f k num ty n d = some (formedV num ty n d) := by
  intro k hk
  obtain ⟨k, rfl⟩ : ∃ m, k = m + 2 := ⟨k - 2, by omega⟩
  unfold wire_Formed.f
  rw [show k + 2 = (k + 1) + 1 from rfl]
  by_cases h1 : num < 1
  · rw [if_pos h1, formedV_out (.inl h1)]; simp [wire_Formed.j0]
  rw [if_neg h1]
  by_cases h2 : num > 536870911
  · rw [formedV_out (.inr h2), decide_eq_true h2]; simp [wire_Formed.j0]
  rw [formedV_in (by omega), decide_eq_false h2]
  simp only [wire_Formed.j0, wire_Formed.j1, Bool.false_eq_true, if_false]
  by_cases t0 : ty = 0
  · subst t0; simp
  by_cases t1 : ty = 1
  · subst t1; simp
  by_cases t5 : ty = 5
  · subst t5
    by_cases hd : (d.length : Int) = 0
    · simp [hd]
    · have : ((d.length : Int) == 0) = false := beq_eq_false_iff_ne.mpr hd
      rw [if_neg hd, if_neg (by decide), if_pos rfl, this]
      rfl
  by_cases t2 : ty = 2
  · subst t2; simp
  · simp [t0, t1, t2, t5]

theorem ref_formed (num ty n : Int) (d : List Int) : ∀ k, 2 ≤ k → courierref01_Formed.f k num ty n d = some (formedV num ty n d) := by
  intro k hk
  obtain ⟨k, rfl⟩ : ∃ m, k = m + 2 := ⟨k - 2, by omega⟩
  unfold courierref01_Formed.f
  rw [show k + 2 = (k + 1) + 1 from rfl]
  by_cases h1 : num < 1
  · rw [if_pos h1, formedV_out (.inl h1)]; simp [courierref01_Formed.j0]
  rw [if_neg h1]
  by_cases h2 : num > 536870911
  · rw [formedV_out (.inr h2), decide_eq_true h2]; simp [courierref01_Formed.j0]
  rw [formedV_in (by omega), decide_eq_false h2]
  simp only [courierref01_Formed.j0, courierref01_Formed.j1, Bool.false_eq_true, if_false]
  by_cases t0 : ty = 0
  · subst t0; simp
  by_cases t1 : ty = 1
  · subst t1; simp
  by_cases t5 : ty = 5
  · subst t5
    have e : decide (n < 4294967296) = decide (n ≤ 4294967295) := decide_eq_decide.mpr (by omega)
    by_cases hd : (d.length : Int) = 0
    · simp [hd, e]
    · have : ((d.length : Int) == 0) = false := beq_eq_false_iff_ne.mpr hd
      rw [if_neg hd, if_neg (by decide), if_pos rfl, this]
      rfl
  by_cases t2 : ty = 2
  · subst t2; simp
  · simp [t0, t1, t2, t5]

theorem takeV_cases (l : List Int) (hb : Bytes l) : ∀ (i acc : Nat), i ≤ 9 → acc < 2 ^ (7 * i) →
    (∃ n m : Nat, takeV i acc l = ((n : Int), (m : Int), 0) ∧ n < 18446744073709551616 ∧ i < m ∧ m ≤ i + l.length) ∨ takeV i acc l = (0, 0, 5) ∨ takeV i acc l = (0, 0, 2) := by
  induction l with
  | nil => intro i acc _ _; exact .inr (.inl rfl)
  | cons c l ih =>
    intro i acc hi hacc
    obtain ⟨h0, h1⟩ := hb c (List.mem_cons_self ..)
    have hb' : Bytes l := fun x hx => hb x (List.mem_cons_of_mem _ hx)
    obtain ⟨c, rfl⟩ := Int.eq_ofNat_of_zero_le h0
    simp only [takeV, Int.toNat_natCast]
    by_cases h : i = 9 ∧ 1 < (c : Int)
    · rw [if_pos h]; exact .inr (.inr rfl)
    rw [if_neg h]
    by_cases hc : (c : Int) < 128
    · rw [if_pos hc]
      have := take_room (c := c) hi hacc (fun h9 => by omega) (by omega)
      exact .inl ⟨_, _, rfl, by omega, by omega, by simp only [List.length_cons]; omega⟩
    · rw [if_neg hc]
      have hi9 : i < 9 := by omega
      rcases ih hb' (i + 1) _ (by omega) (take_next hacc (Nat.mod_lt c (by omega : 0 < 128))) with ⟨n, m, e, hn, hm, hl⟩ | e | e
      · exact .inl ⟨n, m, e, hn, by omega, by simp only [List.length_cons]; omega⟩
      · exact .inr (.inl e)
      · exact .inr (.inr e)

def badF (e : Int) : Int × Int × Int × List Int × Int × Int := (0, 0, 0, [], 0, e)
def field0 (num m : Nat) (u : Int × Int × Int) : Int × Int × Int × List Int × Int × Int := if u.2.2 = 0 then ((num : Int), 0, u.1, [], (m : Int) + u.2.1, 0) else badF u.2.2
def field2 (num m : Nat) (r : List Int) (u : Int × Int × Int) : Int × Int × Int × List Int × Int × Int :=
  if u.2.2 = 0 then if u.1 > (r.length : Int) - u.2.1 then badF 5 else ((num : Int), 2, 0, (r.drop u.2.1.toNat).take u.1.toNat, (m : Int) + u.2.1 + u.1, 0) else badF u.2.2
def goodF (n : Nat) : Prop := 1 ≤ n / 8 ∧ n / 8 ≤ 536870911 ∧ (n % 8 = 0 ∨ n % 8 = 1 ∨ n % 8 = 2 ∨ n % 8 = 5)
instance (n : Nat) : Decidable (goodF n) := by unfold goodF; infer_instance
def fieldB (n m : Nat) (r : List Int) : Int × Int × Int × List Int × Int × Int :=
  if goodF n then
    if n % 8 = 0 then field0 (n / 8) m (takeV 0 0 r) else if n % 8 = 2 then field2 (n / 8) m r (takeV 0 0 r)
    else if n % 8 = 1 then if r.length < 8 then badF 5 else (((n / 8 : Nat) : Int), 1, ((numL (r.take 8) : Nat) : Int), [], ((m + 8 : Nat) : Int), 0)
    else if r.length < 4 then badF 5 else (((n / 8 : Nat) : Int), 5, ((numL (r.take 4) : Nat) : Int), [], ((m + 4 : Nat) : Int), 0)
  else badF 2
/-- The field that bytes begin with: its number, type, number value, bytes; how many bytes it takes; the error. -/
def fieldV (l : List Int) : Int × Int × Int × List Int × Int × Int :=
  if (takeV 0 0 l).2.2 = 0 then fieldB (takeV 0 0 l).1.toNat (takeV 0 0 l).2.1.toNat (l.drop (takeV 0 0 l).2.1.toNat) else badF (takeV 0 0 l).2.2
theorem fieldV_ok {l : List Int} {n m : Nat} (e : takeV 0 0 l = ((n : Int), (m : Int), 0)) : fieldV l = fieldB n m (l.drop m) := by
  unfold fieldV
  rw [e, if_pos rfl, Int.toNat_natCast, Int.toNat_natCast]
theorem fieldV_5 {l : List Int} (e : takeV 0 0 l = (0, 0, 5)) : fieldV l = badF 5 := by unfold fieldV; rw [e, if_neg (by decide)]
theorem fieldV_2 {l : List Int} (e : takeV 0 0 l = (0, 0, 2)) : fieldV l = badF 2 := by unfold fieldV; rw [e, if_neg (by decide)]
theorem field0_ok (num m x j : Nat) : field0 num m ((x : Int), (j : Int), 0) = ((num : Int), 0, (x : Int), [], ((m + j : Nat) : Int), 0) := by
  unfold field0; rw [if_pos rfl]; simp
theorem field0_bad (num m : Nat) {e : Int} (h : e ≠ 0) : field0 num m (0, 0, e) = badF e := if_neg h
theorem field2_ok (num m : Nat) (r : List Int) {x j : Nat} (h : x + j ≤ r.length) : field2 num m r ((x : Int), (j : Int), 0) = ((num : Int), 2, 0, (r.drop j).take x, ((m + j + x : Nat) : Int), 0) := by
  unfold field2; rw [if_pos rfl, if_neg (by simp only; omega)]; simp
theorem field2_big (num m : Nat) (r : List Int) {x j : Nat} (h : r.length < x + j) : field2 num m r ((x : Int), (j : Int), 0) = badF 5 := by
  unfold field2; rw [if_pos rfl, if_pos (by simp only; omega)]
theorem field2_bad (num m : Nat) (r : List Int) {e : Int} (h : e ≠ 0) : field2 num m r (0, 0, e) = badF e := if_neg h
theorem nc_ne {a b : Nat} (h : ¬ a = b) : ¬ ((a : Int) = (b : Int)) := fun e => h (Int.ofNat_inj.mp e)
theorem goodF_not {n : Nat} (h1 : ¬ n / 8 < 1) (h2 : ¬ n / 8 > 536870911) (h : ¬ goodF n) : ¬ n % 8 = 0 ∧ ¬ n % 8 = 1 ∧ ¬ n % 8 = 2 ∧ ¬ n % 8 = 5 :=
  ⟨fun e => h ⟨Nat.not_lt.mp h1, Nat.not_lt.mp h2, .inl e⟩, fun e => h ⟨Nat.not_lt.mp h1, Nat.not_lt.mp h2, .inr (.inl e)⟩, fun e => h ⟨Nat.not_lt.mp h1, Nat.not_lt.mp h2, .inr (.inr (.inl e))⟩, fun e => h ⟨Nat.not_lt.mp h1, Nat.not_lt.mp h2, .inr (.inr (.inr e))⟩⟩
theorem fieldB_not {n m : Nat} {r : List Int} (h : ¬ goodF n) : fieldB n m r = badF 2 := if_neg h
theorem fieldB_0 {n m : Nat} {r : List Int} (h : goodF n) (t : n % 8 = 0) : fieldB n m r = field0 (n / 8) m (takeV 0 0 r) := by unfold fieldB; rw [if_pos h, if_pos t]
theorem fieldB_2 {n m : Nat} {r : List Int} (h : goodF n) (t : n % 8 = 2) : fieldB n m r = field2 (n / 8) m r (takeV 0 0 r) := by unfold fieldB; rw [if_pos h, if_neg (by omega), if_pos t]
theorem fieldB_1s {n m : Nat} {r : List Int} (h : goodF n) (t : n % 8 = 1) (hr : r.length < 8) : fieldB n m r = badF 5 := by unfold fieldB; rw [if_pos h, if_neg (by omega), if_neg (by omega), if_pos t, if_pos hr]
theorem fieldB_1 {n m : Nat} {r : List Int} (h : goodF n) (t : n % 8 = 1) (hr : 8 ≤ r.length) : fieldB n m r = (((n / 8 : Nat) : Int), 1, ((numL (r.take 8) : Nat) : Int), [], ((m + 8 : Nat) : Int), 0) := by unfold fieldB; rw [if_pos h, if_neg (by omega), if_neg (by omega), if_pos t, if_neg (by omega)]
theorem fieldB_5s {n m : Nat} {r : List Int} (h : goodF n) (t : n % 8 = 5) (hr : r.length < 4) : fieldB n m r = badF 5 := by unfold fieldB; rw [if_pos h, if_neg (by omega), if_neg (by omega), if_neg (by omega), if_pos hr]
theorem fieldB_5 {n m : Nat} {r : List Int} (h : goodF n) (t : n % 8 = 5) (hr : 4 ≤ r.length) : fieldB n m r = (((n / 8 : Nat) : Int), 5, ((numL (r.take 4) : Nat) : Int), [], ((m + 4 : Nat) : Int), 0) := by unfold fieldB; rw [if_pos h, if_neg (by omega), if_neg (by omega), if_neg (by omega), if_neg (by omega)]

theorem and7_u64 {x : Nat} (h : x < 18446744073709551616) : Go.bits .and .u64 (x : Int) 7 = ((x % 8 : Nat) : Int) := by
  have := bits_mask .u64 64 (by decide) wraps_u64 3 (by decide) (x : Int) (by omega) (by omega)
  rw [show ((2 : Int) ^ 3 - 1) = 7 from rfl, show ((2 : Int) ^ 3) = 8 from rfl] at this
  rw [this]
  omega

theorem formed_capped (n : Nat) : formedV (if n / 8 ≤ 536870911 then ((n / 8 : Nat) : Int) else 536870912) ((n % 8 : Nat) : Int) 0 [] = decide (goodF n) := by
  by_cases h : goodF n
  · rw [decide_eq_true h]
    obtain ⟨h1, h2, h3⟩ := h
    rw [if_pos h2, formedV_in (by omega)]
    by_cases h0 : n % 8 = 0 ∨ n % 8 = 1
    · rw [if_pos (by omega)]; rfl
    · rw [if_neg (by omega)]
      by_cases h5 : n % 8 = 5
      · rw [if_pos (by omega)]; rfl
      · rw [if_neg (by omega), show ((n % 8 : Nat) : Int) = 2 by omega]; rfl
  · rw [decide_eq_false h]
    unfold goodF at h
    by_cases h1 : n / 8 ≤ 536870911
    · rw [if_pos h1]
      by_cases h2 : 1 ≤ n / 8
      · rw [formedV_in (by omega), if_neg (by omega), if_neg (by omega), show (((n % 8 : Nat) : Int) == 2) = false from beq_eq_false_iff_ne.mpr (by omega)]
        rfl
      · exact formedV_out (.inl (by omega))
    · rw [if_neg h1]
      exact formedV_out (.inr (by omega))
theorem wire_take (l : List Int) (hb : Bytes l) (hl : l.length < 140737488355328) : ∃ K, ∀ k, K ≤ k → wire_Take.f k l = some (fieldV l) := by
  obtain ⟨K1, h1⟩ := varint_take l hb
  rcases takeV_cases l hb 0 0 (by omega) (by omega) with ⟨n, m, e, hn, hm, hml⟩ | e | e
  rotate_left
  · refine ⟨K1, fun k hk => ?_⟩
    unfold wire_Take.f
    rw [h1 k hk, e, fieldV_5 e]
    rfl
  · refine ⟨K1, fun k hk => ?_⟩
    unfold wire_Take.f
    rw [h1 k hk, e, fieldV_2 e]
    rfl
  rw [Nat.zero_add] at hml
  have hbr : Bytes (l.drop m) := hb.drop m
  obtain ⟨K2, h2⟩ := varint_take (l.drop m) hbr
  have hlr : (l.drop m).length = l.length - m := List.length_drop
  refine ⟨max (max K1 K2) 4, fun k hk => ?_⟩
  have k1 : K1 ≤ k := by omega
  have k2 : K2 ≤ k := by omega
  have k3 : 2 ≤ k := by omega
  clear hk
  rw [fieldV_ok e]
  unfold wire_Take.f
  rw [h1 _ k1, e]
  simp only [bsome, if_true, Int.toNat_natCast]
  have hmn : wrap64 (mn ((n : Int) / 8) 536870912) = if n / 8 ≤ 536870911 then ((n / 8 : Nat) : Int) else 536870912 := by
    unfold mn
    rw [wrap64_id (by split <;> omega) (by split <;> omega)]
    split <;> split <;> omega
  have hty : wrap64 (Go.bits .and .u64 (n : Int) 7) = ((n % 8 : Nat) : Int) := by rw [and7_u64 hn, wrap64_id (by omega) (by omega)]
  simp only [hmn, hty]
  rw [wire_formed _ _ _ _ k k3, bsome, formed_capped]
  by_cases hg : goodF n
  rotate_left
  · rw [fieldB_not hg, decide_eq_false hg]
    rfl
  rw [decide_eq_true hg, if_pos rfl, if_pos (show (0 : Int) ≤ (m : Int) by omega), if_pos (show (m : Int) ≤ (l.length : Int) by omega), if_pos hg.2.1]
  rcases hg.2.2 with t0 | t1 | t2 | t5
  · rw [fieldB_0 hg t0, t0, if_pos (show ((0 : Nat) : Int) = 0 from rfl), h2 _ k2, bsome]
    rcases takeV_cases (l.drop m) hbr 0 0 (by omega) (by omega) with ⟨x, j, e2, hx, hj, hjl⟩ | e2 | e2
    · rw [e2, field0_ok]
      simp only [if_true]
      rw [wrap64_id (by omega) (by omega)]
      rfl
    · rw [e2, field0_bad _ _ (by decide)]; rfl
    · rw [e2, field0_bad _ _ (by decide)]; rfl
  · rw [t1, if_neg (by decide), if_pos (show ((1 : Nat) : Int) = 1 from rfl)]
    by_cases h8 : (l.drop m).length < 8
    · rw [fieldB_1s hg t1 h8, varint_take64_short h8, bsome]; rfl
    · rw [fieldB_1 hg t1 (by omega), varint_take64 hbr (by omega), bsome]
      simp only [if_true]
      rw [wrap64_id (by omega) (by omega)]
      rfl
  · rw [fieldB_2 hg t2, t2, if_neg (by decide), if_neg (by decide), if_neg (by decide), if_pos (show ((2 : Nat) : Int) = 2 from rfl), h2 _ k2, bsome]
    obtain ⟨k', rfl⟩ : ∃ k', k = k' + 2 := ⟨k - 2, by omega⟩
    rcases takeV_cases (l.drop m) hbr 0 0 (by omega) (by omega) with ⟨x, j, e2, hx, hj, hjl⟩ | e2 | e2
    · rw [e2]
      simp only [if_true]
      rw [Nat.zero_add] at hjl
      have hw : IntKind.u64.wrap (wrap64 (((l.drop m).length : Int) - (j : Int))) = (((l.drop m).length - j : Nat) : Int) := by
        rw [show wrap64 (((l.drop m).length : Int) - (j : Int)) = (((l.drop m).length - j : Nat) : Int) by rw [wrap64_id (by omega) (by omega)]; omega, u64_id (by omega) (by omega)]
      simp only [hw]
      rw [show k' + 2 = (k' + 1) + 1 from rfl]
      by_cases hbig : (l.drop m).length < x + j
      · rw [field2_big _ _ _ hbig, decide_eq_true (show (x : Int) > (((l.drop m).length - j : Nat) : Int) by omega)]
        rfl
      · rw [field2_ok _ _ _ (by omega), decide_eq_false (show ¬ (x : Int) > (((l.drop m).length - j : Nat) : Int) by omega)]
        simp only [wire_Take.j0, wire_Take.j1, Bool.false_eq_true, if_false, if_true]
        rw [if_pos (by omega)]
        rw [wrap64_id (n := (x : Int)) (by omega) (by omega), wrap64_id (n := (j : Int) + (x : Int)) (by omega) (by omega), if_pos (by omega), if_pos (by omega), wrap64_id (n := (m : Int) + _) (by omega) (by omega)]
        have ht : ((l.drop m).take ((j : Int) + (x : Int)).toNat).drop (j : Int).toNat = ((l.drop m).drop j).take x := by
          rw [show ((j : Int) + (x : Int)).toNat = j + x by omega, Int.toNat_natCast, List.drop_take]
          congr 1
          omega
        rw [ht]
        unfold slices_Clone_byte_byte.f
        rw [if_pos (by rw [List.length_take]; omega), bsome]
        rw [show (m : Int) + ((j : Int) + (x : Int)) = ((m + j + x : Nat) : Int) by omega]
        rfl
    · rw [e2, field2_bad _ _ _ (by decide)]; rfl
    · rw [e2, field2_bad _ _ _ (by decide)]; rfl
  · rw [t5, if_neg (by decide), if_neg (by decide), if_pos (show ((5 : Nat) : Int) = 5 from rfl)]
    by_cases h4 : (l.drop m).length < 4
    · rw [fieldB_5s hg t5 h4, varint_take32_short h4, bsome]; rfl
    · have hlt : numL ((l.drop m).take 4) < 4294967296 := by
        have := numL_lt _ (hbr.take 4)
        rw [List.length_take, Nat.min_eq_left (by omega)] at this
        omega
      rw [fieldB_5 hg t5 (by omega), varint_take32 hbr (by omega), bsome]
      simp only [if_true]
      rw [wrap64_id (by omega) (by omega), u64_id (by omega) (by omega)]
      rfl
section
variable {n m k : Nat} {l : List Int}
theorem ref_num (hn : n < 18446744073709551616) : wrap64 (IntKind.u64.wrap (Int.tdiv (n : Int) 8)) = ((n / 8 : Nat) : Int) := by
  rw [Int.tdiv_eq_ediv_of_nonneg (by omega), u64_id (by omega) (by omega), wrap64_id (by omega) (by omega)]
  omega
theorem ref_cut (s : Nat) : (l.take (((m : Int) + (s : Int)).toNat)).drop (m : Int).toNat = (l.drop m).take s := by
  rw [show ((m : Int) + (s : Int)).toNat = m + s by omega, Int.toNat_natCast, List.drop_take]
  congr 1
  omega
theorem ref_j0_0 (hb : Bytes l) (hl : l.length < 140737488355328) (hml : m ≤ l.length) (hn : n < 18446744073709551616) (hg : goodF n) (t0 : n % 8 = 0) (h2 : courierref01_Take.f k (l.drop m) = some (takeV 0 0 (l.drop m))) :
    courierref01_TakeField.j0 (k + 1) l (n : Int) (m : Int) 0 false = some (fieldB n m (l.drop m)) := by
  have hlr : (l.drop m).length = l.length - m := List.length_drop
  rw [fieldB_0 hg t0]
  simp only [courierref01_TakeField.j0, Bool.false_eq_true, if_false, if_true, ref_num hn]
  rw [if_pos (by omega), if_pos (by omega), Int.toNat_natCast, h2, bsome]
  rcases takeV_cases (l.drop m) (hb.drop m) 0 0 (by omega) (by omega) with ⟨x, j, e2, hx, hj, hjl⟩ | e2 | e2
  · rw [e2, field0_ok]
    simp only [if_true]
    rw [wrap64_id (by omega) (by omega)]
    rfl
  · rw [e2, field0_bad _ _ (by decide)]; rfl
  · rw [e2, field0_bad _ _ (by decide)]; rfl
theorem ref_j0_1 (hb : Bytes l) (hl : l.length < 140737488355328) (hml : m ≤ l.length) (hn : n < 18446744073709551616) (hg : goodF n) (t1 : n % 8 = 1) (h3 : courierref01_Number.f k ((l.drop m).take 8) = some ((numL ((l.drop m).take 8) : Nat) : Int)) :
    courierref01_TakeField.j0 (k + 1) l (n : Int) (m : Int) 1 false = some (fieldB n m (l.drop m)) := by
  have hlr : (l.drop m).length = l.length - m := List.length_drop
  simp only [courierref01_TakeField.j0, Bool.false_eq_true, if_false, ref_num hn]
  rw [if_neg (by decide), if_neg (by decide), if_neg (by decide), wrap64_id (n := (l.length : Int) - (m : Int)) (by omega) (by omega)]
  by_cases h8 : (l.drop m).length < 8
  · rw [fieldB_1s hg t1 h8, if_pos (by omega)]; rfl
  · rw [fieldB_1 hg t1 (by omega), if_neg (by omega), if_pos (by omega), wrap64_id (n := (m : Int) + 8) (by omega) (by omega), if_pos (by omega), if_pos (by omega), show ((m : Int) + 8) = ((m : Int) + ((8 : Nat) : Int)) from rfl, ref_cut 8, h3, bsome]
    rfl
theorem ref_j0_5 (hb : Bytes l) (hl : l.length < 140737488355328) (hml : m ≤ l.length) (hn : n < 18446744073709551616) (hg : goodF n) (t5 : n % 8 = 5) (h4 : courierref01_Number.f k ((l.drop m).take 4) = some ((numL ((l.drop m).take 4) : Nat) : Int)) :
    courierref01_TakeField.j0 (k + 1) l (n : Int) (m : Int) 5 false = some (fieldB n m (l.drop m)) := by
  have hlr : (l.drop m).length = l.length - m := List.length_drop
  simp only [courierref01_TakeField.j0, Bool.false_eq_true, if_false, ref_num hn]
  rw [if_neg (by decide), if_neg (by decide), if_pos trivial, wrap64_id (n := (l.length : Int) - (m : Int)) (by omega) (by omega)]
  by_cases h4' : (l.drop m).length < 4
  · rw [fieldB_5s hg t5 h4', if_pos (by omega)]; rfl
  · rw [fieldB_5 hg t5 (by omega), if_neg (by omega), if_pos (by omega), wrap64_id (n := (m : Int) + 4) (by omega) (by omega), if_pos (by omega), if_pos (by omega), show ((m : Int) + 4) = ((m : Int) + ((4 : Nat) : Int)) from rfl, ref_cut 4, h4, bsome]
    rfl
theorem ref_j0_2 (hb : Bytes l) (hl : l.length < 140737488355328) (hml : m ≤ l.length) (hn : n < 18446744073709551616) (hg : goodF n) (t2 : n % 8 = 2) (h2 : courierref01_Take.f k (l.drop m) = some (takeV 0 0 (l.drop m))) :
    courierref01_TakeField.j0 (k + 1) l (n : Int) (m : Int) 2 false = some (fieldB n m (l.drop m)) := by
  have hlr : (l.drop m).length = l.length - m := List.length_drop
  rw [fieldB_2 hg t2]
  simp only [courierref01_TakeField.j0, Bool.false_eq_true, if_false, ref_num hn]
  rw [if_neg (by decide), if_pos trivial, if_pos (by omega), if_pos (by omega), Int.toNat_natCast, h2, bsome]
  rcases takeV_cases (l.drop m) (hb.drop m) 0 0 (by omega) (by omega) with ⟨x, j, e2, hx, hj, hjl⟩ | e2 | e2
  · rw [e2]
    simp only [if_true]
    rw [Nat.zero_add] at hjl
    have b1 : wrap64 ((l.length : Int) - ((m + j : Nat) : Int)) = ((l.length - (m + j) : Nat) : Int) := by rw [wrap64_id (by omega) (by omega)]; omega
    have b2 : IntKind.u64.wrap ((l.length - (m + j) : Nat) : Int) = ((l.length - (m + j) : Nat) : Int) := u64_id (by omega) (by omega)
    have b1 := Aside0.mk b1
    have b2 := Aside0.mk b2
    have hat : Aside0 (wrap64 ((m : Int) + (j : Int)) = ((m + j : Nat) : Int)) := ⟨by rw [wrap64_id (by omega) (by omega)]; omega⟩
    by_cases hbig : (l.drop m).length < x + j
    · have f1 : (x : Int) > ((l.length - (m + j) : Nat) : Int) := by omega
      have c1 : (x : Int) > IntKind.u64.wrap (wrap64 ((l.length : Int) - wrap64 ((m : Int) + (j : Int)))) := by rw [hat.out, b1.out, b2.out]; exact f1
      rw [field2_big _ _ _ hbig, if_pos c1]
      rfl
    · have f1 : ¬ (x : Int) > ((l.length - (m + j) : Nat) : Int) := by omega
      have f0 : x + j ≤ (l.drop m).length := by omega
      have f2 : (0 : Int) ≤ ((m + j : Nat) : Int) := by omega
      have f3 : ((m + j : Nat) : Int) ≤ ((m + j + x : Nat) : Int) := by omega
      have f4 : ((m + j + x : Nat) : Int) ≤ (l.length : Int) := by omega
      have f5 : ([] : List Int).length + (((l.drop m).drop j).take x).length < 140737488355328 := by rw [List.length_take]; simp only [List.length_nil]; omega
      have b3 : Aside0 (wrap64 (x : Int) = (x : Int)) := ⟨wrap64_id (by omega) (by omega)⟩
      have b4 : Aside0 (wrap64 (((m + j : Nat) : Int) + (x : Int)) = ((m + j + x : Nat) : Int)) := ⟨by rw [wrap64_id (by omega) (by omega)]; omega⟩
      have ht : (l.take ((m + j + x : Nat) : Int).toNat).drop ((m + j : Nat) : Int).toNat = ((l.drop m).drop j).take x := by
        rw [Int.toNat_natCast, Int.toNat_natCast, List.drop_take, List.drop_drop]
        congr 1
        omega
      have c1 : ¬ (x : Int) > IntKind.u64.wrap (wrap64 ((l.length : Int) - wrap64 ((m : Int) + (j : Int)))) := by rw [hat.out, b1.out, b2.out]; exact f1
      have hs : wrap64 (wrap64 ((m : Int) + (j : Int)) + wrap64 (x : Int)) = ((m + j + x : Nat) : Int) := by rw [hat.out, b3.out, b4.out]
      have c2 : 0 ≤ wrap64 ((m : Int) + (j : Int)) := by rw [hat.out]; exact f2
      have c3 : wrap64 ((m : Int) + (j : Int)) ≤ wrap64 (wrap64 ((m : Int) + (j : Int)) + wrap64 (x : Int)) := by rw [hs, hat.out]; exact f3
      have c4 : wrap64 (wrap64 ((m : Int) + (j : Int)) + wrap64 (x : Int)) ≤ (l.length : Int) := by rw [hs]; exact f4
      rw [field2_ok _ _ _ f0, if_neg c1, if_pos c2, if_pos c3, if_pos c4, hs, hat.out, ht, if_pos f5, List.nil_append]
  · rw [e2, field2_bad _ _ _ (by decide)]; rfl
  · rw [e2, field2_bad _ _ _ (by decide)]; rfl
/-- behind the first number: the field's kind -/
theorem ref_kind (hg : goodF n) {a b : Option (Int × Int × Int × List Int × Int × Int)} {v : Option (Int × Int × Int × List Int × Int × Int)} (F : Bool → Option (Int × Int × Int × List Int × Int × Int)) (hF : F false = v) :
    (if ((n / 8 : Nat) : Int) < 1 then F true else if ((n / 8 : Nat) : Int) > 536870911 then F true else if ((n % 8 : Nat) : Int) = 0 then F false else if ((n % 8 : Nat) : Int) = 1 then F false else if ((n % 8 : Nat) : Int) = 2 then F false else F (((n % 8 : Nat) : Int) != 5)) = v := by
  obtain ⟨g1, g2, g3⟩ := hg
  have a1 : ¬ ((n / 8 : Nat) : Int) < 1 := by omega
  have a2 : ¬ ((n / 8 : Nat) : Int) > 536870911 := by omega
  rw [if_neg a1, if_neg a2]
  rcases g3 with g | g | g | g <;> rw [g]
  · exact hF
  · exact hF
  · exact hF
  · exact hF
theorem ref_kind_not (hg : ¬ goodF n) {v : Option (Int × Int × Int × List Int × Int × Int)} (F : Bool → Option (Int × Int × Int × List Int × Int × Int)) (hF : F true = v) :
    (if ((n / 8 : Nat) : Int) < 1 then F true else if ((n / 8 : Nat) : Int) > 536870911 then F true else if ((n % 8 : Nat) : Int) = 0 then F false else if ((n % 8 : Nat) : Int) = 1 then F false else if ((n % 8 : Nat) : Int) = 2 then F false else F (((n % 8 : Nat) : Int) != 5)) = v := by
  by_cases hn1 : n / 8 < 1
  · rw [if_pos (by omega)]; exact hF
  by_cases hn2 : n / 8 > 536870911
  · rw [if_neg (by omega), if_pos (by omega)]; exact hF
  obtain ⟨z0, z1, z2, z5⟩ := goodF_not hn1 hn2 hg
  have a1 : ¬ ((n / 8 : Nat) : Int) < 1 := by omega
  have a2 : ¬ ((n / 8 : Nat) : Int) > 536870911 := by omega
  have a3 : ¬ ((n % 8 : Nat) : Int) = 0 := nc_ne z0
  have a4 : ¬ ((n % 8 : Nat) : Int) = 1 := nc_ne z1
  have a5 : ¬ ((n % 8 : Nat) : Int) = 2 := nc_ne z2
  rw [if_neg a1, if_neg a2, if_neg a3, if_neg a4, if_neg a5, show (((n % 8 : Nat) : Int) != 5) = true from bne_iff_ne.mpr (nc_ne z5)]
  exact hF
end
theorem ref_takeField (l : List Int) (hb : Bytes l) (hl : l.length < 140737488355328) : ∃ K, ∀ k, K ≤ k → courierref01_TakeField.f k l = some (fieldV l) := by
  obtain ⟨K1, h1⟩ := ref_take l hb
  rcases takeV_cases l hb 0 0 (by omega) (by omega) with ⟨n, m, e, hn, hm, hml⟩ | e | e
  rotate_left
  · refine ⟨K1, fun k hk => ?_⟩
    unfold courierref01_TakeField.f
    rw [h1 k hk, e, fieldV_5 e]
    rfl
  · refine ⟨K1, fun k hk => ?_⟩
    unfold courierref01_TakeField.f
    rw [h1 k hk, e, fieldV_2 e]
    rfl
  rw [Nat.zero_add] at hml
  have hbr : Bytes (l.drop m) := hb.drop m
  obtain ⟨K2, h2⟩ := ref_take (l.drop m) hbr
  obtain ⟨K3, h3⟩ := ref_number ((l.drop m).take 8) (hbr.take 8) (by rw [List.length_take]; omega)
  obtain ⟨K4, h4⟩ := ref_number ((l.drop m).take 4) (hbr.take 4) (by rw [List.length_take]; omega)
  refine ⟨K1 + K2 + K3 + K4 + 4, fun k hk => ?_⟩
  obtain ⟨k, rfl⟩ : ∃ k', k = k' + 1 := ⟨k - 1, by omega⟩
  have k1 : K1 ≤ k + 1 := by omega
  have k2 : K2 ≤ k := by omega
  have k3 : K3 ≤ k := by omega
  have k4 : K4 ≤ k := by omega
  clear hk
  rw [fieldV_ok e]
  unfold courierref01_TakeField.f
  rw [h1 _ k1, e]
  simp only [bsome, if_true]
  have hnum : IntKind.u64.wrap (Int.tdiv (n : Int) 8) = ((n / 8 : Nat) : Int) := by
    rw [Int.tdiv_eq_ediv_of_nonneg (by omega), u64_id (by omega) (by omega)]
    omega
  have hty : wrap64 (Int.tmod (n : Int) 8) = ((n % 8 : Nat) : Int) := by
    rw [Int.tmod_eq_emod_of_nonneg (by omega), wrap64_id (by omega) (by omega)]
    omega
  simp only [hnum, hty]
  by_cases hg : goodF n
  rotate_left
  · rw [fieldB_not hg]
    exact ref_kind_not hg (fun b => courierref01_TakeField.j0 (k + 1) l (n : Int) (m : Int) ((n % 8 : Nat) : Int) b) rfl
  refine ref_kind hg (a := none) (b := none) (fun b => courierref01_TakeField.j0 (k + 1) l (n : Int) (m : Int) ((n % 8 : Nat) : Int) b) ?_
  clear hnum hty
  show courierref01_TakeField.j0 (k + 1) l (n : Int) (m : Int) ((n % 8 : Nat) : Int) false = _
  rcases hg.2.2 with t | t | t | t
  · have := ref_j0_0 hb hl hml hn hg t (h2 k k2)
    rw [t]; exact this
  · have := ref_j0_1 hb hl hml hn hg t (h3 k k3)
    rw [t]; exact this
  · have := ref_j0_2 hb hl hml hn hg t (h2 k k2)
    rw [t]; exact this
  · have := ref_j0_5 hb hl hml hn hg t (h4 k k4)
    rw [t]; exact this
end Go.Proofs.Ytopmelffmakklaa.X
