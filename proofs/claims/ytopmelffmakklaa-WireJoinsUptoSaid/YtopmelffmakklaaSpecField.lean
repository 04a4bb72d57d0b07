/- What Append of a field comes to in the program: its bytes; and that Take gives the field back of them, whatever stands behind, and lacks something if they are cut; for fields that are formed. -/
import Derived.Test.YtopmelffmakklaaX4
import Derived.Test.YtopmelffmakklaaSpecWire
import Derived.Test.YtopmelffmakklaaSpecWrite
set_option linter.unusedVariables false
namespace Go.Proofs.Ytopmelffmakklaa.X
open Go.RowKit Go.Proofs.YtopmelffmakklaaW.PrintWords Go.Proofs.YtopmelffmakklaaW.PrintLast Go.Proofs.YtopmelffmakklaaW.PrintMore Go.Proofs.Ytopmelffmakklaa.Math

/-- A formed field: its number, type, number value, bytes. -/
def GoodP (num ty n : Nat) (d : List Int) : Prop := 1 ≤ num ∧ num ≤ 536870911 ∧ (((ty = 0 ∨ ty = 1) ∧ d = []) ∨ (ty = 5 ∧ d = [] ∧ n < 4294967296) ∨ (ty = 2 ∧ n = 0))
theorem good_of {num ty n : Int} {d : List Int} (hn : 0 ≤ n) (h : formedV num ty n d = true) : ∃ a b c : Nat, num = a ∧ ty = b ∧ n = c ∧ GoodP a b c d := by
  unfold formedV at h
  obtain ⟨c, rfl⟩ := Int.eq_ofNat_of_zero_le hn
  have hd : ((d.length : Int) == 0) = true → d = [] := fun e => List.length_eq_zero_iff.mp (by have := beq_iff_eq.mp e; omega)
  split at h
  · cases h
  rename_i h1
  obtain ⟨a, rfl⟩ := Int.eq_ofNat_of_zero_le (a := num) (by omega)
  split at h
  · rename_i h2
    obtain ⟨b, rfl⟩ := Int.eq_ofNat_of_zero_le (a := ty) (by omega)
    exact ⟨a, b, c, rfl, rfl, rfl, by omega, by omega, .inl ⟨by omega, hd h⟩⟩
  rename_i h2
  split at h
  · rename_i h3
    rw [Bool.and_eq_true] at h
    have h4 := of_decide_eq_true h.2
    exact ⟨a, 5, c, rfl, h3, rfl, by omega, by omega, .inr (.inl ⟨rfl, hd h.1, by omega⟩)⟩
  · rw [Bool.and_eq_true] at h
    have h4 := beq_iff_eq.mp h.1
    have h5 := beq_iff_eq.mp h.2
    exact ⟨a, 2, c, rfl, h4, rfl, by omega, by omega, .inr (.inr ⟨rfl, by omega⟩)⟩
def bodyV (ty n : Nat) (d : List Int) : List Int := if ty = 0 then encV n else if ty = 1 then lowV 8 n else if ty = 5 then lowV 4 n else encV d.length ++ d
/-- A formed field's bytes. -/
def fieldE (num ty n : Nat) (d : List Int) : List Int := encV (8 * num + ty) ++ bodyV ty n d
section
variable {num ty n : Nat} {d : List Int}
theorem fieldE_bytes (hd : Bytes d) : Bytes (fieldE num ty n d) := by
  refine (encV_bytes _).append ?_
  unfold bodyV
  repeat' split
  · exact encV_bytes _
  · exact lowV_bytes _ _
  · exact lowV_bytes _ _
  · exact (encV_bytes _).append hd
theorem fieldE_pos : 0 < (fieldE num ty n d).length := by
  unfold fieldE
  have := encV_pos (8 * num + ty)
  rw [List.length_append]
  omega
theorem key_lt (h : GoodP num ty n d) : 8 * num + ty < 18446744073709551616 ∧ (8 * num + ty) / 8 = num ∧ (8 * num + ty) % 8 = ty ∧ goodF (8 * num + ty) := by
  obtain ⟨h1, h2, h3⟩ := h
  have ht : ty = 0 ∨ ty = 1 ∨ ty = 2 ∨ ty = 5 := by omega
  refine ⟨by omega, by omega, by omega, ?_⟩
  unfold goodF
  omega
theorem fieldE_len (h : GoodP num ty n d) (hn : n < 18446744073709551616) (hd : d.length < 1099511627776) : (fieldE num ty n d).length ≤ d.length + 20 := by
  have h0 := encV_len10 (key_lt h).1
  have h1 := encV_len10 hn
  have h2 := encV_len10 (show d.length < 18446744073709551616 by omega)
  unfold fieldE bodyV
  rw [List.length_append]
  repeat' split
  · omega
  · rw [lowV_length]; omega
  · rw [lowV_length]; omega
  · rw [List.length_append]; omega
theorem key_or (h : GoodP num ty n d) : Go.bits .or .u64 (IntKind.u64.wrap ((IntKind.u64.wrap (num : Int)) * 8)) (IntKind.u64.wrap (ty : Int)) = ((8 * num + ty : Nat) : Int) := by
  obtain ⟨h1, h2, h3⟩ := h
  have ht : ty < 2 ^ 3 := by omega
  rw [u64_id (n := (num : Int)) (by omega) (by omega), u64_id (n := (ty : Int)) (by omega) (by omega), u64_id (n := (num : Int) * 8) (by omega) (by omega), show (num : Int) * 8 = ((2 ^ 3 * num : Nat) : Int) by omega, or_hi_u64 3 ht (by omega)]
theorem wire_append (h : GoodP num ty n d) (hn : n < 18446744073709551616) (hd : d.length < 1099511627776) : ∃ K, ∀ k, K ≤ k → wire_Append.f k [] (num : Int) (ty : Int) (n : Int) d = some (fieldE num ty n d, 0) := by
  obtain ⟨hk1, hk2, hk3, hk4⟩ := key_lt h
  have l0 := encV_len10 hk1
  have l1 := encV_len10 hn
  have l2 := encV_len10 (show d.length < 18446744073709551616 by omega)
  obtain ⟨K1, e1⟩ := varint_append (8 * num + ty) [] (by simp only [List.length_nil]; omega)
  obtain ⟨K2, e2⟩ := varint_append n (encV (8 * num + ty)) (by omega)
  obtain ⟨K3, e3⟩ := varint_append d.length (encV (8 * num + ty)) (by omega)
  have hf : formedV (num : Int) (ty : Int) (n : Int) d = true := by
    obtain ⟨h1, h2, h3⟩ := h
    unfold formedV
    rw [if_neg (by omega)]
    rcases h3 with ⟨h3, rfl⟩ | ⟨rfl, rfl, h5⟩ | ⟨rfl, rfl⟩
    · rw [if_pos (by omega)]; rfl
    · rw [if_neg (by omega), if_pos (by omega), decide_eq_true (by omega)]; rfl
    · rw [if_neg (by omega), if_neg (by omega)]; rfl
  refine ⟨K1 + K2 + K3 + 2, fun k hk => ?_⟩
  unfold wire_Append.f
  rw [wire_formed _ _ _ _ k (by omega), hf, bsome, if_pos rfl, key_or h, e1 k (by omega), bsome, List.nil_append]
  unfold fieldE bodyV
  obtain ⟨h1, h2, h3⟩ := h
  have ht : ty = 0 ∨ ty = 1 ∨ ty = 5 ∨ ty = 2 := by omega
  rcases ht with rfl | rfl | rfl | rfl
  · rw [if_pos (show ((0 : Nat) : Int) = 0 from rfl), e2 k (by omega), bsome, if_pos rfl]
  · rw [if_neg (by decide), if_pos (show ((1 : Nat) : Int) = 1 from rfl), varint_append64 n _ (by omega) (by omega), bsome, if_neg (by decide), if_pos rfl]
  · have hn5 : n < 4294967296 := by omega
    rw [if_neg (by decide), if_neg (by decide), if_pos (show ((5 : Nat) : Int) = 5 from rfl), show (n : Int) % 4294967296 = (n : Int) by omega, varint_append32 n _ (by omega), bsome, if_neg (by decide), if_neg (by decide), if_pos rfl]
  · rw [if_neg (by decide), if_neg (by decide), if_neg (by decide), if_pos (show ((2 : Nat) : Int) = 2 from rfl), u64_id (by omega) (by omega), e3 k (by omega), bsome, if_pos (by rw [List.length_append]; omega), if_neg (by decide), if_neg (by decide), if_neg (by decide), List.append_assoc]
theorem drop_len {a b : List Int} : (a ++ b).drop a.length = b := by simp
/-- Taken back, whatever stands behind. -/
theorem fieldV_back (h : GoodP num ty n d) (hn : n < 18446744073709551616) (hd : d.length < 1099511627776) (rest : List Int) : fieldV (fieldE num ty n d ++ rest) = ((num : Int), (ty : Int), (n : Int), d, ((fieldE num ty n d).length : Int), 0) := by
  obtain ⟨hk1, hk2, hk3, hk4⟩ := key_lt h
  have e := takeV_back (bodyV ty n d ++ rest) (8 * num + ty) 0 0 (by omega) (by omega)
  rw [show 0 + 2 ^ (7 * 0) * (8 * num + ty) = 8 * num + ty by omega, show 0 + (encV (8 * num + ty)).length = (encV (8 * num + ty)).length by omega] at e
  have e0 : fieldE num ty n d ++ rest = encV (8 * num + ty) ++ (bodyV ty n d ++ rest) := by unfold fieldE; rw [List.append_assoc]
  rw [e0, fieldV_ok e, drop_len]
  have el : ((fieldE num ty n d).length : Int) = ((encV (8 * num + ty)).length : Int) + ((bodyV ty n d).length : Int) := by unfold fieldE; rw [List.length_append]; omega
  rw [el]
  obtain ⟨h1, h2, h3⟩ := h
  rcases h3 with ⟨rfl | rfl, rfl⟩ | ⟨rfl, rfl, h5⟩ | ⟨rfl, rfl⟩
  · have e2 := takeV_back rest n 0 0 (by omega) (by omega)
    rw [show 0 + 2 ^ (7 * 0) * n = n by omega, show 0 + (encV n).length = (encV n).length by omega] at e2
    rw [fieldB_0 hk4 hk3, hk2, show bodyV 0 n [] = encV n from rfl, e2, field0_ok]
    simp
  · rw [fieldB_1 hk4 hk3 (by rw [List.length_append, show bodyV 1 n [] = lowV 8 n from rfl, lowV_length]; omega), hk2, show bodyV 1 n [] = lowV 8 n from rfl, List.take_append_of_le_length (by rw [lowV_length]; omega), List.take_of_length_le (by rw [lowV_length]; omega), numL_lowV, lowV_length, Nat.mod_eq_of_lt (by omega)]
    simp
  · rw [fieldB_5 hk4 hk3 (by rw [List.length_append, show bodyV 5 n [] = lowV 4 n from rfl, lowV_length]; omega), hk2, show bodyV 5 n [] = lowV 4 n from rfl, List.take_append_of_le_length (by rw [lowV_length]; omega), List.take_of_length_le (by rw [lowV_length]; omega), numL_lowV, lowV_length, Nat.mod_eq_of_lt (by omega)]
    simp
  · have eb : bodyV 2 0 d = encV d.length ++ d := rfl
    have e2 := takeV_back (d ++ rest) d.length 0 0 (by omega) (by omega)
    rw [show 0 + 2 ^ (7 * 0) * d.length = d.length by omega, show 0 + (encV d.length).length = (encV d.length).length by omega] at e2
    rw [fieldB_2 hk4 hk3, hk2, eb, List.append_assoc, e2, field2_ok _ _ _ (by rw [List.length_append, List.length_append]; omega), drop_len, List.take_append_of_le_length (Nat.le_refl _), List.take_of_length_le (Nat.le_refl _), List.length_append]
    simp [Int.add_assoc]
/-- Cut off, it lacks something. -/
theorem fieldV_cut (h : GoodP num ty n d) (hn : n < 18446744073709551616) (hd : d.length < 1099511627776) {m : Nat} (hm : m < (fieldE num ty n d).length) : fieldV ((fieldE num ty n d).take m) = badF 5 := by
  obtain ⟨hk1, hk2, hk3, hk4⟩ := key_lt h
  unfold fieldE at hm ⊢
  rw [List.length_append] at hm
  rcases Nat.lt_or_ge m (encV (8 * num + ty)).length with hlt | hge
  · rw [List.take_append_of_le_length (by omega)]
    exact fieldV_5 (takeV_cut (8 * num + ty) 0 0 m (by omega) (by omega) hlt)
  obtain ⟨q, rfl⟩ : ∃ q, m = (encV (8 * num + ty)).length + q := ⟨m - (encV (8 * num + ty)).length, by omega⟩
  rw [List.take_append, List.take_of_length_le (by omega), show (encV (8 * num + ty)).length + q - (encV (8 * num + ty)).length = q by omega]
  have hq : q < (bodyV ty n d).length := by omega
  have e := takeV_back ((bodyV ty n d).take q) (8 * num + ty) 0 0 (by omega) (by omega)
  rw [show 0 + 2 ^ (7 * 0) * (8 * num + ty) = 8 * num + ty by omega, show 0 + (encV (8 * num + ty)).length = (encV (8 * num + ty)).length by omega] at e
  rw [fieldV_ok e, drop_len]
  clear e hm hge
  obtain ⟨h1, h2, h3⟩ := h
  rcases h3 with ⟨rfl | rfl, rfl⟩ | ⟨rfl, rfl, h5⟩ | ⟨rfl, rfl⟩
  · rw [show bodyV 0 n [] = encV n from rfl] at hq ⊢
    rw [fieldB_0 hk4 hk3, takeV_cut n 0 0 q (by omega) (by omega) hq, field0_bad _ _ (by decide)]
  · rw [show bodyV 1 n [] = lowV 8 n from rfl, lowV_length] at hq
    exact fieldB_1s hk4 hk3 (by rw [List.length_take]; omega)
  · rw [show bodyV 5 n [] = lowV 4 n from rfl, lowV_length] at hq
    exact fieldB_5s hk4 hk3 (by rw [List.length_take]; omega)
  · have eb : bodyV 2 0 d = encV d.length ++ d := rfl
    rw [eb, List.length_append] at hq
    rw [fieldB_2 hk4 hk3, eb]
    rcases Nat.lt_or_ge q (encV d.length).length with hlt | hge
    · rw [List.take_append_of_le_length (by omega), takeV_cut d.length 0 0 q (by omega) (by omega) hlt, field2_bad _ _ _ (by decide)]
    · obtain ⟨p, rfl⟩ : ∃ p, q = (encV d.length).length + p := ⟨q - (encV d.length).length, by omega⟩
      have hl : (encV d.length ++ d).take ((encV d.length).length + p) = encV d.length ++ d.take p := by
        rw [List.take_append, List.take_of_length_le (by omega), show (encV d.length).length + p - (encV d.length).length = p by omega]
      rw [hl]
      have e2 := takeV_back (d.take p) d.length 0 0 (by omega) (by omega)
      rw [show 0 + 2 ^ (7 * 0) * d.length = d.length by omega, show 0 + (encV d.length).length = (encV d.length).length by omega] at e2
      rw [e2, field2_big _ _ _ (by rw [List.length_append, List.length_take]; omega)]
end
end Go.Proofs.Ytopmelffmakklaa.X
