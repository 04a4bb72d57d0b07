/- The statement WireSplits over lists: any bytes are the fields that the reference says, or none, and their bytes are all of them; for at most 1048576 bytes. -/
import Derived.Test.YtopmelffmakklaaUWireSplits
import Derived.Test.YtopmelffmakklaaSpecSplit
set_option linter.unusedVariables false
namespace Go.Proofs.Ytopmelffmakklaa.Pure
open Go.RowKit Go.Proofs.YtopmelffmakklaaW.PrintWords Go.Proofs.YtopmelffmakklaaW.PrintLast Go.Proofs.YtopmelffmakklaaW.PrintMore Go.Proofs.Ytopmelffmakklaa.Math Go.Proofs.Ytopmelffmakklaa.X

theorem size_str (l : List Int) : (strOfNums l).size = l.length := by
  rw [← data_length, strOfNums_data, List.length_map]
theorem rd_26 {fs : List FieldT} {i : Nat} (h : i < fs.length) : rd_T26 (fs.map mk26) (i : Int) = mk26 fs[i] := by
  unfold rd_T26
  rw [Int.toNat_natCast, List.getD_eq_getElem?_getD, List.getElem?_map, List.getElem?_eq_getElem h]
  rfl
theorem rd_30 {fs : List FieldT} {i : Nat} (h : i < fs.length) : rd_T30 (fs.map mk30) (i : Int) = mk30 fs[i] := by
  unfold rd_T30
  rw [Int.toNat_natCast, List.getD_eq_getElem?_getD, List.getElem?_map, List.getElem?_eq_getElem h]
  rfl
theorem rd_L {rs : List (List Int)} {i : Nat} (h : i < rs.length) : rd_L1 rs (i : Int) = rs[i] := by
  unfold rd_L1
  rw [Int.toNat_natCast, List.getD_eq_getElem?_getD, List.getElem?_eq_getElem h]
  rfl
theorem same_self (a b c : Int) (d : List Int) : courierref01_Same.f a b c d a b c d = some true := by
  unfold courierref01_Same.f
  simp
theorem flat_len (rs : List (List Int)) (i : Nat) : (rs.take i).flatten.length ≤ rs.flatten.length := by
  conv => rhs; rw [← List.take_append_drop i rs, List.flatten_append, List.length_append]
  omega
theorem flat_succ {rs : List (List Int)} {i : Nat} (h : i < rs.length) : (rs.take (i + 1)).flatten = (rs.take i).flatten ++ rs[i] := by
  rw [List.take_succ_eq_append_getElem h, List.flatten_append]
  simp
theorem loop (l : List Int) (fs : List FieldT) (rs : List (List Int)) (hfl : rs.flatten = l) (hlen : fs.length = rs.length) (hl : l.length ≤ 1048576) (hr : rs.length ≤ 1048576) : ∀ (d i : Nat), rs.length - i = d → i ≤ rs.length → ∀ k, d < k →
    courierlaw02_WireSplits.l0 k l (fs.map mk26) rs 0 (fs.map mk30) rs (strOfNums (rs.take i).flatten) (rs.length : Int) (i : Int) = some true := by
  intro d
  induction d with
  | zero =>
    intro i hd hi k hk
    obtain ⟨k, rfl⟩ : ∃ m, k = m + 1 := ⟨k - 1, by omega⟩
    simp only [courierlaw02_WireSplits.l0]
    rw [if_neg (by omega), List.take_of_length_le (by omega), hfl]
    simp
  | succ d ih =>
    intro i hd hi k hk
    obtain ⟨k, rfl⟩ : ∃ m, k = m + 1 := ⟨k - 1, by omega⟩
    have hlt : i < rs.length := by omega
    have hlt2 : i < fs.length := by omega
    simp only [courierlaw02_WireSplits.l0, List.length_map]
    rw [rd_26 hlt2, rd_30 hlt2, rd_L hlt, if_pos (by omega), if_pos (by omega), if_pos (by omega)]
    unfold courierlaw02_ours.f
    rw [bsome, if_pos (by omega)]
    simp only [mk26, mk30]
    rw [same_self, bsome, if_pos rfl, if_pos (by omega)]
    simp only [if_true]
    have h1 := flat_len rs (i + 1)
    rw [flat_succ hlt, List.length_append, hfl] at h1
    rw [if_pos (by omega), if_pos (by rw [size_str, size_str]; omega), ← str_append, ← flat_succ hlt, wrap64_id (by omega) (by omega)]
    exact ih (i + 1) (by omega) (by omega) k (by omega)
theorem splitV_len (k : Nat) : ∀ (l : List Int) fs rs, Bytes l → splitV k l = some (fs, rs) → rs.length ≤ l.length := by
  induction k with
  | zero =>
    intro l fs rs hb h
    unfold splitV at h
    split at h
    · cases h; simp
    · cases h
  | succ k ih =>
    intro l fs rs hb h
    unfold splitV at h
    split at h
    · cases h; simp
    split at h
    · rename_i hl he
      rw [Option.map_eq_some_iff] at h
      obtain ⟨⟨fs', rs'⟩, h1, h2⟩ := h
      cases h2
      rcases fieldV_cases hb with ⟨a, b, c, dd, m, e, hm1, hm2⟩ | ⟨e0, he0, e⟩
      · rw [e] at h1
        simp only [Int.toNat_natCast] at h1
        have := ih _ _ _ (hb.drop m) h1
        rw [List.length_drop] at this
        simp only [List.length_cons]
        omega
      · rw [e] at he
        exact absurd he he0
    · cases h
theorem WireSplitsUpto : courierlaw02_WireSplits.PureUpto := by
  intro l0 _ h0 hw
  have hb : Bytes l0 := Bytes.of_wf hw
  obtain ⟨K1, h1⟩ := wire_split hb (by omega)
  obtain ⟨K2, h2⟩ := ref_split hb (by omega)
  refine ⟨K1 + K2 + l0.length + 2, ?_⟩
  unfold courierlaw02_WireSplits.f courierlaw02_awake.f
  rw [bsome, if_pos rfl, h1 _ (by omega), bsome, h2 _ (by omega), bsome]
  cases hs : splitV l0.length l0 with
  | none =>
    simp only [out26, out30, if_true]
    rw [if_pos (by simp), show K1 + K2 + l0.length + 2 = (K1 + K2 + l0.length + 1) + 1 from rfl]
    simp only [courierlaw02_WireSplits.j0]
    rw [if_neg (by simp)]
    simp only [courierlaw02_WireSplits.l0]
    rw [if_neg (by simp), if_neg (by decide)]
  | some z =>
    obtain ⟨fs, rs⟩ := z
    obtain ⟨hf, hn⟩ := splitV_flat _ _ _ _ hs
    have hr := splitV_len _ _ _ _ hb hs
    simp only [out26, out30, if_true, List.nil_append, List.length_map]
    rw [show K1 + K2 + l0.length + 2 = (K1 + K2 + l0.length + 1) + 1 from rfl]
    simp only [courierlaw02_WireSplits.j0, List.length_map]
    rw [if_neg (by simp [hn])]
    have := loop l0 fs rs hf hn (by omega) (by omega) rs.length 0 (by omega) (by omega) (K1 + K2 + l0.length + 1) (by omega)
    rw [hn]
    exact this
end Go.Proofs.Ytopmelffmakklaa.Pure
