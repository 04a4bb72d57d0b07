/- What stands between dots, plainly; paths. -/
import Derived.Test.YtknbhbppofphpaaGreatDoorRefReserved
import Derived.Test.YtknbhbppofphpaaGreatDoorEncMath
import Derived.Test.YtknbhbppofphpaaGreatDoorXA
import Derived.Lib.Split
set_option linter.unusedVariables false
set_option linter.unusedSimpArgs false
namespace Go.Proofs.YtknbhbppofphpaaGreatDoor.X
open Go.RowKit Go.Shelf Go.Proofs.YtknbhbppofphpaaGreatDoorW.PrintWords Go.Proofs.YtknbhbppofphpaaGreatDoorW.PrintLast Go.Proofs.YtknbhbppofphpaaGreatDoorW.PrintMore
def txt8 (l : List UInt8) : ByteArray := ⟨l.toArray⟩
theorem txt8_data (l : List UInt8) : (txt8 l).data.toList = l := by simp [txt8]
theorem txt8_of (s : ByteArray) : txt8 s.data.toList = s := by simp [txt8]
theorem txt8_size (l : List UInt8) : (txt8 l).size = l.length := by show l.toArray.size = _; simp
def consHead (c : UInt8) : List (List UInt8) → List (List UInt8)
  | [] => [[c]]
  | p :: ps => (c :: p) :: ps
def piecesL : List UInt8 → List (List UInt8)
  | [] => [[]]
  | c :: l => if c = 46 then [] :: piecesL l else consHead c (piecesL l)
theorem piecesL_ne : ∀ l, piecesL l ≠ []
  | [] => by simp [piecesL]
  | c :: l => by
    unfold piecesL
    split
    · simp
    · cases piecesL l <;> simp [consHead]
theorem index_cons (c : UInt8) (t : List UInt8) : Lib.index (c :: t) [46] = if c = 46 then 0 else if Lib.index t [46] = -1 then -1 else Lib.index t [46] + 1 := by
  have h0 : Lib.index (c :: t) [46] = if ([46] : List UInt8).isPrefixOf (c :: t) then 0 else if Lib.index t [46] == -1 then -1 else Lib.index t [46] + 1 := by rw [Lib.index]
  rw [h0]
  by_cases h : c = 46
  · rw [if_pos h, if_pos (by rw [h]; rfl)]
  · rw [if_neg h, if_neg (by simp [List.isPrefixOf]; exact fun e => h e.symm)]
    by_cases h2 : Lib.index t [46] = -1
    · rw [if_pos h2, if_pos (by rw [h2]; rfl)]
    · rw [if_neg h2, if_neg (by simpa using h2)]
theorem pieces_index : ∀ l : List UInt8, (Lib.index l [46] = -1 → piecesL l = [l]) ∧ (∀ i : Nat, Lib.index l [46] = (i : Int) → piecesL l = l.take i :: piecesL (l.drop (i + 1)))
  | [] => ⟨fun _ => rfl, fun i h => by
      have h0 : Lib.index [] [46] = -1 := rfl
      rw [h0] at h
      omega⟩
  | c :: t => by
    have ih := pieces_index t
    rw [index_cons]
    by_cases hc : c = 46
    · rw [if_pos hc]
      refine ⟨fun h => by omega, fun i h => ?_⟩
      obtain rfl : i = 0 := by omega
      show (if c = 46 then [] :: piecesL t else consHead c (piecesL t)) = _
      rw [if_pos hc]
      rfl
    · rw [if_neg hc]
      have hp : piecesL (c :: t) = consHead c (piecesL t) := if_neg hc
      by_cases h2 : Lib.index t [46] = -1
      · rw [if_pos h2]
        exact ⟨fun _ => by rw [hp, ih.1 h2]; rfl, fun i h => by omega⟩
      · rw [if_neg h2]
        have hge := Lib.index_ge t [46]
        refine ⟨fun h => by omega, fun i h => ?_⟩
        obtain ⟨j, rfl⟩ : ∃ j, i = j + 1 := ⟨i - 1, by omega⟩
        rw [hp, ih.2 j (by omega)]
        rfl
theorem split_pieces : ∀ (n : Nat) (l : List UInt8), l.length ≤ n → Lib.splitK [46] 0 (Lib.count l [46]) l = piecesL l ∧ (piecesL l).length = Lib.count l [46] + 1
  | n, l, hn => by
    by_cases h : Lib.index l [46] = -1
    · rw [Lib.count_miss h, (pieces_index l).1 h]
      exact ⟨rfl, rfl⟩
    · have hge := Lib.index_ge l [46]
      obtain ⟨i, hi⟩ : ∃ i : Nat, Lib.index l [46] = (i : Int) := ⟨(Lib.index l [46]).toNat, by omega⟩
      have hr := Lib.index_room l [46] (by omega)
      have hl1 : ([46] : List UInt8).length = 1 := rfl
      rw [hl1] at hr
      have hc := Lib.count_hit (by decide) hi
      rw [hl1] at hc
      cases n with
      | zero => omega
      | succ n =>
        have ih := split_pieces n (l.drop (i + 1)) (by rw [List.length_drop]; omega)
        rw [hc, (pieces_index l).2 i hi, Nat.add_comm 1]
        refine ⟨?_, by rw [List.length_cons, ih.2]⟩
        unfold Lib.splitK
        rw [if_neg (by simpa using h), hi, Int.toNat_natCast, hl1, ih.1]
        rfl
theorem split_bytes (s : ByteArray) : Lib.splitB ⟨#[46]⟩ 0 (Lib.countB s ⟨#[46]⟩) s = (piecesL s.data.toList).map txt8 ∧ (piecesL s.data.toList).length = Lib.countB s ⟨#[46]⟩ + 1 := by
  have h := split_pieces s.data.toList.length s.data.toList (Nat.le_refl _)
  have h2 := Lib.splitB_data ⟨#[46]⟩ 0 (Lib.countB s ⟨#[46]⟩) s
  refine ⟨?_, h.2⟩
  have h3 : (Lib.splitB ⟨#[46]⟩ 0 (Lib.countB s ⟨#[46]⟩) s).map (·.data.toList) = piecesL s.data.toList := h2.trans h.1
  rw [← h3, List.map_map]
  conv => lhs; rw [← List.map_id (Lib.splitB ⟨#[46]⟩ 0 (Lib.countB s ⟨#[46]⟩) s)]
  apply List.map_congr_left
  intro b _
  exact (txt8_of b).symm
/-- The names, joined by dots. -/
def joinL : List (List UInt8) → List UInt8
  | [] => []
  | p :: ps => p ++ ps.flatMap fun q => 46 :: q
theorem joinL_dot {ps : List (List UInt8)} (h : ps ≠ []) : joinL ([] :: ps) = 46 :: joinL ps := by
  cases ps with
  | nil => exact absurd rfl h
  | cons p ps => rfl
theorem joinL_head (c : UInt8) {ps : List (List UInt8)} (h : ps ≠ []) : joinL (consHead c ps) = c :: joinL ps := by
  cases ps with
  | nil => exact absurd rfl h
  | cons p ps => rfl
theorem join_pieces : ∀ l : List UInt8, joinL (piecesL l) = l
  | [] => rfl
  | c :: l => by
    unfold piecesL
    by_cases h : c = 46
    · rw [if_pos h, joinL_dot (piecesL_ne l), join_pieces l, h]
    · rw [if_neg h, joinL_head c (piecesL_ne l), join_pieces l]
def plainV (s : ByteArray) : Bool := nameV (runesOf s) && !resV s
def pathOk (s : ByteArray) : Bool := decide ((piecesL s.data.toList).length ≤ 8) && ((piecesL s.data.toList).map txt8).all plainV
def pathL (s : ByteArray) : List ByteArray := if pathOk s = true then (piecesL s.data.toList).map txt8 else []
/-- A name of few runes is of few bytes. -/
theorem name_bytes (s : ByteArray) : ∀ (f pos : Nat), (∀ x ∈ runesFrom s f pos, x < 2048) → s.size ≤ pos + f → s.size - pos ≤ 2 * (runesFrom s f pos).length
  | 0, pos, _, h => by omega
  | f + 1, pos, hx, h => by
    by_cases hp : pos < s.size
    · rw [runesFrom_next s f pos hp] at hx ⊢
      have h0 := hx _ List.mem_cons_self
      have hw := width_pos s pos hp
      have hne : s.data.toList.drop pos ≠ [] := by
        intro e
        have := congrArg List.length e
        simp at this
        have h2 : s.data.size = s.size := rfl
        omega
      have he := Lib.encode_decode (s.data.toList.drop pos) hne (by rw [Lib.decodeL_drop]; intro e; have := e.1; omega)
      have hle := Lib.decodeL_le (s.data.toList.drop pos) hne
      have hlen := congrArg List.length he
      rw [List.length_take, Lib.decodeL_drop] at hlen
      rw [Lib.decodeL_drop] at hle
      have h2 : (Lib.encodeRune ((Utf8.decode s pos).1 : Int)).length ≤ 2 := by
        by_cases h1 : (Utf8.decode s pos).1 < 128
        · rw [enc1 h1]; simp
        · rw [enc2 (by omega) h0]; simp
      have ih := name_bytes s f (pos + (Utf8.decode s pos).2) (fun x hm => hx x (List.mem_cons_of_mem _ hm)) (by omega)
      rw [List.length_cons]
      omega
    · omega
theorem plain_size {s : ByteArray} (h : plainV s = true) : s.size ≤ 80 := by
  unfold plainV at h
  rw [Bool.and_eq_true] at h
  have h1 := nameV_all h.1
  have h2 := name_bytes s s.size 0 (fun x hx => inside_small (h1.1 x hx)) (by omega)
  have h3 : (runesFrom s s.size 0).length ≤ 40 := h1.2.1
  omega
theorem joinL_size : ∀ ps : List (List UInt8), (∀ p ∈ ps, p.length ≤ 80) → (joinL ps).length ≤ 81 * ps.length
  | [], _ => by simp [joinL]
  | p :: ps, h => by
    have hf : ∀ qs : List (List UInt8), (∀ q ∈ qs, q.length ≤ 80) → (qs.flatMap fun q => 46 :: q).length ≤ 81 * qs.length := by
      intro qs
      induction qs with
      | nil => intro _; simp
      | cons q qs ih =>
        intro hq
        have h1 := ih (fun r hr => hq r (List.mem_cons_of_mem _ hr))
        have h2 := hq q List.mem_cons_self
        simp only [List.flatMap_cons, List.length_append, List.length_cons]
        omega
    have h1 := hf ps (fun r hr => h r (List.mem_cons_of_mem _ hr))
    have h2 := h p List.mem_cons_self
    simp only [joinL, List.length_append, List.length_cons]
    omega
/-- A path is short. -/
theorem path_size {s : ByteArray} (h : pathOk s = true) : s.size ≤ 648 := by
  unfold pathOk at h
  rw [Bool.and_eq_true, decide_eq_true_eq, List.all_eq_true] at h
  have h1 := joinL_size (piecesL s.data.toList) (fun p hp => by
    have := plain_size (h.2 (txt8 p) (List.mem_map_of_mem hp))
    rw [txt8_size] at this
    exact this)
  rw [join_pieces, data_length] at h1
  omega
/-- What comes behind the last piece that is open. -/
def preHead (p : List UInt8) : List (List UInt8) → List (List UInt8)
  | [] => [p]
  | q :: qs => (p ++ q) :: qs
theorem preHead_cons (p : List UInt8) (c : UInt8) {ps : List (List UInt8)} (h : ps ≠ []) : preHead p (consHead c ps) = preHead (p ++ [c]) ps := by
  cases ps with
  | nil => exact absurd rfl h
  | cons q qs => simp [preHead, consHead]
theorem preHead_nil {ps : List (List UInt8)} (h : ps ≠ []) : preHead [] ps = ps := by
  cases ps with
  | nil => exact absurd rfl h
  | cons q qs => rfl
theorem pieces_loop (s : ByteArray) (hs : s.size ≤ 1000000) : ∀ (m j : Nat) (D : List (List UInt8)) (p : List UInt8), j + m = s.size → D.length + m ≤ 2000000 → p.length + m ≤ 2000000 →
    courierref03_Pieces.l0 (m + 1) s ((D ++ [p]).map txt8) (j : Int) = some ((D ++ preHead p (piecesL (s.data.toList.drop j))).map txt8)
  | 0, j, D, p, hj, _, _ => by
    rw [courierref03_Pieces.l0, if_neg (by omega), List.drop_eq_nil_of_le (by rw [data_length]; omega)]
    simp [piecesL, preHead]
  | m + 1, j, D, p, hj, hD, hp => by
    have hlt : j < s.data.toList.length := by rw [data_length]; omega
    have hbt : bt s (j : Int) = ((s.data.toList[j]'hlt).toNat : Int) := by
      have := bt_at s (j : Int) (by rw [Int.toNat_natCast]; omega)
      rw [← this]
      congr 2
    have hdr : s.data.toList.drop j = s.data.toList[j]'hlt :: s.data.toList.drop (j + 1) := List.drop_eq_getElem_cons hlt
    have hw : wrap64 ((j : Int) + 1) = ((j + 1 : Nat) : Int) := by unfold wrap64; omega
    have hln : ((D ++ [p]).map txt8).length = D.length + 1 := by simp
    have hext : (s.extract (j : Int).toNat ((j + 1 : Nat) : Int).toNat) = txt8 [s.data.toList[j]'hlt] := by
      rw [← txt8_of (s.extract _ _), Int.toNat_natCast, Int.toNat_natCast, Lib.extract_data]
      congr 1
      rw [show j + 1 - j = 1 by omega, hdr]
      rfl
    rw [courierref03_Pieces.l0, if_pos (by omega), if_pos (by omega), hbt, hdr]
    generalize s.data.toList[j]'hlt = c at *
    rw [hw]
    have hih := pieces_loop s hs m (j + 1)
    by_cases hc : c = 46
    · rw [if_pos (by rw [hc]; rfl), if_pos (by rw [hln]; omega)]
      have e : (D ++ [p]).map txt8 ++ [(⟨#[]⟩ : ByteArray)] = ((D ++ [p]) ++ [[]]).map txt8 := by rw [List.map_append (l₁ := D ++ [p])]; rfl
      rw [e, hih (D ++ [p]) [] (by omega) (by simp; omega) (by simp; omega), preHead_nil (piecesL_ne _)]
      have e2 : piecesL (c :: s.data.toList.drop (j + 1)) = [] :: piecesL (s.data.toList.drop (j + 1)) := if_pos hc
      rw [e2]
      simp [preHead]
    · have hcn : ¬ ((c.toNat : Int) = 46) := by
        intro e
        apply hc
        have : c.toNat = 46 := by omega
        exact UInt8.toNat_inj.mp this
      have hwl : wrap64 ((((D ++ [p]).map txt8).length : Int) - 1) = ((D.length : Nat) : Int) := by rw [hln]; unfold wrap64; omega
      have hrd : rdOf ByteArray.empty ((D ++ [p]).map txt8) ((D.length : Nat) : Int) = txt8 p := by
        simp [rdOf]
      have hsz : (txt8 p).size + (txt8 [c]).size = p.length + 1 := by rw [txt8_size, txt8_size]; rfl
      rw [if_neg hcn, hwl, hrd, hext, if_pos (by omega), if_pos (by rw [hln]; omega), if_pos (by omega), if_pos (by omega), if_pos (by rw [hsz]; omega)]
      have e : ((D ++ [p]).map txt8).set ((D.length : Nat) : Int).toNat (txt8 p ++ txt8 [c]) = (D ++ [p ++ [c]]).map txt8 := by
        have h1 : txt8 p ++ txt8 [c] = txt8 (p ++ [c]) := by
          rw [← txt8_of (txt8 p ++ txt8 [c]), ByteArray.data_append, Array.toList_append, txt8_data, txt8_data]
        rw [h1, Int.toNat_natCast]
        simp
      rw [e, hih D (p ++ [c]) (by omega) (by omega) (by simp; omega)]
      have e2 : piecesL (c :: s.data.toList.drop (j + 1)) = consHead c (piecesL (s.data.toList.drop (j + 1))) := if_neg hc
      rw [e2, preHead_cons p c (piecesL_ne _)]
theorem pieces_f (s : ByteArray) (hs : s.size ≤ 1000000) : courierref03_Pieces.f (s.size + 1) s = some ((piecesL s.data.toList).map txt8) := by
  have h := pieces_loop s hs s.size 0 [] [] (by omega) (by simp; omega) (by simp; omega)
  rw [List.drop_zero, List.nil_append, List.nil_append, preHead_nil (piecesL_ne _)] at h
  exact h
end Go.Proofs.YtknbhbppofphpaaGreatDoor.X
