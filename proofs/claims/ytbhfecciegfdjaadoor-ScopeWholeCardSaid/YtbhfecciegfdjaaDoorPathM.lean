/- Several texts of this claim in one: what each shows stands at its head. -/
import Derived.Test.YtbhfecciegfdjaaDoorRefName
import Derived.Test.YtbhfecciegfdjaaDoorRefReserved
import Derived.Test.YtbhfecciegfdjaaDoorX34
import Derived.Lib.Split
/-! Runes of few bytes written and read again; names are of letters. -/
set_option linter.unusedVariables false
set_option linter.unusedSimpArgs false
namespace Go.Proofs.YtbhfecciegfdjaaDoor.X
open Go.RowKit
/-- The bytes of runes, one behind the other. -/
def encAll : List Nat → List UInt8
  | [] => []
  | x :: l => Lib.encodeRune (x : Int) ++ encAll l
theorem encAll_nil : encAll [] = [] := rfl
theorem encAll_cons (x : Nat) (l : List Nat) : encAll (x :: l) = Lib.encodeRune (x : Int) ++ encAll l := rfl
theorem encAll_append : ∀ l m : List Nat, encAll (l ++ m) = encAll l ++ encAll m
  | [], _ => rfl
  | x :: l, m => by rw [List.cons_append, encAll_cons, encAll_cons, encAll_append l m, List.append_assoc]
theorem enc1 {x : Nat} (h : x < 128) : Lib.encodeRune (x : Int) = [UInt8.ofNat x] := by
  unfold Lib.encodeRune
  rw [Lib.encodeRuneZ_one (by omega) (by omega)]
  rfl
theorem enc2 {x : Nat} (h : 128 ≤ x) (h2 : x < 2048) : Lib.encodeRune (x : Int) = [UInt8.ofNat (192 + x / 64), UInt8.ofNat (128 + x % 64)] := by
  unfold Lib.encodeRune
  rw [Lib.encodeRuneZ_two (by omega) (by omega)]
  have e1 : (192 + (x : Int) / 64).toNat = 192 + x / 64 := by omega
  have e2 : (128 + (x : Int) % 64).toNat = 128 + x % 64 := by omega
  simp only [List.map_cons, List.map_nil, e1, e2]; try rfl
theorem u8n {x : Nat} (h : x < 256) : (UInt8.ofNat x).toNat = x := by simp [UInt8.toNat_ofNat']; omega
theorem dec_enc {x : Nat} (h : x < 2048) (t : List UInt8) : Lib.decodeL (Lib.encodeRune (x : Int) ++ t) = (x, (Lib.encodeRune (x : Int)).length) := by
  by_cases h1 : x < 128
  · rw [enc1 h1]
    show Lib.decodeL (UInt8.ofNat x :: t) = _
    rw [Lib.decodeL_ascii _ _ (by rw [u8n (by omega)]; exact h1), u8n (by omega)]
    rfl
  · rw [enc2 (by omega) h, Lib.decodeL_N]
    have b0 : (([UInt8.ofNat (192 + x / 64), UInt8.ofNat (128 + x % 64)] ++ t).getD 0 0).toNat = 192 + x / 64 := u8n (by omega)
    have b1 : (([UInt8.ofNat (192 + x / 64), UInt8.ofNat (128 + x % 64)] ++ t).getD 1 0).toNat = 128 + x % 64 := u8n (by omega)
    have hl : 1 < ([UInt8.ofNat (192 + x / 64), UInt8.ofNat (128 + x % 64)] ++ t).length := by simp
    rw [b0, b1]
    unfold Lib.decodeN
    rw [if_neg (by omega), if_pos ⟨by omega, hl, by omega⟩, if_pos (by omega)]
    have e : (192 + x / 64) % 32 * 64 + (128 + x % 64) % 64 = x := by omega
    rw [e]
    rfl
theorem enc_pos (x : Int) : 0 < (Lib.encodeRune x).length := by
  have := (Lib.runeCells_le x).1
  rw [Lib.runeCells_length] at this
  omega
theorem encAll_le : ∀ l : List Nat, (encAll l).length ≤ 4 * l.length
  | [] => by simp [encAll_nil]
  | x :: l => by
    have := (Lib.runeCells_le (x : Int)).2
    rw [Lib.runeCells_length] at this
    have ih := encAll_le l
    rw [encAll_cons, List.length_append, List.length_cons]
    omega
theorem enc_ne (x : Int) (t : List UInt8) : Lib.encodeRune x ++ t ≠ [] := by
  intro h
  have h1 := congrArg List.length h
  rw [List.length_append, List.length_nil] at h1
  have := enc_pos x
  omega
theorem runesFrom_enc (s : ByteArray) : ∀ (l : List Nat) (f pos : Nat), (∀ x ∈ l, x < 2048) → s.data.toList.drop pos = encAll l → (encAll l).length ≤ f → runesFrom s f pos = l
  | [], f, pos, _, hd, _ => runesFrom_end s f pos (by
      have h1 := congrArg List.length hd
      simp [encAll_nil] at h1
      have h2 : s.data.size = s.size := rfl
      omega)
  | x :: l, f, pos, hx, hd, hf => by
    have hx0 := hx x List.mem_cons_self
    have hp := enc_pos (x : Int)
    rw [encAll_cons] at hd hf
    rw [List.length_append] at hf
    obtain ⟨f, rfl⟩ : ∃ g, f = g + 1 := ⟨f - 1, by omega⟩
    have hlt : pos < s.size := by
      have h1 := congrArg List.length hd
      rw [List.length_append, List.length_drop] at h1
      have h2 : s.data.toList.length = s.size := by rw [Array.length_toList]; rfl
      omega
    have hdec := dec_enc hx0 (encAll l)
    rw [← hd, Lib.decodeL_drop] at hdec
    rw [runesFrom_next s f pos hlt, hdec]
    congr 1
    refine runesFrom_enc s l f _ (fun y hy => hx y (List.mem_cons_of_mem _ hy)) ?_ (by omega)
    rw [← List.drop_drop, hd, List.drop_left]
theorem runesOf_enc {l : List Nat} (h : ∀ x ∈ l, x < 2048) : runesOf ⟨(encAll l).toArray⟩ = l := by
  refine runesFrom_enc _ l _ 0 h (by simp) ?_
  exact Nat.le_refl _
theorem valid_enc : ∀ {l : List Nat}, (∀ x ∈ l, x < 2048) → Lib.validD (encAll l) = true
  | [], _ => Lib.validD_nil
  | x :: l, h => by
    have hx0 := h x List.mem_cons_self
    rw [encAll_cons, Lib.validD_step _ (enc_ne _ _), dec_enc hx0, if_neg (fun e => by have h1 : x = 65533 := e.1; omega), List.drop_left]
    exact valid_enc (fun y hy => h y (List.mem_cons_of_mem _ hy))
theorem inside_small {x : Nat} (h : insideV x = true) : x < 2048 := by
  unfold insideV letterV at h
  simp only [Bool.or_eq_true, decide_eq_true_eq] at h
  omega
theorem nameV_all {l : List Nat} (h : nameV l = true) : (∀ x ∈ l, insideV x = true) ∧ l.length ≤ 40 ∧ 0 < l.length := by
  cases l with
  | nil => rw [nameV_nil] at h; cases h
  | cons x l =>
    rw [nameV_cons] at h
    simp only [Bool.and_eq_true, decide_eq_true_eq, List.all_eq_true] at h
    refine ⟨fun y hy => ?_, by simp; omega, by simp⟩
    rcases List.mem_cons.mp hy with rfl | hy
    · rw [inside_eq, h.1, Bool.true_or]
    · exact h.2.1 y hy
theorem nameV_of {x : Nat} {l : List Nat} (hx : letterV x = true) (h : ∀ y ∈ l, insideV y = true) (hl : l.length < 40) : nameV (x :: l) = true := by
  rw [nameV_cons, hx, decide_eq_true (show 1 + l.length ≤ 40 by omega), List.all_eq_true.mpr h]
  rfl
end Go.Proofs.YtbhfecciegfdjaaDoor.X

/-! What stands between dots, plainly; paths. -/
set_option linter.unusedVariables false
set_option linter.unusedSimpArgs false
namespace Go.Proofs.YtbhfecciegfdjaaDoor.X
open Go.RowKit Go.Shelf Go.Proofs.YtbhfecciegfdjaaDoorW.PrintWords Go.Proofs.YtbhfecciegfdjaaDoorW.PrintLast Go.Proofs.YtbhfecciegfdjaaDoorW.PrintMore
def txt8 (l : List UInt8) : ByteArray := ⟨l.toArray⟩
theorem txt8_data (l : List UInt8) : (txt8 l).data.toList = l := by simp [txt8]
theorem txt8_of (s : ByteArray) : txt8 s.data.toList = s := by simp [txt8]
theorem txt8_size (l : List UInt8) : (txt8 l).size = l.length := by show l.toArray.size = _; simp
def consHead (c : UInt8) : List (List UInt8) → List (List UInt8)
  | [] => [[c]]
  | p :: ps => (c :: p) :: ps
def piecesL : List UInt8 → List (List UInt8)
  | [] => [[]]
  | c :: l => if c = 46 then [] :: piecesL l else consHead c (piecesL l)
theorem piecesL_ne : ∀ l, piecesL l ≠ []
  | [] => by simp [piecesL]
  | c :: l => by
    unfold piecesL
    split
    · simp
    · cases piecesL l <;> simp [consHead]
theorem index_cons (c : UInt8) (t : List UInt8) : Lib.index (c :: t) [46] = if c = 46 then 0 else if Lib.index t [46] = -1 then -1 else Lib.index t [46] + 1 := by
  have h0 : Lib.index (c :: t) [46] = if ([46] : List UInt8).isPrefixOf (c :: t) then 0 else if Lib.index t [46] == -1 then -1 else Lib.index t [46] + 1 := by rw [Lib.index]
  rw [h0]
  by_cases h : c = 46
  · rw [if_pos h, if_pos (by rw [h]; rfl)]
  · rw [if_neg h, if_neg (by simp [List.isPrefixOf]; exact fun e => h e.symm)]
    by_cases h2 : Lib.index t [46] = -1
    · rw [if_pos h2, if_pos (by rw [h2]; rfl)]
    · rw [if_neg h2, if_neg (by simpa using h2)]
theorem pieces_index : ∀ l : List UInt8, (Lib.index l [46] = -1 → piecesL l = [l]) ∧ (∀ i : Nat, Lib.index l [46] = (i : Int) → piecesL l = l.take i :: piecesL (l.drop (i + 1)))
  | [] => ⟨fun _ => rfl, fun i h => by
      have h0 : Lib.index [] [46] = -1 := rfl
      rw [h0] at h
      omega⟩
  | c :: t => by
    have ih := pieces_index t
    rw [index_cons]
    by_cases hc : c = 46
    · rw [if_pos hc]
      refine ⟨fun h => by omega, fun i h => ?_⟩
      obtain rfl : i = 0 := by omega
      show (if c = 46 then [] :: piecesL t else consHead c (piecesL t)) = _
      rw [if_pos hc]
      rfl
    · rw [if_neg hc]
      have hp : piecesL (c :: t) = consHead c (piecesL t) := if_neg hc
      by_cases h2 : Lib.index t [46] = -1
      · rw [if_pos h2]
        exact ⟨fun _ => by rw [hp, ih.1 h2]; rfl, fun i h => by omega⟩
      · rw [if_neg h2]
        have hge := Lib.index_ge t [46]
        refine ⟨fun h => by omega, fun i h => ?_⟩
        obtain ⟨j, rfl⟩ : ∃ j, i = j + 1 := ⟨i - 1, by omega⟩
        rw [hp, ih.2 j (by omega)]
        rfl
theorem split_pieces : ∀ (n : Nat) (l : List UInt8), l.length ≤ n → Lib.splitK [46] 0 (Lib.count l [46]) l = piecesL l ∧ (piecesL l).length = Lib.count l [46] + 1
  | n, l, hn => by
    by_cases h : Lib.index l [46] = -1
    · rw [Lib.count_miss h, (pieces_index l).1 h]
      exact ⟨rfl, rfl⟩
    · have hge := Lib.index_ge l [46]
      obtain ⟨i, hi⟩ : ∃ i : Nat, Lib.index l [46] = (i : Int) := ⟨(Lib.index l [46]).toNat, by omega⟩
      have hr := Lib.index_room l [46] (by omega)
      have hl1 : ([46] : List UInt8).length = 1 := rfl
      rw [hl1] at hr
      have hc := Lib.count_hit (by decide) hi
      rw [hl1] at hc
      cases n with
      | zero => omega
      | succ n =>
        have ih := split_pieces n (l.drop (i + 1)) (by rw [List.length_drop]; omega)
        rw [hc, (pieces_index l).2 i hi, Nat.add_comm 1]
        refine ⟨?_, by rw [List.length_cons, ih.2]⟩
        unfold Lib.splitK
        rw [if_neg (by simpa using h), hi, Int.toNat_natCast, hl1, ih.1]
        rfl
theorem split_bytes (s : ByteArray) : Lib.splitB ⟨#[46]⟩ 0 (Lib.countB s ⟨#[46]⟩) s = (piecesL s.data.toList).map txt8 ∧ (piecesL s.data.toList).length = Lib.countB s ⟨#[46]⟩ + 1 := by
  have h := split_pieces s.data.toList.length s.data.toList (Nat.le_refl _)
  have h2 := Lib.splitB_data ⟨#[46]⟩ 0 (Lib.countB s ⟨#[46]⟩) s
  refine ⟨?_, h.2⟩
  have h3 : (Lib.splitB ⟨#[46]⟩ 0 (Lib.countB s ⟨#[46]⟩) s).map (·.data.toList) = piecesL s.data.toList := h2.trans h.1
  rw [← h3, List.map_map]
  conv => lhs; rw [← List.map_id (Lib.splitB ⟨#[46]⟩ 0 (Lib.countB s ⟨#[46]⟩) s)]
  apply List.map_congr_left
  intro b _
  exact (txt8_of b).symm
/-- The names, joined by dots. -/
def joinL : List (List UInt8) → List UInt8
  | [] => []
  | p :: ps => p ++ ps.flatMap fun q => 46 :: q
theorem joinL_dot {ps : List (List UInt8)} (h : ps ≠ []) : joinL ([] :: ps) = 46 :: joinL ps := by
  cases ps with
  | nil => exact absurd rfl h
  | cons p ps => rfl
theorem joinL_head (c : UInt8) {ps : List (List UInt8)} (h : ps ≠ []) : joinL (consHead c ps) = c :: joinL ps := by
  cases ps with
  | nil => exact absurd rfl h
  | cons p ps => rfl
theorem join_pieces : ∀ l : List UInt8, joinL (piecesL l) = l
  | [] => rfl
  | c :: l => by
    unfold piecesL
    by_cases h : c = 46
    · rw [if_pos h, joinL_dot (piecesL_ne l), join_pieces l, h]
    · rw [if_neg h, joinL_head c (piecesL_ne l), join_pieces l]
theorem joinL_snoc (ps : List (List UInt8)) (p : List UInt8) (h : ps ≠ []) : joinL (ps ++ [p]) = joinL ps ++ 46 :: p := by
  cases ps with
  | nil => exact absurd rfl h
  | cons q ps => simp [joinL]
theorem joinL_take_le : ∀ (ps : List (List UInt8)) (j : Nat), (joinL (ps.take j)).length ≤ (joinL ps).length
  | [], j => by simp
  | p :: ps, 0 => by simp [joinL]
  | p :: ps, j + 1 => by
    have hf : ∀ (qs : List (List UInt8)) (k : Nat), ((qs.take k).flatMap fun q => 46 :: q).length ≤ (qs.flatMap fun q => 46 :: q).length := by
      intro qs
      induction qs with
      | nil => intro k; simp
      | cons q qs ih =>
        intro k
        cases k with
        | zero => simp
        | succ k =>
          have := ih k
          simp only [List.take_succ_cons, List.flatMap_cons, List.length_append, List.length_cons]
          omega
    have := hf ps j
    simp only [List.take_succ_cons, joinL, List.length_append]
    omega
def plainV (s : ByteArray) : Bool := nameV (runesOf s) && !resV s
def pathOk (s : ByteArray) : Bool := decide ((piecesL s.data.toList).length ≤ 8) && ((piecesL s.data.toList).map txt8).all plainV
def pathL (s : ByteArray) : List ByteArray := if pathOk s = true then (piecesL s.data.toList).map txt8 else []
/-- A name of few runes is of few bytes. -/
theorem name_bytes (s : ByteArray) : ∀ (f pos : Nat), (∀ x ∈ runesFrom s f pos, x < 2048) → s.size ≤ pos + f → s.size - pos ≤ 2 * (runesFrom s f pos).length
  | 0, pos, _, h => by omega
  | f + 1, pos, hx, h => by
    by_cases hp : pos < s.size
    · rw [runesFrom_next s f pos hp] at hx ⊢
      have h0 := hx _ List.mem_cons_self
      have hw := width_pos s pos hp
      have hne : s.data.toList.drop pos ≠ [] := by
        intro e
        have := congrArg List.length e
        simp at this
        have h2 : s.data.size = s.size := rfl
        omega
      have he := Lib.encode_decode (s.data.toList.drop pos) hne (by rw [Lib.decodeL_drop]; intro e; have := e.1; omega)
      have hle := Lib.decodeL_le (s.data.toList.drop pos) hne
      have hlen := congrArg List.length he
      rw [List.length_take, Lib.decodeL_drop] at hlen
      rw [Lib.decodeL_drop] at hle
      have h2 : (Lib.encodeRune ((Utf8.decode s pos).1 : Int)).length ≤ 2 := by
        by_cases h1 : (Utf8.decode s pos).1 < 128
        · rw [enc1 h1]; simp
        · rw [enc2 (by omega) h0]; simp
      have ih := name_bytes s f (pos + (Utf8.decode s pos).2) (fun x hm => hx x (List.mem_cons_of_mem _ hm)) (by omega)
      rw [List.length_cons]
      omega
    · omega
theorem plain_size {s : ByteArray} (h : plainV s = true) : s.size ≤ 80 := by
  unfold plainV at h
  rw [Bool.and_eq_true] at h
  have h1 := nameV_all h.1
  have h2 := name_bytes s s.size 0 (fun x hx => inside_small (h1.1 x hx)) (by omega)
  have h3 : (runesFrom s s.size 0).length ≤ 40 := h1.2.1
  omega
theorem joinL_size : ∀ ps : List (List UInt8), (∀ p ∈ ps, p.length ≤ 80) → (joinL ps).length ≤ 81 * ps.length
  | [], _ => by simp [joinL]
  | p :: ps, h => by
    have hf : ∀ qs : List (List UInt8), (∀ q ∈ qs, q.length ≤ 80) → (qs.flatMap fun q => 46 :: q).length ≤ 81 * qs.length := by
      intro qs
      induction qs with
      | nil => intro _; simp
      | cons q qs ih =>
        intro hq
        have h1 := ih (fun r hr => hq r (List.mem_cons_of_mem _ hr))
        have h2 := hq q List.mem_cons_self
        simp only [List.flatMap_cons, List.length_append, List.length_cons]
        omega
    have h1 := hf ps (fun r hr => h r (List.mem_cons_of_mem _ hr))
    have h2 := h p List.mem_cons_self
    simp only [joinL, List.length_append, List.length_cons]
    omega
/-- A path is short. -/
theorem path_size {s : ByteArray} (h : pathOk s = true) : s.size ≤ 648 := by
  unfold pathOk at h
  rw [Bool.and_eq_true, decide_eq_true_eq, List.all_eq_true] at h
  have h1 := joinL_size (piecesL s.data.toList) (fun p hp => by
    have := plain_size (h.2 (txt8 p) (List.mem_map_of_mem hp))
    rw [txt8_size] at this
    exact this)
  rw [join_pieces, data_length] at h1
  omega
/-- What comes behind the last piece that is open. -/
def preHead (p : List UInt8) : List (List UInt8) → List (List UInt8)
  | [] => [p]
  | q :: qs => (p ++ q) :: qs
theorem preHead_cons (p : List UInt8) (c : UInt8) {ps : List (List UInt8)} (h : ps ≠ []) : preHead p (consHead c ps) = preHead (p ++ [c]) ps := by
  cases ps with
  | nil => exact absurd rfl h
  | cons q qs => simp [preHead, consHead]
theorem preHead_nil {ps : List (List UInt8)} (h : ps ≠ []) : preHead [] ps = ps := by
  cases ps with
  | nil => exact absurd rfl h
  | cons q qs => rfl
theorem pieces_loop (s : ByteArray) (hs : s.size ≤ 1000000) : ∀ (m j : Nat) (D : List (List UInt8)) (p : List UInt8), j + m = s.size → D.length + m ≤ 2000000 → p.length + m ≤ 2000000 →
    courierref03_Pieces.l0 (m + 1) s ((D ++ [p]).map txt8) (j : Int) = some ((D ++ preHead p (piecesL (s.data.toList.drop j))).map txt8)
  | 0, j, D, p, hj, _, _ => by
    rw [courierref03_Pieces.l0, if_neg (by omega), List.drop_eq_nil_of_le (by rw [data_length]; omega)]
    simp [piecesL, preHead]
  | m + 1, j, D, p, hj, hD, hp => by
    have hlt : j < s.data.toList.length := by rw [data_length]; omega
    have hbt : bt s (j : Int) = ((s.data.toList[j]'hlt).toNat : Int) := by
      have := bt_at s (j : Int) (by rw [Int.toNat_natCast]; omega)
      rw [← this]
      congr 2
    have hdr : s.data.toList.drop j = s.data.toList[j]'hlt :: s.data.toList.drop (j + 1) := List.drop_eq_getElem_cons hlt
    have hw : wrap64 ((j : Int) + 1) = ((j + 1 : Nat) : Int) := by unfold wrap64; omega
    have hln : ((D ++ [p]).map txt8).length = D.length + 1 := by simp
    have hext : (s.extract (j : Int).toNat ((j + 1 : Nat) : Int).toNat) = txt8 [s.data.toList[j]'hlt] := by
      rw [← txt8_of (s.extract _ _), Int.toNat_natCast, Int.toNat_natCast, Lib.extract_data]
      congr 1
      rw [show j + 1 - j = 1 by omega, hdr]
      rfl
    rw [courierref03_Pieces.l0, if_pos (by omega), if_pos (by omega), hbt, hdr]
    generalize s.data.toList[j]'hlt = c at *
    rw [hw]
    have hih := pieces_loop s hs m (j + 1)
    by_cases hc : c = 46
    · rw [if_pos (by rw [hc]; rfl), if_pos (by rw [hln]; omega)]
      have e : (D ++ [p]).map txt8 ++ [(⟨#[]⟩ : ByteArray)] = ((D ++ [p]) ++ [[]]).map txt8 := by rw [List.map_append (l₁ := D ++ [p])]; rfl
      rw [e, hih (D ++ [p]) [] (by omega) (by simp; omega) (by simp; omega), preHead_nil (piecesL_ne _)]
      have e2 : piecesL (c :: s.data.toList.drop (j + 1)) = [] :: piecesL (s.data.toList.drop (j + 1)) := if_pos hc
      rw [e2]
      simp [preHead]
    · have hcn : ¬ ((c.toNat : Int) = 46) := by
        intro e
        apply hc
        have : c.toNat = 46 := by omega
        exact UInt8.toNat_inj.mp this
      have hwl : wrap64 ((((D ++ [p]).map txt8).length : Int) - 1) = ((D.length : Nat) : Int) := by rw [hln]; unfold wrap64; omega
      have hrd : rdOf ByteArray.empty ((D ++ [p]).map txt8) ((D.length : Nat) : Int) = txt8 p := by
        simp [rdOf]
      have hsz : (txt8 p).size + (txt8 [c]).size = p.length + 1 := by rw [txt8_size, txt8_size]; rfl
      rw [if_neg hcn, hwl, hrd, hext, if_pos (by omega), if_pos (by rw [hln]; omega), if_pos (by omega), if_pos (by omega), if_pos (by rw [hsz]; omega)]
      have e : ((D ++ [p]).map txt8).set ((D.length : Nat) : Int).toNat (txt8 p ++ txt8 [c]) = (D ++ [p ++ [c]]).map txt8 := by
        have h1 : txt8 p ++ txt8 [c] = txt8 (p ++ [c]) := by
          rw [← txt8_of (txt8 p ++ txt8 [c]), ByteArray.data_append, Array.toList_append, txt8_data, txt8_data]
        rw [h1, Int.toNat_natCast]
        simp
      rw [e, hih D (p ++ [c]) (by omega) (by omega) (by simp; omega)]
      have e2 : piecesL (c :: s.data.toList.drop (j + 1)) = consHead c (piecesL (s.data.toList.drop (j + 1))) := if_neg hc
      rw [e2, preHead_cons p c (piecesL_ne _)]
theorem pieces_f (s : ByteArray) (hs : s.size ≤ 1000000) : courierref03_Pieces.f (s.size + 1) s = some ((piecesL s.data.toList).map txt8) := by
  have h := pieces_loop s hs s.size 0 [] [] (by omega) (by simp; omega) (by simp; omega)
  rw [List.drop_zero, List.nil_append, List.nil_append, preHead_nil (piecesL_ne _)] at h
  exact h
end Go.Proofs.YtbhfecciegfdjaaDoor.X

/-! Plain names, paths: what the program's and the reference's functions answer. -/
set_option linter.unusedVariables false
set_option linter.unusedSimpArgs false
namespace Go.Proofs.YtbhfecciegfdjaaDoor.X
open Go.RowKit Go.Shelf Go.Proofs.YtbhfecciegfdjaaDoorW.PrintWords Go.Proofs.YtbhfecciegfdjaaDoorW.PrintLast Go.Proofs.YtbhfecciegfdjaaDoorW.PrintMore
set_option maxHeartbeats 4000000 in
set_option maxRecDepth 100000 in
theorem ident_Plain.calls (s : ByteArray) (w : World) (hs : s.size ≤ 4611686018427387904) :
    Calls Tryd.prog 31 #[.string s] w fun e w' => e = .returned (.bool (plainV s)) ∧ Below w.heap.size w w' := by
  go_enter Tryd.func31, Tryd.ntmps31
  go_wp2_with fail
  refine (ident_Name.calls s _ hs).mono ?_
  rintro e w1 ⟨rfl, hb⟩
  have HB := Aside0.mk hb
  clear hb
  have HP : Aside0 (plainV s = (nameV (runesOf s) && !resV s)) := ⟨rfl⟩
  cases hn : nameV (runesOf s) with
  | false =>
    rw [hn, Bool.false_and] at HP
    clear hn
    go_wp2_with fail
    go_ret
    exact ⟨congrArg (fun b => Ending.returned (Value.bool b)) HP.out.symm, HB.out⟩
  | true =>
    rw [hn, Bool.true_and] at HP
    clear hn
    go_wp2_with fail
    refine (ident_Reserved.calls s _).mono ?_
    rintro e w2 ⟨rfl, hb⟩
    have HB2 := Aside0.mk (below_step HB.out hb)
    clear hb
    cases hr : resV s with
    | false =>
      rw [hr] at HP
      clear hr
      go_wp2_with fail
      go_ret
      exact ⟨congrArg (fun b => Ending.returned (Value.bool b)) HP.out.symm, HB2.out⟩
    | true =>
      rw [hr] at HP
      clear hr
      go_wp2_with fail
      go_ret
      exact ⟨congrArg (fun b => Ending.returned (Value.bool b)) HP.out.symm, HB2.out⟩
set_option maxHeartbeats 4000000 in
set_option maxRecDepth 100000 in
theorem courierref03_Plain.calls (s : ByteArray) (w : World) (hs : s.size ≤ 70368744177664) (hT : Lib.Utf8Tabs (Tryd.lays196_ren.g 3) (Tryd.lays196_ren.g 4) w) :
    Calls Tryd.prog 20 #[.string s] w fun e w' => e = .returned (.bool (plainV s)) ∧ Below w.heap.size w w' := by
  go_enter Tryd.func20, Tryd.ntmps20
  go_wp2_with fail
  refine (courierref03_Name.calls s _ hs hT).mono ?_
  rintro e w1 ⟨rfl, hb⟩
  have HB := Aside0.mk hb
  clear hb hT
  have HP : Aside0 (plainV s = (nameV (runesOf s) && !resV s)) := ⟨rfl⟩
  cases hn : nameV (runesOf s) with
  | false =>
    rw [hn, Bool.false_and] at HP
    clear hn
    go_wp2_with fail
    go_ret
    exact ⟨congrArg (fun b => Ending.returned (Value.bool b)) HP.out.symm, HB.out⟩
  | true =>
    rw [hn, Bool.true_and] at HP
    clear hn
    go_wp2_with fail
    refine (courierref03_Reserved.calls s (resV s) _ (refReserved_f s)).mono ?_
    rintro e w' ⟨rfl, ⟨nd, rfl⟩⟩
    cases hr : resV s with
    | false =>
      rw [hr] at HP
      clear hr
      go_wp2_with fail
      go_ret
      exact ⟨congrArg (fun b => Ending.returned (Value.bool b)) HP.out.symm, pw_below_drewN HB.out _⟩
    | true =>
      rw [hr] at HP
      clear hr
      go_wp2_with fail
      go_ret
      exact ⟨congrArg (fun b => Ending.returned (Value.bool b)) HP.out.symm, pw_below_drewN HB.out _⟩
set_option maxHeartbeats 4000000 in
set_option maxRecDepth 100000 in
theorem ident_Path1.calls (s : ByteArray) (w : World) (hs : s.size ≤ 4611686018427387904) :
    Calls Tryd.prog 30 #[.string s] w fun e w' => e = .returned (.bool (!plainV s)) ∧ Below w.heap.size w w' := by
  go_enter Tryd.func30, Tryd.ntmps30
  go_wp2_with fail
  refine (ident_Plain.calls s _ hs).mono ?_
  rintro e w1 ⟨rfl, hb⟩
  have HB := Aside0.mk hb
  clear hb
  obtain ⟨b, hpb⟩ : ∃ b, plainV s = b := ⟨_, rfl⟩
  rw [hpb]
  have HP := Aside0.mk hpb
  clear hpb
  cases b with
  | false =>
    go_wp2_with fail
    go_ret
    exact ⟨congrArg (fun b => Ending.returned (Value.bool b)) (by rw [HP.out]; rfl), HB.out⟩
  | true =>
    go_wp2_with fail
    go_ret
    exact ⟨congrArg (fun b => Ending.returned (Value.bool b)) (by rw [HP.out]; rfl), HB.out⟩
/-- slices.IndexFunc with Path's own test: is there one that is not plain? -/
def firstBad : List ByteArray → Nat → Int
  | [], _ => -1
  | p :: ps, i => if plainV p = true then firstBad ps (i + 1) else (i : Int)
theorem firstBad_ge : ∀ (ps : List ByteArray) (i : Nat), decide (0 ≤ firstBad ps i) = !ps.all plainV
  | [], _ => rfl
  | p :: ps, i => by
    unfold firstBad
    by_cases h : plainV p = true
    · rw [if_pos h, firstBad_ge ps (i + 1), List.all_cons, h, Bool.true_and]
    · rw [if_neg h, List.all_cons, Bool.eq_false_iff.mpr h, Bool.false_and, decide_eq_true (by omega)]; rfl
set_option maxHeartbeats 4000000 in
set_option maxRecDepth 100000 in
theorem ident_IndexFunc.calls (A : Option Addr) (n c : Nat) (ps : List ByteArray) (w : World) (hC : Kd.C Kd.string w A n ps) (hn : n ≤ 1000000000) (hsz : ∀ p ∈ ps, p.size ≤ 4611686018427387904) :
    Calls Tryd.prog 37 #[.slice A n c, .func (.func 30) #[] #[]] w fun e w' => e = .returned (.int .i64 (firstBad ps 0)) ∧ Below w.heap.size w w' := by
  have HC := Aside0.mk hC
  have HSZ := Aside0.mk hsz
  have HLN := Aside0.mk (Kd.C_len hC)
  have HB0 := Aside0.mk (Below.refl w.heap.size w)
  clear hC hsz
  go_enter Tryd.func37, Tryd.ntmps37
  go_wp2_with fail
  go_loopw [8] (fun v8 wr => ∃ j : Nat, j ≤ n ∧ v8 = .int .i64 j ∧ Aside0 (Below w.heap.size w wr) ∧ Aside0 (firstBad ps 0 = firstBad (ps.drop j) j)) (fun v8 _ => n - (intOf v8).toNat)
  case atStart => exact ⟨0, by omega, rfl, HB0, ⟨by rw [List.drop_zero]⟩⟩
  case round =>
    obtain ⟨j, hj, rfl, HB, HF⟩ := hrel
    by_cases hlt : j < n
    · have t1 : decide (j < n) = true := decide_eq_true hlt
      obtain ⟨ad, hA, hcell⟩ := Kd.at_string (Kd.C_below HC.out HB.out) (j : Int) (by omega) (by omega)
      subst hA
      have hjm : j < ps.length := by rw [HLN.out]; exact hlt
      have hrd : rdOf ByteArray.empty ps (j : Int) = ps[j]'hjm := by simp [rdOf, hjm]
      rw [hrd, Int.toNat_natCast] at hcell
      have HD : Aside0 (ps.drop j = ps[j]'hjm :: ps.drop (j + 1)) := ⟨List.drop_eq_getElem_cons hjm⟩
      have hz := HSZ.out _ (List.getElem_mem hjm)
      generalize ps[j]'hjm = p at hcell HD hz
      clear hrd
      go_wp2_with fail
      refine (ident_Path1.calls p _ hz).mono ?_
      rintro e w2 ⟨rfl, hb⟩
      have HB2 := Aside0.mk (below_step HB.out hb)
      clear hb
      have HFB : Aside0 (firstBad ps 0 = if plainV p = true then firstBad (ps.drop (j + 1)) (j + 1) else (j : Int)) := ⟨by rw [HF.out, HD.out, firstBad]⟩
      generalize plainV p = b at *
      cases b with
      | false =>
        rw [if_neg (by decide)] at HFB
        go_wp2_with fail
        go_ret
        exact ⟨congrArg (fun b => Ending.returned (Value.int .i64 b)) HFB.out.symm, HB2.out⟩
      | true =>
        rw [if_pos rfl] at HFB
        go_wp2_with fail
        go_roundw
        case rel => exact ⟨j + 1, by omega, by go_num, HB2, HFB⟩
        case measure => simp [intOf]; omega
    · have t1 : decide (j < n) = false := decide_eq_false hlt
      have HV : Aside0 (firstBad ps 0 = -1) := ⟨by rw [HF.out, List.drop_eq_nil_of_le (by rw [HLN.out]; omega), firstBad]⟩
      go_wp2_with fail
      go_ret
      exact ⟨congrArg (fun b => Ending.returned (Value.int .i64 b)) HV.out.symm, HB.out⟩
set_option maxHeartbeats 4000000 in
set_option maxRecDepth 100000 in
theorem ident_ContainsFunc.calls (A : Option Addr) (n c : Nat) (ps : List ByteArray) (w : World) (hC : Kd.C Kd.string w A n ps) (hn : n ≤ 1000000000) (hsz : ∀ p ∈ ps, p.size ≤ 4611686018427387904) :
    Calls Tryd.prog 29 #[.slice A n c, .func (.func 30) #[] #[]] w fun e w' => e = .returned (.bool (!ps.all plainV)) ∧ Below w.heap.size w w' := by
  go_enter Tryd.func29, Tryd.ntmps29
  go_wp2_with fail
  refine (ident_IndexFunc.calls A n c ps _ hC hn hsz).mono ?_
  rintro e w2 ⟨rfl, hb⟩
  have HB := Aside0.mk hb
  have hf := firstBad_ge ps 0
  clear hb hC hsz
  obtain ⟨b, hpb⟩ : ∃ b, ps.all plainV = b := ⟨_, rfl⟩
  rw [hpb] at hf
  have HP := Aside0.mk hpb
  clear hpb
  generalize firstBad ps 0 = x at *
  cases b with
  | false =>
    have hf2 : decide (0 ≤ x) = true := hf
    clear hf
    go_wp2_with fail
    go_ret
    exact ⟨congrArg (fun b => Ending.returned (Value.bool b)) (by rw [HP.out]; rfl), HB.out⟩
  | true =>
    have hf2 : decide (0 ≤ x) = false := hf
    clear hf
    go_wp2_with fail
    go_ret
    exact ⟨congrArg (fun b => Ending.returned (Value.bool b)) (by rw [HP.out]; rfl), HB.out⟩
theorem pieces_small (s : ByteArray) : (piecesL s.data.toList).length ≤ s.size + 1 ∧ ∀ p ∈ (piecesL s.data.toList).map txt8, p.size ≤ s.size := by
  have h : ∀ l : List UInt8, (piecesL l).length ≤ l.length + 1 ∧ ∀ p ∈ piecesL l, p.length ≤ l.length := by
    intro l
    induction l with
    | nil => simp [piecesL]
    | cons c l ih =>
      unfold piecesL
      by_cases hc : c = 46
      · rw [if_pos hc]
        refine ⟨by simp; omega, fun p hp => ?_⟩
        rcases List.mem_cons.mp hp with rfl | hp
        · simp
        · have := ih.2 p hp
          rw [List.length_cons]; omega
      · rw [if_neg hc]
        have hne := piecesL_ne l
        generalize piecesL l = ps at *
        cases ps with
        | nil => exact absurd rfl hne
        | cons q qs =>
          refine ⟨by simp [consHead] at *; omega, fun p hp => ?_⟩
          rcases List.mem_cons.mp hp with rfl | hp
          · have := ih.2 q List.mem_cons_self
            rw [List.length_cons, List.length_cons]; omega
          · have := ih.2 p (List.mem_cons_of_mem _ hp)
            rw [List.length_cons]; omega
  have h1 := h s.data.toList
  rw [data_length] at h1
  refine ⟨h1.1, fun p hp => ?_⟩
  obtain ⟨q, hq, rfl⟩ := List.mem_map.mp hp
  rw [txt8_size]
  exact h1.2 q hq
theorem strs_C {W : World} (ps : List ByteArray) (h : ps.length ≤ 9223372036854775807) : Kd.C Kd.string (W.alloc (.cells (ps.map Value.string).toArray 9)) (some ⟨W.heap.size, 0, none⟩) ps.length ps := by
  refine Kd.C_of_reads (enc := Value.string) (d := ByteArray.empty) ⟨rfl, h, fun _ => ⟨⟨W.heap.size, 0, none⟩, rfl, fun j hj => ?_⟩⟩
  have h3 : (Addr.add ⟨W.heap.size, 0, none⟩ j) = ⟨W.heap.size, j, none⟩ := by simp [Addr.add]; intro h; omega
  rw [h3]
  refine (blk_cell (heap_alloc_new W _) j).trans ?_
  simp [hj, List.getD_eq_getElem?_getD]
def PathPost (s : ByteArray) (w : World) (e : Ending) (w' : World) : Prop := ∃ A c, e = .returned (.tuple #[.slice A (pathL s).length c, .bool (pathOk s)]) ∧ Kd.C Kd.string w' A (pathL s).length (pathL s) ∧ (pathL s).length ≤ c ∧ Below w.heap.size w w'
set_option maxHeartbeats 4000000 in
set_option maxRecDepth 100000 in
theorem ident_Path.calls (s : ByteArray) (m : Int) (w : World) (hs : s.size ≤ 1000000) (hm : w.cell? ⟨0, 0, none⟩ = some (.int .i64 m)) :
    Calls Tryd.prog 22 #[.string s] w (PathPost s w) := by
  go_enter Tryd.func22, Tryd.ntmps22
  go_wp2_with fail
  refine (Tryd.strings_Split s ⟨#[46]⟩ m w (by omega) hm (by decide)).mono ?_
  rintro e w' ⟨rfl, rfl⟩
  have hb := split_bytes s
  have hsm := pieces_small s
  rw [hb.1]
  obtain ⟨ps, hps⟩ : ∃ ps, ps = (piecesL s.data.toList).map txt8 := ⟨_, rfl⟩
  rw [← hps] at hsm ⊢
  have hl : Lib.countB s ⟨#[46]⟩ + 1 = ps.length := by rw [hps, List.length_map, hb.2]
  have hl2 : (piecesL s.data.toList).length = ps.length := by rw [hps, List.length_map]
  rw [hl]
  rw [hl2] at hsm
  have HC := Aside0.mk (strs_C (W := w) ps (by omega))
  have HB0 : Aside0 (Below w.heap.size w (w.alloc (.cells (ps.map Value.string).toArray 9))) := ⟨below_alloc (Below.refl _ _) _⟩
  have HO : Aside0 (pathOk s = (decide (ps.length ≤ 8) && ps.all plainV)) := ⟨by unfold pathOk; rw [hl2, ← hps]⟩
  have HPL : Aside0 (pathL s = if pathOk s = true then ps else []) := ⟨by unfold pathL; rw [← hps]⟩
  have HSM := Aside0.mk hsm.2
  have hn1 := hsm.1
  obtain ⟨n, hn⟩ : ∃ n, n = ps.length := ⟨_, rfl⟩
  rw [← hn] at hn1 HC HO ⊢
  have HN := Aside0.mk hn
  obtain ⟨W, hW⟩ : ∃ W, W = w.alloc (.cells (ps.map Value.string).toArray 9) := ⟨_, rfl⟩
  rw [← hW] at HC HB0 ⊢
  clear hb hsm hps hl hl2 hn hW hm
  by_cases h8 : n ≤ 8
  rotate_left
  · have t8 : decide (8 < (n : Int)) = true := decide_eq_true (by omega)
    rw [decide_eq_false h8, Bool.false_and] at HO
    rw [HO.out, if_neg (by decide)] at HPL
    go_wp2_with fail
    go_ret2
    rw [PathPost, HPL.out, HO.out]
    exact ⟨none, 0, rfl, Kd.C_nil _ _, Nat.le_refl _, HB0.out⟩
  have t8 : decide (8 < (n : Int)) = false := decide_eq_false (by omega)
  rw [decide_eq_true h8, Bool.true_and] at HO
  go_wp2_with fail
  refine (ident_ContainsFunc.calls (some ⟨w.heap.size, 0, none⟩) n n ps _ HC.out (by omega) (fun p hp => by have := HSM.out p hp; omega)).mono ?_
  rintro e w2 ⟨rfl, hb⟩
  have HB2 := Aside0.mk (below_step HB0.out hb)
  have HC2 := Aside0.mk (Kd.C_below HC.out hb)
  clear hb
  generalize ps.all plainV = b at *
  cases b with
  | false =>
    rw [HO.out, if_neg (by decide)] at HPL
    go_wp2_with fail
    go_ret2
    rw [PathPost, HPL.out, HO.out]
    exact ⟨none, 0, rfl, Kd.C_nil _ _, Nat.le_refl _, HB2.out⟩
  | true =>
    rw [HO.out, if_pos rfl] at HPL
    go_wp2_with fail
    go_ret2
    rw [PathPost, HPL.out, HO.out, ← HN.out]
    exact ⟨_, n, rfl, HC2.out, Nat.le_refl _, HB2.out⟩
end Go.Proofs.YtbhfecciegfdjaaDoor.X

/-! The reference's Path: of any text of at most 10^6 bytes the same as the program's. -/
set_option linter.unusedVariables false
set_option linter.unusedSimpArgs false
namespace Go.Proofs.YtbhfecciegfdjaaDoor.X
open Go.RowKit Go.Shelf Go.Proofs.YtbhfecciegfdjaaDoorW.PrintWords Go.Proofs.YtbhfecciegfdjaaDoorW.PrintLast Go.Proofs.YtbhfecciegfdjaaDoorW.PrintMore
set_option maxHeartbeats 4000000 in
set_option maxRecDepth 100000 in
theorem courierref03_Path.calls (s : ByteArray) (w : World) (hs : s.size ≤ 1000000) (hT : Lib.Utf8Tabs (Tryd.lays196_ren.g 3) (Tryd.lays196_ren.g 4) w) :
    Calls Tryd.prog 12 #[.string s] w (PathPost s w) := by
  have HT := Aside0.mk hT
  have HPF := Aside0.mk (pieces_f s hs)
  have hsm := pieces_small s
  obtain ⟨ps, hps⟩ : ∃ ps, ps = (piecesL s.data.toList).map txt8 := ⟨_, rfl⟩
  have hl2 : (piecesL s.data.toList).length = ps.length := by rw [hps, List.length_map]
  have HO : Aside0 (pathOk s = (decide (ps.length ≤ 8) && ps.all plainV)) := ⟨by unfold pathOk; rw [hl2, ← hps]⟩
  have HPL : Aside0 (pathL s = if pathOk s = true then ps else []) := ⟨by unfold pathL; rw [← hps]⟩
  rw [← hps] at HPF hsm
  rw [hl2] at hsm
  have HSM := Aside0.mk hsm.2
  have hn1 := hsm.1
  have HPS := Aside0.mk (path_size (s := s))
  clear hT hps hl2 hsm
  go_enter Tryd.func12, Tryd.ntmps12
  by_cases h2000 : 2000 < s.size
  · have t0 : decide (2000 < (s.size : Int)) = true := decide_eq_true (by omega)
    have t0n : decide (2000 < s.size) = true := decide_eq_true h2000
    have hok : pathOk s = false := by
      cases h : pathOk s with
      | false => rfl
      | true => have := HPS.out h; omega
    have HOK := Aside0.mk hok
    have HPL2 : Aside0 (pathL s = []) := ⟨by rw [HPL.out, hok]; rfl⟩
    clear hok
    go_wp2_with fail
    go_ret2
    rw [PathPost, HPL2.out, HOK.out]
    exact ⟨none, 0, rfl, Kd.C_nil _ _, Nat.le_refl _, Below.refl _ _⟩
  have t0 : decide (2000 < (s.size : Int)) = false := decide_eq_false (by omega)
  have t0n : decide (2000 < s.size) = false := decide_eq_false h2000
  go_wp2_with fail
  refine (courierref03_Pieces.calls _ s ps _ HPF.out).mono ?_
  rintro e w1 ⟨v, rfl, hR, hb⟩
  obtain ⟨A, c, rfl⟩ := Kd.R_slice hR
  have hR2 := Kd.R_reads' hR
  have HC0 := Aside0.mk hR2.2.2
  have HLC := Aside0.mk hR2.2.1
  have HB0 := Aside0.mk hb
  have HT1 := Aside0.mk (Utf8Tabs_below HT.out hb)
  obtain ⟨n, hn⟩ : ∃ n, n = ps.length := ⟨_, rfl⟩
  rw [← hn] at hn1 HO HC0 HLC ⊢
  have HN := Aside0.mk hn
  clear hR hR2 hb hn
  by_cases h8 : n ≤ 8
  rotate_left
  · have t8 : decide (8 < (n : Int)) = true := decide_eq_true (by omega)
    rw [decide_eq_false h8, Bool.false_and] at HO
    rw [HO.out, if_neg (by decide)] at HPL
    go_wp2_with fail
    go_ret2
    rw [PathPost, HPL.out, HO.out]
    exact ⟨none, 0, rfl, Kd.C_nil _ _, Nat.le_refl _, HB0.out⟩
  have t8 : decide (8 < (n : Int)) = false := decide_eq_false (by omega)
  rw [decide_eq_true h8, Bool.true_and] at HO
  go_wp2_with fail
  go_loopw [16] (fun v16 wr => ∃ j : Nat, j ≤ n ∧ v16 = .int .i64 j ∧ Aside0 (Below w1.heap.size w1 wr) ∧ Aside0 (ps.all plainV = (ps.drop j).all plainV)) (fun v16 _ => n - (intOf v16).toNat)
  case atStart => exact ⟨0, by omega, rfl, ⟨Below.refl _ _⟩, ⟨by rw [List.drop_zero]⟩⟩
  case round =>
    obtain ⟨j, hj, rfl, HB, HF⟩ := hrel
    by_cases hlt : j < n
    · have t1 : decide (j < n) = true := decide_eq_true hlt
      obtain ⟨ad, hA, hcell⟩ := Kd.at_string (Kd.C_below HC0.out HB.out) (j : Int) (by omega) (by omega)
      subst hA
      have hjm : j < ps.length := by rw [← HN.out]; exact hlt
      have hrd : rdOf ByteArray.empty ps (j : Int) = ps[j]'hjm := by simp [rdOf, hjm]
      rw [hrd, Int.toNat_natCast] at hcell
      have HD : Aside0 (ps.drop j = ps[j]'hjm :: ps.drop (j + 1)) := ⟨List.drop_eq_getElem_cons hjm⟩
      have hz := HSM.out _ (List.getElem_mem hjm)
      generalize ps[j]'hjm = p at hcell HD hz
      have HT2 := Aside0.mk (Utf8Tabs_below HT1.out HB.out)
      clear hrd
      go_wp2_with fail
      refine (courierref03_Plain.calls p _ (by omega) HT2.out).mono ?_
      rintro e w2 ⟨rfl, hb⟩
      have HB2 := Aside0.mk (below_step HB.out hb)
      clear hb
      have HFB : Aside0 (ps.all plainV = (plainV p && (ps.drop (j + 1)).all plainV)) := ⟨by rw [HF.out, HD.out, List.all_cons]⟩
      generalize plainV p = b at *
      cases b with
      | false =>
        rw [Bool.false_and] at HFB
        rw [HFB.out] at HO
        rw [HO.out, if_neg (by decide)] at HPL
        go_wp2_with fail
        go_ret2
        rw [PathPost, HPL.out, HO.out]
        exact ⟨none, 0, rfl, Kd.C_nil _ _, Nat.le_refl _, below_step HB0.out HB2.out⟩
      | true =>
        rw [Bool.true_and] at HFB
        go_wp2_with fail
        go_roundw
        case rel => exact ⟨j + 1, by omega, by go_num, HB2, HFB⟩
        case measure => simp [intOf]; omega
    · have t1 : decide (j < n) = false := decide_eq_false hlt
      have hall : ps.all plainV = true := by rw [HF.out, List.drop_eq_nil_of_le (by rw [← HN.out]; omega)]; rfl
      rw [hall] at HO
      rw [HO.out, if_pos rfl] at HPL
      have HCW := Aside0.mk (Kd.C_below HC0.out HB.out)
      clear hall
      go_wp2_with fail
      go_ret2
      rw [PathPost, HPL.out, HO.out, ← HN.out]
      exact ⟨A, c, rfl, HCW.out, HLC.out, below_step HB0.out HB.out⟩
end Go.Proofs.YtbhfecciegfdjaaDoor.X
