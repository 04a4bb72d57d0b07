/- Whole names by their parts: a name that is there once means itself. -/
import Derived.Test.YtbhfecciegfdjaaDoorScopeM
import Derived.Test.YtbhfecciegfdjaaDoorScopeRef
import Derived.Test.YtbhfecciegfdjaaDoorFormM
import Derived.Lib.DecodeN
set_option linter.unusedVariables false
set_option linter.unusedSimpArgs false
namespace Go.Proofs.YtbhfecciegfdjaaDoor.X
open Go.RowKit Go.Shelf Go.Proofs.YtbhfecciegfdjaaDoorW.PrintWords Go.Proofs.YtbhfecciegfdjaaDoorW.PrintLast Go.Proofs.YtbhfecciegfdjaaDoorW.PrintMore
/-! ### a plain name holds no dot -/
theorem dec_cont (n b0 b1 b2 b3 : Nat) : (1 < (Lib.decodeN n b0 b1 b2 b3).2 → b1 / 64 = 2) ∧ (2 < (Lib.decodeN n b0 b1 b2 b3).2 → b2 / 64 = 2) ∧ (3 < (Lib.decodeN n b0 b1 b2 b3).2 → b3 / 64 = 2) ∧ (Lib.decodeN n b0 b1 b2 b3).2 ≤ 4 := by
  unfold Lib.decodeN
  split
  · simp
  split
  · rename_i h1 h2
    split
    · exact ⟨fun _ => h2.2.2, fun h => absurd h (show ¬ 2 < 2 by decide), fun h => absurd h (show ¬ 3 < 2 by decide), show 2 ≤ 4 by decide⟩
    · simp
  split
  · rename_i h1 h2 h3
    split
    · exact ⟨fun _ => h3.2.1.2, fun _ => h3.2.2.2, fun h => absurd h (show ¬ 3 < 3 by decide), show 3 ≤ 4 by decide⟩
    · simp
  split
  · rename_i h1 h2 h3 h4
    split
    · exact ⟨fun _ => h4.2.1.2, fun _ => h4.2.2.1.2, fun _ => h4.2.2.2.2, show 4 ≤ 4 by decide⟩
    · simp
  · simp
theorem no_dot (s : ByteArray) : ∀ (f pos : Nat), s.size ≤ pos + f → (∀ x ∈ runesFrom s f pos, x ≠ 46) → ∀ i, pos ≤ i → i < s.size → (s.get! i).toNat ≠ 46
  | 0, pos, hf, _, i, h1, h2 => by omega
  | f + 1, pos, hf, hx, i, h1, h2 => by
    have hp : pos < s.size := by omega
    rw [runesFrom_next s f pos hp] at hx
    have hw := Lib.width_pos s pos
    have hd := Lib.decode_at s pos
    by_cases hi : i = pos
    · subst hi
      intro e
      refine hx _ List.mem_cons_self ?_
      rw [hd, e]
      rfl
    · by_cases hj : pos + (Utf8.decode s pos).2 ≤ i
      · exact no_dot s f _ (by omega) (fun x hx' => hx x (List.mem_cons_of_mem _ hx')) i hj h2
      · have hc := dec_cont (s.size - pos) (s.get! pos).toNat (s.get! (pos + 1)).toNat (s.get! (pos + 2)).toNat (s.get! (pos + 3)).toNat
        rw [← hd] at hc
        have h4 := hc.2.2.2
        intro e
        rcases (show i = pos + 1 ∨ i = pos + 2 ∨ i = pos + 3 by omega) with rfl | rfl | rfl
        · have := hc.1 (by omega); rw [e] at this; exact absurd this (by decide)
        · have := hc.2.1 (by omega); rw [e] at this; exact absurd this (by decide)
        · have := hc.2.2.1 (by omega); rw [e] at this; exact absurd this (by decide)
theorem plain_no_dot {s : ByteArray} (h : plainV s = true) : (∀ c ∈ s.data.toList, c ≠ 46) ∧ 0 < s.size := by
  unfold plainV at h
  rw [Bool.and_eq_true] at h
  have hn := nameV_all h.1
  refine ⟨fun c hc e => ?_, ?_⟩
  · obtain ⟨i, hi, rfl⟩ := List.getElem_of_mem hc
    rw [data_length] at hi
    have h1 := no_dot s s.size 0 (by omega) (fun x hx e => by have := hn.1 x hx; rw [e] at this; exact absurd this (by decide)) i (by omega) hi
    refine h1 ?_
    have e2 : s.get! i = s.data.toList[i] := by
      show s.data[i]! = _
      simp [getElem!_pos, hi]
    rw [e2, e]
    rfl
  · rcases Nat.eq_zero_or_pos s.size with h0 | h0
    · exfalso
      have : runesOf s = [] := by unfold runesOf; rw [h0]; rfl
      rw [this] at hn
      exact absurd hn.2.2 (by decide)
    · exact h0
/-! ### pieces -/
theorem pieces_plain : ∀ B : List UInt8, (∀ c ∈ B, c ≠ 46) → piecesL B = [B]
  | [], _ => rfl
  | c :: B, h => by
    rw [piecesL, if_neg (h c List.mem_cons_self), pieces_plain B (fun x hx => h x (List.mem_cons_of_mem _ hx))]
    rfl
theorem pieces_dot : ∀ (A B : List UInt8), piecesL (A ++ 46 :: B) = piecesL A ++ piecesL B
  | [], B => by
    show (if (46 : UInt8) = 46 then [] :: piecesL B else _) = _
    rw [if_pos rfl]
    rfl
  | c :: A, B => by
    rw [List.cons_append, piecesL, piecesL, pieces_dot A B]
    by_cases h : c = 46
    · rw [if_pos h, if_pos h]; rfl
    · rw [if_neg h, if_neg h]
      cases hA : piecesL A with
      | nil => exact absurd hA (piecesL_ne A)
      | cons p ps => rfl
/-! ### parts -/
/-- The name that parts make. -/
def nmOf (cs : List ByteArray) : ByteArray := cs.foldl inN ⟨#[]⟩
theorem nmOf_snoc (cs : List ByteArray) (b : ByteArray) : nmOf (cs ++ [b]) = inN (nmOf cs) b := by
  unfold nmOf
  rw [List.foldl_append]
  rfl
def Plains (cs : List ByteArray) : Prop := ∀ b ∈ cs, plainV b = true
theorem inN_of {x b : ByteArray} (h : 0 < x.size) : inN x b = x ++ dot ++ b := if_neg (by omega)
theorem inN_empty (b : ByteArray) : inN ⟨#[]⟩ b = b := if_pos rfl
theorem nmOf_cons (b : ByteArray) (cs : List ByteArray) : nmOf (b :: cs) = cs.foldl inN b := by
  unfold nmOf
  rw [List.foldl_cons, inN_empty]
theorem fold_pos : ∀ (cs : List ByteArray) (x : ByteArray), 0 < x.size → 0 < (cs.foldl inN x).size
  | [], x, h => h
  | b :: cs, x, h => by
    rw [List.foldl_cons]
    refine fold_pos cs _ ?_
    rw [inN_of h, ByteArray.size_append, ByteArray.size_append]
    omega
theorem nmOf_pos {cs : List ByteArray} (h : Plains cs) (hne : cs ≠ []) : 0 < (nmOf cs).size := by
  cases cs with
  | nil => exact absurd rfl hne
  | cons b r =>
    rw [nmOf_cons]
    exact fold_pos r b (plain_no_dot (h b List.mem_cons_self)).2
theorem fold_pieces : ∀ (cs : List ByteArray) (x : ByteArray), 0 < x.size → Plains cs → piecesL (cs.foldl inN x).data.toList = piecesL x.data.toList ++ cs.map fun b => b.data.toList
  | [], x, h, _ => by simp
  | b :: cs, x, h, hp => by
    have hb := plain_no_dot (hp b List.mem_cons_self)
    have e : (inN x b).data.toList = x.data.toList ++ 46 :: b.data.toList := by
      rw [inN_of h, ByteArray.data_append, ByteArray.data_append, Array.toList_append, Array.toList_append, List.append_assoc]
      rfl
    have hx : 0 < (inN x b).size := by
      rw [inN_of h, ByteArray.size_append, ByteArray.size_append]
      omega
    rw [List.foldl_cons, fold_pieces cs _ hx (fun y hy => hp y (List.mem_cons_of_mem _ hy)), e, pieces_dot, pieces_plain _ hb.1, List.map_cons, List.append_assoc]
    rfl
theorem nmOf_pieces {cs : List ByteArray} (h : Plains cs) (hne : cs ≠ []) : (piecesL (nmOf cs).data.toList).map txt8 = cs ∧ (piecesL (nmOf cs).data.toList).length = cs.length := by
  cases cs with
  | nil => exact absurd rfl hne
  | cons b r =>
    have hb := plain_no_dot (h b List.mem_cons_self)
    rw [nmOf_cons, fold_pieces r b hb.2 (fun y hy => h y (List.mem_cons_of_mem _ hy)), pieces_plain _ hb.1]
    have e : ([b.data.toList] ++ r.map fun b => b.data.toList) = (b :: r).map fun b => b.data.toList := rfl
    rw [e, List.map_map, List.length_map]
    refine ⟨?_, rfl⟩
    have : (txt8 ∘ fun b : ByteArray => b.data.toList) = id := funext fun x => txt8_of x
    rw [this, List.map_id]
theorem path_of {cs : List ByteArray} (h : Plains cs) (hne : cs ≠ []) : pathOk (nmOf cs) = decide (cs.length ≤ 8) ∧ (cs.length ≤ 8 → pathL (nmOf cs) = cs) := by
  have hp := nmOf_pieces h hne
  have ha : cs.all plainV = true := List.all_eq_true.mpr h
  have h1 : pathOk (nmOf cs) = decide (cs.length ≤ 8) := by
    unfold pathOk
    rw [hp.1, hp.2, ha, Bool.and_true]
  refine ⟨h1, fun h8 => ?_⟩
  unfold pathL
  rw [h1, decide_eq_true h8, if_pos rfl, hp.1]
/-! ### the way down -/
theorem find_down (g : ByteArray → Option Int) (path : ByteArray) : findS g ⟨#[]⟩ path = if pathOk path = true then (match pathL path with | [] => none | n0 :: rest => (downS g (some ⟨#[]⟩) (n0 :: rest)).map fun y => ⟨y, kd0 g y⟩) else none := by
  unfold findS
  cases hp : pathOk path with
  | false => rfl
  | true =>
    rw [if_neg (by decide), if_neg (by intro h; exact h.1 rfl), if_pos rfl]
    cases pathL path with
    | nil => rfl
    | cons n0 rest => rfl
theorem down_none (g : ByteArray → Option Int) : ∀ cs, downS g none cs = none
  | [] => rfl
  | _ :: _ => rfl
theorem down_ok (g : ByteArray → Option Int) : ∀ (cs : List ByteArray) (x : ByteArray), (∀ q r, cs = q ++ r → q ≠ [] → inOk g (q.foldl inN x) = true) → downS g (some x) cs = some (cs.foldl inN x)
  | [], x, _ => rfl
  | n :: cs, x, h => by
    have h1 := h [n] cs rfl (by simp)
    simp only [List.foldl_cons, List.foldl_nil] at h1
    rw [downS, if_pos h1, List.foldl_cons]
    exact down_ok g cs _ fun q r e hq => by
      have := h (n :: q) r (by rw [e]; rfl) (by simp)
      rwa [List.foldl_cons] at this
/-! ### the parts of all names -/
def coR : List RD → List ByteArray → List (List ByteArray × Int)
  | [], _ => []
  | ⟨a, b, _, _, _, _, ds⟩ :: l, pre => (pre ++ [b], a) :: (coR ds (pre ++ [b]) ++ coR l pre)
def pfx (pre : List ByteArray) : ByteArray := if pre = [] then ⟨#[]⟩ else nmOf pre ++ dot
def WFr (top : Bool) : List RD → Prop
  | [] => True
  | ⟨a, b, _, _, _, _, ds⟩ :: l => (plainV b = true ∧ (a = 1 ∨ a = 2 ∨ a = 3) ∧ (a = 3 → top = true) ∧ (ds ≠ [] → a = 1)) ∧ WFr false ds ∧ WFr top l
theorem empty_app (b : ByteArray) : (⟨#[]⟩ : ByteArray) ++ b = b := ByteArray.empty_append
theorem al_co : ∀ (l : List RD) (top : Bool) (pre : List ByteArray), WFr top l → Plains pre → alL (cvL l) (pfx pre) = (coR l pre).map fun c => (⟨nmOf c.1, c.2⟩ : RS) := by
  intro l
  induction l using rd_ind with
  | nil => intro top pre _ _; rw [cvL, alL, coR]; rfl
  | cons a b c fs vs ms ds l ihd ihl =>
    intro top pre hw hp
    rw [WFr] at hw
    have hp2 : Plains (pre ++ [b]) := fun x hx => by
      rcases List.mem_append.1 hx with hx | hx
      · exact hp x hx
      · rw [List.mem_singleton.1 hx]; exact hw.1.1
    have e1 : pfx pre ++ b = nmOf (pre ++ [b]) := by
      rw [nmOf_snoc]
      unfold pfx
      by_cases h : pre = []
      · rw [if_pos h, h, empty_app]
        exact (inN_empty b).symm
      · rw [if_neg h, inN_of (nmOf_pos hp h)]
    have e2 : pfx pre ++ b ++ dot = pfx (pre ++ [b]) := by
      rw [e1]
      unfold pfx
      rw [if_neg (by simp)]
    rw [cvL, alL, coR, e2, ihd false (pre ++ [b]) hw.2.1 hp2, ihl top pre hw.2.2 hp, e1, List.map_cons, List.map_append]
theorem co_facts : ∀ (l : List RD) (top : Bool) (pre : List ByteArray), WFr top l → ∀ cs k, (cs, k) ∈ coR l pre → ∃ suf, suf ≠ [] ∧ cs = pre ++ suf ∧ Plains suf ∧ (k = 1 ∨ k = 2 ∨ k = 3) ∧ (k = 3 → top = true ∧ suf.length = 1) ∧ ∀ q r, suf = q ++ r → q ≠ [] → r ≠ [] → (pre ++ q, (1 : Int)) ∈ coR l pre := by
  intro l
  induction l using rd_ind with
  | nil => intro top pre _ cs k h; rw [coR] at h; cases h
  | cons a b c fs vs ms ds l ihd ihl =>
    intro top pre hw cs k h
    rw [WFr] at hw
    obtain ⟨⟨hb, ha, h3, hds⟩, hwd, hwl⟩ := hw
    rw [coR] at h
    rcases List.mem_cons.1 h with e | h
    · cases e
      refine ⟨[b], by simp, rfl, fun x hx => by rw [List.mem_singleton.1 hx]; exact hb, ha, fun h => ⟨h3 h, rfl⟩, fun q r e hq hr => ?_⟩
      exfalso
      cases q with
      | nil => exact hq rfl
      | cons x q =>
        cases r with
        | nil => exact hr rfl
        | cons y r =>
          have := congrArg List.length e
          simp at this
    · rcases List.mem_append.1 h with h | h
      · have ha1 : a = 1 := hds fun e => by rw [e, coR] at h; cases h
        obtain ⟨suf, hne, e, hp, hk, hk3, hq⟩ := ihd false (pre ++ [b]) hwd cs k h
        refine ⟨b :: suf, by simp, by rw [e, List.append_assoc]; rfl, fun x hx => ?_, hk, fun h => absurd (hk3 h).1 (by decide), fun q r eq hqn hrn => ?_⟩
        · rcases List.mem_cons.1 hx with rfl | hx
          · exact hb
          · exact hp x hx
        · rw [coR]
          cases q with
          | nil => exact absurd rfl hqn
          | cons x q =>
            rw [List.cons_append, List.cons.injEq] at eq
            obtain ⟨rfl, eq⟩ := eq
            by_cases hq0 : q = []
            · rw [hq0]
              exact List.mem_cons.2 (.inl (by rw [ha1]))
            · have := hq q r eq hq0 hrn
              rw [List.append_assoc] at this
              exact List.mem_cons.2 (.inr (List.mem_append.2 (.inl this)))
      · obtain ⟨suf, hne, e, hp, hk, hk3, hq⟩ := ihl top pre hwl cs k h
        exact ⟨suf, hne, e, hp, hk, hk3, fun q r eq hqn hrn => by rw [coR]; exact List.mem_cons.2 (.inr (List.mem_append.2 (.inr (hq q r eq hqn hrn))))⟩
/-- Names that are there once: the kind of each is its own. -/
theorem kindOf_once : ∀ (L : List RS), L.Pairwise (fun x y => x.f0 ≠ y.f0) → ∀ x ∈ L, kindOf L x.f0 = some x.f1
  | y :: L, h, x, hx => by
    rw [List.pairwise_cons] at h
    rw [kindOf]
    rcases List.mem_cons.1 hx with rfl | hx
    · rw [if_pos rfl]
    · rw [if_neg (h.1 x hx)]
      exact kindOf_once L h.2 x hx
theorem wf_form : ∀ (l : List RD) (dep : Int), frmI l dep = true → WFr false l := by
  intro l
  induction l using rd_ind with
  | nil => intro dep _; rw [WFr]; trivial
  | cons a b c fs vs ms ds l ihd ihl =>
    intro dep h
    rw [frmI, Bool.and_eq_true] at h
    rw [WFr]
    by_cases h3 : a = 3
    · rw [if_pos h3] at h
      exact absurd h.1 (by decide)
    · rw [if_neg h3, Bool.and_eq_true] at h
      have hh := h.1.1
      unfold headV at hh
      rw [Bool.and_eq_true, Bool.and_eq_true, Bool.and_eq_true, Bool.and_eq_true, Bool.and_eq_true] at hh
      obtain ⟨⟨⟨⟨⟨hp, _⟩, hk⟩, _⟩, _⟩, _⟩ := hh
      refine ⟨⟨hp, ?_, fun e => absurd e h3, fun hne => ?_⟩, ihd _ h.1.2, ihl _ h.2⟩
      · unfold kindV at hk
        by_cases h1 : a = 1
        · exact .inl h1
        · by_cases h2 : a = 2
          · exact .inr (.inl h2)
          · rw [if_neg h1, if_neg h2, if_neg h3] at hk
            exact absurd hk (by decide)
      · unfold kindV at hk
        by_cases h1 : a = 1
        · exact h1
        · exfalso
          have : 0 < ds.length := List.length_pos_iff.mpr hne
          by_cases h2 : a = 2
          · rw [if_neg h1, if_pos h2, decide_eq_true_eq] at hk
            omega
          · rw [if_neg h1, if_neg h2, if_neg h3] at hk
            exact absurd hk (by decide)
theorem wf_top : ∀ (l : List RD), frmT l = true → WFr true l
  | [], _ => by rw [WFr]; trivial
  | ⟨a, b, c, fs, vs, ms, ds⟩ :: l, h => by
    have h' : (frmD ⟨a, b, c, fs, vs, ms, ds⟩ 1 && frmT l) = true := h
    rw [Bool.and_eq_true] at h'
    have hd := h'.1
    unfold frmD at hd
    rw [Bool.and_eq_true] at hd
    have hh := hd.1
    unfold headV at hh
    rw [Bool.and_eq_true, Bool.and_eq_true, Bool.and_eq_true, Bool.and_eq_true, Bool.and_eq_true] at hh
    obtain ⟨⟨⟨⟨⟨hp, _⟩, hk⟩, _⟩, _⟩, _⟩ := hh
    simp only at hp hk
    rw [WFr]
    refine ⟨⟨hp, ?_, fun _ => rfl, fun hne => ?_⟩, wf_form ds _ hd.2, wf_top l h'.2⟩
    · unfold kindV at hk
      by_cases h1 : a = 1
      · exact .inl h1
      · by_cases h2 : a = 2
        · exact .inr (.inl h2)
        · by_cases h3 : a = 3
          · exact .inr (.inr h3)
          · rw [if_neg h1, if_neg h2, if_neg h3] at hk
            exact absurd hk (by decide)
    · unfold kindV at hk
      by_cases h1 : a = 1
      · exact h1
      · exfalso
        have : 0 < ds.length := List.length_pos_iff.mpr hne
        by_cases h2 : a = 2
        · rw [if_neg h1, if_pos h2, decide_eq_true_eq] at hk
          omega
        · by_cases h3 : a = 3
          · rw [if_neg h1, if_neg h2, if_pos h3, Bool.and_eq_true, decide_eq_true_eq] at hk
            omega
          · rw [if_neg h1, if_neg h2, if_neg h3] at hk
            exact absurd hk (by decide)
/-- The law, plainly. -/
theorem whole_pure {l : List RD} (hf : frmT l = true) (hd : (alL (cvL l) ⟨#[]⟩).Pairwise (fun x y => x.f0 ≠ y.f0)) {x : RS} (hx : x ∈ alL (cvL l) ⟨#[]⟩) :
    (x.f1 = 3 → findS (kindOf (alL (cvL l) ⟨#[]⟩)) ⟨#[]⟩ x.f0 = none) ∧ (x.f1 ≠ 3 → findS (kindOf (alL (cvL l) ⟨#[]⟩)) ⟨#[]⟩ x.f0 = if pathOk x.f0 = true then some x else none) := by
  have hw := wf_top l hf
  have hco := al_co l true [] hw (fun _ h => by cases h)
  have hpf : pfx [] = ⟨#[]⟩ := rfl
  rw [hpf] at hco
  have hx2 := hx
  rw [hco] at hx2
  obtain ⟨⟨cs, k⟩, hc, rfl⟩ := List.mem_map.1 hx2
  obtain ⟨suf, hne, e, hp, hk, hk3, hq⟩ := co_facts l true [] hw cs k hc
  rw [List.nil_append] at e
  subst e
  have hown : kindOf (alL (cvL l) ⟨#[]⟩) (nmOf cs) = some k := kindOf_once _ hd _ hx
  have hpre : ∀ q r, cs = q ++ r → q ≠ [] → r ≠ [] → kindOf (alL (cvL l) ⟨#[]⟩) (nmOf q) = some 1 := fun q r eq hqn hrn => by
    have h1 := hq q r eq hqn hrn
    rw [List.nil_append] at h1
    have h2 : (⟨nmOf q, 1⟩ : RS) ∈ alL (cvL l) ⟨#[]⟩ := by rw [hco]; exact List.mem_map.2 ⟨(q, 1), h1, rfl⟩
    exact kindOf_once _ hd _ h2
  have hpo := path_of hp hne
  generalize kindOf (alL (cvL l) ⟨#[]⟩) = g at *
  rw [find_down]
  refine ⟨fun h3 => ?_, fun h3 => ?_⟩
  · have hk' : k = 3 := h3
    have hl := (hk3 hk').2
    obtain ⟨b, rfl⟩ := List.length_eq_one_iff.1 hl
    show (if pathOk (nmOf [b]) = true then _ else none) = none
    by_cases hpk : pathOk (nmOf [b]) = true
    · rw [if_pos hpk, hpo.2 (by simp)]
      have hb : inN ⟨#[]⟩ b = nmOf [b] := rfl
      show (downS g (if inOk g (inN ⟨#[]⟩ b) = true then some (inN ⟨#[]⟩ b) else none) []).map _ = none
      rw [hb, if_neg (by unfold inOk kd0; rw [hown, hk']; decide)]
      rfl
    · rw [if_neg hpk]
  · have hk' : k ≠ 3 := h3
    show (if pathOk (nmOf cs) = true then _ else none) = if pathOk (nmOf cs) = true then some (⟨nmOf cs, k⟩ : RS) else none
    by_cases hpk : pathOk (nmOf cs) = true
    · rw [if_pos hpk, if_pos hpk]
      have h8 : cs.length ≤ 8 := by
        have := hpo.1
        rw [hpk] at this
        exact of_decide_eq_true this.symm
      rw [hpo.2 h8]
      have hdn : downS g (some ⟨#[]⟩) cs = some (nmOf cs) := down_ok g cs ⟨#[]⟩ fun q r eq hqn => by
        show inOk g (nmOf q) = true
        by_cases hr : r = []
        · rw [hr, List.append_nil] at eq
          rw [← eq]
          unfold inOk kd0
          rw [hown]
          rcases hk with rfl | rfl | rfl
          · rfl
          · rfl
          · exact absurd rfl hk'
        · unfold inOk kd0
          rw [hpre q r eq hqn hr]
          rfl
      cases cs with
      | nil => exact absurd rfl hne
      | cons n0 rest =>
        show (downS g (some ⟨#[]⟩) (n0 :: rest)).map _ = _
        rw [hdn]
        show some (⟨nmOf (n0 :: rest), kd0 g (nmOf (n0 :: rest))⟩ : RS) = _
        unfold kd0
        rw [hown]
        rfl
    · rw [if_neg hpk, if_neg hpk]
end Go.Proofs.YtbhfecciegfdjaaDoor.X
