/- lex.Words: what it answers of any text. -/
import Derived.Test.YtknbhbppofphpaaGreatDoorLexNext
import Derived.Deep.RegionHeld3
import Derived.Lib.RuneCount
set_option linter.unusedVariables false
set_option linter.unusedSimpArgs false
namespace Go.Proofs.YtknbhbppofphpaaGreatDoor.X
open Go.RowKit Go.Shelf Go.Proofs.YtknbhbppofphpaaGreatDoorW.PrintWords Go.Proofs.YtknbhbppofphpaaGreatDoorW.PrintLast Go.Proofs.YtknbhbppofphpaaGreatDoorW.PrintMore
def lxRune (s : ByteArray) (pos : Nat) : Int := if (Utf8.decode s pos).1 = 65533 ∧ (s.extract pos s.size).data.toList.take 3 ≠ [239, 191, 189] then -1 else ((Utf8.decode s pos).1 : Int)
def lxInit : Sc := ⟨[], 1, 1, -1, ⟨0, emptyB, 0, 0⟩, false, false, 0, 0, 0, 0, 0⟩
def scan (s : ByteArray) : Nat → Nat → Sc → Sc
  | 0, _, σ => σ
  | f + 1, pos, σ => if pos < s.size then (if (nextS σ s pos (lxRune s pos)).end_ = 0 then scan s f (pos + (Utf8.decode s pos).2) (nextS σ s pos (lxRune s pos)) else nextS σ s pos (lxRune s pos)) else σ
/-- Behind the last rune. -/
def lastS (σ : Sc) : Sc := if σ.slash = true then failS σ 6 σ.bl σ.bc else σ
def outS (σ : Sc) : List Wd × Int × Int × Int := if σ.end_ = 0 then (σ.words, 0, 0, 0) else ([], σ.pl, σ.pc, σ.end_)
def wordsP (s : ByteArray) : List Wd × Int × Int × Int :=
  if 20000 < s.size then ([], 1, 1, 4)
  else if (scan s s.size 0 lxInit).end_ = 0 then outS (lastS (shutS (scan s s.size 0 lxInit) s s.size)) else outS (scan s s.size 0 lxInit)
def WordsPost (r : List Wd × Int × Int × Int) (w : World) (e : Ending) (w' : World) : Prop :=
  ∃ v, e = .returned (.tuple #[v, .agg #[.int .i64 r.2.1, .int .i64 r.2.2.1], .int .i64 r.2.2.2]) ∧ w'.ownsRow w.heap.size 90 4 v r.1.length (rowCells r.1) ∧ r.1.length ≤ 4000 ∧ Below w.heap.size w w'
theorem succ_ne2 (n : Nat) : n + 1 + 1 ≠ n + 1 := by omega
theorem some_ne1 (n : Nat) : some n ≠ some (n + 1) := by intro e; injection e with e; omega
theorem next_bounds {f l c l0 c0 : Int} {pos pos2 : Nat} (h : f ≤ (pos : Int) ∧ 0 ≤ l ∧ l ≤ l0 + 1 ∧ 0 ≤ c ∧ c ≤ c0 + 1) {f0 : Int} (h0 : f0 ≤ (pos : Int) ∧ 0 ≤ l0 ∧ l0 ≤ pos + 1 ∧ 0 ≤ c0 ∧ c0 ≤ pos + 1) (hp : pos < pos2) : f ≤ (pos2 : Int) ∧ 0 ≤ l ∧ l ≤ pos2 + 1 ∧ 0 ≤ c ∧ c ≤ pos2 + 1 := by omega
theorem iter_sc {B b k pos : Nat} {v : Value} {σ : Sc} {w : World} {s : ByteArray} (h : ScAt B b v σ w) (hk : w.heap[k]? = some (.stringIter s pos)) (hkb : k ≠ b) : ∀ p, ScAt B b v σ (w.iterAt k s p) := by
  intro p
  refine ⟨h.1, (Lib.iterAt_other w k b s p (fun e => hkb e.symm)).trans h.2.1, ⟨h.2.2.1.1, ?_⟩, h.2.2.2⟩
  rcases h.2.2.1.2 with hn | ⟨g, cap, cur, hv, hg, hh, r⟩
  · exact .inl hn
  · refine .inr ⟨g, cap, cur, hv, hg, (Lib.iterAt_other w k g s p ?_).trans hh, r⟩
    intro e
    rw [e, hk] at hh
    cases hh
theorem failS_from (σ : Sc) (e l c : Int) : (failS σ e l c).from_ = σ.from_ := by unfold failS; split <;> rfl
theorem addS_from (σ : Sc) (x : Wd) : (addS σ x).from_ = σ.from_ := by
  unfold addS
  split
  · exact failS_from _ _ _ _
  · rfl
theorem shutS_from (σ : Sc) (s : ByteArray) (i : Int) (h : -1 ≤ i) (hf : σ.from_ ≤ i) : (shutS σ s i).from_ ≤ i := by
  unfold shutS
  split
  · exact hf
  · simp only
    split
    · rw [addS_from]; exact h
    · rw [failS_from]; exact h
theorem runeS_from (σ : Sc) (i r : Int) (hf : σ.from_ ≤ i) : (runeS σ i r).from_ ≤ i := by
  unfold runeS
  repeat' split
  all_goals first | exact hf | exact Int.le_refl _ | (rw [addS_from]; exact hf) | (rw [failS_from]; exact hf)
theorem midS_at (σ : Sc) (i r : Int) : (midS σ i r).line = σ.line ∧ (midS σ i r).col = σ.col := by
  unfold midS
  repeat' split
  all_goals first | exact ⟨rfl, rfl⟩ | exact failS_at _ _ _ _ | exact runeS_at _ _ _
theorem midS_from (σ : Sc) (i r : Int) (hf : σ.from_ ≤ i) : (midS σ i r).from_ ≤ i := by
  unfold midS
  repeat' split
  all_goals first | exact hf | (rw [failS_from]; exact hf) | exact runeS_from _ _ _ hf
theorem preS_at (σ : Sc) (s : ByteArray) (i r : Int) : (preS σ s i r).line = σ.line ∧ (preS σ s i r).col = σ.col := by
  unfold preS
  split
  · exact shutS_at _ _ _
  · exact ⟨rfl, rfl⟩
theorem nextS_facts (σ : Sc) (s : ByteArray) (i r : Int) (h0 : 0 ≤ i) (hf : σ.from_ ≤ i) (hl : 0 ≤ σ.line) (hc : 0 ≤ σ.col) : (nextS σ s i r).from_ ≤ i ∧ 0 ≤ (nextS σ s i r).line ∧ (nextS σ s i r).line ≤ σ.line + 1 ∧ 0 ≤ (nextS σ s i r).col ∧ (nextS σ s i r).col ≤ σ.col + 1 := by
  have h1 : (preS σ s i r).from_ ≤ i := by
    unfold preS
    split
    · exact shutS_from σ s i (by omega) hf
    · exact hf
  have h2 := midS_from (preS σ s i r) i r h1
  have h3 := midS_at (preS σ s i r) i r
  have h4 := preS_at σ s i r
  rw [h4.1, h4.2] at h3
  unfold nextS finS
  split
  · simp only; omega
  · simp only; omega
theorem prefix3 (t : ByteArray) : ([239, 191, 189] : List UInt8).isPrefixOf t.data.toList = decide (t.data.toList.take 3 = [239, 191, 189]) := by
  generalize t.data.toList = l
  match l with
  | [] => rfl
  | [a] => simp [List.isPrefixOf]
  | [a, b] => simp [List.isPrefixOf]
  | a :: b :: c :: l =>
    rw [Bool.eq_iff_iff]
    simp [List.isPrefixOf]
    constructor
    · rintro ⟨rfl, rfl, rfl⟩; exact ⟨rfl, rfl, rfl⟩
    · rintro ⟨rfl, rfl, rfl⟩; exact ⟨rfl, rfl, rfl⟩
set_option maxHeartbeats 4000000 in
set_option maxRecDepth 100000 in
theorem lex_Words.calls (s : ByteArray) (w : World) (hT : LexTabs w) :
    Calls Tryz.prog 17 #[.string s] w (WordsPost (wordsP s) w) := by
  have HT := Aside0.mk hT
  clear hT
  have HW0 : Aside0 (wordsP s = if 20000 < s.size then ([], 1, 1, 4) else if (scan s s.size 0 lxInit).end_ = 0 then outS (lastS (shutS (scan s s.size 0 lxInit) s s.size)) else outS (scan s s.size 0 lxInit)) := ⟨rfl⟩
  by_cases h20 : 20000 < s.size
  · have t0 : decide (20000 < (s.size : Int)) = true := decide_eq_true (by omega)
    have t0n : decide (20000 < s.size) = true := decide_eq_true h20
    rw [if_pos h20] at HW0
    clear h20
    go_enter Tryz.func17, Tryz.ntmps17
    go_wp2_with fail
    refine bodyPost_ret (v := .tuple #[.slice none 0 0, .agg #[.int .i64 1, .int .i64 1], .int .i64 4]) (by simp [results, Tryz.results17, go_sem]) rfl ?_
    rw [HW0.out]
    exact ⟨.slice none 0 0, rfl, own_nil _ _ _ _, by simp, by repeat (first | exact Below.refl _ _ | refine bel_set ?_ (Nat.le_refl _) _ | refine below_alloc ?_ _)⟩
  · have t0 : decide (20000 < (s.size : Int)) = false := decide_eq_false (by omega)
    have t0n : decide (20000 < s.size) = false := decide_eq_false h20
    rw [if_neg h20] at HW0
    have hs : s.size ≤ 70368744177664 := by omega
    go_enter Tryz.func17, Tryz.ntmps17
    go_wp2_with fail
    have hat0 : ScAt w.heap.size (w.heap.size + 1) (.slice none 0 0) lxInit (w.alloc (.cells #[.int .i64 0, .int .i64 0] 34) |>.alloc (.cells (scCells (.slice none 0 0) lxInit) 92)) := ⟨by omega, (blk_new (w.alloc (.cells #[.int .i64 0, .int .i64 0] 34)) _).trans rfl |> fun h => by simpa using h, own_nil _ _ _ _, by simp [lxInit]⟩
    go_loopw [] (fun wr => ∃ (pos fuel : Nat) (v : Value) (σ : Sc), Aside0 (ScAt w.heap.size (w.heap.size + 1) v σ wr) ∧ Aside0 (wr.heap[w.heap.size + 1 + 1]? = some (.stringIter s pos)) ∧ Aside0 (wr.heap[w.heap.size]? = some (.cells #[.int .i64 0, .int .i64 0] 34 (0, 0))) ∧ Aside0 (Below w.heap.size w wr) ∧ Aside0 (scan s fuel pos σ = scan s s.size 0 lxInit) ∧ s.size ≤ pos + fuel ∧ Aside0 (σ.end_ = 0) ∧ Aside0 (pos ≤ s.size) ∧ Aside0 (σ.from_ ≤ pos ∧ 0 ≤ σ.line ∧ σ.line ≤ pos + 1 ∧ 0 ≤ σ.col ∧ σ.col ≤ pos + 1)) (fun wr => s.size - wr.iterPos (w.heap.size + 1 + 1))
    case atStart =>
      refine ⟨0, s.size, .slice none 0 0, lxInit, ⟨hat0.below (below_alloc (Below.refl _ _) _)⟩, ⟨?_⟩, ⟨?_⟩, ⟨below_alloc (below_alloc (below_alloc (Below.refl _ _) _) _) _⟩, ⟨rfl⟩, by omega, ⟨rfl⟩, ⟨Nat.zero_le _⟩, ⟨by decide⟩⟩
      · have h1 := World.iter_heap ((w.alloc (.cells #[.int .i64 0, .int .i64 0] 34)).alloc (.cells (scCells (.slice none 0 0) lxInit) 92)) s 0
        have h2 : ((w.alloc (.cells #[.int .i64 0, .int .i64 0] 34)).alloc (.cells (scCells (.slice none 0 0) lxInit) 92)).heap.size = w.heap.size + 1 + 1 := by simp
        rw [h2] at h1
        exact h1
      · exact blk_alloc (blk_alloc (blk_new w _) _) _
    case round =>
      clear hat0
      obtain ⟨pos, fuel, v, σ, HAT, HI, HRS, HB, HA, hfu, HE, HPS, HF⟩ := hrel
      have hsz : w.heap.size + 1 + 1 < wr.heap.size := (Array.getElem?_eq_some_iff.1 HI.out).1
      by_cases hp : pos < s.size
      · have hnx : ∀ ty, (Instr.next (.pointer (some ⟨w.heap.size + 1 + 1, 0, none⟩)) true ty).run Tryz.prog wr = _ := fun ty => Lib.run_next_any_at wr (w.heap.size + 1 + 1) s pos ty HI.out hp
        have hwd := width_pos s pos hp
        have hd1 := decode_le s pos
        have hdle := Lib.decodeL_le (s.data.toList.drop pos) (by
          intro e
          have := congrArg List.length e
          simp at this
          have h2 : s.data.size = s.size := rfl
          omega)
        rw [Lib.decodeL_drop, List.length_drop, data_length] at hdle
        have HAT2 : Aside0 (ScAt w.heap.size (w.heap.size + 1) v σ (wr.iterAt (w.heap.size + 1 + 1) s (pos + (Utf8.decode s pos).2))) := ⟨iter_sc HAT.out HI.out (by omega) _⟩
        have HI2 := Aside0.mk (Lib.iterAt_heap wr (w.heap.size + 1 + 1) s pos (pos + (Utf8.decode s pos).2) HI.out)
        have HB2 := Aside0.mk (Lib.below_iterAt HB.out (k := w.heap.size + 1 + 1) (by omega) s (pos + (Utf8.decode s pos).2))
        have HRS2 : Aside0 ((wr.iterAt (w.heap.size + 1 + 1) s (pos + (Utf8.decode s pos).2)).heap[w.heap.size]? = some (.cells #[.int .i64 0, .int .i64 0] 34 (0, 0))) := ⟨(Lib.iterAt_other wr _ _ s _ (by omega)).trans HRS.out⟩
        obtain ⟨f, rfl⟩ : ∃ f, fuel = f + 1 := ⟨fuel - 1, by omega⟩
        have hfu2 : s.size ≤ pos + (Utf8.decode s pos).2 + f := by omega
        have hadv : pos < pos + (Utf8.decode s pos).2 := by omega
        have hp2 : pos + (Utf8.decode s pos).2 ≤ s.size := by omega
        have HM : Aside0 (wr.iterPos (w.heap.size + 1 + 1) = pos) := ⟨by simp only [World.iterPos, HI.out]⟩
        have HSC : Aside0 (scan s (f + 1) pos σ = if (nextS σ s pos (lxRune s pos)).end_ = 0 then scan s f (pos + (Utf8.decode s pos).2) (nextS σ s pos (lxRune s pos)) else nextS σ s pos (lxRune s pos)) := ⟨by rw [scan, if_pos hp]⟩
        have HLX : Aside0 (lxRune s pos = if (Utf8.decode s pos).1 = 65533 ∧ (s.extract pos s.size).data.toList.take 3 ≠ [239, 191, 189] then -1 else ((Utf8.decode s pos).1 : Int)) := ⟨rfl⟩
        generalize (Utf8.decode s pos).1 = x at *
        generalize pos + (Utf8.decode s pos).2 = pos2 at *
        have hx31 : x ≤ 2147483647 := hd1
        have hF := HF.out
        have HQ : Aside0 ((pos : Int) ≤ s.size ∧ σ.from_ ≤ pos ∧ -2147483648 ≤ (x : Int) ∧ (x : Int) ≤ 2147483647 ∧ 0 ≤ σ.line ∧ σ.line ≤ 1000000000 ∧ 0 ≤ σ.col ∧ σ.col ≤ 1000000000) := ⟨by omega⟩
        have HMS : Aside0 (s.size - pos2 < s.size - pos) := ⟨by omega⟩
        have HHF := Aside0.mk hF
        have HADV := Aside0.mk hadv
        have hps : pos ≤ s.size := by omega
        clear HI HRS HB HAT hdle hwd hd1 HF hF hadv hx31
        by_cases h65 : x = 65533
        · have t65 : ((x : Int) == 65533) = true := beq_iff_eq.mpr (by omega)
          have hpf := prefix3 (s.extract pos s.size)
          obtain ⟨p3, hp3⟩ : ∃ p3, decide ((s.extract pos s.size).data.toList.take 3 = [239, 191, 189]) = p3 := ⟨_, rfl⟩
          rw [hp3] at hpf
          have HPF : Aside0 (Lib.hasPrefix (s.extract pos s.size).data.toList ({ data := #[239, 191, 189] } : ByteArray).data.toList = p3) := ⟨hpf⟩
          cases p3 with
          | true =>
            have HLR : Aside0 (lxRune s pos = (x : Int)) := ⟨by rw [HLX.out, if_neg (fun h => h.2 (of_decide_eq_true hp3))]⟩
            clear hpf hp3 h65
            go_wp2_with fail
            refine (Tryz.strings_HasPrefix _ _ _).mono ?_
            rintro e w' ⟨rfl, rfl⟩
            rw [HPF.out]
            go_wp2_with fail
            refine (lex_next.calls w HT.out (w.heap.size + 1) v σ s pos ((x : Int)) _ HB2.out HAT2.out HQ.out.1 HQ.out.2.1 hs HQ.out.2.2.1 HQ.out.2.2.2.1 HQ.out.2.2.2.2.1 HQ.out.2.2.2.2.2.1 HQ.out.2.2.2.2.2.2.1 HQ.out.2.2.2.2.2.2.2).mono ?_
            rintro e w3 ⟨rfl, ⟨v3, hat3⟩, hb3, ho3⟩
            have hnf := nextS_facts σ s pos ((x : Int)) (Int.natCast_nonneg _) HQ.out.2.1 HQ.out.2.2.2.2.1 HQ.out.2.2.2.2.2.2.1
            have HB3 := Aside0.mk (HB2.out.trans hb3)
            have HI3 := Aside0.mk (ho3.iter HI2.out (succ_ne2 _))
            have hrs := ho3 w.heap.size _ HRS2.out (some_ne1 _) (by intro c fz e; injection e with _ e2; exact absurd e2 (by decide))
            rw [HLR.out] at HSC
            obtain ⟨σ3, hσ3⟩ : ∃ σ3, σ3 = nextS σ s pos ((x : Int)) := ⟨_, rfl⟩
            rw [← hσ3] at hat3 hnf HSC
            have HNF := Aside0.mk hnf
            have HRS3 := Aside0.mk hrs
            have HAT3 := Aside0.mk hat3
            obtain ⟨_, hbk, hown, hl4⟩ := hat3
            have d12 : w3.cell? ⟨w.heap.size + 1, 12, none⟩ = some (.int .i64 σ3.end_) := blk_cell hbk 12
            have d13 : w3.cell? ⟨w.heap.size + 1, 13, none⟩ = some (.int .i64 σ3.pl) := blk_cell hbk 13
            have d14 : w3.cell? ⟨w.heap.size + 1, 14, none⟩ = some (.int .i64 σ3.pc) := blk_cell hbk 14
            have r0 : w3.cell? ⟨w.heap.size, 0, none⟩ = some (.int .i64 0) := blk_cell hrs 0
            have r1 : w3.cell? ⟨w.heap.size, 1, none⟩ = some (.int .i64 0) := blk_cell hrs 1
            have rf0 := blk_frozen hrs 0
            have rf1 := blk_frozen hrs 1
            clear hσ3 hnf hrs hbk hown hl4 hb3 ho3 HB2 HI2 HRS2 HAT2
            by_cases he : σ3.end_ = 0
            · have te : (σ3.end_ != 0) = false := bne_eq_false_iff_eq.mpr he
              rw [if_pos he] at HSC
              have HE3 := Aside0.mk he
              clear he
              go_wp2_with fail
              go_roundw
              case rel => exact ⟨pos2, f, v3, σ3, HAT3, HI3, HRS3, HB3, ⟨HSC.out.symm.trans HA.out⟩, hfu2, HE3, ⟨hp2⟩, ⟨next_bounds HNF.out HHF.out HADV.out⟩⟩
              case measure =>
                have h1 : World.iterPos w3 (w.heap.size + 1 + 1) = pos2 := by simp only [World.iterPos, HI3.out]
                rw [h1, HM.out]
                exact HMS.out
            · have te : (σ3.end_ != 0) = true := bne_iff_ne.mpr he
              rw [if_neg he] at HSC
              have HW1 : Aside0 (wordsP s = ([], σ3.pl, σ3.pc, σ3.end_)) := ⟨by rw [HW0.out, ← HA.out, HSC.out, if_neg he, outS, if_neg he]⟩
              clear he
              go_wp2_with fail
              go_region
              go_wp2_with fail
              refine bodyPost_ret (v := .tuple #[.slice none 0 0, .agg #[.int .i64 σ3.pl, .int .i64 σ3.pc], .int .i64 σ3.end_]) (by simp [results, Tryz.results17, go_sem, r0, r1, rf0, rf1]) rfl ?_
              rw [HW1.out]
              exact ⟨.slice none 0 0, rfl, own_nil _ _ _ _, by simp, by repeat (first | exact HB3.out | refine below_drew ?_ | refine bel_set ?_ (Nat.le_refl _) _ | refine below_alloc ?_ _)⟩
          | false =>
            have HLR : Aside0 (lxRune s pos = -1) := ⟨by rw [HLX.out, if_pos ⟨h65, of_decide_eq_false hp3⟩]⟩
            clear hpf hp3 h65
            go_wp2_with fail
            refine (Tryz.strings_HasPrefix _ _ _).mono ?_
            rintro e w' ⟨rfl, rfl⟩
            rw [HPF.out]
            go_wp2_with fail
            refine (lex_next.calls w HT.out (w.heap.size + 1) v σ s pos (-1) _ HB2.out HAT2.out HQ.out.1 HQ.out.2.1 hs (by decide) (by decide) HQ.out.2.2.2.2.1 HQ.out.2.2.2.2.2.1 HQ.out.2.2.2.2.2.2.1 HQ.out.2.2.2.2.2.2.2).mono ?_
            rintro e w3 ⟨rfl, ⟨v3, hat3⟩, hb3, ho3⟩
            have hnf := nextS_facts σ s pos (-1) (Int.natCast_nonneg _) HQ.out.2.1 HQ.out.2.2.2.2.1 HQ.out.2.2.2.2.2.2.1
            have HB3 := Aside0.mk (HB2.out.trans hb3)
            have HI3 := Aside0.mk (ho3.iter HI2.out (succ_ne2 _))
            have hrs := ho3 w.heap.size _ HRS2.out (some_ne1 _) (by intro c fz e; injection e with _ e2; exact absurd e2 (by decide))
            rw [HLR.out] at HSC
            obtain ⟨σ3, hσ3⟩ : ∃ σ3, σ3 = nextS σ s pos (-1) := ⟨_, rfl⟩
            rw [← hσ3] at hat3 hnf HSC
            have HNF := Aside0.mk hnf
            have HRS3 := Aside0.mk hrs
            have HAT3 := Aside0.mk hat3
            obtain ⟨_, hbk, hown, hl4⟩ := hat3
            have d12 : w3.cell? ⟨w.heap.size + 1, 12, none⟩ = some (.int .i64 σ3.end_) := blk_cell hbk 12
            have d13 : w3.cell? ⟨w.heap.size + 1, 13, none⟩ = some (.int .i64 σ3.pl) := blk_cell hbk 13
            have d14 : w3.cell? ⟨w.heap.size + 1, 14, none⟩ = some (.int .i64 σ3.pc) := blk_cell hbk 14
            have r0 : w3.cell? ⟨w.heap.size, 0, none⟩ = some (.int .i64 0) := blk_cell hrs 0
            have r1 : w3.cell? ⟨w.heap.size, 1, none⟩ = some (.int .i64 0) := blk_cell hrs 1
            have rf0 := blk_frozen hrs 0
            have rf1 := blk_frozen hrs 1
            clear hσ3 hnf hrs hbk hown hl4 hb3 ho3 HB2 HI2 HRS2 HAT2
            by_cases he : σ3.end_ = 0
            · have te : (σ3.end_ != 0) = false := bne_eq_false_iff_eq.mpr he
              rw [if_pos he] at HSC
              have HE3 := Aside0.mk he
              clear he
              go_wp2_with fail
              go_roundw
              case rel => exact ⟨pos2, f, v3, σ3, HAT3, HI3, HRS3, HB3, ⟨HSC.out.symm.trans HA.out⟩, hfu2, HE3, ⟨hp2⟩, ⟨next_bounds HNF.out HHF.out HADV.out⟩⟩
              case measure =>
                have h1 : World.iterPos w3 (w.heap.size + 1 + 1) = pos2 := by simp only [World.iterPos, HI3.out]
                rw [h1, HM.out]
                exact HMS.out
            · have te : (σ3.end_ != 0) = true := bne_iff_ne.mpr he
              rw [if_neg he] at HSC
              have HW1 : Aside0 (wordsP s = ([], σ3.pl, σ3.pc, σ3.end_)) := ⟨by rw [HW0.out, ← HA.out, HSC.out, if_neg he, outS, if_neg he]⟩
              clear he
              go_wp2_with fail
              go_region
              go_wp2_with fail
              refine bodyPost_ret (v := .tuple #[.slice none 0 0, .agg #[.int .i64 σ3.pl, .int .i64 σ3.pc], .int .i64 σ3.end_]) (by simp [results, Tryz.results17, go_sem, r0, r1, rf0, rf1]) rfl ?_
              rw [HW1.out]
              exact ⟨.slice none 0 0, rfl, own_nil _ _ _ _, by simp, by repeat (first | exact HB3.out | refine below_drew ?_ | refine bel_set ?_ (Nat.le_refl _) _ | refine below_alloc ?_ _)⟩
        · have t65 : ((x : Int) == 65533) = false := beq_eq_false_iff_ne.mpr (by omega)
          have HLR : Aside0 (lxRune s pos = (x : Int)) := ⟨by rw [HLX.out, if_neg (fun h => h65 h.1)]⟩
          go_wp2_with fail
          refine (lex_next.calls w HT.out (w.heap.size + 1) v σ s pos ((x : Int)) _ HB2.out HAT2.out HQ.out.1 HQ.out.2.1 hs HQ.out.2.2.1 HQ.out.2.2.2.1 HQ.out.2.2.2.2.1 HQ.out.2.2.2.2.2.1 HQ.out.2.2.2.2.2.2.1 HQ.out.2.2.2.2.2.2.2).mono ?_
          rintro e w3 ⟨rfl, ⟨v3, hat3⟩, hb3, ho3⟩
          have hnf := nextS_facts σ s pos ((x : Int)) (Int.natCast_nonneg _) HQ.out.2.1 HQ.out.2.2.2.2.1 HQ.out.2.2.2.2.2.2.1
          have HB3 := Aside0.mk (HB2.out.trans hb3)
          have HI3 := Aside0.mk (ho3.iter HI2.out (succ_ne2 _))
          have hrs := ho3 w.heap.size _ HRS2.out (some_ne1 _) (by intro c fz e; injection e with _ e2; exact absurd e2 (by decide))
          rw [HLR.out] at HSC
          obtain ⟨σ3, hσ3⟩ : ∃ σ3, σ3 = nextS σ s pos ((x : Int)) := ⟨_, rfl⟩
          rw [← hσ3] at hat3 hnf HSC
          have HNF := Aside0.mk hnf
          have HRS3 := Aside0.mk hrs
          have HAT3 := Aside0.mk hat3
          obtain ⟨_, hbk, hown, hl4⟩ := hat3
          have d12 : w3.cell? ⟨w.heap.size + 1, 12, none⟩ = some (.int .i64 σ3.end_) := blk_cell hbk 12
          have d13 : w3.cell? ⟨w.heap.size + 1, 13, none⟩ = some (.int .i64 σ3.pl) := blk_cell hbk 13
          have d14 : w3.cell? ⟨w.heap.size + 1, 14, none⟩ = some (.int .i64 σ3.pc) := blk_cell hbk 14
          have r0 : w3.cell? ⟨w.heap.size, 0, none⟩ = some (.int .i64 0) := blk_cell hrs 0
          have r1 : w3.cell? ⟨w.heap.size, 1, none⟩ = some (.int .i64 0) := blk_cell hrs 1
          have rf0 := blk_frozen hrs 0
          have rf1 := blk_frozen hrs 1
          clear hσ3 hnf hrs hbk hown hl4 hb3 ho3 HB2 HI2 HRS2 HAT2
          by_cases he : σ3.end_ = 0
          · have te : (σ3.end_ != 0) = false := bne_eq_false_iff_eq.mpr he
            rw [if_pos he] at HSC
            have HE3 := Aside0.mk he
            clear he
            go_wp2_with fail
            go_roundw
            case rel => exact ⟨pos2, f, v3, σ3, HAT3, HI3, HRS3, HB3, ⟨HSC.out.symm.trans HA.out⟩, hfu2, HE3, ⟨hp2⟩, ⟨next_bounds HNF.out HHF.out HADV.out⟩⟩
            case measure =>
              have h1 : World.iterPos w3 (w.heap.size + 1 + 1) = pos2 := by simp only [World.iterPos, HI3.out]
              rw [h1, HM.out]
              exact HMS.out
          · have te : (σ3.end_ != 0) = true := bne_iff_ne.mpr he
            rw [if_neg he] at HSC
            have HW1 : Aside0 (wordsP s = ([], σ3.pl, σ3.pc, σ3.end_)) := ⟨by rw [HW0.out, ← HA.out, HSC.out, if_neg he, outS, if_neg he]⟩
            clear he
            go_wp2_with fail
            go_region
            go_wp2_with fail
            refine bodyPost_ret (v := .tuple #[.slice none 0 0, .agg #[.int .i64 σ3.pl, .int .i64 σ3.pc], .int .i64 σ3.end_]) (by simp [results, Tryz.results17, go_sem, r0, r1, rf0, rf1]) rfl ?_
            rw [HW1.out]
            exact ⟨.slice none 0 0, rfl, own_nil _ _ _ _, by simp, by repeat (first | exact HB3.out | refine below_drew ?_ | refine bel_set ?_ (Nat.le_refl _) _ | refine below_alloc ?_ _)⟩
      · have hnx : ∀ ty, (Instr.next (.pointer (some ⟨w.heap.size + 1 + 1, 0, none⟩)) true ty).run Tryz.prog wr = _ := fun ty => Lib.run_next_end_at wr (w.heap.size + 1 + 1) s pos ty HI.out hp
        have HSE : Aside0 (scan s s.size 0 lxInit = σ) := ⟨by
          rw [← HA.out]
          cases fuel with
          | zero => rfl
          | succ f => rw [scan, if_neg hp]⟩
        have HW1 : Aside0 (wordsP s = outS (lastS (shutS σ s s.size))) := ⟨by rw [HW0.out, HSE.out, if_pos HE.out]⟩
        have hF := HF.out
        have hps := HPS.out
        go_wp2_with fail
        refine (lex_shut.calls w HT.out (w.heap.size + 1) v σ s s.size wr HB.out HAT.out (by omega) (by omega) hs).mono ?_
        rintro e w1 ⟨rfl, ⟨v1, hat1⟩, hb1, ho1⟩
        have HB1 := Aside0.mk (HB.out.trans hb1)
        have hrs := ho1 w.heap.size _ HRS.out (some_ne1 _) (by intro c fz e; injection e with _ e2; exact absurd e2 (by decide))
        obtain ⟨σ1, hσ1⟩ : ∃ σ1, σ1 = shutS σ s s.size := ⟨_, rfl⟩
        rw [← hσ1] at hat1 HW1
        clear hσ1 hb1 ho1 HAT HI HRS HB HSE HA HE HPS hF hps hnx hp hfu HF
        have hbk := hat1.2.1
        have d9 : w1.cell? ⟨w.heap.size + 1, 9, none⟩ = some (.bool σ1.slash) := blk_cell hbk 9
        have d10 : w1.cell? ⟨w.heap.size + 1, 10, none⟩ = some (.int .i64 σ1.bl) := blk_cell hbk 10
        have d11 : w1.cell? ⟨w.heap.size + 1, 11, none⟩ = some (.int .i64 σ1.bc) := blk_cell hbk 11
        clear hbk
        cases hsl : σ1.slash with
        | true =>
          rw [hsl] at d9
          have HAT1 := Aside0.mk hat1
          have HRS1 := Aside0.mk hrs
          have HW2 : Aside0 (wordsP s = outS (failS σ1 6 σ1.bl σ1.bc)) := ⟨by rw [HW1.out, lastS, if_pos hsl]⟩
          clear hat1 hrs hsl
          go_wp2_with fail
          refine (lex_fail.calls w.heap.size (w.heap.size + 1) v1 σ1 6 σ1.bl σ1.bc w1 HB1.out.size HAT1.out).mono ?_
          rintro e w2 ⟨rfl, hat2, hb2, ho2⟩
          have HB2 := Aside0.mk (HB1.out.trans hb2)
          have hrs := ho2 w.heap.size _ HRS1.out (some_ne1 _) (by intro c fz e; injection e with _ e2; exact absurd e2 (by decide))
          obtain ⟨σ2, hσ2⟩ : ∃ σ2, σ2 = failS σ1 6 σ1.bl σ1.bc := ⟨_, rfl⟩
          rw [← hσ2] at hat2 HW2
          clear hσ2 hb2 ho2 HAT1 HRS1 HB1 HW1 d9 d10 d11
          obtain ⟨_, hbk, hown, hl4⟩ := hat2
          have HNV := Aside0.mk (own_ne hown hrs (by decide))
          have d0 : w2.cell? ⟨w.heap.size + 1, 0, none⟩ = some v1 := blk_cell hbk 0
          have d12 : w2.cell? ⟨w.heap.size + 1, 12, none⟩ = some (.int .i64 σ2.end_) := blk_cell hbk 12
          have d13 : w2.cell? ⟨w.heap.size + 1, 13, none⟩ = some (.int .i64 σ2.pl) := blk_cell hbk 13
          have d14 : w2.cell? ⟨w.heap.size + 1, 14, none⟩ = some (.int .i64 σ2.pc) := blk_cell hbk 14
          have r0 : w2.cell? ⟨w.heap.size, 0, none⟩ = some (.int .i64 0) := blk_cell hrs 0
          have r1 : w2.cell? ⟨w.heap.size, 1, none⟩ = some (.int .i64 0) := blk_cell hrs 1
          have rf0 := blk_frozen hrs 0
          have rf1 := blk_frozen hrs 1
          have HO := Aside0.mk hown
          have HL4 := Aside0.mk hl4
          clear hbk hown hrs hl4
          by_cases he : σ2.end_ = 0
          · have te : (σ2.end_ != 0) = false := bne_eq_false_iff_eq.mpr he
            have HWF : Aside0 (wordsP s = (σ2.words, 0, 0, 0)) := ⟨by rw [HW2.out, outS, if_pos he]⟩
            clear he
            go_wp2_with fail
            refine bodyPost_ret (v := .tuple #[v1, .agg #[.int .i64 0, .int .i64 0], .int .i64 0]) (by simp [results, Tryz.results17, go_sem, r0, r1, rf0, rf1]) rfl ?_
            rw [HWF.out]
            exact ⟨v1, rfl, by with_reducible repeat (first | exact HO.out | refine row_set ?_ HNV.out _ | refine row_alloc ?_ _ | refine row_drew ?_), HL4.out, by repeat (first | exact HB2.out | refine below_drew ?_ | refine bel_set ?_ (Nat.le_refl _) _ | refine below_alloc ?_ _)⟩
          · have te : (σ2.end_ != 0) = true := bne_iff_ne.mpr he
            have HWF : Aside0 (wordsP s = ([], σ2.pl, σ2.pc, σ2.end_)) := ⟨by rw [HW2.out, outS, if_neg he]⟩
            clear he
            go_wp2_with fail
            go_region
            go_wp2_with fail
            refine bodyPost_ret (v := .tuple #[.slice none 0 0, .agg #[.int .i64 σ2.pl, .int .i64 σ2.pc], .int .i64 σ2.end_]) (by simp [results, Tryz.results17, go_sem, r0, r1, rf0, rf1]) rfl ?_
            rw [HWF.out]
            exact ⟨.slice none 0 0, rfl, own_nil _ _ _ _, by simp, by repeat (first | exact HB2.out | refine below_drew ?_ | refine bel_set ?_ (Nat.le_refl _) _ | refine below_alloc ?_ _)⟩
        | false =>
          rw [hsl] at d9
          have HW2 : Aside0 (wordsP s = outS σ1) := ⟨by rw [HW1.out, lastS, if_neg (by rw [hsl]; decide)]⟩
          clear hsl HW1 d10 d11
          obtain ⟨_, hbk, hown, hl4⟩ := hat1
          have HNV := Aside0.mk (own_ne hown hrs (by decide))
          have d0 : w1.cell? ⟨w.heap.size + 1, 0, none⟩ = some v1 := blk_cell hbk 0
          have d12 : w1.cell? ⟨w.heap.size + 1, 12, none⟩ = some (.int .i64 σ1.end_) := blk_cell hbk 12
          have d13 : w1.cell? ⟨w.heap.size + 1, 13, none⟩ = some (.int .i64 σ1.pl) := blk_cell hbk 13
          have d14 : w1.cell? ⟨w.heap.size + 1, 14, none⟩ = some (.int .i64 σ1.pc) := blk_cell hbk 14
          have r0 : w1.cell? ⟨w.heap.size, 0, none⟩ = some (.int .i64 0) := blk_cell hrs 0
          have r1 : w1.cell? ⟨w.heap.size, 1, none⟩ = some (.int .i64 0) := blk_cell hrs 1
          have rf0 := blk_frozen hrs 0
          have rf1 := blk_frozen hrs 1
          have HO := Aside0.mk hown
          have HL4 := Aside0.mk hl4
          clear hbk hown hrs hl4
          by_cases he : σ1.end_ = 0
          · have te : (σ1.end_ != 0) = false := bne_eq_false_iff_eq.mpr he
            have HWF : Aside0 (wordsP s = (σ1.words, 0, 0, 0)) := ⟨by rw [HW2.out, outS, if_pos he]⟩
            clear he
            go_wp2_with fail
            refine bodyPost_ret (v := .tuple #[v1, .agg #[.int .i64 0, .int .i64 0], .int .i64 0]) (by simp [results, Tryz.results17, go_sem, r0, r1, rf0, rf1]) rfl ?_
            rw [HWF.out]
            exact ⟨v1, rfl, by with_reducible repeat (first | exact HO.out | refine row_set ?_ HNV.out _ | refine row_alloc ?_ _ | refine row_drew ?_), HL4.out, by repeat (first | exact HB1.out | refine below_drew ?_ | refine bel_set ?_ (Nat.le_refl _) _ | refine below_alloc ?_ _)⟩
          · have te : (σ1.end_ != 0) = true := bne_iff_ne.mpr he
            have HWF : Aside0 (wordsP s = ([], σ1.pl, σ1.pc, σ1.end_)) := ⟨by rw [HW2.out, outS, if_neg he]⟩
            clear he
            go_wp2_with fail
            go_region
            go_wp2_with fail
            refine bodyPost_ret (v := .tuple #[.slice none 0 0, .agg #[.int .i64 σ1.pl, .int .i64 σ1.pc], .int .i64 σ1.end_]) (by simp [results, Tryz.results17, go_sem, r0, r1, rf0, rf1]) rfl ?_
            rw [HWF.out]
            exact ⟨.slice none 0 0, rfl, own_nil _ _ _ _, by simp, by repeat (first | exact HB1.out | refine below_drew ?_ | refine bel_set ?_ (Nat.le_refl _) _ | refine below_alloc ?_ _)⟩
end Go.Proofs.YtknbhbppofphpaaGreatDoor.X
