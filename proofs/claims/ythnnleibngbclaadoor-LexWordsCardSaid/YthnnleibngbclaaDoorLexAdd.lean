/- lex's scanner: add. -/
import Derived.Test.YthnnleibngbclaaDoorLexFail
import Derived.Deep.AppendLies
set_option linter.unusedVariables false
set_option linter.unusedSimpArgs false
namespace Go.Proofs.YthnnleibngbclaaDoor.X
open Go.RowKit Go.Shelf Go.Proofs.YthnnleibngbclaaDoorW.PrintWords Go.Proofs.YthnnleibngbclaaDoorW.PrintLast Go.Proofs.YthnnleibngbclaaDoorW.PrintMore
theorem infoWord : (Tryd.prog.info? 30).map (fun i => (i.zero, i.size, i.bytes)) = some (some (.agg #[.int .i64 0, .string ⟨#[]⟩, .int .i64 0, .int .i64 0]), 4, 40) := by kernel_rfl
theorem own_kind {W : World} {B n : Nat} {e : TypeId} {v : Value} {xs : List Value} (h : W.ownsRow B e 4 v n xs) : ∀ g, v.ownBlock = some g → ∃ c fz, W.heap[g]? = some (.cells c e fz) := by
  intro g hg
  rcases h.2 with ⟨rfl, _⟩ | ⟨g', cap, cur, rfl, _, hgg, _⟩
  · simp [Value.ownBlock] at hg
  · simp [Value.ownBlock] at hg
    subst hg
    exact ⟨cur, (0, 0), hgg⟩
theorem add_done {B b g cap c : Nat} {A : Option Addr} {σ : Sc} {x : Wd} {w W w2 : World} (hB : B ≤ b) (hw : B ≤ w.heap.size) (hk : w2.heap[b]? = some (.cells (scCells (.slice A σ.words.length c) σ) 39 (0, 0)))
    (ho : w2.ownsRow B 30 4 (.slice (some ⟨g, 0, none⟩) (σ.words.length + 1) cap) (σ.words.length + 1) (rowCells σ.words ++ wdCells x)) (hg : W.grownBy w2 (Value.slice A σ.words.length c).ownBlock) (hl : σ.words.length ≤ 4000) (h4 : ¬ σ.words.length = 4000)
    (hoW : W.ownsRow B 30 4 (.slice A σ.words.length c) σ.words.length (rowCells σ.words)) (hbW : Below B w W) (hkW : Lib.OthersKept 30 (some b) w W) :
    ScPost B b { σ with words := σ.words ++ [x] } w (.returned (.tuple #[])) (w2.setCell ⟨b, 0, none⟩ (.slice (some ⟨g, 0, none⟩) (σ.words.length + 1) cap)) := by
  have hlen : (σ.words ++ [x]).length = σ.words.length + 1 := by simp
  refine ⟨rfl, ⟨.slice (some ⟨g, 0, none⟩) (σ.words.length + 1) cap, hB, ?_, ?_, by rw [hlen]; omega⟩, ?_, ?_⟩
  · exact (blk_set hk 0 _).trans rfl
  · rw [hlen, rowCells_append, rowCells_one]
    exact row_set ho (own_ne ho hk (by decide)) _
  · exact bel_set (pw_below_grown hbW _ (Nat.le_trans hw hbW.size) hg (fun k hk => own_base hoW k hk)) hB _
  · exact oth_set (Lib.OthersKept.grown hkW hg (own_kind hoW)) _
theorem lit_cellA {w : World} {x : Wd} {k : Nat} (hk : w.heap.size = k) : ∀ j u, (wdCells x)[j]? = some u → (w.alloc (.cells #[.int .i64 x.kind, .string x.text, .int .i64 x.line, .int .i64 x.col] 30)).cell? (Addr.add ⟨k, 0, none⟩ j) = some u := by
  intro j u hj
  subst hk
  rw [add_plain]
  refine (blk_cell (heap_alloc_new w _) j).trans ?_
  rw [← hj]
  rw [← List.getElem?_toArray]
  rfl
theorem lit_cellB {w : World} {x : Wd} {k : Nat} (hk : w.heap.size = k) : ∀ j u, (wdCells x)[j]? = some u → (w.alloc (.cells #[.int .i64 x.kind, .string x.text, .int .i64 x.line, .int .i64 x.col] 30)).drew.cell? (Addr.add ⟨k, 0, none⟩ j) = some u := lit_cellA hk
theorem wd_one (x : Wd) : ∀ u ∈ wdCells x, u.oneCell' = true := by
  intro u hu
  simp only [wdCells, List.mem_cons, List.not_mem_nil, or_false] at hu
  rcases hu with rfl | rfl | rfl | rfl <;> rfl
set_option maxHeartbeats 4000000 in
set_option maxRecDepth 100000 in
theorem lex_add.calls (B b : Nat) (v : Value) (σ : Sc) (x : Wd) (w : World) (hw : B ≤ w.heap.size) (h : ScAt B b v σ w) :
    Calls Tryd.prog 25 #[.pointer (some ⟨b, 0, none⟩), .agg #[.int .i64 x.kind, .string x.text, .int .i64 x.line, .int .i64 x.col]] w (ScPost B b (addS σ x) w) := by
  obtain ⟨A, c, rfl⟩ := own_slice h.2.2.1
  obtain ⟨hB, hbk, hown, hl4⟩ := h
  have HK := Aside0.mk hbk
  have HO := Aside0.mk hown
  have HL := Aside0.mk hl4
  have hlt := blk_lt hbk
  have hne := own_ne hown hbk (by decide)
  have HNE := Aside0.mk hne
  have d0 : w.cell? ⟨b, 0, none⟩ = some (.slice A σ.words.length c) := blk_cell hbk 0
  have f0 := blk_frozen hbk 0
  clear hbk hown hne hl4
  have HS4 : Aside0 (addS σ x = if σ.words.length = 4000 then failS σ 4 x.line x.col else { σ with words := σ.words ++ [x] }) := ⟨rfl⟩
  have HAT : Aside0 (ScAt B b (.slice A σ.words.length c) σ (w.alloc (.cells #[.int .i64 x.kind, .string x.text, .int .i64 x.line, .int .i64 x.col] 30))) := ⟨hB, blk_alloc HK.out _, row_alloc HO.out _, HL.out⟩
  have hl4 := HL.out
  obtain ⟨i0, hi, hz0, hz1, hz2⟩ := info_parts infoWord
  have HI := Aside0.mk (And.intro hi (And.intro hz0 (And.intro hz1 hz2)))
  clear hi hz0 hz1 hz2
  go_enter Tryd.func25, Tryd.ntmps25
  by_cases h4 : σ.words.length = 4000
  · have t0 : ((σ.words.length : Int) == 4000) = true := beq_iff_eq.mpr (by omega)
    have t1 : (σ.words.length == 4000) = true := beq_iff_eq.mpr h4
    rw [if_pos h4] at HS4
    have HN4 := Aside0.mk h4
    clear h4
    go_wp2_with fail
    refine (lex_fail.calls B b (.slice A σ.words.length c) σ 4 x.line x.col _ (by simp; omega) HAT.out).mono ?_
    rintro e w2 ⟨rfl, ha, hb, ho⟩
    have HX : Aside0 (ScPost B b (addS σ x) w (.returned (.tuple #[])) w2) := ⟨by
      rw [HS4.out]
      exact ⟨rfl, ⟨_, ha⟩, (bel_alloc (Below.refl B w) hw _).trans hb, (oth_alloc (Lib.OthersKept.refl _ _ w) _).trans ho⟩⟩
    clear ha hb ho
    go_wp2_with fail
    go_end0
    exact HX.out
  · have t0 : ((σ.words.length : Int) == 4000) = false := beq_eq_false_iff_ne.mpr (by omega)
    have t1 : (σ.words.length == 4000) = false := beq_eq_false_iff_ne.mpr h4
    rw [if_neg h4] at HS4
    have HN4 := Aside0.mk h4
    go_wp2_with fail
    go_region_law (refine step_append_lies _ rfl (.tmp 18) (.tmp 20) 23 rfl B 30 i0 (.agg #[.int .i64 0, .string ⟨#[]⟩, .int .i64 0, .int .i64 0]) 4 40 Tryd.underlying23 HI.out.1 HI.out.2.1 HI.out.2.2.1 HI.out.2.2.2 rfl (by decide) (.slice A σ.words.length c) σ.words.length (rowCells σ.words) (by simp [Act.eval, Act.put]) (by with_reducible repeat (first | exact HO.out | apply row_alloc | apply row_drew)) ⟨w.heap.size + 1, 0, none⟩ 1 1 (wdCells x) (by simp [Act.eval, Act.put]) rfl (by first | exact lit_cellA (by simp) | exact lit_cellB (by simp)) (wd_one x) (by decide) (by unfold maxLen; omega) (by omega) (by simp; omega) _ rfl ?_; intro g cap w2 hown2 hgrow2 hg2 hlt2; have hk2 := blk_grown (by with_reducible repeat (first | exact HK.out | apply blk_alloc | apply blk_drew)) hgrow2 HNE.out; have d0' : w2.cell? ⟨b, 0, none⟩ = some (.slice A σ.words.length c) := blk_cell hk2 0; have f0' := blk_frozen hk2 0; have HK2 := Aside0.mk hk2; have HO2 := Aside0.mk hown2; have HG2 := Aside0.mk hgrow2; have HGG := Aside0.mk hg2; clear hk2 hown2 hgrow2 hg2 hlt2)
    all_goals
      go_end0
      rw [HS4.out]
      exact add_done hB hw HK2.out HO2.out HG2.out HL.out HN4.out (by with_reducible repeat (first | exact HO.out | apply row_alloc | apply row_drew)) (by with_reducible repeat (first | exact Below.refl _ _ | refine below_drew ?_ | refine bel_alloc ?_ hw _)) (by with_reducible repeat (first | exact Lib.OthersKept.refl _ _ _ | refine oth_alloc ?_ _ | refine oth_drew ?_))
end Go.Proofs.YthnnleibngbclaaDoor.X
