/- The law LexWords walked. -/
import Derived.Test.YthnnleibngbclaaDoorRefWords
import Derived.Test.YthnnleibngbclaaDoorLexPlaces
import Derived.BigQuiet
import Derived.Deep.QuietTactic
set_option linter.unusedVariables false
set_option linter.unusedSimpArgs false
namespace Go.Proofs.YthnnleibngbclaaDoor.X
open Go.RowKit Go.Shelf Go.Proofs.YthnnleibngbclaaDoorW.PrintWords Go.Proofs.YthnnleibngbclaaDoorW.PrintLast Go.Proofs.YthnnleibngbclaaDoorW.PrintMore
/-- The words of a row of any kind, at their places. -/
theorem word_at_of {w : World} {B n : Nat} {t : TypeId} {v : Value} {l : List Wd} (h : w.ownsRow B t 4 v n (rowCells l)) (hl : l.length = n) (hn : 0 < n) : ∃ g cap, v = .slice (some ⟨g, 0, none⟩) n cap ∧ ∀ i (hi : i < l.length), w.cell? ⟨g, i * 4 + 0, none⟩ = some (.int .i64 (l[i]'hi).kind) ∧ w.cell? ⟨g, i * 4 + 1, none⟩ = some (.string (l[i]'hi).text) ∧ w.cell? ⟨g, i * 4 + 2, none⟩ = some (.int .i64 (l[i]'hi).line) ∧ w.cell? ⟨g, i * 4 + 3, none⟩ = some (.int .i64 (l[i]'hi).col) := by
  have hq := q_of_own h
  obtain ⟨A, c, rfl, _⟩ := q_slice hq
  obtain ⟨ad, hA, hc⟩ := q_cells hq hn
  have hg : ∃ g, A = some ⟨g, 0, none⟩ := by
    rcases h.2 with ⟨hv, h0⟩ | ⟨g, cap, cur, hv, _⟩
    · omega
    · injection hv with h1 h2 h3
      exact ⟨g, h1⟩
  obtain ⟨g, hg⟩ := hg
  subst hg
  obtain rfl := Option.some.inj hA
  refine ⟨g, c, rfl, fun i hi => ?_⟩
  have hk : ∀ k (hk : k < 4) u, (wdCells (l[i]'hi))[k]? = some u → w.cell? ⟨g, i * 4 + k, none⟩ = some u := by
    intro k hk u hu
    have h1 := hc (i * 4 + k) u (by rw [rowCells_at l i k hi hk]; exact hu)
    rw [add_plain] at h1
    exact h1
  exact ⟨hk 0 (by decide) _ rfl, hk 1 (by decide) _ rfl, hk 2 (by decide) _ rfl, hk 3 (by decide) _ rfl⟩
theorem text_self (x : ByteArray) : (x == x) = true := by show (x.data == x.data) = true; simp
set_option maxHeartbeats 4000000 in
set_option maxRecDepth 100000 in
theorem same04.calls {B1 B2 n c1 c2 : Nat} {A1 A2 : Option Addr} (l : List Wd) (w : World) (hl : l.length = n) (h4 : n ≤ 4000) (h1 : w.ownsRow B1 30 4 (.slice A1 n c1) n (rowCells l)) (h2 : w.ownsRow B2 46 4 (.slice A2 n c2) n (rowCells l)) :
    Calls Tryd.prog 11 #[.slice A1 n c1, .slice A2 n c2] w fun e w' => e = .returned (.bool true) ∧ Drawn0 w w' := by
  have H1 := Aside0.mk h1
  have H2 := Aside0.mk h2
  have HL := Aside0.mk hl
  clear h1 h2 hl
  go_enter Tryd.func11, Tryd.ntmps11
  go_wp2_with fail
  go_loopw [13] (fun v13 wr => ∃ i : Nat, i ≤ n ∧ v13 = .int .i64 i ∧ Aside0 (Drawn0 w wr)) (fun v13 _ => n - (intOf v13).toNat)
  case atStart => exact ⟨0, by omega, rfl, ⟨⟨0, rfl⟩⟩⟩
  case round =>
    obtain ⟨i, hi, rfl, HD⟩ := hrel
    by_cases hli : i < n
    · have t1 : decide (i < n) = true := decide_eq_true hli
      obtain ⟨nd, hnd⟩ := HD.out
      obtain ⟨g, cap, hv, hc⟩ := word_at_of (row_drewN H1.out nd) HL.out (by omega)
      injection hv with hv1 hv2 hv3
      subst hv1
      clear hv2 hv3
      obtain ⟨g2, cap2, hv, hd⟩ := word_at_of (row_drewN H2.out nd) HL.out (by omega)
      injection hv with hv1 hv2 hv3
      subst hv1
      clear hv2 hv3
      have hil : i < l.length := by rw [HL.out]; exact hli
      have hq := hc i hil
      have hp := hd i hil
      rw [← hnd] at hq hp
      generalize (l[i]'hil).kind = xk at *
      generalize (l[i]'hil).text = xt at *
      generalize (l[i]'hil).line = xl at *
      generalize (l[i]'hil).col = xc at *
      have p0 : wr.cell? ⟨g, i * 4, none⟩ = some (.int .i64 xk) := hq.1
      have p1 : wr.cell? ⟨g, i * 4 + 1, none⟩ = some (.string xt) := hq.2.1
      have p2 : wr.cell? ⟨g, i * 4 + 2, none⟩ = some (.int .i64 xl) := hq.2.2.1
      have p3 : wr.cell? ⟨g, i * 4 + 3, none⟩ = some (.int .i64 xc) := hq.2.2.2
      have q0 : wr.cell? ⟨g2, i * 4, none⟩ = some (.int .i64 xk) := hp.1
      have q1 : wr.cell? ⟨g2, i * 4 + 1, none⟩ = some (.string xt) := hp.2.1
      have q2 : wr.cell? ⟨g2, i * 4 + 2, none⟩ = some (.int .i64 xl) := hp.2.2.1
      have q3 : wr.cell? ⟨g2, i * 4 + 3, none⟩ = some (.int .i64 xc) := hp.2.2.2
      have u0 : (xk == xk) = true := beq_iff_eq.mpr rfl
      have u1 := text_self xt
      have u2 : (xl == xl) = true := beq_iff_eq.mpr rfl
      have u3 : (xc == xc) = true := beq_iff_eq.mpr rfl
      have HD2 : Aside0 (∀ k, Drawn0 w (wr.drewN k)) := ⟨fun k => by rw [hnd, World.drewN_drewN]; exact ⟨_, rfl⟩⟩
      clear hq hp hc hd hnd
      go_wp2_with fail
      go_quiet (fail)
      go_wp2_with fail
      go_roundw
      case rel => exact ⟨i + 1, by omega, by go_num, ⟨HD2.out _⟩⟩
      case measure => simp [intOf]; omega
    · have t1 : decide (i < n) = false := decide_eq_false hli
      go_wp2_with fail
      go_ret
      exact ⟨rfl, HD.out⟩
set_option maxHeartbeats 4000000 in
set_option maxRecDepth 100000 in
theorem lexWords.calls (s : ByteArray) (w : World) (hT : LexTabs w) (hU : Lib.Utf8Tabs (Tryd.lays196_ren.g 3) (Tryd.lays196_ren.g 4) w) :
    Calls Tryd.prog 7 #[.string s] w fun e w' => e = .returned (.bool true) ∧ Below w.heap.size w w' := by
  have HT := Aside0.mk hT
  have HU := Aside0.mk hU
  clear hT hU
  go_enter Tryd.func7, Tryd.ntmps7
  go_wp2_with fail
  refine (awake04.calls _ HT.out).mono ?_
  rintro e w1 ⟨rfl, hb⟩
  have HB1 := Aside0.mk hb
  have HT1 := Aside0.mk (HT.out.below hb)
  clear hb HT
  go_wp2_with fail
  refine (lex_Words.calls s _ HT1.out).mono ?_
  rintro e w2 ⟨v, rfl, hown, h4, hb⟩
  have HE := Aside0.mk (wordsP_ref s)
  obtain ⟨r, hr⟩ : ∃ r, wordsP s = r := ⟨_, rfl⟩
  rw [hr] at hown h4 HE ⊢
  clear hr
  obtain ⟨l, a, b, e⟩ := r
  simp only at hown h4 ⊢
  have HB2 := Aside0.mk (below_step HB1.out hb)
  obtain ⟨A0, c0, rfl⟩ := own_slice hown
  obtain ⟨n, hn⟩ : ∃ n, n = l.length := ⟨_, rfl⟩
  rw [← hn] at h4 hown ⊢
  have HN := Aside0.mk hn
  have HO := Aside0.mk hown
  clear hb HB1 HT1 hown hn
  go_wp2_with fail
  obtain ⟨W3, hW3⟩ : ∃ W3, W3 = w2.alloc (.cells #[.int .i64 a, .int .i64 b] 25) := ⟨_, rfl⟩
  have HB3 : Aside0 (Below w.heap.size w W3) := ⟨by rw [hW3]; exact below_alloc HB2.out _⟩
  have HO3 : Aside0 (W3.ownsRow w1.heap.size 30 4 (.slice A0 n c0) n (rowCells l)) := ⟨by rw [hW3]; exact own_alloc HO.out _⟩
  have HP3 : Aside0 (W3.heap[w2.heap.size]? = some (.cells #[.int .i64 a, .int .i64 b] 25 (0, 0))) := ⟨by rw [hW3]; exact blk_new w2 _⟩
  rw [← hW3]
  generalize w2.heap.size = p at *
  clear hW3 HO HB2
  refine (courierref03_Words.calls s _ (Utf8Tabs_below HU.out HB3.out)).mono ?_
  rintro e2 w4 ⟨v, rfl, hown, h43, hb⟩
  rw [← HE.out] at hown h43 ⊢
  simp only at hown h43 ⊢
  obtain ⟨A2, c2, rfl⟩ := own_slice hown
  rw [← HN.out] at hown h43 ⊢
  have HO4 := Aside0.mk (pw_own_below HO3.out hb)
  have HQ4 := Aside0.mk hown
  have HB4 := Aside0.mk (below_step HB3.out hb)
  have HP4 := Aside0.mk (blk_below HP3.out hb)
  clear hb hown HB3 HO3 HP3
  go_wp2_with fail
  obtain ⟨W5, hW5⟩ : ∃ W5, W5 = w4.alloc (.cells #[.int .i64 a, .int .i64 b] 25) := ⟨_, rfl⟩
  have HB5 : Aside0 (Below w.heap.size w W5) := ⟨by rw [hW5]; exact below_alloc HB4.out _⟩
  have HO5 : Aside0 (W5.ownsRow w1.heap.size 30 4 (.slice A0 n c0) n (rowCells l)) := ⟨by rw [hW5]; exact own_alloc HO4.out _⟩
  have HQ5 : Aside0 (W5.ownsRow _ 46 4 (.slice A2 n c2) n (rowCells l)) := ⟨by rw [hW5]; exact own_alloc HQ4.out _⟩
  have hp1 : W5.heap[p]? = some (.cells #[.int .i64 a, .int .i64 b] 25 (0, 0)) := by rw [hW5]; exact blk_alloc HP4.out _
  have hp2 : W5.heap[w4.heap.size]? = some (.cells #[.int .i64 a, .int .i64 b] 25 (0, 0)) := by rw [hW5]; exact blk_new w4 _
  rw [← hW5]
  generalize w4.heap.size = p2 at *
  have d0 : W5.cell? ⟨p, 0, none⟩ = some (.int .i64 a) := blk_cell hp1 0
  have d1 : W5.cell? ⟨p, 1, none⟩ = some (.int .i64 b) := blk_cell hp1 1
  have e0 : W5.cell? ⟨p2, 0, none⟩ = some (.int .i64 a) := blk_cell hp2 0
  have e1 : W5.cell? ⟨p2, 1, none⟩ = some (.int .i64 b) := blk_cell hp2 1
  have u0 : (a == a) = true := beq_iff_eq.mpr rfl
  have u1 : (b == b) = true := beq_iff_eq.mpr rfl
  have u2 : (e == e) = true := beq_iff_eq.mpr rfl
  clear hW5 hp1 hp2 HB4 HO4 HQ4 HP4
  by_cases he : e = 0
  · have t0 : (e == 0) = true := beq_iff_eq.mpr he
    clear he
    refine (same04.calls l _ HN.out.symm h4 HO5.out HQ5.out).mono ?_
    rintro e6 w6 ⟨rfl, ⟨nd, rfl⟩⟩
    go_wp2_with fail
    go_ret
    exact ⟨rfl, pw_below_drewN HB5.out _⟩
  · have t0 : (e == 0) = false := beq_eq_false_iff_ne.mpr he
    clear he
    refine (same04.calls l _ HN.out.symm h4 HO5.out HQ5.out).mono ?_
    rintro e6 w6 ⟨rfl, ⟨nd, rfl⟩⟩
    go_wp2_with fail
    go_ret
    exact ⟨rfl, pw_below_drewN HB5.out _⟩
end Go.Proofs.YthnnleibngbclaaDoor.X
