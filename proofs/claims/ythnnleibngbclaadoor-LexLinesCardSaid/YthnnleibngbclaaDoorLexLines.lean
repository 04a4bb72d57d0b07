/- The law LexLines walked. -/
import Derived.Test.YthnnleibngbclaaDoorLexShift
import Derived.BigQuiet
set_option linter.unusedVariables false
set_option linter.unusedSimpArgs false
namespace Go.Proofs.YthnnleibngbclaaDoor.X
open Go.RowKit Go.Shelf Go.Proofs.YthnnleibngbclaaDoorW.PrintWords Go.Proofs.YthnnleibngbclaaDoorW.PrintLast Go.Proofs.YthnnleibngbclaaDoorW.PrintMore
set_option maxHeartbeats 4000000 in
set_option maxRecDepth 100000 in
theorem lexLines.calls (s : ByteArray) (w : World) (hT : LexTabs w) :
    Calls Tryd.prog 5 #[.string s] w fun e w' => e = .returned (.bool true) ∧ Below w.heap.size w w' := by
  have HT := Aside0.mk hT
  clear hT
  go_enter Tryd.func5, Tryd.ntmps5
  go_wp2_with fail
  refine (awake04.calls _ HT.out).mono ?_
  rintro e w1 ⟨rfl, hb⟩
  have HB1 := Aside0.mk hb
  have HT1 := Aside0.mk (HT.out.below hb)
  clear hb HT
  by_cases hs : 10000 < s.size
  · have t1 : decide (10000 < s.size) = true := decide_eq_true hs
    have t1i : decide ((10000 : Int) < (s.size : Int)) = true := decide_eq_true (by omega)
    clear hs
    go_wp2_with fail
    refine (awake04.calls _ HT1.out).mono ?_
    rintro e w2 ⟨rfl, hb⟩
    have HB2 := Aside0.mk (below_step HB1.out hb)
    clear hb HB1
    go_wp2_with fail
    go_ret
    exact ⟨rfl, HB2.out⟩
  have hz : s.size ≤ 10000 := by omega
  have HS := Aside0.mk hz
  have t1 : decide (10000 < s.size) = false := decide_eq_false hs
  have t1i : decide ((10000 : Int) < (s.size : Int)) = false := decide_eq_false (by omega)
  clear hs
  go_wp2_with fail
  refine (lex_Words.calls s _ HT1.out).mono ?_
  rintro e w2 ⟨v, rfl, hown, h4, hb⟩
  have HP := Aside0.mk (wordsP_up s HS.out)
  have HD := Aside0.mk (wordsP_bd s)
  generalize wordsP s = r at *
  obtain ⟨l, a, b, e⟩ := r
  simp only at hown HP HD h4 ⊢
  have HB2 := Aside0.mk (below_step HB1.out hb)
  have HT2 := Aside0.mk (HT1.out.below hb)
  obtain ⟨A0, c0, rfl⟩ := own_slice hown
  obtain ⟨n, hn⟩ : ∃ n, n = l.length := ⟨_, rfl⟩
  rw [← hn] at h4 hown ⊢
  have HN := Aside0.mk hn
  have HO := Aside0.mk hown
  clear hb HB1 HT1 t1 t1i hown hn
  go_wp2_with fail
  obtain ⟨k, hk⟩ : ∃ k, k = w2.heap.size := ⟨_, rfl⟩
  obtain ⟨W3, hW3⟩ : ∃ W3, W3 = w2.alloc (.cells #[.int .i64 a, .int .i64 b] 25) := ⟨_, rfl⟩
  have hb3 : Below w2.heap.size w2 W3 := by rw [hW3]; exact below_alloc (Below.refl _ _) _
  have ca : W3.cell? ⟨k, 0, none⟩ = some (.int .i64 a) ∧ W3.cell? ⟨k, 1, none⟩ = some (.int .i64 b) := by
    have hbx := blk_new w2 (.cells #[.int .i64 a, .int .i64 b] 25)
    rw [← hW3, ← hk] at hbx
    constructor
    · unfold World.cell?; rw [hbx]; rfl
    · unfold World.cell?; rw [hbx]; rfl
  have HB3 := Aside0.mk (below_step HB2.out hb3)
  have HO2 := Aside0.mk (pw_own_below HO.out hb3)
  have HT3 := Aside0.mk (HT2.out.below hb3)
  rw [← hW3, ← hk]
  clear hW3 hk hb3 HB2 HT2 HO
  refine (lex_Words.calls _ _ HT3.out).mono ?_
  rintro e3 w4 ⟨v, rfl, hown, h43, hb⟩
  have en : wordsP ({ data := #[10] } ++ s) = wordsP (nlB ++ s) := rfl
  rw [en] at hown h43 ⊢
  clear en
  generalize wordsP (nlB ++ s) = r3 at *
  obtain ⟨l3, a3, b3, e3⟩ := r3
  obtain ⟨q1, q2, q3⟩ := HP.out
  simp only at q1 q2 q3 hown h43 ⊢
  subst q1
  subst q2
  obtain ⟨A3, c3, rfl⟩ := own_slice hown
  rw [List.length_map, ← HN.out] at hown ⊢
  have HO3 := Aside0.mk hown
  have HO4 := Aside0.mk (pw_own_below HO2.out hb)
  have HB4 := Aside0.mk (below_step HB3.out hb)
  have ca0 := pw_cell_below hb ca.1
  have ca1 := pw_cell_below hb ca.2
  clear hb HB3 HT3 HO2 hown h43 HP ca
  obtain ⟨m, hm⟩ : ∃ m, m = w4.heap.size := ⟨_, rfl⟩
  by_cases he : e3 = 0
  · subst he
    clear q3 ca0 ca1
    go_wp2_with fail
    go_loopw [62] (fun v62 wr => ∃ j : Nat, j ≤ n ∧ v62 = .int .i64 j ∧ Aside0 (Below w4.heap.size w4 wr)) (fun v62 _ => n - (intOf v62).toNat)
    case atStart => exact ⟨0, by omega, rfl, ⟨by repeat (first | exact Below.refl _ _ | refine below_drew ?_ | refine below_alloc ?_ _)⟩⟩
    case round =>
      obtain ⟨j, hj, rfl, HB⟩ := hrel
      by_cases hlt : j < n
      · have t1 : decide (j < n) = true := decide_eq_true hlt
        obtain ⟨g, cap, hv, hc⟩ := word_at (pw_own_below HO4.out HB.out) HN.out.symm (by omega)
        injection hv with hv1 hv2 hv3
        subst hv1
        clear hv2 hv3
        obtain ⟨g2, cap2, hv, hd⟩ := word_at (pw_own_below HO3.out HB.out) (by rw [List.length_map]; exact HN.out.symm) (by omega)
        injection hv with hv1 hv2 hv3
        subst hv1
        clear hv2 hv3
        have hjl : j < l.length := by rw [← HN.out]; exact hlt
        have hq := hc j hjl
        have hp := hd j (by rw [List.length_map]; exact hjl)
        rw [List.getElem_map] at hp
        have hb1 := HD.out.1 _ (List.getElem_mem hjl)
        generalize l[j]'hjl = x at *
        obtain ⟨xk, xt, xl, xc⟩ := x
        simp only [upW] at hq hp hb1
        have q0 : wr.cell? ⟨g, j * 4, none⟩ = some (.int .i64 xk) := hq.1
        have q1 : wr.cell? ⟨g, j * 4 + 1, none⟩ = some (.string xt) := hq.2.1
        have q2 : wr.cell? ⟨g, j * 4 + 2, none⟩ = some (.int .i64 xl) := hq.2.2.1
        have q3 : wr.cell? ⟨g, j * 4 + 2 + 1, none⟩ = some (.int .i64 xc) := hq.2.2.2
        have p0 : wr.cell? ⟨g2, j * 4, none⟩ = some (.int .i64 xk) := hp.1
        have p1 : wr.cell? ⟨g2, j * 4 + 1, none⟩ = some (.string xt) := hp.2.1
        have p2 : wr.cell? ⟨g2, j * 4 + 2, none⟩ = some (.int .i64 (xl + 1)) := hp.2.2.1
        have p3 : wr.cell? ⟨g2, j * 4 + 2 + 1, none⟩ = some (.int .i64 xc) := hp.2.2.2
        have tw : IntKind.i64.wrap (xl + 1) = xl + 1 := by rw [IntKind.wrap_i64]; omega
        have u0 : (xk != xk) = false := bne_eq_false_iff_eq.mpr rfl
        have u1 : (xt != xt) = false := by show (!(xt.data == xt.data)) = false; simp
        have u2 : (xl + 1 != xl + 1) = false := bne_eq_false_iff_eq.mpr rfl
        have u3 : (xc != xc) = false := bne_eq_false_iff_eq.mpr rfl
        clear hq hp hc hd hb1
        go_wp2_with fail
        go_quiet (fail)
        go_wp2_with fail
        go_roundw
        case rel => exact ⟨j + 1, by omega, by go_num, ⟨by repeat (first | exact HB.out | refine below_drew ?_ | refine pw_below_drewN ?_ _ | refine below_alloc ?_ _)⟩⟩
        case measure => simp [intOf]; omega
      · have t1 : decide (j < n) = false := decide_eq_false hlt
        go_wp2_with fail
        go_ret
        exact ⟨rfl, below_step HB4.out HB.out⟩
  · have te : (e3 != 0) = true := bne_iff_ne.mpr he
    obtain ⟨f1, f2⟩ := q3 he
    subst f1
    subst f2
    have hda := HD.out.2
    have tw0 : IntKind.i64.wrap (a + 1) = a + 1 := by rw [IntKind.wrap_i64]; omega
    have v0 : (a + 1 != a + 1) = false := bne_eq_false_iff_eq.mpr rfl
    have v1 : (b3 != b3) = false := bne_eq_false_iff_eq.mpr rfl
    have v2 : (e3 != e3) = false := bne_eq_false_iff_eq.mpr rfl
    have v3 : ((n : Int) != (n : Int)) = false := bne_eq_false_iff_eq.mpr rfl
    have ca0c : (w4.alloc (.cells #[.int .i64 (a + 1), .int .i64 b3] 25)).cell? ⟨k, 0, none⟩ = some (.int .i64 a) := pw_cell_below (below_alloc (Below.refl _ _) _) ca0
    have ca1c : (w4.alloc (.cells #[.int .i64 (a + 1), .int .i64 b3] 25)).cell? ⟨k, 1, none⟩ = some (.int .i64 b3) := pw_cell_below (below_alloc (Below.refl _ _) _) ca1
    clear q3 he hda ca0 ca1
    go_wp2_with fail
    go_loopw [62] (fun v62 wr => ∃ j : Nat, j ≤ n ∧ v62 = .int .i64 j ∧ Aside0 (Below w4.heap.size w4 wr)) (fun v62 _ => n - (intOf v62).toNat)
    case atStart => exact ⟨0, by omega, rfl, ⟨by repeat (first | exact Below.refl _ _ | refine below_drew ?_ | refine below_alloc ?_ _)⟩⟩
    case round =>
      obtain ⟨j, hj, rfl, HB⟩ := hrel
      by_cases hlt : j < n
      · have t1 : decide (j < n) = true := decide_eq_true hlt
        obtain ⟨g, cap, hv, hc⟩ := word_at (pw_own_below HO4.out HB.out) HN.out.symm (by omega)
        injection hv with hv1 hv2 hv3
        subst hv1
        clear hv2 hv3
        obtain ⟨g2, cap2, hv, hd⟩ := word_at (pw_own_below HO3.out HB.out) (by rw [List.length_map]; exact HN.out.symm) (by omega)
        injection hv with hv1 hv2 hv3
        subst hv1
        clear hv2 hv3
        have hjl : j < l.length := by rw [← HN.out]; exact hlt
        have hq := hc j hjl
        have hp := hd j (by rw [List.length_map]; exact hjl)
        rw [List.getElem_map] at hp
        have hb1 := HD.out.1 _ (List.getElem_mem hjl)
        generalize l[j]'hjl = x at *
        obtain ⟨xk, xt, xl, xc⟩ := x
        simp only [upW] at hq hp hb1
        have q0 : wr.cell? ⟨g, j * 4, none⟩ = some (.int .i64 xk) := hq.1
        have q1 : wr.cell? ⟨g, j * 4 + 1, none⟩ = some (.string xt) := hq.2.1
        have q2 : wr.cell? ⟨g, j * 4 + 2, none⟩ = some (.int .i64 xl) := hq.2.2.1
        have q3 : wr.cell? ⟨g, j * 4 + 2 + 1, none⟩ = some (.int .i64 xc) := hq.2.2.2
        have p0 : wr.cell? ⟨g2, j * 4, none⟩ = some (.int .i64 xk) := hp.1
        have p1 : wr.cell? ⟨g2, j * 4 + 1, none⟩ = some (.string xt) := hp.2.1
        have p2 : wr.cell? ⟨g2, j * 4 + 2, none⟩ = some (.int .i64 (xl + 1)) := hp.2.2.1
        have p3 : wr.cell? ⟨g2, j * 4 + 2 + 1, none⟩ = some (.int .i64 xc) := hp.2.2.2
        have tw : IntKind.i64.wrap (xl + 1) = xl + 1 := by rw [IntKind.wrap_i64]; omega
        have u0 : (xk != xk) = false := bne_eq_false_iff_eq.mpr rfl
        have u1 : (xt != xt) = false := by show (!(xt.data == xt.data)) = false; simp
        have u2 : (xl + 1 != xl + 1) = false := bne_eq_false_iff_eq.mpr rfl
        have u3 : (xc != xc) = false := bne_eq_false_iff_eq.mpr rfl
        clear hq hp hc hd hb1
        go_wp2_with fail
        go_quiet (fail)
        go_wp2_with fail
        go_roundw
        case rel => exact ⟨j + 1, by omega, by go_num, ⟨by repeat (first | exact HB.out | refine below_drew ?_ | refine pw_below_drewN ?_ _ | refine below_alloc ?_ _)⟩⟩
        case measure => simp [intOf]; omega
      · have t1 : decide (j < n) = false := decide_eq_false hlt
        go_wp2_with fail
        go_ret
        exact ⟨rfl, below_step HB4.out HB.out⟩
end Go.Proofs.YthnnleibngbclaaDoor.X
