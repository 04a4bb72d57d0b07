/- The law LexRemarks walked. -/
import Derived.Test.YthnnleibngbclaaDoorLexRem
import Derived.BigQuiet
set_option linter.unusedVariables false
set_option linter.unusedSimpArgs false
namespace Go.Proofs.YthnnleibngbclaaDoor.X
open Go.RowKit Go.Shelf Go.Proofs.YthnnleibngbclaaDoorW.PrintWords Go.Proofs.YthnnleibngbclaaDoorW.PrintLast Go.Proofs.YthnnleibngbclaaDoorW.PrintMore
set_option maxHeartbeats 4000000 in
set_option maxRecDepth 100000 in
theorem lexRemarks.calls (s r b : ByteArray) (w : World) (hT : LexTabs w) :
    Calls Tryd.prog 6 #[.string s, .string r, .string b] w fun e w' => e = .returned (.bool true) ∧ Below w.heap.size w w' := by
  have HT := Aside0.mk hT
  clear hT
  go_enter Tryd.func6, Tryd.ntmps6
  go_wp2_with fail
  refine (awake04.calls _ HT.out).mono ?_
  rintro e w1 ⟨rfl, hb⟩
  have HB1 := Aside0.mk hb
  have HT1 := Aside0.mk (HT.out.below hb)
  clear hb HT
  by_cases hs : 5000 < s.size
  · have t1i : decide ((5000 : Int) < (s.size : Int)) = true := decide_eq_true (by omega)
    have t1 : decide (5000 < s.size) = true := decide_eq_true hs
    clear hs
    go_wp2_with fail
    refine (awake04.calls _ HT1.out).mono ?_
    rintro e w2 ⟨rfl, hbb⟩
    have HB2 := Aside0.mk (below_step HB1.out hbb)
    clear hbb HB1
    go_wp2_with fail
    go_ret
    exact ⟨rfl, HB2.out⟩
  have s1i : decide ((5000 : Int) < (s.size : Int)) = false := decide_eq_false (by omega)
  have s1 : decide (5000 < s.size) = false := decide_eq_false hs
  by_cases hbz : 5000 < b.size
  · have t1i : decide ((5000 : Int) < (b.size : Int)) = true := decide_eq_true (by omega)
    have t1 : decide (5000 < b.size) = true := decide_eq_true hbz
    clear hs hbz
    go_wp2_with fail
    refine (awake04.calls _ HT1.out).mono ?_
    rintro e w2 ⟨rfl, hbb⟩
    have HB2 := Aside0.mk (below_step HB1.out hbb)
    clear hbb HB1
    go_wp2_with fail
    go_ret
    exact ⟨rfl, HB2.out⟩
  have b1i : decide ((5000 : Int) < (b.size : Int)) = false := decide_eq_false (by omega)
  have b1 : decide (5000 < b.size) = false := decide_eq_false hbz
  by_cases hrz : 5000 < r.size
  · have t1i : decide ((5000 : Int) < (r.size : Int)) = true := decide_eq_true (by omega)
    have t1 : decide (5000 < r.size) = true := decide_eq_true hrz
    clear hs hbz hrz
    go_wp2_with fail
    refine (awake04.calls _ HT1.out).mono ?_
    rintro e w2 ⟨rfl, hbb⟩
    have HB2 := Aside0.mk (below_step HB1.out hbb)
    clear hbb HB1
    go_wp2_with fail
    go_ret
    exact ⟨rfl, HB2.out⟩
  have r1i : decide ((5000 : Int) < (r.size : Int)) = false := decide_eq_false (by omega)
  have r1 : decide (5000 < r.size) = false := decide_eq_false hrz
  have zs : s.size ≤ 5000 := by omega
  have zb : b.size ≤ 5000 := by omega
  have zr : r.size ≤ 5000 := by omega
  clear hs hbz hrz
  go_wp2_with fail
  clear s1i s1 b1i b1 r1i r1
  go_loopw [7] (fun v7 wr => ∃ j : Nat, j ≤ r.size ∧ v7 = .int .i64 j ∧ Aside0 (∀ k, k < j → (r.get! k).toNat ≠ 10) ∧ Aside0 (Below w1.heap.size w1 wr)) (fun v7 _ => r.size - (intOf v7).toNat)
  case atStart => exact ⟨0, by omega, rfl, ⟨fun k hk => by omega⟩, ⟨by repeat (first | exact Below.refl _ _ | refine below_drew ?_ | refine below_alloc ?_ _)⟩⟩
  case round =>
    obtain ⟨j, hj, rfl, HK, HB⟩ := hrel
    by_cases hlt : j < r.size
    · have hg : r.get! j = r[j]'hlt := by
        show r.data[j]! = r.data[j]'hlt
        exact getElem!_pos r.data j hlt
      by_cases hx : (r.get! j).toNat = 10
      · have tt : (((r[j]'hlt).toNat : Int) == 10) = true := beq_iff_eq.mpr (by rw [← hg]; omega)
        clear hg hx
        go_wp2_with fail
        go_ret
        exact ⟨rfl, below_step HB1.out HB.out⟩
      · have tt : (((r[j]'hlt).toNat : Int) == 10) = false := beq_eq_false_iff_ne.mpr (by rw [← hg]; omega)
        have HX := Aside0.mk hx
        clear hg hx
        go_wp2_with fail
        refine ⟨⟨j + 1, by omega, by go_num, ⟨fun k hk => ?_⟩, HB⟩, ?_⟩
        · by_cases hkj : k = j
          · rw [hkj]; exact HX.out
          · exact HK.out k (by omega)
        · simp [intOf]; omega
    · have HN : Aside0 (∀ k, k < r.size → (r.get! k).toNat ≠ 10) := ⟨fun k hk => HK.out k (by omega)⟩
      have HTr := Aside0.mk (HT1.out.below HB.out)
      have HBr := Aside0.mk (below_step HB1.out HB.out)
      have HZ : Aside0 (s.size ≤ 5000 ∧ b.size ≤ 5000 ∧ r.size ≤ 5000) := ⟨zs, zb, zr⟩
      clear HK HT1 HB1
      go_wp2_with fail
      refine (lex_Words.calls _ _ HTr.out).mono ?_
      rintro e w2 ⟨v, rfl, hown, h4, hbb⟩
      have HP := Aside0.mk (wordsP_remark s r b zs zr zb HN.out)
      have e1 : s ++ ({ data := #[10] } : ByteArray) ++ b = s ++ nlB ++ b := rfl
      rw [e1] at hown h4 ⊢
      clear e1
      generalize wordsP (s ++ nlB ++ b) = q1 at *
      obtain ⟨l, a, bb, e⟩ := q1
      simp only at hown HP h4 ⊢
      obtain ⟨A0, c0, rfl⟩ := own_slice hown
      obtain ⟨n, hn⟩ : ∃ n, n = l.length := ⟨_, rfl⟩
      rw [← hn] at h4 hown ⊢
      have HL := Aside0.mk hn
      have HO := Aside0.mk hown
      have HB2 := Aside0.mk (below_step HBr.out hbb)
      have HT2 := Aside0.mk (HTr.out.below hbb)
      clear hbb HBr HTr hown hn
      go_wp2_with fail
      obtain ⟨W3, hW3⟩ : ∃ W3, W3 = w2.alloc (.cells #[.int .i64 a, .int .i64 bb] 25) := ⟨_, rfl⟩
      have hb3 : Below w2.heap.size w2 W3 := by rw [hW3]; exact below_alloc (Below.refl _ _) _
      have HB3 := Aside0.mk (below_step HB2.out hb3)
      have HO2 := Aside0.mk (pw_own_below HO.out hb3)
      have HT3 := Aside0.mk (HT2.out.below hb3)
      rw [← hW3]
      clear hW3 hb3 HB2 HT2 HO
      refine (lex_Words.calls _ _ HT3.out).mono ?_
      rintro e3 w4 ⟨v, rfl, hown, h43, hbb⟩
      have e1 : s ++ ({ data := #[10, 47, 47] } : ByteArray) ++ r ++ ({ data := #[10] } : ByteArray) ++ b = s ++ nlB ++ (slB ++ r ++ nlB) ++ b := by
        rw [show ({ data := #[10, 47, 47] } : ByteArray) = nlB ++ slB from rfl, show ({ data := #[10] } : ByteArray) = nlB from rfl]
        simp only [ByteArray.append_assoc]
      rw [e1] at hown h43 ⊢
      clear e1
      generalize wordsP (s ++ nlB ++ (slB ++ r ++ nlB) ++ b) = q3 at *
      obtain ⟨l3, a3, b3, e3⟩ := q3
      have HQ : Aside0 (e3 = e ∧ (e = 0 → l3.map kt = l.map kt)) := by
        rcases HP.out with h | h
        · exact ⟨⟨h.2, fun _ => h.1⟩⟩
        · exact ⟨⟨h.2, fun h0 => absurd h0 h.1⟩⟩
      simp only at hown h43 ⊢
      obtain ⟨A3, c3, rfl⟩ := own_slice hown
      have HO3 := Aside0.mk hown
      have HO4 := Aside0.mk (pw_own_below HO2.out hbb)
      have HB4 := Aside0.mk (below_step HB3.out hbb)
      clear hbb HB3 HT3 HO2 hown h43 HP
      obtain rfl := HQ.out.1
      by_cases he : e3 = 0
      · have hlen : l3.length = n := by
          have := congrArg List.length (HQ.out.2 he)
          rw [List.length_map, List.length_map, ← HL.out] at this
          exact this
        rw [hlen] at HO3 ⊢
        subst he
        have HK2 := Aside0.mk (HQ.out.2 rfl)
        have HL3 := Aside0.mk hlen
        clear hlen HQ
        go_wp2_with fail
        go_loopw [80] (fun v80 wq => ∃ i : Nat, i ≤ n ∧ v80 = .int .i64 i ∧ Aside0 (Below w4.heap.size w4 wq)) (fun v80 _ => n - (intOf v80).toNat)
        case atStart => exact ⟨0, by omega, rfl, ⟨by repeat (first | exact Below.refl _ _ | refine below_drew ?_ | refine below_alloc ?_ _)⟩⟩
        case round =>
          obtain ⟨i, hi, rfl, HC⟩ := hrel
          by_cases hli : i < n
          · have t1 : decide (i < n) = true := decide_eq_true hli
            obtain ⟨g, cap, hv, hc⟩ := word_at (pw_own_below HO4.out HC.out) HL.out.symm (by omega)
            injection hv with hv1 hv2 hv3
            subst hv1
            clear hv2 hv3
            obtain ⟨g2, cap2, hv, hd⟩ := word_at (pw_own_below HO3.out HC.out) HL3.out (by omega)
            injection hv with hv1 hv2 hv3
            subst hv1
            clear hv2 hv3
            have hil : i < l.length := by rw [← HL.out]; exact hli
            have hil3 : i < l3.length := by rw [HL3.out]; exact hli
            have hq := hc i hil
            have hp := hd i hil3
            have hkt : kt (l3[i]'hil3) = kt (l[i]'hil) := by
              have h1 : (l3.map kt)[i]'(by rw [List.length_map]; exact hil3) = kt (l3[i]'hil3) := List.getElem_map _
              have h2 : (l.map kt)[i]'(by rw [List.length_map]; exact hil) = kt (l[i]'hil) := List.getElem_map _
              rw [← h1, ← h2]
              simp only [HK2.out]
            have hk1 : (l3[i]'hil3).kind = (l[i]'hil).kind := congrArg Prod.fst hkt
            have hk2 : (l3[i]'hil3).text = (l[i]'hil).text := congrArg Prod.snd hkt
            rw [hk1, hk2] at hp
            generalize (l[i]'hil).kind = xk at *
            generalize (l[i]'hil).text = xt at *
            have p0 : wr.cell? ⟨g, i * 4, none⟩ = some (.int .i64 xk) := hq.1
            have p1 : wr.cell? ⟨g, i * 4 + 1, none⟩ = some (.string xt) := hq.2.1
            have p2 : wr.cell? ⟨g2, i * 4, none⟩ = some (.int .i64 xk) := hp.1
            have p3 : wr.cell? ⟨g2, i * 4 + 1, none⟩ = some (.string xt) := hp.2.1
            have u0 : (xk != xk) = false := bne_eq_false_iff_eq.mpr rfl
            have u1 : (xt != xt) = false := by show (!(xt.data == xt.data)) = false; simp
            clear hq hp hc hd hkt hk1 hk2
            go_wp2_with fail
            go_quiet (fail)
            go_wp2_with fail
            go_roundw
            case rel => exact ⟨i + 1, by omega, by go_num, ⟨by repeat (first | exact HC.out | refine below_drew ?_ | refine pw_below_drewN ?_ _ | refine below_alloc ?_ _)⟩⟩
            case measure => simp [intOf]; omega
          · have t1 : decide (i < n) = false := decide_eq_false hli
            go_wp2_with fail
            go_ret
            exact ⟨rfl, below_step HB4.out HC.out⟩
      · have te : (e3 != 0) = true := bne_iff_ne.mpr he
        clear HQ he
        go_wp2_with fail
        go_ret
        exact ⟨rfl, by repeat (first | exact HB4.out | refine below_drew ?_ | refine below_alloc ?_ _)⟩
end Go.Proofs.YthnnleibngbclaaDoor.X
