/- The law LexAgain walked. -/
import Derived.Test.YthnnleibngbclaaDoorLexTwice
import Derived.Test.YthnnleibngbclaaDoorLexPlaces
import Derived.BigQuiet
set_option linter.unusedVariables false
set_option linter.unusedSimpArgs false
namespace Go.Proofs.YthnnleibngbclaaDoor.X
open Go.RowKit Go.Shelf Go.Proofs.YthnnleibngbclaaDoorW.PrintWords Go.Proofs.YthnnleibngbclaaDoorW.PrintLast Go.Proofs.YthnnleibngbclaaDoorW.PrintMore
theorem again_facts (s : ByteArray) (hs : s.size ≤ 20000 ∨ (wordsP s).1 = []) : (∀ j, (againT ((wordsP s).1.take j)).size ≤ 80008000) ∧ (∀ x ∈ (wordsP s).1, x.text.size ≤ 20001) := by
  obtain ⟨hg, hl⟩ := wordsP_gd s
  rcases hs with hs | hs
  · refine ⟨fun j => ?_, fun x hx => ?_⟩
    · have h1 := againT_size (n := 20000) ((wordsP s).1.take j) (fun x hx => ⟨by have := (hg x (List.mem_of_mem_take hx)).1; omega, (hg x (List.mem_of_mem_take hx)).2⟩)
      have h2 : ((wordsP s).1.take j).length ≤ 4000 := by rw [List.length_take]; omega
      have h3 := Nat.mul_le_mul_right (20000 + 2) h2
      omega
    · have := (hg x hx).1
      omega
  · rw [hs]
    refine ⟨fun j => ?_, fun x hx => by cases hx⟩
    rw [List.take_nil]
    exact Nat.zero_le _
theorem words_small (s : ByteArray) : s.size ≤ 20000 ∨ (wordsP s).1 = [] := by
  by_cases h : 20000 < s.size
  · right
    unfold wordsP
    rw [if_pos h]
  · left
    omega
set_option maxHeartbeats 4000000 in
set_option maxRecDepth 100000 in
theorem lexAgain.calls (s : ByteArray) (w : World) (hT : LexTabs w) :
    Calls Tryd.prog 3 #[.string s] w fun e w' => e = .returned (.bool true) ∧ Below w.heap.size w w' := by
  have HT := Aside0.mk hT
  clear hT
  go_enter Tryd.func3, Tryd.ntmps3
  go_wp2_with fail
  refine (awake04.calls _ HT.out).mono ?_
  rintro e w1 ⟨rfl, hb⟩
  have HB1 := Aside0.mk hb
  have HT1 := Aside0.mk (HT.out.below hb)
  clear hb HT
  go_wp2_with fail
  refine (lex_Words.calls s _ HT1.out).mono ?_
  rintro e w2 ⟨v, rfl, hown, h4, hb⟩
  have hpl := (wordsP_rises s).2
  have HF := Aside0.mk (again_facts s (words_small s))
  have HA := Aside0.mk (wordsP_again s)
  generalize wordsP s = r at *
  obtain ⟨l, a, b, e⟩ := r
  simp only at hown hpl h4 HF HA ⊢
  have HB2 := Aside0.mk (below_step HB1.out hb)
  have HT2 := Aside0.mk (HT1.out.below hb)
  obtain ⟨A0, c0, rfl⟩ := own_slice hown
  clear hb HB1 HT1
  by_cases he : e = 0
  rotate_left
  · have te : (e != 0) = true := bne_iff_ne.mpr he
    have hl := hpl he
    have t1 : ((l.length : Int) == 0) = true := by rw [hl]; rfl
    have t1n : (l.length == 0) = true := by rw [hl]; rfl
    clear he hl hpl hown
    go_wp2_with fail
    go_ret
    exact ⟨rfl, by repeat (first | exact HB2.out | refine below_drew ?_ | refine below_alloc ?_ _)⟩
  have te : (e != 0) = false := bne_eq_false_iff_eq.mpr he
  have HO := Aside0.mk hown
  obtain ⟨n, hn⟩ : ∃ n, n = l.length := ⟨_, rfl⟩
  rw [← hn] at h4 HO ⊢
  have HN := Aside0.mk hn
  clear he hpl hown hn
  go_wp2_with fail
  go_loopw [6, 27] (fun v6 v27 wr => ∃ j : Nat, j ≤ n ∧ v27 = .int .i64 j ∧ v6 = .string (againT (l.take j)) ∧ Aside0 (Below w2.heap.size w2 wr)) (fun _ v27 _ => n - (intOf v27).toNat)
  case atStart => exact ⟨0, by omega, rfl, rfl, ⟨by repeat (first | exact Below.refl _ _ | refine below_drew ?_ | refine below_alloc ?_ _)⟩⟩
  case round =>
    obtain ⟨j, hj, rfl, rfl, HB⟩ := hrel
    by_cases hlt : j < n
    · have t1 : decide (j < n) = true := decide_eq_true hlt
      obtain ⟨g, cap, hv, hc⟩ := word_at (pw_own_below HO.out HB.out) HN.out.symm (by omega)
      injection hv with hv1 hv2 hv3
      subst hv1
      clear hv2 hv3
      have hjl : j < l.length := by rw [← HN.out]; exact hlt
      have hq := hc j hjl
      have q1 : wr.cell? ⟨g, j * 4 + 1, none⟩ = some (.string (l[j]'hjl).text) := hq.2.1
      have HS : Aside0 (againT (l.take (j + 1)) = againT (l.take j) ++ (l[j]'hjl).text ++ blB) := ⟨by rw [← againT_snoc, List.take_succ_eq_append_getElem hjl]⟩
      have z1 := HF.out.1 j
      have z2 := HF.out.2 _ (List.getElem_mem hjl)
      generalize againT (l.take j) = T at *
      generalize (l[j]'hjl).text = xt at *
      clear hq hc
      go_wp2_with fail
      go_roundw
      case rel => exact ⟨j + 1, by omega, by go_num, by rw [HS.out]; rfl, ⟨by repeat (first | exact HB.out | refine below_drew ?_ | refine below_alloc ?_ _)⟩⟩
      case measure => simp [intOf]; omega
    · have t1 : decide (j < n) = false := decide_eq_false hlt
      obtain rfl : j = n := by omega
      have HTr := Aside0.mk (HT2.out.below HB.out)
      have HBr := Aside0.mk (below_step HB2.out HB.out)
      have HOr := Aside0.mk (pw_own_below HO.out HB.out)
      have z1 := HF.out.1 j
      have et : l.take j = l := by rw [HN.out, List.take_length]
      rw [et] at z1 ⊢
      clear et HF HT2 HB2 HO
      obtain ⟨T, hTT⟩ : ∃ T, againT l = T := ⟨_, rfl⟩
      rw [hTT] at z1 HA ⊢
      clear hTT hj hlt
      go_wp2_with fail
      refine (lex_Words.calls _ _ HTr.out).mono ?_
      rintro e3 w4 ⟨v, rfl, hown, h43, hbb⟩
      generalize wordsP T = q3 at *
      obtain ⟨l3, a3, b3, e3⟩ := q3
      simp only at hown h43 HA ⊢
      obtain ⟨A3, c3, rfl⟩ := own_slice hown
      have HO3 := Aside0.mk hown
      have HO4 := Aside0.mk (pw_own_below HOr.out hbb)
      have HB4 := Aside0.mk (below_step HBr.out hbb)
      clear hbb hown HOr HBr HTr
      by_cases hz : 20000 < T.size
      · have t2i : decide ((20000 : Int) < (T.size : Int)) = true := decide_eq_true (by omega)
        have t2 : decide (20000 < T.size) = true := decide_eq_true hz
        obtain rfl := HA.out.2 hz
        clear hz HA
        go_wp2_with fail
        go_ret
        exact ⟨rfl, by repeat (first | exact HB4.out | refine below_drew ?_ | refine below_alloc ?_ _)⟩
      · have t2i : decide ((20000 : Int) < (T.size : Int)) = false := decide_eq_false (by omega)
        have t2 : decide (20000 < T.size) = false := decide_eq_false hz
        obtain ⟨hk, rfl⟩ := HA.out.1 (by omega)
        have hlen : l3.length = j := by
          have := congrArg List.length hk
          rw [List.length_map, List.length_map, ← HN.out] at this
          exact this
        rw [hlen] at HO3 ⊢
        have HK2 := Aside0.mk hk
        have HL3 := Aside0.mk hlen
        clear hlen hk HA hz
        go_wp2_with fail
        go_loopw [61] (fun v61 wq => ∃ i : Nat, i ≤ j ∧ v61 = .int .i64 i ∧ Aside0 (Below w4.heap.size w4 wq)) (fun v61 _ => j - (intOf v61).toNat)
        case atStart => exact ⟨0, by omega, rfl, ⟨by repeat (first | exact Below.refl _ _ | refine below_drew ?_ | refine below_alloc ?_ _)⟩⟩
        case round =>
          obtain ⟨i, hi, rfl, HC⟩ := hrel
          by_cases hli : i < j
          · have t1 : decide (i < j) = true := decide_eq_true hli
            obtain ⟨g, cap, hv, hc⟩ := word_at (pw_own_below HO4.out HC.out) HN.out.symm (by omega)
            injection hv with hv1 hv2 hv3
            subst hv1
            clear hv2 hv3
            obtain ⟨g2, cap2, hv, hd⟩ := word_at (pw_own_below HO3.out HC.out) HL3.out (by omega)
            injection hv with hv1 hv2 hv3
            subst hv1
            clear hv2 hv3
            have hil : i < l.length := by rw [← HN.out]; exact hli
            have hil3 : i < l3.length := by rw [HL3.out]; exact hli
            have hq := hc i hil
            have hp := hd i hil3
            have hkt : kt (l3[i]'hil3) = kt (l[i]'hil) := by
              have h1 : (l3.map kt)[i]'(by rw [List.length_map]; exact hil3) = kt (l3[i]'hil3) := List.getElem_map _
              have h2 : (l.map kt)[i]'(by rw [List.length_map]; exact hil) = kt (l[i]'hil) := List.getElem_map _
              rw [← h1, ← h2]
              simp only [HK2.out]
            have hk1 : (l3[i]'hil3).kind = (l[i]'hil).kind := congrArg Prod.fst hkt
            have hk2 : (l3[i]'hil3).text = (l[i]'hil).text := congrArg Prod.snd hkt
            rw [hk1, hk2] at hp
            generalize (l[i]'hil).kind = xk at *
            generalize (l[i]'hil).text = xt at *
            have p0 : wr.cell? ⟨g, i * 4, none⟩ = some (.int .i64 xk) := hq.1
            have p1 : wr.cell? ⟨g, i * 4 + 1, none⟩ = some (.string xt) := hq.2.1
            have p2 : wr.cell? ⟨g2, i * 4, none⟩ = some (.int .i64 xk) := hp.1
            have p3 : wr.cell? ⟨g2, i * 4 + 1, none⟩ = some (.string xt) := hp.2.1
            have u0 : (xk != xk) = false := bne_eq_false_iff_eq.mpr rfl
            have u1 : (xt != xt) = false := by show (!(xt.data == xt.data)) = false; simp
            clear hq hp hc hd hkt hk1 hk2
            go_wp2_with fail
            go_quiet (fail)
            go_wp2_with fail
            go_roundw
            case rel => exact ⟨i + 1, by omega, by go_num, ⟨by repeat (first | exact HC.out | refine below_drew ?_ | refine pw_below_drewN ?_ _ | refine below_alloc ?_ _)⟩⟩
            case measure => simp [intOf]; omega
          · have t1 : decide (i < j) = false := decide_eq_false hli
            go_wp2_with fail
            go_ret
            exact ⟨rfl, below_step HB4.out HC.out⟩
end Go.Proofs.YthnnleibngbclaaDoor.X
