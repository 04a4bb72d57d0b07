/- print.formed at declarations of few bytes. Printed by gen_pfformed.py. -/
import Derived.Test.YtknbhbppofphpaaGreatDoorPfForm
import Derived.LoopTactic
set_option linter.unusedVariables false
set_option linter.unusedSimpArgs false
namespace Go.Proofs.YtknbhbppofphpaaGreatDoor.X
open Go.RowKit Go.Shelf Go.Proofs.YtknbhbppofphpaaGreatDoorW.PrintWords Go.Proofs.YtknbhbppofphpaaGreatDoorW.PrintLast Go.Proofs.YtknbhbppofphpaaGreatDoorW.PrintMore
set_option maxHeartbeats 16000000 in
set_option maxRecDepth 100000 in
theorem pformed.calls : ∀ (n : Nat) (d : PD) (A4 A5 A6 A7 : Option Addr) (c4 c5 c6 c7 : Nat) (dep m : Int) (w : World), szP [d] ≤ n → szP [d] ≤ 900000 → 0 ≤ dep → dep + szP [d] ≤ 1000000 → w.cell? ⟨3, 0, none⟩ = some (.int .i64 m) →
    Kd.C k62 w A4 d.f3.length d.f3 → Kd.C k36 w A5 d.f4.length d.f4 → Kd.C k66 w A6 d.f5.length d.f5 → Kd.C k41 w A7 d.f6.length d.f6 →
    Calls Tryz.prog 26 #[.agg #[.int .i64 d.f0, .string d.f1, .int .i64 d.f2.f0, .int .i64 d.f2.f1, .slice A4 d.f3.length c4, .slice A5 d.f4.length c5, .slice A6 d.f5.length c6, .slice A7 d.f6.length c7], .int .i64 dep] w fun e w' => e = .returned (.bool (pfrmD d dep)) ∧ Below w.heap.size w w' := by
  intro n
  induction n using Nat.strongRecOn with
  | _ n ih =>
  intro d A4 A5 A6 A7 c4 c5 c6 c7 dep m w hn hsz hd0 hd9 hM hC4 hC5 hC6 hC7
  obtain ⟨a, b, ⟨p0, p1⟩, fs, vs, ms, ds⟩ := d
  simp only at hC4 hC5 hC6 hC7 ⊢
  have HIH := Aside0.mk ih
  have HM := Aside0.mk hM
  rw [szP, szP] at hn hsz hd9
  have HN := Aside0.mk hn
  have HZ := Aside0.mk hsz
  have HD0 := Aside0.mk hd0
  have HD9 := Aside0.mk hd9
  have hlf : fs.length ≤ 900000 := by have := nmPF_len fs; omega
  have hlv : vs.length ≤ 900000 := by have := nmPV_len vs; omega
  have hlm : ms.length ≤ 900000 := by have := nmPM_len ms; omega
  have hld : ds.length ≤ 900000 := by have := szP_len ds; omega
  have hbz : b.size ≤ 900000 := by omega
  have hdp : dep ≤ 1000000 := by omega
  clear ih hM hn hsz hd9
  obtain ⟨nf, hnf⟩ : ∃ nf, nf = fs.length := ⟨_, rfl⟩
  obtain ⟨nv, hnv⟩ : ∃ nv, nv = vs.length := ⟨_, rfl⟩
  obtain ⟨nm, hnm⟩ : ∃ nm, nm = ms.length := ⟨_, rfl⟩
  obtain ⟨nd, hnd⟩ : ∃ nd, nd = ds.length := ⟨_, rfl⟩
  obtain ⟨b0, hb0⟩ : ∃ b0, decide (0 < (nf : Int) + nd) = b0 := ⟨_, rfl⟩
  obtain ⟨b1, hb1⟩ : ∃ b1, decide (0 < nv) = b1 := ⟨_, rfl⟩
  obtain ⟨b2, hb2⟩ : ∃ b2, decide (0 < nm) = b2 := ⟨_, rfl⟩
  have HV : Aside0 (pfrmD ⟨a, b, ⟨p0, p1⟩, fs, vs, ms, ds⟩ dep = (pmany a b0 b1 b2 && plainV b && pkind a dep && fs.all fldP && vs.all valP && ms.all metP && ds.all fun x => pfrmD x (dep + 1))) := ⟨by
    rw [← pfrmI_all, ← hb0, ← hb1, ← hb2, hnf, hnv, hnm, hnd]
    unfold pfrmD phead
    simp only
    rw [show decide (0 < fs.length + ds.length) = decide (0 < (fs.length : Int) + ds.length) from decide_eq_decide.mpr (by omega)]⟩
  rw [← hnf] at hlf hC4
  rw [← hnv] at hlv hC5
  rw [← hnm] at hlm hC6
  rw [← hnd] at hld hC7
  rw [← hnf, ← hnv, ← hnm, ← hnd]
  have HNF := Aside0.mk hnf
  have HNV := Aside0.mk hnv
  have HNM := Aside0.mk hnm
  have HND := Aside0.mk hnd
  have HC4 := Aside0.mk hC4
  have HC5 := Aside0.mk hC5
  have HC6 := Aside0.mk hC6
  have HC7 := Aside0.mk hC7
  clear hnf hnv hnm hnd hC4 hC5 hC6 hC7
  have END : ∀ (r : Bool) (W : World), (pmany a b0 b1 b2 && plainV b && pkind a dep && fs.all fldP && vs.all valP && ms.all metP && ds.all fun x => pfrmD x (dep + 1)) = r → Below w.heap.size w W → (Ending.returned (Value.bool r) = Ending.returned (Value.bool (pfrmD ⟨a, b, ⟨p0, p1⟩, fs, vs, ms, ds⟩ dep)) ∧ Below w.heap.size w W) := fun r W h hb => ⟨by rw [HV.out, h], hb⟩
  have HEND := Aside0.mk END
  clear END
  go_enter Tryz.func26, Tryz.ntmps26
  go_wp2_with fail
  obtain ⟨W3, hW3⟩ : ∃ W3, W3 = ((w.alloc (.cells #[.int .i64 a, .string b, .int .i64 p0, .int .i64 p1, .slice A4 nf c4, .slice A5 nv c5, .slice A6 nm c6, .slice A7 nd c7] 41)).alloc (.cells #[.int .i64 dep] 3)).alloc (.cells #[.bool b0, .bool b1, .bool b2] 106) := ⟨_, rfl⟩
  have hB3 : Below w.heap.size w W3 := by rw [hW3]; exact below_alloc (below_alloc (below_alloc (Below.refl _ _) _) _) _
  have hX3 : W3.heap[w.heap.size]? = some (.cells #[.int .i64 a, .string b, .int .i64 p0, .int .i64 p1, .slice A4 nf c4, .slice A5 nv c5, .slice A6 nm c6, .slice A7 nd c7] 41 (0, 0)) := by rw [hW3]; exact blk_below (blk_below (blk_new w _) (below_alloc (Below.refl _ _) _)) (below_alloc (Below.refl _ _) _)
  have hY3 : W3.heap[w.heap.size + 1]? = some (.cells #[.int .i64 dep] 3 (0, 0)) := by
    have h := blk_new (w.alloc (.cells #[.int .i64 a, .string b, .int .i64 p0, .int .i64 p1, .slice A4 nf c4, .slice A5 nv c5, .slice A6 nm c6, .slice A7 nd c7] 41)) (.cells #[.int .i64 dep] 3)
    rw [show (w.alloc (.cells #[.int .i64 a, .string b, .int .i64 p0, .int .i64 p1, .slice A4 nf c4, .slice A5 nv c5, .slice A6 nm c6, .slice A7 nd c7] 41)).heap.size = w.heap.size + 1 by simp] at h
    rw [hW3]
    exact blk_below h (below_alloc (Below.refl _ _) _)
  have HB3 := Aside0.mk hB3
  have HX3 := Aside0.mk hX3
  have HY3 := Aside0.mk hY3
  rw [← hW3]
  clear hB3 hX3 hY3 hW3 hb0 hb1 hb2
  have k0 : W3.cell? ⟨w.heap.size, 0, none⟩ = some (.int .i64 a) := blk_cell HX3.out 0
  have j0 : ∀ w, (Instr.index 106 (.agg #[.bool b0, .bool b1, .bool b2]) (.int .i64 0)).run Tryz.prog w = .ok (.bool b0) w := fun _ => by kernel_rfl
  have j1 : ∀ w, (Instr.index 106 (.agg #[.bool b0, .bool b1, .bool b2]) (.int .i64 1)).run Tryz.prog w = .ok (.bool b1) w := fun _ => by kernel_rfl
  have j2 : ∀ w, (Instr.index 106 (.agg #[.bool b0, .bool b1, .bool b2]) (.int .i64 2)).run Tryz.prog w = .ok (.bool b2) w := fun _ => by kernel_rfl
  go_loopw [26] (fun v26 wr => ∃ i : Int, 0 ≤ i ∧ i ≤ 3 ∧ v26 = .int .i64 i ∧ wr = W3 ∧ Aside0 ((0 < i → (!b0 || a == 1) = true) ∧ (1 < i → (!b1 || a == 2) = true) ∧ (2 < i → (!b2 || a == 3) = true))) (fun v26 _ => 3 - (intOf v26).toNat)
  case atStart => exact ⟨0, by omega, by omega, rfl, by first | rfl | trivial, ⟨⟨fun h => absurd h (by decide), fun h => absurd h (by decide), fun h => absurd h (by decide)⟩⟩⟩
  case round =>
    obtain ⟨i, hi0, hi3, rfl, hwr, HF⟩ := hrel
    subst hwr
    have hi : i = 0 ∨ i = 1 ∨ i = 2 ∨ i = 3 := by omega
    rcases hi with rfl | rfl | rfl | rfl
    · cases b0 with
      | false =>
        go_wp2_with fail
        go_roundw
        case rel => exact ⟨1, by omega, by omega, rfl, by first | rfl | trivial, ⟨⟨fun _ => rfl, fun h => absurd h (by decide), fun h => absurd h (by decide)⟩⟩⟩
        case measure => simp [intOf]
      | true =>
        by_cases ha : a = 1
        · have u : (a != 1) = false := bne_eq_false_iff_eq.mpr ha
          have HA : Aside0 ((a == 1) = true) := ⟨beq_iff_eq.mpr ha⟩
          clear ha
          go_wp2_with fail
          go_roundw
          case rel => exact ⟨1, by omega, by omega, rfl, by first | rfl | trivial, ⟨⟨fun _ => by rw [HA.out]; rfl, fun h => absurd h (by decide), fun h => absurd h (by decide)⟩⟩⟩
          case measure => simp [intOf]
        · have u : (a != 1) = true := bne_iff_ne.mpr ha
          have HA : Aside0 ((a == 1) = false) := ⟨beq_eq_false_iff_ne.mpr ha⟩
          clear ha
          go_wp2_with fail
          go_ret
          exact HEND.out _ _ (by unfold pmany; rw [HA.out]; simp) HB3.out
    · cases b1 with
      | false =>
        go_wp2_with fail
        go_roundw
        case rel => exact ⟨2, by omega, by omega, rfl, by first | rfl | trivial, ⟨⟨fun _ => HF.out.1 (by decide), fun _ => rfl, fun h => absurd h (by decide)⟩⟩⟩
        case measure => simp [intOf]
      | true =>
        by_cases ha : a = 2
        · have u : (a != 2) = false := bne_eq_false_iff_eq.mpr ha
          have HA : Aside0 ((a == 2) = true) := ⟨beq_iff_eq.mpr ha⟩
          clear ha
          go_wp2_with fail
          go_roundw
          case rel => exact ⟨2, by omega, by omega, rfl, by first | rfl | trivial, ⟨⟨fun _ => HF.out.1 (by decide), fun _ => by rw [HA.out]; rfl, fun h => absurd h (by decide)⟩⟩⟩
          case measure => simp [intOf]
        · have u : (a != 2) = true := bne_iff_ne.mpr ha
          have HA : Aside0 ((a == 2) = false) := ⟨beq_eq_false_iff_ne.mpr ha⟩
          clear ha
          go_wp2_with fail
          go_ret
          exact HEND.out _ _ (by unfold pmany; rw [HA.out]; simp) HB3.out
    · cases b2 with
      | false =>
        go_wp2_with fail
        go_roundw
        case rel => exact ⟨3, by omega, by omega, rfl, by first | rfl | trivial, ⟨⟨fun _ => HF.out.1 (by decide), fun _ => HF.out.2.1 (by decide), fun _ => rfl⟩⟩⟩
        case measure => simp [intOf]
      | true =>
        by_cases ha : a = 3
        · have u : (a != 3) = false := bne_eq_false_iff_eq.mpr ha
          have HA : Aside0 ((a == 3) = true) := ⟨beq_iff_eq.mpr ha⟩
          clear ha
          go_wp2_with fail
          go_roundw
          case rel => exact ⟨3, by omega, by omega, rfl, by first | rfl | trivial, ⟨⟨fun _ => HF.out.1 (by decide), fun _ => HF.out.2.1 (by decide), fun _ => by rw [HA.out]; rfl⟩⟩⟩
          case measure => simp [intOf]
        · have u : (a != 3) = true := bne_iff_ne.mpr ha
          have HA : Aside0 ((a == 3) = false) := ⟨beq_eq_false_iff_ne.mpr ha⟩
          clear ha
          go_wp2_with fail
          go_ret
          exact HEND.out _ _ (by unfold pmany; rw [HA.out]; simp) HB3.out
    · have HMY : Aside0 (pmany a b0 b1 b2 = true) := ⟨by unfold pmany; rw [HF.out.1 (by decide), HF.out.2.1 (by decide), HF.out.2.2 (by decide)]; rfl⟩
      clear HF hi0 hi3
      clear j0 j1 j2
      have k1 : wr.cell? ⟨w.heap.size, 1, none⟩ = some (.string b) := blk_cell HX3.out 1
      go_wp2_with fail
      refine (ident_Plain.calls b wr (by omega)).mono ?_
      rintro e w4 ⟨rfl, hb⟩
      have HB4 := Aside0.mk (below_step HB3.out hb)
      have hx4 := blk_below HX3.out hb
      have HX4 := Aside0.mk hx4
      have HY4 := Aside0.mk (blk_below HY3.out hb)
      have k0 : w4.cell? ⟨w.heap.size, 0, none⟩ = some (.int .i64 a) := blk_cell hx4 0
      have k4 : w4.cell? ⟨w.heap.size, 4, none⟩ = some (.slice A4 nf c4) := blk_cell hx4 4
      have q0 : w4.cell? ⟨w.heap.size + 1, 0, none⟩ = some (.int .i64 dep) := blk_cell HY4.out 0
      clear hb hx4 k1
      generalize plainV b = pl at *
      cases pl with
      | false =>
        go_wp2_with fail
        go_ret
        exact HEND.out _ _ (by rw [HMY.out]; rfl) HB4.out
      | true =>
      by_cases hk : pkind a dep = true
      rotate_left
      · have HK : Aside0 (pkind a dep = false) := ⟨Bool.eq_false_iff.mpr hk⟩
        have hcase : decide (a < 1) = true ∨ (decide (a < 1) = false ∧ decide (3 < a) = true) ∨ (decide (a < 1) = false ∧ decide (3 < a) = false ∧ (a == 1) = true ∧ decide (8 < dep) = true) ∨ (decide (a < 1) = false ∧ decide (3 < a) = false ∧ (a == 1) = false ∧ (a == 3) = true ∧ decide (1 < dep) = true) := by
          by_cases g1 : a < 1
          · exact .inl (decide_eq_true g1)
          by_cases g2 : 3 < a
          · exact .inr (.inl ⟨decide_eq_false g1, decide_eq_true g2⟩)
          have e := HK.out
          unfold pkind at e
          rw [decide_eq_true (show 1 ≤ a by omega), decide_eq_true (show a ≤ 3 by omega)] at e
          by_cases g3 : a = 1
          · refine .inr (.inr (.inl ⟨decide_eq_false g1, decide_eq_false g2, beq_iff_eq.mpr g3, ?_⟩))
            subst g3
            by_cases g4 : 8 < dep
            · exact decide_eq_true g4
            · rw [decide_eq_false g4] at e; exact absurd e (by simp)
          · have e1 : (a == 1) = false := beq_eq_false_iff_ne.mpr g3
            rw [e1] at e
            by_cases g5 : a = 3
            · refine .inr (.inr (.inr ⟨decide_eq_false g1, decide_eq_false g2, e1, beq_iff_eq.mpr g5, ?_⟩))
              subst g5
              by_cases g4 : 1 < dep
              · exact decide_eq_true g4
              · rw [decide_eq_false g4] at e; exact absurd e (by simp)
            · rw [(beq_eq_false_iff_ne.mpr g5 : (a == 3) = false)] at e; exact absurd e (by simp)
        clear hk
        rcases hcase with e1 | ⟨e1, e2⟩ | ⟨e1, e2, e3, e4⟩ | ⟨e1, e2, e3, e4, e5⟩
        all_goals
          go_wp2_with fail
          go_ret
          exact HEND.out _ _ (by rw [HMY.out, HK.out]; rfl) HB4.out
      have HPK : Aside0 (pkind a dep = true) := ⟨hk⟩
      have hcase : (decide (a < 1) = false ∧ decide (3 < a) = false ∧ (a == 1) = true ∧ decide (8 < dep) = false ∧ (a == 3) = false) ∨ (decide (a < 1) = false ∧ decide (3 < a) = false ∧ (a == 1) = false ∧ (a == 3) = true ∧ decide (1 < dep) = false) ∨ (decide (a < 1) = false ∧ decide (3 < a) = false ∧ (a == 1) = false ∧ (a == 3) = false) := by
        unfold pkind at hk
        simp only [Bool.and_eq_true] at hk
        obtain ⟨⟨⟨g1, g2⟩, g3⟩, g4⟩ := hk
        have g1 := of_decide_eq_true g1
        have g2 := of_decide_eq_true g2
        have d1 : decide (a < 1) = false := decide_eq_false (by omega)
        have d2 : decide (3 < a) = false := decide_eq_false (by omega)
        by_cases h1 : a = 1
        · refine .inl ⟨d1, d2, beq_iff_eq.mpr h1, ?_, beq_eq_false_iff_ne.mpr (by omega)⟩
          rw [(beq_iff_eq.mpr h1 : (a == 1) = true)] at g3
          simpa using g3
        · by_cases h3 : a = 3
          · refine .inr (.inl ⟨d1, d2, beq_eq_false_iff_ne.mpr h1, beq_iff_eq.mpr h3, ?_⟩)
            rw [(beq_iff_eq.mpr h3 : (a == 3) = true)] at g4
            simpa using g4
          · exact .inr (.inr ⟨d1, d2, beq_eq_false_iff_ne.mpr h1, beq_eq_false_iff_ne.mpr h3⟩)
      clear hk
      have H1 := Aside0.mk (any_f1.calls (fun f => !fldP f) A4 nf c4 fs w4 (Kd.C_below HC4.out HB4.out) (by omega) (fun d hd w' hb => formed1.calls d m w' (by have := nmPF_mem hd; have := HZ.out; omega) (by have := nmPF_mem hd; have := HZ.out; omega) (pw_cell_below (below_step HB4.out hb) HM.out)))
      have H2 : Aside0 (∀ W, Below w.heap.size w W → Calls Tryz.prog 48 #[.slice A5 nv c5, .func (.func 49) #[] #[]] W fun e w' => e = .returned (.bool (vs.any fun v => !valP v)) ∧ Below W.heap.size W w') := ⟨fun W hW => any_f2.calls (fun v => !valP v) A5 nv c5 vs W (Kd.C_below HC5.out hW) (by omega) (fun d hd w' hb => formed2.calls d w' (by have := nmPV_mem hd; have := HZ.out; omega))⟩
      have H3 : Aside0 (∀ W, Below w.heap.size w W → Calls Tryz.prog 50 #[.slice A6 nm c6, .func (.func 51) #[] #[]] W fun e w' => e = .returned (.bool (ms.any fun v => !metP v)) ∧ Below W.heap.size W w') := ⟨fun W hW => any_f3.calls (fun v => !metP v) A6 nm c6 ms W (Kd.C_below HC6.out hW) (by omega) (fun d hd w' hb => formed3.calls d m w' (by have := nmPM_mem hd; have := HZ.out; omega) (by have := nmPM_mem hd; have := HZ.out; omega) (by have := nmPM_mem hd; have := HZ.out; omega) (pw_cell_below (below_step hW hb) HM.out))⟩
      have H4 : Aside0 (∀ W, Below w.heap.size w W → W.heap[w.heap.size + 1]? = some (.cells #[.int .i64 dep] 3 (0, 0)) → Calls Tryz.prog 24 #[.slice A7 nd c7, .func (.func 52) #[] #[.pointer (some ⟨w.heap.size + 1, 0, none⟩)]] W fun e w' => e = .returned (.bool (ds.any fun x => !pfrmD x (dep + 1))) ∧ Below W.heap.size W w') := ⟨fun W hW hY => any_f4.calls (fun x => !pfrmD x (dep + 1)) (w.heap.size + 1) A7 nd c7 ds W (Kd.C_below HC7.out hW) (by omega) (fun d hd w' B4 B5 B6 B7 k4 k5 k6 k7 hb g4 _ g5 _ g6 _ g7 _ =>
        formed4.calls d B4 B5 B6 B7 k4 k5 k6 k7 (w.heap.size + 1) dep (pfrmD d (dep + 1)) w' (blk_cell (blk_below hY hb) 0) HD0.out (by have := HD9.out; omega) (fun W' hW' =>
          HIH.out (szP [d]) (by have := szP_mem hd; have := HN.out; omega) d B4 B5 B6 B7 k4 k5 k6 k7 (dep + 1) m W' (Nat.le_refl _) (by have := szP_mem hd; have := HZ.out; omega) (by have := HD0.out; omega) (by have := szP_mem hd; have := HD9.out; omega) (pw_cell_below (below_step (below_step hW hb) hW') HM.out) (Kd.C_below g4 hW') (Kd.C_below g5 hW') (Kd.C_below g6 hW') (Kd.C_below g7 hW')))⟩
      rcases hcase with ⟨e1, e2, e3, e4, e5⟩ | ⟨e1, e2, e3, e4, e5⟩ | ⟨e1, e2, e3, e4⟩
      all_goals
        go_wp2_with fail
        refine H1.out.mono ?_
        rintro e w5 ⟨rfl, hb⟩
        have HB5 := Aside0.mk (below_step HB4.out hb)
        have HX5 := Aside0.mk (blk_below HX4.out hb)
        have HY5 := Aside0.mk (blk_below HY4.out hb)
        have k5 : w5.cell? ⟨w.heap.size, 5, none⟩ = some (.slice A5 nv c5) := blk_cell HX5.out 5
        clear hb k4 k0 q0
        rw [any_not' fs fldP]
        generalize fs.all fldP = r1 at *
        cases r1 with
        | false =>
          go_wp2_with fail
          go_ret
          exact HEND.out _ _ (by rw [HMY.out, HPK.out]; rfl) HB5.out
        | true =>
        go_wp2_with fail
        refine (H2.out _ HB5.out).mono ?_
        rintro e w6 ⟨rfl, hb⟩
        have HB6 := Aside0.mk (below_step HB5.out hb)
        have HX6 := Aside0.mk (blk_below HX5.out hb)
        have HY6 := Aside0.mk (blk_below HY5.out hb)
        have k6 : w6.cell? ⟨w.heap.size, 6, none⟩ = some (.slice A6 nm c6) := blk_cell HX6.out 6
        clear hb k5
        rw [any_not' vs valP]
        generalize vs.all valP = r2 at *
        cases r2 with
        | false =>
          go_wp2_with fail
          go_ret
          exact HEND.out _ _ (by rw [HMY.out, HPK.out]; rfl) HB6.out
        | true =>
        go_wp2_with fail
        refine (H3.out _ HB6.out).mono ?_
        rintro e w7 ⟨rfl, hb⟩
        have HB7 := Aside0.mk (below_step HB6.out hb)
        have HX7 := Aside0.mk (blk_below HX6.out hb)
        have HY7 := Aside0.mk (blk_below HY6.out hb)
        have k7 : w7.cell? ⟨w.heap.size, 7, none⟩ = some (.slice A7 nd c7) := blk_cell HX7.out 7
        clear hb k6
        rw [any_not' ms metP]
        generalize ms.all metP = r3 at *
        cases r3 with
        | false =>
          go_wp2_with fail
          go_ret
          exact HEND.out _ _ (by rw [HMY.out, HPK.out]; rfl) HB7.out
        | true =>
        go_wp2_with fail
        refine (H4.out _ HB7.out HY7.out).mono ?_
        rintro e w8 ⟨rfl, hb⟩
        have HB8 := Aside0.mk (below_step HB7.out hb)
        clear hb k7
        rw [any_not' ds (fun x => pfrmD x (dep + 1))]
        generalize (ds.all fun x => pfrmD x (dep + 1)) = r4 at *
        go_wp2_with fail
        go_ret
        exact HEND.out _ _ (by rw [HMY.out, HPK.out]; cases r4 <;> rfl) HB8.out
end Go.Proofs.YtknbhbppofphpaaGreatDoor.X
