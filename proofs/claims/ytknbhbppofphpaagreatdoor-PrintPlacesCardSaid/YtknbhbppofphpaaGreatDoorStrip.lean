/- parse.Strip: what it gives back of declarations. Printed by gen_strip.py. -/
import Derived.Test.YtknbhbppofphpaaGreatDoorStripLoop
import Derived.Test.YtknbhbppofphpaaGreatDoorStrip7
import Derived.LoopTactic
import Derived.Deep.Cut
set_option linter.unusedVariables false
set_option linter.unusedSimpArgs false
namespace Go.Proofs.YtknbhbppofphpaaGreatDoor.X
open Go.RowKit Go.Shelf Go.Proofs.YtknbhbppofphpaaGreatDoorW.PrintWords Go.Proofs.YtknbhbppofphpaaGreatDoorW.PrintLast Go.Proofs.YtknbhbppofphpaaGreatDoorW.PrintMore
def ClF (xs : List S62) (N M : Nat) (A : Option Addr) (c : Nat) (w : World) : Prop := N ≤ M ∧ ∃ h, N ≤ h ∧ (A = none ∨ h < M) ∧ LP cellsF stF 6 62 A c h xs 0 w
theorem ClF.keep (xs : List S62) : ∀ N M A c (w w' : World), ClF xs N M A c w → Below w.heap.size w w' → ClF xs N M A c w' := fun N M A c w w' ⟨h0, h, h1, h2, h3⟩ hb => ⟨h0, h, h1, h2, h3.below hb⟩
theorem cloneField.lp (A : Option Addr) (n c : Nat) (xs : List S62) (W : World) (hC : Kd.C k62 W A n xs) (hn : n ≤ 100000000) :
    Calls Tryz.prog 19 #[.slice A n c] W fun e w' => ∃ A' c', e = .returned (.slice A' n c') ∧ ClF xs W.heap.size w'.heap.size A' c' w' ∧ Below W.heap.size W w' :=
  (cloneField.calls A n c xs W hC hn).mono (fun e w' h => by
    obtain ⟨h, hb⟩ := h
    rcases h with ⟨h0, rfl⟩ | ⟨g, cap, arr, rfl, hg, hr⟩
    · have hl := Kd.C_len hC
      subst h0
      exact ⟨none, 0, rfl, ⟨hb.size, W.heap.size, Nat.le_refl _, .inl rfl, .inl ⟨rfl, List.eq_nil_of_length_eq_zero hl, rfl⟩⟩, hb⟩
    · exact ⟨some ⟨g, 0, none⟩, cap, rfl, ⟨hb.size, g, hg, .inr (blk_lt hr.blk), LP.start hr rfl (fun x cs h => k62_open h)⟩, hb⟩)
def ClV (xs : List S36) (N M : Nat) (A : Option Addr) (c : Nat) (w : World) : Prop := N ≤ M ∧ ∃ h, N ≤ h ∧ (A = none ∨ h < M) ∧ LP cellsV stV 4 36 A c h xs 0 w
theorem ClV.keep (xs : List S36) : ∀ N M A c (w w' : World), ClV xs N M A c w → Below w.heap.size w w' → ClV xs N M A c w' := fun N M A c w w' ⟨h0, h, h1, h2, h3⟩ hb => ⟨h0, h, h1, h2, h3.below hb⟩
theorem cloneValue.lp (A : Option Addr) (n c : Nat) (xs : List S36) (W : World) (hC : Kd.C k36 W A n xs) (hn : n ≤ 100000000) :
    Calls Tryz.prog 20 #[.slice A n c] W fun e w' => ∃ A' c', e = .returned (.slice A' n c') ∧ ClV xs W.heap.size w'.heap.size A' c' w' ∧ Below W.heap.size W w' :=
  (cloneValue.calls A n c xs W hC hn).mono (fun e w' h => by
    obtain ⟨h, hb⟩ := h
    rcases h with ⟨h0, rfl⟩ | ⟨g, cap, arr, rfl, hg, hr⟩
    · have hl := Kd.C_len hC
      subst h0
      exact ⟨none, 0, rfl, ⟨hb.size, W.heap.size, Nat.le_refl _, .inl rfl, .inl ⟨rfl, List.eq_nil_of_length_eq_zero hl, rfl⟩⟩, hb⟩
    · exact ⟨some ⟨g, 0, none⟩, cap, rfl, ⟨hb.size, g, hg, .inr (blk_lt hr.blk), LP.start hr rfl (fun x cs h => k36_open h)⟩, hb⟩)
def ClM (xs : List S66) (N M : Nat) (A : Option Addr) (c : Nat) (w : World) : Prop := N ≤ M ∧ ∃ h, N ≤ h ∧ (A = none ∨ h < M) ∧ LP cellsM stM 5 66 A c h xs 0 w
theorem ClM.keep (xs : List S66) : ∀ N M A c (w w' : World), ClM xs N M A c w → Below w.heap.size w w' → ClM xs N M A c w' := fun N M A c w w' ⟨h0, h, h1, h2, h3⟩ hb => ⟨h0, h, h1, h2, h3.below hb⟩
theorem cloneMethod.lp (A : Option Addr) (n c : Nat) (xs : List S66) (W : World) (hC : Kd.C k66 W A n xs) (hn : n ≤ 100000000) :
    Calls Tryz.prog 21 #[.slice A n c] W fun e w' => ∃ A' c', e = .returned (.slice A' n c') ∧ ClM xs W.heap.size w'.heap.size A' c' w' ∧ Below W.heap.size W w' :=
  (cloneMethod.calls A n c xs W hC hn).mono (fun e w' h => by
    obtain ⟨h, hb⟩ := h
    rcases h with ⟨h0, rfl⟩ | ⟨g, cap, arr, rfl, hg, hr⟩
    · have hl := Kd.C_len hC
      subst h0
      exact ⟨none, 0, rfl, ⟨hb.size, W.heap.size, Nat.le_refl _, .inl rfl, .inl ⟨rfl, List.eq_nil_of_length_eq_zero hl, rfl⟩⟩, hb⟩
    · exact ⟨some ⟨g, 0, none⟩, cap, rfl, ⟨hb.size, g, hg, .inr (blk_lt hr.blk), LP.start hr rfl (fun x cs h => k66_open h)⟩, hb⟩)
theorem SI.start {l : List PD} {w W : World} {g cap : Nat} {arr : Array Value} (hr : BlkRow k41 w 41 g cap l arr W) (hg : w.heap.size ≤ g) (hb : Below w.heap.size w W) : SI l w g cap 0 W :=
  ⟨arr, hr.blk, hr.size, hr.len, hr.cap, hg, hb, fun j hj => ⟨fun h => absurd h (Nat.not_lt_zero _), fun _ => hr.row j hj⟩⟩
theorem SI.done {l : List PD} {w W : World} {g cap : Nat} (h : SI l w g cap l.length W) : Kd.R k41 41 W w.heap.size (fun _ => True) (.slice (some ⟨g, 0, none⟩) l.length cap) (stL l) := by
  obtain ⟨arr, h1, h2, h3, h4, h5, h6, h7⟩ := h
  rw [stL_map]
  have := R_of_block (d := k41) (B := w.heap.size) (xs := l.map stD) (ok := fun _ => True) h1 h5 h2 (by rw [List.length_map]; exact h3) h4 trivial (fun j hj => by
    have hj' : j < l.length := by rw [List.length_map] at hj; exact hj
    obtain ⟨cs, hM, hc⟩ := (h7 j hj').1 hj'
    rw [List.getElem_map]
    exact ⟨cs, Kd.M_mono k41 (fun k hk => ⟨trivial, hk⟩) hM, hc⟩)
  rw [List.length_map] at this
  exact this
def ClD (ds : List PD) (N M : Nat) (A : Option Addr) (c : Nat) (w : World) : Prop := Kd.R k41 41 w N (fun _ => True) (.slice A ds.length c) (stL ds)
theorem ClD.keep (ds : List PD) : ∀ N M A c (w w' : World), ClD ds N M A c w → Below w.heap.size w w' → ClD ds N M A c w' := fun N M A c w w' h hb => Kd.R_below h hb
theorem szP_inner (d : PD) : szP d.f6 + 1 ≤ szP [d] ∧ nmPF d.f3 ≤ szP [d] ∧ nmPV d.f4 ≤ szP [d] ∧ nmPM d.f5 ≤ szP [d] := by
  obtain ⟨a, b, c, fs, vs, ms, ds⟩ := d
  rw [szP, szP]
  simp only
  omega
set_option maxHeartbeats 16000000 in
set_option maxRecDepth 100000 in
theorem strip.calls : ∀ (m : Nat) (l : List PD) (A : Option Addr) (c : Nat) (w : World), szP l ≤ m → szP l ≤ 900000 → Kd.C k41 w A l.length l →
    Calls Tryz.prog 9 #[.slice A l.length c] w fun e w' => ∃ v, e = .returned v ∧ Kd.R k41 41 w' w.heap.size (fun _ => True) v (stL l) ∧ Below w.heap.size w w' := by
  intro m
  induction m using Nat.strongRecOn with
  | _ m ih =>
  intro l A c w hm hsz hC
  have HIH := Aside0.mk ih
  have HM := Aside0.mk hm
  have HZ := Aside0.mk hsz
  have hln : l.length ≤ 900000 := by have := szP_len l; omega
  have HCL := Aside0.mk (cloneDecl.calls A l.length c l w hC (by omega))
  clear ih hm hsz hC
  obtain ⟨n, hn⟩ : ∃ n, n = l.length := ⟨_, rfl⟩
  rw [← hn] at HCL hln ⊢
  have HN := Aside0.mk hn
  clear hn
  go_enter Tryz.func9, Tryz.ntmps9
  go_wp2_with fail
  refine HCL.out.mono ?_
  rintro e w1 ⟨h, hb⟩
  have HB1 := Aside0.mk hb
  clear hb HCL
  rcases h with ⟨h0, rfl⟩ | ⟨g, cap, arr, rfl, hg, hrow⟩
  · subst h0
    go_wp2_with fail
    go_loopw [13] (fun v13 wr => v13 = .int .i64 0 ∧ wr = w1) (fun _ _ => 0)
    case atStart => exact ⟨rfl, rfl⟩
    case round =>
      obtain ⟨rfl, rfl⟩ := hrel
      go_wp2_with fail
      go_ret
      exact ⟨_, rfl, by rw [List.eq_nil_of_length_eq_zero HN.out.symm, stL]; exact Kd.R_nil _ _ _ _ _, HB1.out⟩
  · have HSI := Aside0.mk (SI.start hrow hg HB1.out)
    clear hrow hg
    go_wp2_with fail
    go_loopw [13] (fun v13 wr => ∃ i : Int, 0 ≤ i ∧ i ≤ (n : Int) ∧ v13 = .int .i64 i ∧ Aside0 (SI l w g cap i.toNat wr)) (fun v13 _ => n - (intOf v13).toNat)
    case atStart => exact ⟨0, by omega, by omega, rfl, HSI⟩
    case round =>
      obtain ⟨i, hi0, hil, rfl, HS⟩ := hrel
      by_cases hlt : i < (n : Int)
      rotate_left
      · have t1 : decide (i < (n : Int)) = false := decide_eq_false hlt
        have hi : i.toNat = l.length := by rw [← HN.out]; omega
        rw [hi] at HS
        clear hi
        go_wp2_with fail
        go_ret
        refine ⟨_, rfl, ?_, ?_⟩
        · rw [HN.out]; exact HS.out.done
        · obtain ⟨_, _, _, _, _, _, h6, _⟩ := HS.out
          exact h6
      obtain ⟨wo, rfl⟩ : ∃ wo : World, wo = wr := ⟨_, rfl⟩
      have t1 : decide (i < (n : Int)) = true := decide_eq_true hlt
      have hjm : i.toNat < l.length := by rw [← HN.out]; omega
      obtain ⟨arr, hx, has, hlc, hcm, hg, hbw, hrw⟩ := HS.out
      have HRW := Aside0.mk hrw
      have HBW := Aside0.mk hbw
      have HX := Aside0.mk hx
      have HAS := Aside0.mk has
      have HG := Aside0.mk hg
      have HLC := Aside0.mk hlc
      have HCM := Aside0.mk hcm
      obtain ⟨cs, hK, hcs⟩ := (hrw i.toNat hjm).2 (Nat.le_refl _)
      have hmem := List.getElem_mem hjm
      have HSP : Aside0 (szP [l[i.toNat]] ≤ szP l) := ⟨szP_mem hmem⟩
      obtain ⟨o, ho⟩ : ∃ o, o = i.toNat * 8 := ⟨_, rfl⟩
      have HO := Aside0.mk ho
      have hoc : o + 8 ≤ arr.size := by rw [has, ho]; omega
      rw [← ho] at hcs
      obtain ⟨d, hd⟩ : ∃ d, d = l[i.toNat] := ⟨_, rfl⟩
      rw [← hd] at hK HSP
      have HD : Aside0 (l[i.toNat]? = some d) := ⟨by rw [List.getElem?_eq_getElem hjm, hd]⟩
      obtain ⟨A4, c4, A5, c5, A6, c6, A7, c7, rfl, l4, g4, l5, g5, l6, g6, l7, g7⟩ := k41_open hK
      have a0 : arr[o + 0]? = some (.int .i64 d.f0) := hcs 0 (by decide)
      have a1 : arr[o + 1]? = some (.string d.f1) := hcs 1 (by decide)
      have a2 : arr[o + 2]? = some (.int .i64 d.f2.f0) := hcs 2 (by decide)
      have a3 : arr[o + 3]? = some (.int .i64 d.f2.f1) := hcs 3 (by decide)
      have a4 : arr[o + 4]? = some (.slice A4 d.f3.length c4) := hcs 4 (by decide)
      have a5 : arr[o + 5]? = some (.slice A5 d.f4.length c5) := hcs 5 (by decide)
      have a6 : arr[o + 6]? = some (.slice A6 d.f5.length c6) := hcs 6 (by decide)
      have a7 : arr[o + 7]? = some (.slice A7 d.f6.length c7) := hcs 7 (by decide)
      have x2 : wo.cell? ⟨g, o + 2, none⟩ = some (.int .i64 d.f2.f0) := by rw [Lib.cell_of_heap hx]; exact a2
      have x3 : wo.cell? ⟨g, o + 3, none⟩ = some (.int .i64 d.f2.f1) := by rw [Lib.cell_of_heap hx]; exact a3
      have f2 : wo.frozen? ⟨g, o + 2, none⟩ = false := Lib.frozen_of_heap hx _
      have f3 : wo.frozen? ⟨g, o + 3, none⟩ = false := Lib.frozen_of_heap hx _
      have A0' := Aside0.mk a0
      have A1' := Aside0.mk a1
      have A4' := Aside0.mk a4
      have A5' := Aside0.mk a5
      have A6' := Aside0.mk a6
      have A7' := Aside0.mk a7
      have G4 := Aside0.mk g4
      have G5 := Aside0.mk g5
      have G6 := Aside0.mk g6
      have G7 := Aside0.mk g7
      have HOC := Aside0.mk hoc
      have hlci : i < (cap : Int) := by omega
      clear hx has hg hlc hcm hbw hrw hK hcs hmem hd hjm a0 a1 a2 a3 a4 a5 a6 a7 l4 g4 l5 g5 l6 g6 l7 g7 hoc
      rw [ho] at x2 x3 f2 f3
      go_upto_region 7 with fail
      rw [← ho]
      clear x2 x3 f2 f3 ho
      obtain ⟨wa, hwa⟩ : ∃ wa, wa = (wo.setCell ⟨g, o + 2, none⟩ (.int .i64 0)).setCell ⟨g, o + 2 + 1, none⟩ (.int .i64 0) := ⟨_, rfl⟩
      obtain ⟨arr1, harr1⟩ : ∃ a, a = (arr.setIfInBounds (o + 2) (.int .i64 0)).setIfInBounds (o + 2 + 1) (.int .i64 0) := ⟨_, rfl⟩
      have HXA : Aside0 (wa.heap[g]? = some (.cells arr1 41 (0, 0))) := ⟨by rw [hwa, harr1]; exact blk_set (blk_set HX.out _ _) _ _⟩
      have HBA : Aside0 (Below w.heap.size w wa) := ⟨by rw [hwa]; exact (HBW.out.setCell (p := ⟨g, o + 2, none⟩) HG.out _).setCell (p := ⟨g, o + 2 + 1, none⟩) HG.out _⟩
      have HKA : Aside0 (Kp wo.heap.size g wo wa) := ⟨by rw [hwa]; exact ((Kp.refl _ _ _).set (.inl rfl) _ _).set (.inl rfl) _ _⟩
      have HSA : Aside0 (wa.heap.size = wo.heap.size) := ⟨by rw [hwa]; simp [World.setCell]⟩
      rw [← hwa]
      have HA1 := Aside0.mk harr1
      have b4 : arr1[o + 4]? = some (.slice A4 d.f3.length c4) := by rw [harr1]; simp [Array.getElem?_setIfInBounds, A4'.out]
      have b5 : arr1[o + 5]? = some (.slice A5 d.f4.length c5) := by rw [harr1]; simp [Array.getElem?_setIfInBounds, A5'.out]
      have b6 : arr1[o + 6]? = some (.slice A6 d.f5.length c6) := by rw [harr1]; simp [Array.getElem?_setIfInBounds, A6'.out]
      have b7 : arr1[o + 7]? = some (.slice A7 d.f6.length c7) := by rw [harr1]; simp [Array.getElem?_setIfInBounds, A7'.out]
      clear hwa harr1
      have HIN := Aside0.mk (szP_inner d)
      have HC4 : Aside0 (∀ W', Below wa.heap.size wa W' → Calls Tryz.prog 19 #[.slice A4 d.f3.length c4] W' fun e w' => ∃ A' c', e = .returned (.slice A' d.f3.length c') ∧ ClF d.f3 W'.heap.size w'.heap.size A' c' w' ∧ Below W'.heap.size W' w') := ⟨fun W' hW => cloneField.lp A4 d.f3.length c4 d.f3 W' (Kd.C_below G4.out (below_step HBA.out hW)) (by have h1 := nmPF_len d.f3; have h2 := HIN.out.2.1; have h3 := HSP.out; have h4 := HZ.out; omega)⟩
      have HC5 : Aside0 (∀ W', Below wa.heap.size wa W' → Calls Tryz.prog 20 #[.slice A5 d.f4.length c5] W' fun e w' => ∃ A' c', e = .returned (.slice A' d.f4.length c') ∧ ClV d.f4 W'.heap.size w'.heap.size A' c' w' ∧ Below W'.heap.size W' w') := ⟨fun W' hW => cloneValue.lp A5 d.f4.length c5 d.f4 W' (Kd.C_below G5.out (below_step HBA.out hW)) (by have h1 := nmPV_len d.f4; have h2 := HIN.out.2.2.1; have h3 := HSP.out; have h4 := HZ.out; omega)⟩
      have HC6 : Aside0 (∀ W', Below wa.heap.size wa W' → Calls Tryz.prog 21 #[.slice A6 d.f5.length c6] W' fun e w' => ∃ A' c', e = .returned (.slice A' d.f5.length c') ∧ ClM d.f5 W'.heap.size w'.heap.size A' c' w' ∧ Below W'.heap.size W' w') := ⟨fun W' hW => cloneMethod.lp A6 d.f5.length c6 d.f5 W' (Kd.C_below G6.out (below_step HBA.out hW)) (by have h1 := nmPM_len d.f5; have h2 := HIN.out.2.2.2; have h3 := HSP.out; have h4 := HZ.out; omega)⟩
      have HC7 : Aside0 (∀ W', Below wa.heap.size wa W' → Calls Tryz.prog 9 #[.slice A7 d.f6.length c7] W' fun e w' => ∃ A' c', e = .returned (.slice A' d.f6.length c') ∧ ClD d.f6 W'.heap.size w'.heap.size A' c' w' ∧ Below W'.heap.size W' w') := ⟨fun W' hW => (HIH.out (szP d.f6) (by have h2 := HIN.out.1; have h3 := HSP.out; have h4 := HM.out; omega) d.f6 A7 c7 W' (Nat.le_refl _) (by have h2 := HIN.out.1; have h3 := HSP.out; have h4 := HZ.out; omega) (Kd.C_below G7.out (below_step HBA.out hW))).mono (fun e w' h => by
        obtain ⟨v, rfl, hR, hb⟩ := h
        obtain ⟨A', c', rfl⟩ := Kd.R_slice hR
        rw [stL_len] at hR ⊢
        exact ⟨A', c', rfl, hR, hb⟩)⟩
      refine start_ (n := 36) (S := fun w : World => w.heap[g]? = some (.cells arr1 41 (0, 0))) (ds := [26, 29, 32, 35]) #[false, false, false, false, false, false, false, false, false, false, false, false, false, false, false, false, false, false, false, false, false, false, false, false, false, false, false, false, false, false, false, false, false, false, false, false] (by kernel_rfl) rfl rfl HXA.out (fun _ => ?_)
      refine strip7_all (W := wa) (g := g) (o := o) (arr := arr1) (fun _ _ _ N _ h => by cases N <;> exact h) (ClF d.f3) (ClF.keep d.f3) HC4.out (ClV d.f4) (ClV.keep d.f4) HC5.out (ClM d.f5) (ClM.keep d.f5) HC6.out (ClD d.f6) (ClD.keep d.f6) HC7.out b4 b5 b6 b7 ?_ _ (below_drew1 (Below.refl _ _)) HXA.out
      intro w3 B4 B5 B6 B7 d4 d5 d6 d7 N0 N1 N2 N3 N4 hn0 hb3 hx3 p4 p5 p6 p7
      clear HC4 HC5 HC6 HC7 b4 b5 b6 b7
      obtain ⟨m4, h4, e4, q4, P4⟩ := p4
      obtain ⟨m5, h5, e5, q5, P5⟩ := p5
      obtain ⟨m6, h6, e6, q6, P6⟩ := p6
      have hgs : g < wo.heap.size := blk_lt HX.out
      have hwr : w.heap.size ≤ wo.heap.size := HBW.out.size
      have hN : wo.heap.size ≤ N0 := by have := HSA.out; omega
      have n4 : h4 ≠ g := by omega
      have n5 : h5 ≠ g := by omega
      have n6 : h6 ≠ g := by omega
      obtain ⟨Wl, hWl⟩ : ∃ Wl, Wl = (((w3.setCell ⟨g, o + 4, none⟩ (.slice B4 d.f3.length d4)).setCell ⟨g, o + 5, none⟩ (.slice B5 d.f4.length d5)).setCell ⟨g, o + 6, none⟩ (.slice B6 d.f5.length d6)).setCell ⟨g, o + 7, none⟩ (.slice B7 d.f6.length d7) := ⟨_, rfl⟩
      have hsetO : ∀ k, k ≠ g → Wl.heap[k]? = w3.heap[k]? := fun k hk => by
        rw [hWl]
        exact (Below.heap_setCell _ ⟨g, o + 7, none⟩ _ k hk).trans ((Below.heap_setCell _ ⟨g, o + 6, none⟩ _ k hk).trans ((Below.heap_setCell _ ⟨g, o + 5, none⟩ _ k hk).trans (Below.heap_setCell _ ⟨g, o + 4, none⟩ _ k hk)))
      have HXL : Aside0 (Wl.heap[g]? = some (.cells (arrI arr o (.slice B4 d.f3.length d4) (.slice B5 d.f4.length d5) (.slice B6 d.f5.length d6) (.slice B7 d.f6.length d7)) 41 (0, 0))) := ⟨by
        rw [hWl]
        unfold arrI
        rw [← HA1.out]
        exact blk_set (blk_set (blk_set (blk_set hx3 _ _) _ _) _ _) _ _⟩
      have HBL : Aside0 (Below w.heap.size w Wl) := ⟨by
        rw [hWl]
        exact ((((below_step HBA.out hb3).setCell (p := ⟨g, o + 4, none⟩) HG.out _).setCell (p := ⟨g, o + 5, none⟩) HG.out _).setCell (p := ⟨g, o + 6, none⟩) HG.out _).setCell (p := ⟨g, o + 7, none⟩) HG.out _⟩
      have HKL : Aside0 (Kp wo.heap.size g wo Wl) := ⟨by
        rw [hWl]
        exact ((((HKA.out.below (by rw [HSA.out]; exact Nat.le_refl _) hb3).set (.inl rfl) _ _).set (.inl rfl) _ _).set (.inl rfl) _ _).set (.inl rfl) _ _⟩
      have HP4 := Aside0.mk (LPS.start (P4.keep (.inr (hsetO h4 n4))) HBL.out)
      have HP5 := Aside0.mk (P5.keep (W' := Wl) (.inr (hsetO h5 n5)))
      have HP6 := Aside0.mk (P6.keep (W' := Wl) (.inr (hsetO h6 n6)))
      have HR7 : Aside0 (Kd.R k41 41 Wl N3 (fun k => N3 ≤ k) (.slice B7 d.f6.length d7) (stL d.f6)) := ⟨Kd.R_mono (Kd.R_move (Kd.R_bound p7) (fun k hk => hsetO k (by have := hk.2.1; omega))) (fun k hk => hk.2.1)⟩
      rw [← hWl]
      have HN4 := Aside0.mk e4
      have HN5 := Aside0.mk e5
      have HN6 := Aside0.mk e6
      have HQ4 := Aside0.mk q4
      have HQ5 := Aside0.mk q5
      have HQ6 := Aside0.mk q6
      have HM4 := Aside0.mk m4
      have HM5 := Aside0.mk m5
      have HM6 := Aside0.mk m6
      have HNN := Aside0.mk hN
      have HWR := Aside0.mk hwr
      have HGS := Aside0.mk hgs
      have hlf : d.f3.length ≤ 900000 := by have h1 := nmPF_len d.f3; have h2 := HIN.out.2.1; have h3 := HSP.out; have h4 := HZ.out; omega
      have hlv : d.f4.length ≤ 900000 := by have h1 := nmPV_len d.f4; have h2 := HIN.out.2.2.1; have h3 := HSP.out; have h4 := HZ.out; omega
      have hlm : d.f5.length ≤ 900000 := by have h1 := nmPM_len d.f5; have h2 := HIN.out.2.2.2; have h3 := HSP.out; have h4 := HZ.out; omega
      clear m4 e4 q4 P4 m5 e5 q5 P5 m6 e6 q6 P6 hgs hwr hN n4 n5 n6 hWl hsetO hb3 hx3 p7 hn0
      unfold T7
      have HE4 : Aside0 ((arrI arr o (.slice B4 d.f3.length d4) (.slice B5 d.f4.length d5) (.slice B6 d.f5.length d6) (.slice B7 d.f6.length d7))[o + 4]? = some (.slice B4 d.f3.length d4)) := ⟨arrI_near HOC.out A0'.out A1'.out 4 (by decide)⟩
      have HE5 : Aside0 ((arrI arr o (.slice B4 d.f3.length d4) (.slice B5 d.f4.length d5) (.slice B6 d.f5.length d6) (.slice B7 d.f6.length d7))[o + 5]? = some (.slice B5 d.f4.length d5)) := ⟨arrI_near HOC.out A0'.out A1'.out 5 (by decide)⟩
      have HE6 : Aside0 ((arrI arr o (.slice B4 d.f3.length d4) (.slice B5 d.f4.length d5) (.slice B6 d.f5.length d6) (.slice B7 d.f6.length d7))[o + 6]? = some (.slice B6 d.f5.length d6)) := ⟨arrI_near HOC.out A0'.out A1'.out 6 (by decide)⟩
      have kk : Wl.cell? ⟨g, o + 4, none⟩ = some (.slice B4 d.f3.length d4) := by rw [Lib.cell_of_heap HXL.out]; exact HE4.out
      go_wp2_with fail
      clear kk
      go_loopw [60] (fun v60 wr => ∃ k : Int, 0 ≤ k ∧ k ≤ (d.f3.length : Int) ∧ v60 = .int .i64 k ∧ Aside0 (LPS cellsF stF 6 62 B4 d4 h4 d.f3 w.heap.size w Wl k.toNat wr)) (fun v60 _ => d.f3.length - (intOf v60).toNat)
      case atStart => exact ⟨0, by omega, by omega, rfl, HP4⟩
      case round =>
        obtain ⟨k, hk0, hkl, rfl, HL⟩ := hrel
        have hgk : wr.heap[g]? = some (.cells (arrI arr o (.slice B4 d.f3.length d4) (.slice B5 d.f4.length d5) (.slice B6 d.f5.length d6) (.slice B7 d.f6.length d7)) 41 (0, 0)) := (HL.out.2.1 g (.inr (by have h1 := HN4.out; have h2 := HM4.out; have h3 := HM5.out; have h5 := HNN.out; have h6 := HGS.out; omega))).trans HXL.out
        by_cases hk : k < (d.f3.length : Int)
        · have t2 : decide (k < (d.f3.length : Int)) = true := decide_eq_true hk
          have hkn : k.toNat < d.f3.length := by omega
          have hne : B4 = some ⟨h4, 0, none⟩ := by
            rcases HL.out.1 with ⟨_, h0, _⟩ | ⟨h0, _⟩
            · rw [h0] at hkn; exact absurd hkn (Nat.not_lt_zero _)
            · exact h0
          subst hne
          obtain ⟨ar, hh, hsz, hlc⟩ := HL.out.1.cells
          have hix : k.toNat * 6 + 6 ≤ ar.size := by rw [hsz]; have : (k.toNat + 1) * 6 ≤ d4 * 6 := Nat.mul_le_mul_right _ (by omega); omega
          obtain ⟨z1, hz1⟩ : ∃ z, ar[k.toNat * 6 + 4]? = some z := ⟨_, Array.getElem?_eq_getElem (by omega)⟩
          obtain ⟨z2, hz2⟩ : ∃ z, ar[k.toNat * 6 + 4 + 1]? = some z := ⟨_, Array.getElem?_eq_getElem (by omega)⟩
          have kk : wr.cell? ⟨g, o + 4, none⟩ = some (.slice (some ⟨h4, 0, none⟩) d.f3.length d4) := by rw [Lib.cell_of_heap hgk]; exact HE4.out
          have y1 : wr.cell? ⟨h4, k.toNat * 6 + 4, none⟩ = some z1 := by rw [Lib.cell_of_heap hh]; exact hz1
          have y2 : wr.cell? ⟨h4, k.toNat * 6 + 4 + 1, none⟩ = some z2 := by rw [Lib.cell_of_heap hh]; exact hz2
          have w1f : wr.frozen? ⟨h4, k.toNat * 6 + 4, none⟩ = false := Lib.frozen_of_heap hh _
          have w2f : wr.frozen? ⟨h4, k.toNat * 6 + 4 + 1, none⟩ = false := Lib.frozen_of_heap hh _
          have HST := Aside0.mk (LPS.step (z := .int .i64 0) HL.out hkn (fun _ => rfl) stF_cells (by decide) (by have h1 := HN4.out; have h2 := HM4.out; have h3 := HM5.out; have h5 := HNN.out; have h6 := HWR.out; omega))
          have HKN := Aside0.mk hkn
          clear hh hsz hlc hix hz1 hz2 hgk hkn
          go_wp2_with fail
          go_roundw
          case rel => exact ⟨k + 1, by omega, by omega, rfl, ⟨by rw [show (k + 1).toNat = k.toNat + 1 by omega]; exact HST.out⟩⟩
          case measure => simp [intOf]; omega
        · have t2 : decide (k < (d.f3.length : Int)) = false := decide_eq_false hk
          have hkn : k.toNat = d.f3.length := by omega
          rw [hkn] at HL
          have HXK := Aside0.mk hgk
          clear hk hk0 hkl hkn hgk
          obtain ⟨W4, rfl⟩ : ∃ wo : World, wo = wr := ⟨_, rfl⟩
          have HXL := HXK
          have HD4 := HL
          clear HXK HL
          have HP5 := Aside0.mk (LPS.start (HP5.out.keep (W' := W4) (.inr (HD4.out.2.1 h5 (by rcases HQ4.out with h | h; exact .inl h; exact .inr (by have := HN5.out; omega))))) HD4.out.2.2.2)
          have HP6 := Aside0.mk (HP6.out.keep (W' := W4) (.inr (HD4.out.2.1 h6 (by rcases HQ4.out with h | h; exact .inl h; exact .inr (by have := HN6.out; have := HM5.out; omega)))))
          have kk : W4.cell? ⟨g, o + 5, none⟩ = some (.slice B5 d.f4.length d5) := by rw [Lib.cell_of_heap HXL.out]; exact HE5.out
          go_wp2_with fail
          clear kk
          go_loopw [77] (fun v77 wr => ∃ k : Int, 0 ≤ k ∧ k ≤ (d.f4.length : Int) ∧ v77 = .int .i64 k ∧ Aside0 (LPS cellsV stV 4 36 B5 d5 h5 d.f4 w.heap.size w W4 k.toNat wr)) (fun v77 _ => d.f4.length - (intOf v77).toNat)
          case atStart => exact ⟨0, by omega, by omega, rfl, HP5⟩
          case round =>
            obtain ⟨k, hk0, hkl, rfl, HL⟩ := hrel
            have hgk : wr.heap[g]? = some (.cells (arrI arr o (.slice B4 d.f3.length d4) (.slice B5 d.f4.length d5) (.slice B6 d.f5.length d6) (.slice B7 d.f6.length d7)) 41 (0, 0)) := (HL.out.2.1 g (.inr (by have h1 := HN5.out; have h2 := HM4.out; have h3 := HM5.out; have h5 := HNN.out; have h6 := HGS.out; omega))).trans HXL.out
            by_cases hk : k < (d.f4.length : Int)
            · have t2 : decide (k < (d.f4.length : Int)) = true := decide_eq_true hk
              have hkn : k.toNat < d.f4.length := by omega
              have hne : B5 = some ⟨h5, 0, none⟩ := by
                rcases HL.out.1 with ⟨_, h0, _⟩ | ⟨h0, _⟩
                · rw [h0] at hkn; exact absurd hkn (Nat.not_lt_zero _)
                · exact h0
              subst hne
              obtain ⟨ar, hh, hsz, hlc⟩ := HL.out.1.cells
              have hix : k.toNat * 4 + 4 ≤ ar.size := by rw [hsz]; have : (k.toNat + 1) * 4 ≤ d5 * 4 := Nat.mul_le_mul_right _ (by omega); omega
              obtain ⟨z1, hz1⟩ : ∃ z, ar[k.toNat * 4 + 2]? = some z := ⟨_, Array.getElem?_eq_getElem (by omega)⟩
              obtain ⟨z2, hz2⟩ : ∃ z, ar[k.toNat * 4 + 2 + 1]? = some z := ⟨_, Array.getElem?_eq_getElem (by omega)⟩
              have kk : wr.cell? ⟨g, o + 5, none⟩ = some (.slice (some ⟨h5, 0, none⟩) d.f4.length d5) := by rw [Lib.cell_of_heap hgk]; exact HE5.out
              have y1 : wr.cell? ⟨h5, k.toNat * 4 + 2, none⟩ = some z1 := by rw [Lib.cell_of_heap hh]; exact hz1
              have y2 : wr.cell? ⟨h5, k.toNat * 4 + 2 + 1, none⟩ = some z2 := by rw [Lib.cell_of_heap hh]; exact hz2
              have w1f : wr.frozen? ⟨h5, k.toNat * 4 + 2, none⟩ = false := Lib.frozen_of_heap hh _
              have w2f : wr.frozen? ⟨h5, k.toNat * 4 + 2 + 1, none⟩ = false := Lib.frozen_of_heap hh _
              have HST := Aside0.mk (LPS.step (z := .int .i64 0) HL.out hkn (fun _ => rfl) stV_cells (by decide) (by have h1 := HN5.out; have h2 := HM4.out; have h3 := HM5.out; have h5 := HNN.out; have h6 := HWR.out; omega))
              have HKN := Aside0.mk hkn
              clear hh hsz hlc hix hz1 hz2 hgk hkn
              go_wp2_with fail
              go_roundw
              case rel => exact ⟨k + 1, by omega, by omega, rfl, ⟨by rw [show (k + 1).toNat = k.toNat + 1 by omega]; exact HST.out⟩⟩
              case measure => simp [intOf]; omega
            · have t2 : decide (k < (d.f4.length : Int)) = false := decide_eq_false hk
              have hkn : k.toNat = d.f4.length := by omega
              rw [hkn] at HL
              have HXK := Aside0.mk hgk
              clear hk hk0 hkl hkn hgk
              obtain ⟨W5, rfl⟩ : ∃ wo : World, wo = wr := ⟨_, rfl⟩
              have HXL := HXK
              have HD5 := HL
              clear HXK HL
              have HP6 := Aside0.mk (LPS.start (HP6.out.keep (W' := W5) (.inr (HD5.out.2.1 h6 (by rcases HQ5.out with h | h; exact .inl h; exact .inr (by have := HN6.out; omega))))) HD5.out.2.2.2)
              have kk : W5.cell? ⟨g, o + 6, none⟩ = some (.slice B6 d.f5.length d6) := by rw [Lib.cell_of_heap HXL.out]; exact HE6.out
              go_wp2_with fail
              clear kk
              go_loopw [94] (fun v94 wr => ∃ k : Int, 0 ≤ k ∧ k ≤ (d.f5.length : Int) ∧ v94 = .int .i64 k ∧ Aside0 (LPS cellsM stM 5 66 B6 d6 h6 d.f5 w.heap.size w W5 k.toNat wr)) (fun v94 _ => d.f5.length - (intOf v94).toNat)
              case atStart => exact ⟨0, by omega, by omega, rfl, HP6⟩
              case round =>
                obtain ⟨k, hk0, hkl, rfl, HL⟩ := hrel
                have hgk : wr.heap[g]? = some (.cells (arrI arr o (.slice B4 d.f3.length d4) (.slice B5 d.f4.length d5) (.slice B6 d.f5.length d6) (.slice B7 d.f6.length d7)) 41 (0, 0)) := (HL.out.2.1 g (.inr (by have h1 := HN6.out; have h2 := HM4.out; have h3 := HM5.out; have h5 := HNN.out; have h6 := HGS.out; omega))).trans HXL.out
                by_cases hk : k < (d.f5.length : Int)
                · have t2 : decide (k < (d.f5.length : Int)) = true := decide_eq_true hk
                  have hkn : k.toNat < d.f5.length := by omega
                  have hne : B6 = some ⟨h6, 0, none⟩ := by
                    rcases HL.out.1 with ⟨_, h0, _⟩ | ⟨h0, _⟩
                    · rw [h0] at hkn; exact absurd hkn (Nat.not_lt_zero _)
                    · exact h0
                  subst hne
                  obtain ⟨ar, hh, hsz, hlc⟩ := HL.out.1.cells
                  have hix : k.toNat * 5 + 5 ≤ ar.size := by rw [hsz]; have : (k.toNat + 1) * 5 ≤ d6 * 5 := Nat.mul_le_mul_right _ (by omega); omega
                  obtain ⟨z1, hz1⟩ : ∃ z, ar[k.toNat * 5 + 3]? = some z := ⟨_, Array.getElem?_eq_getElem (by omega)⟩
                  obtain ⟨z2, hz2⟩ : ∃ z, ar[k.toNat * 5 + 3 + 1]? = some z := ⟨_, Array.getElem?_eq_getElem (by omega)⟩
                  have kk : wr.cell? ⟨g, o + 6, none⟩ = some (.slice (some ⟨h6, 0, none⟩) d.f5.length d6) := by rw [Lib.cell_of_heap hgk]; exact HE6.out
                  have y1 : wr.cell? ⟨h6, k.toNat * 5 + 3, none⟩ = some z1 := by rw [Lib.cell_of_heap hh]; exact hz1
                  have y2 : wr.cell? ⟨h6, k.toNat * 5 + 3 + 1, none⟩ = some z2 := by rw [Lib.cell_of_heap hh]; exact hz2
                  have w1f : wr.frozen? ⟨h6, k.toNat * 5 + 3, none⟩ = false := Lib.frozen_of_heap hh _
                  have w2f : wr.frozen? ⟨h6, k.toNat * 5 + 3 + 1, none⟩ = false := Lib.frozen_of_heap hh _
                  have HST := Aside0.mk (LPS.step (z := .int .i64 0) HL.out hkn (fun _ => rfl) stM_cells (by decide) (by have h1 := HN6.out; have h2 := HM4.out; have h3 := HM5.out; have h5 := HNN.out; have h6 := HWR.out; omega))
                  have HKN := Aside0.mk hkn
                  clear hh hsz hlc hix hz1 hz2 hgk hkn
                  go_wp2_with fail
                  go_roundw
                  case rel => exact ⟨k + 1, by omega, by omega, rfl, ⟨by rw [show (k + 1).toNat = k.toNat + 1 by omega]; exact HST.out⟩⟩
                  case measure => simp [intOf]; omega
                · have t2 : decide (k < (d.f5.length : Int)) = false := decide_eq_false hk
                  have hkn : k.toNat = d.f5.length := by omega
                  rw [hkn] at HL
                  have HXK := Aside0.mk hgk
                  clear hk hk0 hkl hkn hgk
                  obtain ⟨W6, rfl⟩ : ∃ wo : World, wo = wr := ⟨_, rfl⟩
                  have HXL := HXK
                  have HD6 := HL
                  clear HXK HL
                  have E4 : Aside0 (LP cellsF stF 6 62 B4 d4 h4 d.f3 d.f3.length W6) := ⟨(HD4.out.1.keep (W' := W5) (by rcases HQ4.out with h | h; exact .inl h; exact .inr (HD5.out.2.1 h4 (.inr (by have := HN5.out; omega))))).keep (by rcases HQ4.out with h | h; exact .inl h; exact .inr (HD6.out.2.1 h4 (.inr (by have := HN6.out; have := HM5.out; omega))))⟩
                  have E5 : Aside0 (LP cellsV stV 4 36 B5 d5 h5 d.f4 d.f4.length W6) := ⟨HD5.out.1.keep (by rcases HQ5.out with h | h; exact .inl h; exact .inr (HD6.out.2.1 h5 (.inr (by have := HN6.out; omega))))⟩
                  have hb6 := HD6.out.2.2.2
                  have c4 := HN4.out
                  have c5 := HN5.out
                  have c6 := HN6.out
                  have c7 := HM4.out
                  have c8 := HM5.out
                  have c9 := HM6.out
                  have c0 := HNN.out
                  have c1 := HWR.out
                  have c2 := HGS.out
                  have R4 := LP.row (d := k62) (ok := fun k => k ≠ g) E4.out rfl (B := w.heap.size) (by omega) (by omega) (fun x => k62_mkM _ _ _ x)
                  have R5 := LP.row (d := k36) (ok := fun k => k ≠ g) E5.out rfl (B := w.heap.size) (by omega) (by omega) (fun x => k36_mkM _ _ _ x)
                  have R6 := LP.row (d := k66) (ok := fun k => k ≠ g) HD6.out.1 rfl (B := w.heap.size) (by omega) (by omega) (fun x => k66_mkM _ _ _ x)
                  have R7 : Kd.R k41 41 W6 w.heap.size (fun k => k ≠ g) (.slice B7 d.f6.length d7) (stL d.f6) := Kd.R_mono (Kd.R_lower (Kd.R_move HR7.out (fun k hk => (HD6.out.2.1 k (by rcases HQ6.out with h | h; exact .inl h; exact .inr (by omega))).trans ((HD5.out.2.1 k (by rcases HQ5.out with h | h; exact .inl h; exact .inr (by omega))).trans (HD4.out.2.1 k (by rcases HQ4.out with h | h; exact .inl h; exact .inr (by omega)))))) (by omega)) (fun k hk => by omega)
                  have hMM := k41_mkM W6 w.heap.size (fun k => k ≠ g) (stD d) (v4 := .slice B4 d.f3.length d4) (v5 := .slice B5 d.f4.length d5) (v6 := .slice B6 d.f5.length d6) (v7 := .slice B7 d.f6.length d7) (by rw [stD_mk]; exact R4) (by rw [stD_mk]; exact R5) (by rw [stD_mk]; exact R6) (by rw [stD_mk]; exact R7)
                  have hKP : Kp wo.heap.size g wo W6 := ((HKL.out.oh HD4.out.2.1 (by omega) HD4.out.2.2.1).oh HD5.out.2.1 (by omega) HD5.out.2.2.1).oh HD6.out.2.1 (by omega) HD6.out.2.2.1
                  have HSN : Aside0 (SI l w g cap (i.toNat + 1) W6) := ⟨by
                    have hxl := HXL.out
                    have a0 := A0'.out
                    have a1 := A1'.out
                    rw [HO.out] at hxl a0 a1
                    exact SI.next HS.out HD.out HX.out hKP hb6 hxl (by rw [stD_mk] at hMM ⊢; exact hMM) a0 a1⟩
                  clear R4 R5 R6 R7 hMM hKP hb6 c4 c5 c6 c7 c8 c9 c0 c1 c2
                  go_wp2_with fail
                  go_roundw
                  case rel => exact ⟨i + 1, by omega, by omega, rfl, ⟨by rw [show (i + 1).toNat = i.toNat + 1 by omega]; exact HSN.out⟩⟩
                  case measure => simp [intOf]; omega
end Go.Proofs.YtknbhbppofphpaaGreatDoor.X
