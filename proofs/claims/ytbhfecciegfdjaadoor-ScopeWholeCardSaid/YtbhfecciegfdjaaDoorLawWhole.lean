/- The law ScopeWhole walked: of any declarations that a memory holds it answers true. -/
import Derived.Test.YtbhfecciegfdjaaDoorLawScope
import Derived.Test.YtbhfecciegfdjaaDoorScopeWholeMath
import Derived.Test.YtbhfecciegfdjaaDoorFormM
set_option linter.unusedVariables false
set_option linter.unusedSimpArgs false
namespace Go.Proofs.YtbhfecciegfdjaaDoor.X
open Go.RowKit Go.Shelf Go.Proofs.YtbhfecciegfdjaaDoorW.PrintWords Go.Proofs.YtbhfecciegfdjaaDoorW.PrintLast Go.Proofs.YtbhfecciegfdjaaDoorW.PrintMore
theorem pair_of {L : List RS} (h : ∀ i j : Nat, ∀ (hi : i < L.length) (hj : j < i), L[j].f0 ≠ L[i].f0) : L.Pairwise (fun x y => x.f0 ≠ y.f0) :=
  List.pairwise_iff_getElem.mpr fun i j hi hj hij => h j i hj hij
def nmAt (L : List RS) (i : Int) : ByteArray := (rd_T32 L i).f0
theorem pair_at {L : List RS} (h : ∀ i j : Int, 0 ≤ j → j < i → i < (L.length : Int) → nmAt L j ≠ nmAt L i) : L.Pairwise (fun x y => x.f0 ≠ y.f0) := by
  refine pair_of fun i j hi hj => ?_
  have h1 := h (i : Int) (j : Int) (by omega) (by omega) (by omega)
  have e : ∀ k : Nat, ∀ hk : k < L.length, nmAt L (k : Int) = (L[k]'hk).f0 := fun k hk => by
    unfold nmAt
    simp [rd_T32, hk]
  rwa [e j (by omega), e i hi] at h1
set_option maxHeartbeats 16000000 in
set_option maxRecDepth 100000 in
theorem scopeWhole.calls (l : List RD) (at_ : Int) (A : Option Addr) (c : Nat) (m : Int) (w : World) (hC : Kd.C kR w A l.length l) (hc : l.length ≤ c) (hg : GoodL l) (hl : l.length ≤ 140737488355328) (ha : (Lit.int .u16 at_).wf = true) (hm : w.cell? ⟨0, 0, none⟩ = some (.int .i64 m)) (hT : U8 w) :
    Calls Tryd.prog 4 #[.slice A l.length c, .int .u16 at_] w fun e w' => e = .returned (.bool true) ∧ Below w.heap.size w w' := by
  have HC := Aside0.mk hC
  have HM := Aside0.mk hm
  have HG := Aside0.mk hg
  have HT := Aside0.mk hT
  obtain ⟨ks, hks⟩ := small_all l hg hl
  have HKS := Aside0.mk hks
  have hat0 : 0 ≤ at_ ∧ at_ ≤ 65535 := by
    have h : IntKind.u16.min ≤ at_ ∧ at_ ≤ IntKind.u16.max := by simpa [Lit.wf] using ha
    have e1 : IntKind.u16.min = 0 := by decide
    have e2 : IntKind.u16.max = 65535 := by decide
    omega
  obtain ⟨ha0, ha1⟩ := hat0
  clear hC hm hks hg ha hT
  go_enter Tryd.func4, Tryd.ntmps4
  go_wp2_with fail
  refine (awake07.calls m _ HM.out).mono ?_
  rintro e w1 ⟨rfl, hb⟩
  have HB1 := Aside0.mk hb
  clear hb
  go_wp2_with fail
  refine (courierref05_Small.calls ks A c l _ w1 (Kd.C_below HC.out HB1.out) hc HKS.out).mono ?_
  rintro e w2 ⟨rfl, hb⟩
  have HB2 := Aside0.mk (below_step HB1.out hb)
  clear hb
  by_cases hsm : 0 ≤ smL l 0 800
  rotate_left
  · rw [decide_eq_false hsm]
    go_wp2_with fail
    refine (awake07.calls m _ (pw_cell_below HB2.out HM.out)).mono ?_
    rintro e w3 ⟨rfl, hb⟩
    have HB3 := Aside0.mk (below_step HB2.out hb)
    clear hb
    go_wp2_with fail
    go_ret
    exact ⟨rfl, HB3.out⟩
  rw [decide_eq_true hsm]
  have hSm := small_in hsm
  have HSM := Aside0.mk hSm
  clear hsm
  go_wp2_with fail
  refine (refFormed.calls l A c w2 (Kd.C_below HC.out HB2.out) hc HSM.out.1 (Utf8Tabs_below HT.out HB2.out)).mono ?_
  rintro e w3 ⟨rfl, hb⟩
  have HB3 := Aside0.mk (below_step HB2.out hb)
  clear hb
  cases hff : frmT l with
  | false =>
    clear hff
    go_wp2_with fail
    refine (awake07.calls m _ (pw_cell_below HB3.out HM.out)).mono ?_
    rintro e w4 ⟨rfl, hb⟩
    have HB4 := Aside0.mk (below_step HB3.out hb)
    clear hb
    go_wp2_with fail
    go_ret
    exact ⟨rfl, HB4.out⟩
  | true =>
  have HFF := Aside0.mk hff
  obtain ⟨kt, hkt⟩ := theirs_all hSm
  have HKT := Aside0.mk hkt
  obtain ⟨ka, hka⟩ := all_ref hSm
  have HKA := Aside0.mk hka
  have hnm := nm_sm hSm
  have HNM := Aside0.mk hnm
  have hkd := kinds_cv l ⟨#[]⟩ HG.out
  have HKD := Aside0.mk hkd
  have hlen := alL_len (cvL l) ⟨#[]⟩
  have HSZ := Aside0.mk (alL_size (cvL l) ⟨#[]⟩)
  clear hkt hka hkd hSm hff
  go_wp2_with fail
  refine (courierref05_All.calls ka A c l _ w3 (Kd.C_below HC.out HB3.out) hc HKA.out).mono ?_
  rintro e w5 ⟨v5, rfl, hR, hb⟩
  obtain ⟨A5, c5, rfl, hc5, hC5⟩ := Kd.R_reads hR
  have HB5 := Aside0.mk (below_step HB3.out hb)
  have HC5 := Aside0.mk hC5
  clear hR hb hC5 HKA HKS HB1 HB2 HB3 HG
  obtain ⟨L, hL⟩ : ∃ L, L = alL (cvL l) ⟨#[]⟩ := ⟨_, rfl⟩
  have HL := Aside0.mk hL
  have HKDL := HKD
  rw [← hL] at HC5 hc5 hlen HSZ HKD ⊢
  clear hL
  have hln : L.length ≤ 80000 := by omega
  obtain ⟨n, hn⟩ : ∃ n, n = L.length := ⟨_, rfl⟩
  rw [← hn] at HC5 hln hc5 ⊢
  have HN := Aside0.mk hn
  clear hlen hnm hn
  by_cases hn0 : n = 0
  · have t0 : ((n : Int) == 0) = true := beq_iff_eq.mpr (by omega)
    have t0n : (n == 0) = true := beq_iff_eq.mpr hn0
    clear hn0
    go_wp2_with fail
    go_ret
    exact ⟨rfl, HB5.out⟩
  have t0 : ((n : Int) == 0) = false := beq_eq_false_iff_ne.mpr (by omega)
  have t0n : (n == 0) = false := beq_eq_false_iff_ne.mpr hn0
  obtain ⟨q, hq, hq0, hqn⟩ : ∃ q : Int, at_.tmod n = q ∧ 0 ≤ q ∧ q < n := ⟨_, rfl, Int.tmod_nonneg _ ha0, Int.tmod_lt_of_pos _ (by omega)⟩
  have hq2 : at_ % (n : Int) = q := by rw [← hq, Int.tmod_eq_emod_of_nonneg ha0]
  have tq0 : decide (0 ≤ q) = true := decide_eq_true hq0
  have tq1 : decide (q < (n : Int)) = true := decide_eq_true hqn
  obtain ⟨ad, e0, x0, x1⟩ := at_T32 HC5.out q hq0 hqn
  subst e0
  have hsp := sym_split L q hq0 (by rw [← HN.out]; exact hqn)
  have HXM := Aside0.mk hsp.2
  clear hsp
  generalize rd_T32 L q = s at *
  obtain ⟨nm, kd⟩ := s
  simp only at x0 x1
  go_wp2_with fail
  obtain ⟨W6, hW6⟩ : ∃ W6, W6 = w5.alloc (.cells #[.string nm, .int .i64 kd] 32) := ⟨_, rfl⟩
  have HB6 := Aside0.mk (show Below w.heap.size w W6 by rw [hW6]; exact below_alloc HB5.out _)
  have HC6 := Aside0.mk (show Kd.C kS W6 (some ad) n L by rw [hW6]; exact Kd.C_alloc HC5.out _)
  have HX6 := Aside0.mk (show W6.heap[w5.heap.size]? = some (.cells #[.string nm, .int .i64 kd] 32 (0, 0)) by rw [hW6]; exact blk_new w5 _)
  rw [← hW6]
  clear hW6 x0 x1 hq hq2 tq0 tq1 HB5 HC5 ha0 ha1 t0 t0n hn0
  go_loopw [41] (fun v41 wr => ∃ i : Int, 0 ≤ i ∧ i ≤ (n : Int) ∧ v41 = .int .i64 i ∧ Aside0 (Below W6.heap.size W6 wr) ∧ Aside0 (∀ i' j : Int, 0 ≤ j → j < i' → i' < i → nmAt L j ≠ nmAt L i')) (fun v41 _ => n - (intOf v41).toNat)
  case atStart => exact ⟨0, by omega, by omega, rfl, ⟨Below.refl _ _⟩, ⟨fun i' j h0 h1 h2 => by omega⟩⟩
  case round =>
    obtain ⟨i, hi0, hil, rfl, HB, HF⟩ := hrel
    by_cases hlt : i < (n : Int)
    · have t1 : decide (i < (n : Int)) = true := decide_eq_true hlt
      go_wp2_with fail
      clear t1
      obtain ⟨wa, rfl⟩ : ∃ wo : World, wo = wr := ⟨_, rfl⟩
      go_loopw [45] (fun v45 wr => ∃ k : Int, 0 ≤ k ∧ k ≤ i ∧ v45 = .int .i64 k ∧ Aside0 (Below W6.heap.size W6 wr) ∧ Aside0 (∀ j : Int, 0 ≤ j → j < k → nmAt L j ≠ nmAt L i)) (fun v45 _ => i.toNat - (intOf v45).toNat)
      case atStart => exact ⟨0, by omega, by omega, rfl, HB, ⟨fun j h0 h1 => by omega⟩⟩
      case round =>
        obtain ⟨k, hk0, hki, rfl, HBI, HFI⟩ := hrel
        by_cases hkl : k < i
        · have t1 : decide (k < i) = true := decide_eq_true hkl
          have u0 : decide (0 ≤ k) = true := decide_eq_true hk0
          have u1 : decide (0 ≤ i) = true := decide_eq_true hi0
          have hkn : k < (n : Int) := by omega
          obtain ⟨ad2, e2, y0, y1⟩ := at_T32 (Kd.C_below HC6.out HBI.out) k hk0 hkn
          obtain ⟨ad3, e3, z0, z1⟩ := at_T32 (Kd.C_below HC6.out HBI.out) i hi0 hlt
          injection e2 with e2
          injection e3 with e3
          subst e2 e3
          have hy : (rd_T32 L k).f0 = nmAt L k := rfl
          have hz : (rd_T32 L i).f0 = nmAt L i := rfl
          rw [hy] at y0
          rw [hz] at z0
          clear y1 z1 hy hz
          obtain ⟨N1, hN1⟩ : ∃ N1, N1 = nmAt L k := ⟨_, rfl⟩
          obtain ⟨N2, hN2⟩ : ∃ N2, N2 = nmAt L i := ⟨_, rfl⟩
          rw [← hN1] at y0
          rw [← hN2] at z0
          have HN1 := Aside0.mk hN1
          have HN2 := Aside0.mk hN2
          clear hN1 hN2
          by_cases he : N1 = N2
          · subst he
            have u2 : (N1.toList == N1.toList) = true := beq_self_eq_true _
            go_wp2_with fail
            go_quiet (fail)
            go_wp2_with fail
            go_ret
            exact ⟨rfl, by repeat (first | exact below_step HB6.out HBI.out | refine below_drew ?_ | refine pw_below_drewN ?_ _)⟩
          · have u2 : (N1.toList == N2.toList) = false := by
              rw [ByteArray.toList_eq, ByteArray.toList_eq, beq_eq_false_iff_ne]
              exact fun h => he (ByteArray.ext (Array.toList_inj.mp h))
            have HE := Aside0.mk he
            clear he
            go_wp2_with fail
            go_quiet (fail)
            go_wp2_with fail
            refine ⟨⟨k + 1, by omega, by omega, rfl, ⟨by repeat (first | exact HBI.out | refine below_drew ?_ | refine pw_below_drewN ?_ _)⟩, ⟨fun j h0 h1 => ?_⟩⟩, by simp [intOf]; omega⟩
            by_cases hj : j = k
            · rw [hj, ← HN1.out, ← HN2.out]; exact HE.out
            · exact HFI.out j h0 (by omega)
        · have t1 : decide (k < i) = false := decide_eq_false hkl
          go_wp2_with fail
          go_roundw
          case rel =>
            refine ⟨i + 1, by omega, by omega, rfl, HBI, ⟨fun i' j h0 h1 h2 => ?_⟩⟩
            by_cases hj : i' = i
            · rw [hj]; exact HFI.out j h0 (by omega)
            · exact HF.out i' j h0 h1 (by omega)
          case measure => simp [intOf]; omega
    · have t1 : decide (i < (n : Int)) = false := decide_eq_false hlt
      have hpw : L.Pairwise (fun x y => x.f0 ≠ y.f0) := pair_at fun i' j h0 h1 h2 => HF.out i' j h0 h1 (by rw [← HN.out] at h2; omega)
      rw [HL.out] at hpw HXM
      have hwp := whole_pure HFF.out hpw HXM.out
      rw [← HL.out] at hwp HXM
      simp only at hwp
      have HWP := Aside0.mk hwp
      have hx := HX6.out
      have x0 : wr.cell? ⟨w5.heap.size, 0, none⟩ = some (.string nm) := blk_cell (blk_below hx HB.out) 0
      have HXR := Aside0.mk (blk_below hx HB.out)
      have HBR := Aside0.mk (below_step HB6.out HB.out)
      have HMR := Aside0.mk (pw_cell_below HBR.out HM.out)
      have hnz : nm.size ≤ 1000000 := by have := HSZ.out _ HXM.out; have h0 : (⟨#[]⟩ : ByteArray).size = 0 := rfl; have := HNM.out; simp only at *; omega
      clear hpw hwp hx hlt hil hi0
      go_wp2_with fail
      have HKT' := HKT
      obtain ⟨F, hF⟩ : ∃ F, F = findS (kindOf L) ⟨#[]⟩ nm := ⟨_, rfl⟩
      have HFE := Aside0.mk hF
      clear hF
      have HS : Aside0 (∀ W', Below wr.heap.size wr W' → (W'.cell? ⟨w5.heap.size, 0, none⟩ = some (.string nm) ∧ Below wr.heap.size wr W')) := ⟨fun W' hb => ⟨blk_cell (blk_below HXR.out hb) 0, hb⟩⟩
      clear x0
      go_region_held3 (fun W' => W'.cell? ⟨w5.heap.size, 0, none⟩ = some (.string nm) ∧ Below wr.heap.size wr W') (exact HS.out _ (by repeat (first | exact HB8.out | exact HB7.out | exact Below.refl _ _ | refine below_drew ?_ | refine below_alloc ?_ _ | refine Below.setCell ?_ (by first | exact Nat.le_refl _ | exact HB7.out.size | exact HB8.out.size) _))) (first | (go_at_call 8; refine (courierlaw05_Theirs.calls kt A c l _ _ (Kd.C_below HC.out (below_step HBR.out (by repeat (first | exact Below.refl _ _ | refine below_drew ?_ | refine below_alloc ?_ _)))) hc HKT.out).mono ?_; rintro e w7 ⟨v7, rfl, hR7, hb3⟩; obtain ⟨A7, c7, rfl, hc7, hC7⟩ := Kd.R_reads hR7; have HC7 := Aside0.mk hC7; have HHC7 := Aside0.mk hc7; have HB7 : Aside0 (Below wr.heap.size wr w7) := ⟨below_step (by repeat (first | exact Below.refl _ _ | refine below_drew ?_ | refine below_alloc ?_ _)) hb3⟩; clear hR7 hC7 hc7; (try (first | (have hy := blk_below (blk_new _ _) hb3; have HY7 := Aside0.mk hy; clear hy) | (have hy := blk_below (blk_drew (blk_new _ _)) hb3; have HY7 := Aside0.mk hy; clear hy)))) | (go_at_call 11; refine (scope_Find.calls (cvL l) A7 c7 ⟨#[]⟩ nm m _ (by with_reducible repeat (first | exact HC7.out | apply Kd.C_alloc | apply Kd.C_drew)) HHC7.out (by have := HNM.out; omega) HKDL.out (by decide) hnz (pw_cell_below (below_step HBR.out (by repeat (first | exact HB7.out | refine below_drew ?_ | refine below_alloc ?_ _))) HM.out)).mono ?_; rintro e w8 ⟨rfl, hb4⟩; have HB8 : Aside0 (Below wr.heap.size wr w8) := ⟨below_step (by repeat (first | exact HB7.out | refine below_drew ?_ | refine below_alloc ?_ _)) hb4⟩; (try ((first | (have hy := blk_below HY7.out hb4; have HY8 := Aside0.mk hy; clear hy) | (have hy := blk_below (blk_new _ _) hb4; have HY8 := Aside0.mk hy; clear hy)); have y0 := blk_cell HY8.out 0; have y1 := blk_cell HY8.out 1; have fy0 := blk_frozen HY8.out 0; have fy1 := blk_frozen HY8.out 1))))
      · have hF3 : (kd = 3 ∧ (findS (kindOf (alL (cvL l) ⟨#[]⟩)) ⟨#[]⟩ nm) = none) ∨ (kd ≠ 3 ∧ pathOk nm = true ∧ (findS (kindOf (alL (cvL l) ⟨#[]⟩)) ⟨#[]⟩ nm) = some ⟨nm, kd⟩) ∨ (kd ≠ 3 ∧ pathOk nm = false ∧ (findS (kindOf (alL (cvL l) ⟨#[]⟩)) ⟨#[]⟩ nm) = none) := by
          have h := HWP.out
          rw [HL.out] at h
          by_cases h3 : kd = 3
          · exact .inl ⟨h3, h.1 h3⟩
          · cases hp : pathOk nm with
            | true => exact .inr (.inl ⟨h3, rfl, by rw [h.2 h3, hp, if_pos rfl]⟩)
            | false => exact .inr (.inr ⟨h3, rfl, by rw [h.2 h3, hp, if_neg (by decide)]⟩)
        obtain ⟨W9, hW9⟩ : ∃ W9, W9 = w8.alloc (.cells #[.string (nmR (findS (kindOf (alL (cvL l) ⟨#[]⟩)) ⟨#[]⟩ nm)), .int .i64 (kdR (findS (kindOf (alL (cvL l) ⟨#[]⟩)) ⟨#[]⟩ nm))] 33) := ⟨_, rfl⟩
        obtain ⟨gy, hgy⟩ : ∃ gy, gy = w8.heap.size := ⟨_, rfl⟩
        have HY9 : Aside0 (W9.heap[gy]? = some (.cells #[.string (nmR (findS (kindOf (alL (cvL l) ⟨#[]⟩)) ⟨#[]⟩ nm)), .int .i64 (kdR (findS (kindOf (alL (cvL l) ⟨#[]⟩)) ⟨#[]⟩ nm))] 33 (0, 0))) := ⟨by rw [hW9, hgy]; exact blk_new w8 _⟩
        have HB9 : Aside0 (Below wr.heap.size wr W9) := ⟨by rw [hW9]; exact below_alloc HB8.out _⟩
        rw [← hW9, ← hgy]
        clear hW9 hgy
        try clear y0
        try clear y1
        try clear fy0
        try clear fy1
        have x1 : W9.cell? ⟨w5.heap.size, 1, none⟩ = some (.int .i64 kd) := blk_cell (blk_below HXR.out HB9.out) 1
        have x0 : W9.cell? ⟨w5.heap.size, 0, none⟩ = some (.string nm) := blk_cell (blk_below HXR.out HB9.out) 0
        rcases hF3 with ⟨h3, hF⟩ | ⟨h3, hp, hF⟩ | ⟨h3, hp, hF⟩
        · rw [hF] at HY9 ⊢
          have u0 : (kd == 3) = true := beq_iff_eq.mpr h3
          simp only [Option.isSome_none]
          clear h3 hF
          go_wp2_with fail
          go_ret
          exact ⟨rfl, below_step HBR.out HB9.out⟩
        · rw [hF] at HY9 ⊢
          have u0 : (kd == 3) = false := beq_eq_false_iff_ne.mpr h3
          simp only [Option.isSome_some]
          have HP := Aside0.mk hp
          clear h3 hF hp x1
          have x1 : W9.cell? ⟨w5.heap.size, 1, none⟩ = some (.int .i64 kd) := blk_cell (blk_below HXR.out HB9.out) 1
          go_wp2_with fail
          refine (courierref03_Path.calls nm W9 hnz (Utf8Tabs_below HT.out (below_step HBR.out HB9.out))).mono ?_
          rintro e w10 ⟨AA, cc, rfl, _, _, hb⟩
          have HB10 := Aside0.mk (below_step HB9.out hb)
          have hy10 := blk_below HY9.out hb
          have z0 : w10.cell? ⟨gy, 0, none⟩ = some (.string nm) := blk_cell hy10 0
          have z1 : w10.cell? ⟨gy, 1, none⟩ = some (.int .i64 kd) := blk_cell hy10 1
          have x0' : w10.cell? ⟨w5.heap.size, 0, none⟩ = some (.string nm) := blk_cell (blk_below HXR.out HB10.out) 0
          have x1' : w10.cell? ⟨w5.heap.size, 1, none⟩ = some (.int .i64 kd) := blk_cell (blk_below HXR.out HB10.out) 1
          clear hb hy10 x0 x1
          rw [HP.out]
          have v0 : (nm == nm) = true := by show (nm.data == nm.data) = true; simp
          have v1 : (kd == kd) = true := beq_self_eq_true kd
          go_wp2_with fail
          go_ret
          exact ⟨rfl, below_step HBR.out HB10.out⟩
        · rw [hF] at HY9 ⊢
          have u0 : (kd == 3) = false := beq_eq_false_iff_ne.mpr h3
          simp only [Option.isSome_none]
          have HP := Aside0.mk hp
          clear h3 hF hp
          go_wp2_with fail
          refine (courierref03_Path.calls nm W9 hnz (Utf8Tabs_below HT.out (below_step HBR.out HB9.out))).mono ?_
          rintro e w10 ⟨AA, cc, rfl, _, _, hb⟩
          have HB10 := Aside0.mk (below_step HB9.out hb)
          clear hb x0 x1
          rw [HP.out]
          go_wp2_with fail
          go_ret
          exact ⟨rfl, below_step HBR.out HB10.out⟩
      · have hF3 : (kd = 3 ∧ (findS (kindOf (alL (cvL l) ⟨#[]⟩)) ⟨#[]⟩ nm) = none) ∨ (kd ≠ 3 ∧ pathOk nm = true ∧ (findS (kindOf (alL (cvL l) ⟨#[]⟩)) ⟨#[]⟩ nm) = some ⟨nm, kd⟩) ∨ (kd ≠ 3 ∧ pathOk nm = false ∧ (findS (kindOf (alL (cvL l) ⟨#[]⟩)) ⟨#[]⟩ nm) = none) := by
          have h := HWP.out
          rw [HL.out] at h
          by_cases h3 : kd = 3
          · exact .inl ⟨h3, h.1 h3⟩
          · cases hp : pathOk nm with
            | true => exact .inr (.inl ⟨h3, rfl, by rw [h.2 h3, hp, if_pos rfl]⟩)
            | false => exact .inr (.inr ⟨h3, rfl, by rw [h.2 h3, hp, if_neg (by decide)]⟩)
        obtain ⟨W9, hW9⟩ : ∃ W9, W9 = (w8.setCell ⟨w7.heap.size, 0, none⟩ (.string (nmR (findS (kindOf (alL (cvL l) ⟨#[]⟩)) ⟨#[]⟩ nm)))).setCell ⟨w7.heap.size, 1, none⟩ (.int .i64 (kdR (findS (kindOf (alL (cvL l) ⟨#[]⟩)) ⟨#[]⟩ nm))) := ⟨_, rfl⟩
        obtain ⟨gy, hgy⟩ : ∃ gy, gy = w7.heap.size := ⟨_, rfl⟩
        have HY9 : Aside0 (W9.heap[gy]? = some (.cells #[.string (nmR (findS (kindOf (alL (cvL l) ⟨#[]⟩)) ⟨#[]⟩ nm)), .int .i64 (kdR (findS (kindOf (alL (cvL l) ⟨#[]⟩)) ⟨#[]⟩ nm))] 33 (0, 0))) := ⟨by rw [hW9, hgy]; exact (blk_set (blk_set HY8.out 0 _) 1 _).trans rfl⟩
        have HB9 : Aside0 (Below wr.heap.size wr W9) := ⟨by rw [hW9]; exact (HB8.out.setCell (p := ⟨w7.heap.size, 0, none⟩) HB7.out.size _).setCell (p := ⟨w7.heap.size, 1, none⟩) HB7.out.size _⟩
        rw [← hW9, ← hgy]
        clear hW9 hgy
        try clear y0
        try clear y1
        try clear fy0
        try clear fy1
        have x1 : W9.cell? ⟨w5.heap.size, 1, none⟩ = some (.int .i64 kd) := blk_cell (blk_below HXR.out HB9.out) 1
        have x0 : W9.cell? ⟨w5.heap.size, 0, none⟩ = some (.string nm) := blk_cell (blk_below HXR.out HB9.out) 0
        rcases hF3 with ⟨h3, hF⟩ | ⟨h3, hp, hF⟩ | ⟨h3, hp, hF⟩
        · rw [hF] at HY9 ⊢
          have u0 : (kd == 3) = true := beq_iff_eq.mpr h3
          simp only [Option.isSome_none]
          clear h3 hF
          go_wp2_with fail
          go_ret
          exact ⟨rfl, below_step HBR.out HB9.out⟩
        · rw [hF] at HY9 ⊢
          have u0 : (kd == 3) = false := beq_eq_false_iff_ne.mpr h3
          simp only [Option.isSome_some]
          have HP := Aside0.mk hp
          clear h3 hF hp x1
          have x1 : W9.cell? ⟨w5.heap.size, 1, none⟩ = some (.int .i64 kd) := blk_cell (blk_below HXR.out HB9.out) 1
          go_wp2_with fail
          refine (courierref03_Path.calls nm W9 hnz (Utf8Tabs_below HT.out (below_step HBR.out HB9.out))).mono ?_
          rintro e w10 ⟨AA, cc, rfl, _, _, hb⟩
          have HB10 := Aside0.mk (below_step HB9.out hb)
          have hy10 := blk_below HY9.out hb
          have z0 : w10.cell? ⟨gy, 0, none⟩ = some (.string nm) := blk_cell hy10 0
          have z1 : w10.cell? ⟨gy, 1, none⟩ = some (.int .i64 kd) := blk_cell hy10 1
          have x0' : w10.cell? ⟨w5.heap.size, 0, none⟩ = some (.string nm) := blk_cell (blk_below HXR.out HB10.out) 0
          have x1' : w10.cell? ⟨w5.heap.size, 1, none⟩ = some (.int .i64 kd) := blk_cell (blk_below HXR.out HB10.out) 1
          clear hb hy10 x0 x1
          rw [HP.out]
          have v0 : (nm == nm) = true := by show (nm.data == nm.data) = true; simp
          have v1 : (kd == kd) = true := beq_self_eq_true kd
          go_wp2_with fail
          go_ret
          exact ⟨rfl, below_step HBR.out HB10.out⟩
        · rw [hF] at HY9 ⊢
          have u0 : (kd == 3) = false := beq_eq_false_iff_ne.mpr h3
          simp only [Option.isSome_none]
          have HP := Aside0.mk hp
          clear h3 hF hp
          go_wp2_with fail
          refine (courierref03_Path.calls nm W9 hnz (Utf8Tabs_below HT.out (below_step HBR.out HB9.out))).mono ?_
          rintro e w10 ⟨AA, cc, rfl, _, _, hb⟩
          have HB10 := Aside0.mk (below_step HB9.out hb)
          clear hb x0 x1
          rw [HP.out]
          go_wp2_with fail
          go_ret
          exact ⟨rfl, below_step HBR.out HB10.out⟩
      · have hF3 : (kd = 3 ∧ (findS (kindOf (alL (cvL l) ⟨#[]⟩)) ⟨#[]⟩ nm) = none) ∨ (kd ≠ 3 ∧ pathOk nm = true ∧ (findS (kindOf (alL (cvL l) ⟨#[]⟩)) ⟨#[]⟩ nm) = some ⟨nm, kd⟩) ∨ (kd ≠ 3 ∧ pathOk nm = false ∧ (findS (kindOf (alL (cvL l) ⟨#[]⟩)) ⟨#[]⟩ nm) = none) := by
          have h := HWP.out
          rw [HL.out] at h
          by_cases h3 : kd = 3
          · exact .inl ⟨h3, h.1 h3⟩
          · cases hp : pathOk nm with
            | true => exact .inr (.inl ⟨h3, rfl, by rw [h.2 h3, hp, if_pos rfl]⟩)
            | false => exact .inr (.inr ⟨h3, rfl, by rw [h.2 h3, hp, if_neg (by decide)]⟩)
        obtain ⟨W9, hW9⟩ : ∃ W9, W9 = (w8.setCell ⟨wr.heap.size, 0, none⟩ (.string (nmR (findS (kindOf (alL (cvL l) ⟨#[]⟩)) ⟨#[]⟩ nm)))).setCell ⟨wr.heap.size, 1, none⟩ (.int .i64 (kdR (findS (kindOf (alL (cvL l) ⟨#[]⟩)) ⟨#[]⟩ nm))) := ⟨_, rfl⟩
        obtain ⟨gy, hgy⟩ : ∃ gy, gy = wr.heap.size := ⟨_, rfl⟩
        have HY9 : Aside0 (W9.heap[gy]? = some (.cells #[.string (nmR (findS (kindOf (alL (cvL l) ⟨#[]⟩)) ⟨#[]⟩ nm)), .int .i64 (kdR (findS (kindOf (alL (cvL l) ⟨#[]⟩)) ⟨#[]⟩ nm))] 33 (0, 0))) := ⟨by rw [hW9, hgy]; exact (blk_set (blk_set HY8.out 0 _) 1 _).trans rfl⟩
        have HB9 : Aside0 (Below wr.heap.size wr W9) := ⟨by rw [hW9]; exact (HB8.out.setCell (p := ⟨wr.heap.size, 0, none⟩) (Nat.le_refl _) _).setCell (p := ⟨wr.heap.size, 1, none⟩) (Nat.le_refl _) _⟩
        rw [← hW9, ← hgy]
        clear hW9 hgy
        try clear y0
        try clear y1
        try clear fy0
        try clear fy1
        have x1 : W9.cell? ⟨w5.heap.size, 1, none⟩ = some (.int .i64 kd) := blk_cell (blk_below HXR.out HB9.out) 1
        have x0 : W9.cell? ⟨w5.heap.size, 0, none⟩ = some (.string nm) := blk_cell (blk_below HXR.out HB9.out) 0
        rcases hF3 with ⟨h3, hF⟩ | ⟨h3, hp, hF⟩ | ⟨h3, hp, hF⟩
        · rw [hF] at HY9 ⊢
          have u0 : (kd == 3) = true := beq_iff_eq.mpr h3
          simp only [Option.isSome_none]
          clear h3 hF
          go_wp2_with fail
          go_ret
          exact ⟨rfl, below_step HBR.out HB9.out⟩
        · rw [hF] at HY9 ⊢
          have u0 : (kd == 3) = false := beq_eq_false_iff_ne.mpr h3
          simp only [Option.isSome_some]
          have HP := Aside0.mk hp
          clear h3 hF hp x1
          have x1 : W9.cell? ⟨w5.heap.size, 1, none⟩ = some (.int .i64 kd) := blk_cell (blk_below HXR.out HB9.out) 1
          go_wp2_with fail
          refine (courierref03_Path.calls nm W9 hnz (Utf8Tabs_below HT.out (below_step HBR.out HB9.out))).mono ?_
          rintro e w10 ⟨AA, cc, rfl, _, _, hb⟩
          have HB10 := Aside0.mk (below_step HB9.out hb)
          have hy10 := blk_below HY9.out hb
          have z0 : w10.cell? ⟨gy, 0, none⟩ = some (.string nm) := blk_cell hy10 0
          have z1 : w10.cell? ⟨gy, 1, none⟩ = some (.int .i64 kd) := blk_cell hy10 1
          have x0' : w10.cell? ⟨w5.heap.size, 0, none⟩ = some (.string nm) := blk_cell (blk_below HXR.out HB10.out) 0
          have x1' : w10.cell? ⟨w5.heap.size, 1, none⟩ = some (.int .i64 kd) := blk_cell (blk_below HXR.out HB10.out) 1
          clear hb hy10 x0 x1
          rw [HP.out]
          have v0 : (nm == nm) = true := by show (nm.data == nm.data) = true; simp
          have v1 : (kd == kd) = true := beq_self_eq_true kd
          go_wp2_with fail
          go_ret
          exact ⟨rfl, below_step HBR.out HB10.out⟩
        · rw [hF] at HY9 ⊢
          have u0 : (kd == 3) = false := beq_eq_false_iff_ne.mpr h3
          simp only [Option.isSome_none]
          have HP := Aside0.mk hp
          clear h3 hF hp
          go_wp2_with fail
          refine (courierref03_Path.calls nm W9 hnz (Utf8Tabs_below HT.out (below_step HBR.out HB9.out))).mono ?_
          rintro e w10 ⟨AA, cc, rfl, _, _, hb⟩
          have HB10 := Aside0.mk (below_step HB9.out hb)
          clear hb x0 x1
          rw [HP.out]
          go_wp2_with fail
          go_ret
          exact ⟨rfl, below_step HBR.out HB10.out⟩
end Go.Proofs.YtbhfecciegfdjaaDoor.X
