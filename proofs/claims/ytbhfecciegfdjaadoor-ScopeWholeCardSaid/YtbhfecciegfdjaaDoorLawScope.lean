/- The law ScopeAll walked: of any declarations that a memory holds it answers true. -/
import Derived.Test.YtbhfecciegfdjaaDoorAwake07
import Derived.Test.YtbhfecciegfdjaaDoorScopeRef
import Derived.Test.YtbhfecciegfdjaaDoorX29
import Derived.Test.YtbhfecciegfdjaaDoorX30
import Derived.Test.YtbhfecciegfdjaaDoorX32
set_option linter.unusedVariables false
set_option linter.unusedSimpArgs false
namespace Go.Proofs.YtbhfecciegfdjaaDoor.X
open Go.RowKit Go.Shelf Go.Proofs.YtbhfecciegfdjaaDoorW.PrintWords Go.Proofs.YtbhfecciegfdjaaDoorW.PrintLast Go.Proofs.YtbhfecciegfdjaaDoorW.PrintMore
abbrev kR := k54
theorem cvL_len : ∀ m : List RD, (cvL m).length = m.length := by
  intro m
  induction m using rd_ind with
  | nil => rw [cvL]; rfl
  | cons a b c fs vs ms ds l _ ih => rw [cvL, List.length_cons, List.length_cons, ih]
set_option maxHeartbeats 8000000 in
set_option maxRecDepth 100000 in
theorem scopeAll.calls (l : List RD) (A : Option Addr) (c : Nat) (m : Int) (w : World) (hC : Kd.C kR w A l.length l) (hc : l.length ≤ c) (hg : GoodL l) (hl : l.length ≤ 140737488355328) (hm : w.cell? ⟨0, 0, none⟩ = some (.int .i64 m)) :
    Calls Tryd.prog 3 #[.slice A l.length c] w fun e w' => e = .returned (.bool true) ∧ Below w.heap.size w w' := by
  have HC := Aside0.mk hC
  have HM := Aside0.mk hm
  have HG := Aside0.mk hg
  obtain ⟨ks, hks⟩ := small_all l hg hl
  have HKS := Aside0.mk hks
  clear hC hm hks hg
  go_enter Tryd.func3, Tryd.ntmps3
  go_wp2_with fail
  refine (awake07.calls m _ HM.out).mono ?_
  rintro e w1 ⟨rfl, hb⟩
  have HB1 := Aside0.mk hb
  clear hb
  go_wp2_with fail
  refine (courierref05_Small.calls ks A c l _ w1 (Kd.C_below HC.out HB1.out) hc HKS.out).mono ?_
  rintro e w2 ⟨rfl, hb⟩
  have HB2 := Aside0.mk (below_step HB1.out hb)
  clear hb
  by_cases hsm : 0 ≤ smL l 0 800
  rotate_left
  · rw [decide_eq_false hsm]
    go_wp2_with fail
    refine (awake07.calls m _ (pw_cell_below HB2.out HM.out)).mono ?_
    rintro e w3 ⟨rfl, hb⟩
    have HB3 := Aside0.mk (below_step HB2.out hb)
    clear hb
    go_wp2_with fail
    go_ret
    exact ⟨rfl, HB3.out⟩
  rw [decide_eq_true hsm]
  have hSm := small_in hsm
  obtain ⟨kt, hkt⟩ := theirs_all hSm
  have HKT := Aside0.mk hkt
  obtain ⟨ka, hka⟩ := all_ref hSm
  have HKA := Aside0.mk hka
  have hnm := nm_sm hSm
  have hkd := kinds_cv l ⟨#[]⟩ HG.out
  have HKD := Aside0.mk hkd
  clear hsm hkt hka hkd hSm
  go_wp2_with fail
  refine (courierlaw05_Theirs.calls kt A c l _ w2 (Kd.C_below HC.out HB2.out) hc HKT.out).mono ?_
  rintro e w3 ⟨v3, rfl, hR, hb⟩
  obtain ⟨A3, c3, rfl, hc3, hC3⟩ := Kd.R_reads hR
  have HB3 := Aside0.mk (below_step HB2.out hb)
  have HC3 := Aside0.mk hC3
  clear hR hb hC3
  go_wp2_with fail
  refine (scope_All.calls (cvL l) A3 c3 w3 HC3.out hc3 (by omega)).mono ?_
  rintro e w4 ⟨v4, rfl, hR, hb⟩
  obtain ⟨A4, c4, rfl, hc4, hC4⟩ := Kd.R_reads hR
  have HB4 := Aside0.mk (below_step HB3.out hb)
  have HC4 := Aside0.mk hC4
  clear hR hb hC4
  go_wp2_with fail
  refine (courierref05_All.calls ka A c l _ w4 (Kd.C_below HC.out HB4.out) hc HKA.out).mono ?_
  rintro e w5 ⟨v5, rfl, hR, hb⟩
  obtain ⟨A5, c5, rfl, hc5, hC5⟩ := Kd.R_reads hR
  have HB5 := Aside0.mk (below_step HB4.out hb)
  have HC5 := Aside0.mk hC5
  have HC4' := Aside0.mk (Kd.C_below HC4.out hb)
  have hlen := alL_len (cvL l) ⟨#[]⟩
  clear hR hb hC5 HKD HKA HKT HKS HC HG HM HB1 HB2 HB3 HC3
  obtain ⟨L, hL⟩ : ∃ L, L = alL (cvL l) ⟨#[]⟩ := ⟨_, rfl⟩
  rw [← hL] at HC4' HC5 HC4 hc4 hc5 hlen ⊢
  clear hL
  have hln : L.length ≤ 80000 := by omega
  clear hlen hnm
  have t0 : ((L.length : Int) != (L.length : Int)) = false := bne_eq_false_iff_eq.mpr rfl
  have t0n : (L.length != L.length) = false := bne_eq_false_iff_eq.mpr rfl
  go_wp2_with fail
  go_loopw [26] (fun v26 wr => ∃ i : Int, 0 ≤ i ∧ i ≤ (L.length : Int) ∧ v26 = .int .i64 i ∧ Aside0 (Below w5.heap.size w5 wr)) (fun v26 _ => L.length - (intOf v26).toNat)
  case atStart => exact ⟨0, by omega, by omega, rfl, ⟨Below.refl _ _⟩⟩
  case round =>
    obtain ⟨i, hi0, hil, rfl, HB⟩ := hrel
    by_cases hlt : i < (L.length : Int)
    · have t1 : decide (i < (L.length : Int)) = true := decide_eq_true hlt
      have t2 : decide (0 ≤ i) = true := decide_eq_true hi0
      obtain ⟨ad, e0, x0, x1⟩ := at_T32 (Kd.C_below HC4'.out HB.out) i hi0 hlt
      obtain ⟨ad2, e2, y0, y1⟩ := at_T32 (Kd.C_below HC5.out HB.out) i hi0 hlt
      subst e0
      subst e2
      generalize rd_T32 L i = s at *
      obtain ⟨nm, kd⟩ := s
      simp only at x0 x1 y0 y1
      have u0 : (kd != kd) = false := bne_eq_false_iff_eq.mpr rfl
      have u1 : (nm != nm) = false := by show (!(nm.data == nm.data)) = false; simp
      go_wp2_with fail
      go_quiet (fail)
      go_wp2_with fail
      go_roundw
      case rel => exact ⟨i + 1, by omega, by omega, rfl, ⟨by repeat (first | exact HB.out | refine below_drew ?_ | refine pw_below_drewN ?_ _ | refine below_alloc ?_ _)⟩⟩
      case measure => simp [intOf]; omega
    · have t1 : decide (i < (L.length : Int)) = false := decide_eq_false hlt
      go_wp2_with fail
      go_ret
      exact ⟨rfl, below_step HB5.out HB.out⟩
end Go.Proofs.YtbhfecciegfdjaaDoor.X
