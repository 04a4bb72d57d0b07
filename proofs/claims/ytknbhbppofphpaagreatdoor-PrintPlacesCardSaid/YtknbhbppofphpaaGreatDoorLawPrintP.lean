/- The law PrintPlaces walked: of any declarations that a memory holds it answers true. -/
import Derived.Test.YtknbhbppofphpaaGreatDoorAwake06
import Derived.Test.YtknbhbppofphpaaGreatDoorPfRef
import Derived.Test.YtknbhbppofphpaaGreatDoorStrip
import Derived.Test.YtknbhbppofphpaaGreatDoorXB
import Derived.Test.YtknbhbppofphpaaGreatDoorX63
set_option linter.unusedVariables false
set_option linter.unusedSimpArgs false
namespace Go.Proofs.YtknbhbppofphpaaGreatDoor.X
open Go.RowKit Go.Shelf Go.Proofs.YtknbhbppofphpaaGreatDoorW.PrintWords Go.Proofs.YtknbhbppofphpaaGreatDoorW.PrintLast Go.Proofs.YtknbhbppofphpaaGreatDoorW.PrintMore
abbrev kR := k60
set_option maxHeartbeats 8000000 in
set_option maxRecDepth 100000 in
theorem printPlaces.calls (l : List RD) (A : Option Addr) (c : Nat) (m : Int) (w : World) (hC : Kd.C kR w A l.length l) (hc : l.length ≤ c) (hg : GoodL l) (hl : l.length ≤ 140737488355328) (hm : w.cell? ⟨3, 0, none⟩ = some (.int .i64 m)) (hL : LexTabs w) (hU : U8 w) :
    Calls Tryz.prog 3 #[.slice A l.length c] w fun e w' => e = .returned (.bool true) ∧ Below w.heap.size w w' := by
  have HC := Aside0.mk hC
  have HM := Aside0.mk hm
  have HG := Aside0.mk hg
  have HLT := Aside0.mk hL
  have HU := Aside0.mk hU
  obtain ⟨ks, hks⟩ := small_all l hg hl
  have HKS := Aside0.mk hks
  clear hC hm hks hg hL hU
  go_enter Tryz.func3, Tryz.ntmps3
  go_wp2_with fail
  refine (awake06.calls m _ HM.out HLT.out).mono ?_
  rintro e w1 ⟨rfl, hb⟩
  have HB1 := Aside0.mk hb
  clear hb
  go_wp2_with fail
  refine (courierref05_Small.calls ks A c l _ w1 (Kd.C_below HC.out HB1.out) hc HKS.out).mono ?_
  rintro e w2 ⟨rfl, hb⟩
  have HB2 := Aside0.mk (below_step HB1.out hb)
  clear hb
  by_cases hsm : 0 ≤ smL l 0 800
  rotate_left
  · rw [decide_eq_false hsm]
    go_wp2_with fail
    refine (awake06.calls m _ (pw_cell_below HB2.out HM.out) (HLT.out.below HB2.out)).mono ?_
    rintro e w3 ⟨rfl, hb⟩
    have HB3 := Aside0.mk (below_step HB2.out hb)
    clear hb
    go_wp2_with fail
    go_ret
    exact ⟨rfl, HB3.out⟩
  rw [decide_eq_true hsm]
  have hSm := small_in hsm
  obtain ⟨kt, hkt⟩ := theirs_all hSm
  have HKT := Aside0.mk hkt
  have hsz := hSm.1
  have HSZ := Aside0.mk hsz
  have HSP : Aside0 (szP (cvL l) ≤ 300000) := ⟨by have := szP_cv l; omega⟩
  have HTH : Aside0 (∀ W, Below w.heap.size w W → Calls Tryz.prog 8 #[.slice A l.length c] W fun e w' => ∃ A3 c3, e = .returned (.slice A3 (cvL l).length c3) ∧ Kd.C kP w' A3 (cvL l).length (cvL l) ∧ Below W.heap.size W w') := ⟨fun W hW => (courierlaw05_Theirs.calls kt A c l _ W (Kd.C_below HC.out hW) hc HKT.out).mono (fun e w' h => by
    obtain ⟨v3, rfl, hR, hb⟩ := h
    obtain ⟨A3, c3, rfl, hc3, hC3⟩ := Kd.R_reads hR
    exact ⟨A3, c3, rfl, hC3, hb⟩)⟩
  clear hsm hkt hSm hsz
  go_wp2_with fail
  refine (HTH.out w2 HB2.out).mono ?_
  rintro e w3 ⟨A3, c3, rfl, hC3, hb⟩
  have HB3 := Aside0.mk (below_step HB2.out hb)
  have HC3 := Aside0.mk hC3
  clear hb hC3
  go_wp2_with fail
  refine (printFile.calls (cvL l) A3 c3 m w3 HC3.out HSP.out (pw_cell_below HB3.out HM.out) (HLT.out.below HB3.out)).mono ?_
  rintro e w4 ⟨rfl, hb⟩
  have HB4 := Aside0.mk (below_step HB3.out hb)
  clear hb HC3
  go_wp2_with fail
  refine (HTH.out w4 HB4.out).mono ?_
  rintro e w5 ⟨A5, c5, rfl, hC5, hb⟩
  have HB5 := Aside0.mk (below_step HB4.out hb)
  have HC5 := Aside0.mk hC5
  clear hb hC5
  go_wp2_with fail
  refine (strip.calls (szP (cvL l)) (cvL l) A5 c5 w5 (Nat.le_refl _) (Nat.le_trans HSP.out (by decide)) HC5.out).mono ?_
  rintro e w6 ⟨v6, rfl, hR, hb⟩
  obtain ⟨A6, c6, rfl, _, hC6⟩ := Kd.R_reads hR
  have HB6 := Aside0.mk (below_step HB5.out hb)
  have HC6 := Aside0.mk hC6
  clear hR hb hC6 HC5
  go_wp2_with fail
  refine (printFile.calls (stL (cvL l)) A6 c6 m w6 HC6.out (by rw [szP_st]; exact HSP.out) (pw_cell_below HB6.out HM.out) (HLT.out.below HB6.out)).mono ?_
  rw [printV_st]
  rintro e w7 ⟨rfl, hb⟩
  have HB7 := Aside0.mk (below_step HB6.out hb)
  clear hb HC6
  generalize (printV (cvL l)).1 = P1 at *
  generalize (printV (cvL l)).2 = P2 at *
  have hb1 : (P1.toList == P1.toList) = true := beq_self_eq_true _
  have hb2 : (P2 == P2) = true := beq_self_eq_true _
  go_wp2_with fail
  go_ret
  exact ⟨rfl, HB7.out⟩
end Go.Proofs.YtknbhbppofphpaaGreatDoor.X
