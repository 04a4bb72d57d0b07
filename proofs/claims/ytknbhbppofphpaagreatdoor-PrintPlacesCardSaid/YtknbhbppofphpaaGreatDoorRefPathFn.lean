/- The reference's Path: of any text of at most 10^6 bytes the same as the program's. -/
import Derived.Test.YtknbhbppofphpaaGreatDoorXA
import Derived.Test.YtknbhbppofphpaaGreatDoorPath
set_option linter.unusedVariables false
set_option linter.unusedSimpArgs false
namespace Go.Proofs.YtknbhbppofphpaaGreatDoor.X
open Go.RowKit Go.Shelf Go.Proofs.YtknbhbppofphpaaGreatDoorW.PrintWords Go.Proofs.YtknbhbppofphpaaGreatDoorW.PrintLast Go.Proofs.YtknbhbppofphpaaGreatDoorW.PrintMore
set_option maxHeartbeats 4000000 in
set_option maxRecDepth 100000 in
theorem courierref03_Path.calls (s : ByteArray) (w : World) (hs : s.size ≤ 1000000) (hT : Lib.Utf8Tabs (Tryz.lays196_ren.g 3) (Tryz.lays196_ren.g 4) w) :
    Calls Tryz.prog 55 #[.string s] w (PathPost s w) := by
  have HT := Aside0.mk hT
  have HPF := Aside0.mk (pieces_f s hs)
  have hsm := pieces_small s
  obtain ⟨ps, hps⟩ : ∃ ps, ps = (piecesL s.data.toList).map txt8 := ⟨_, rfl⟩
  have hl2 : (piecesL s.data.toList).length = ps.length := by rw [hps, List.length_map]
  have HO : Aside0 (pathOk s = (decide (ps.length ≤ 8) && ps.all plainV)) := ⟨by unfold pathOk; rw [hl2, ← hps]⟩
  have HPL : Aside0 (pathL s = if pathOk s = true then ps else []) := ⟨by unfold pathL; rw [← hps]⟩
  rw [← hps] at HPF hsm
  rw [hl2] at hsm
  have HSM := Aside0.mk hsm.2
  have hn1 := hsm.1
  have HPS := Aside0.mk (path_size (s := s))
  clear hT hps hl2 hsm
  go_enter Tryz.func55, Tryz.ntmps55
  by_cases h2000 : 2000 < s.size
  · have t0 : decide (2000 < (s.size : Int)) = true := decide_eq_true (by omega)
    have t0n : decide (2000 < s.size) = true := decide_eq_true h2000
    have hok : pathOk s = false := by
      cases h : pathOk s with
      | false => rfl
      | true => have := HPS.out h; omega
    have HOK := Aside0.mk hok
    have HPL2 : Aside0 (pathL s = []) := ⟨by rw [HPL.out, hok]; rfl⟩
    clear hok
    go_wp2_with fail
    go_ret2
    rw [PathPost, HPL2.out, HOK.out]
    exact ⟨none, 0, rfl, Kd.C_nil _ _, Nat.le_refl _, Below.refl _ _⟩
  have t0 : decide (2000 < (s.size : Int)) = false := decide_eq_false (by omega)
  have t0n : decide (2000 < s.size) = false := decide_eq_false h2000
  go_wp2_with fail
  refine (courierref03_Pieces.calls _ s ps _ HPF.out).mono ?_
  rintro e w1 ⟨v, rfl, hR, hb⟩
  obtain ⟨A, c, rfl⟩ := Kd.R_slice hR
  have hR2 := Kd.R_reads' hR
  have HC0 := Aside0.mk hR2.2.2
  have HLC := Aside0.mk hR2.2.1
  have HB0 := Aside0.mk hb
  have HT1 := Aside0.mk (Utf8Tabs_below HT.out hb)
  obtain ⟨n, hn⟩ : ∃ n, n = ps.length := ⟨_, rfl⟩
  rw [← hn] at hn1 HO HC0 HLC ⊢
  have HN := Aside0.mk hn
  clear hR hR2 hb hn
  by_cases h8 : n ≤ 8
  rotate_left
  · have t8 : decide (8 < (n : Int)) = true := decide_eq_true (by omega)
    rw [decide_eq_false h8, Bool.false_and] at HO
    rw [HO.out, if_neg (by decide)] at HPL
    go_wp2_with fail
    go_ret2
    rw [PathPost, HPL.out, HO.out]
    exact ⟨none, 0, rfl, Kd.C_nil _ _, Nat.le_refl _, HB0.out⟩
  have t8 : decide (8 < (n : Int)) = false := decide_eq_false (by omega)
  rw [decide_eq_true h8, Bool.true_and] at HO
  go_wp2_with fail
  go_loopw [16] (fun v16 wr => ∃ j : Nat, j ≤ n ∧ v16 = .int .i64 j ∧ Aside0 (Below w1.heap.size w1 wr) ∧ Aside0 (ps.all plainV = (ps.drop j).all plainV)) (fun v16 _ => n - (intOf v16).toNat)
  case atStart => exact ⟨0, by omega, rfl, ⟨Below.refl _ _⟩, ⟨by rw [List.drop_zero]⟩⟩
  case round =>
    obtain ⟨j, hj, rfl, HB, HF⟩ := hrel
    by_cases hlt : j < n
    · have t1 : decide (j < n) = true := decide_eq_true hlt
      obtain ⟨ad, hA, hcell⟩ := Kd.at_string (Kd.C_below HC0.out HB.out) (j : Int) (by omega) (by omega)
      subst hA
      have hjm : j < ps.length := by rw [← HN.out]; exact hlt
      have hrd : rdOf ByteArray.empty ps (j : Int) = ps[j]'hjm := by simp [rdOf, hjm]
      rw [hrd, Int.toNat_natCast] at hcell
      have HD : Aside0 (ps.drop j = ps[j]'hjm :: ps.drop (j + 1)) := ⟨List.drop_eq_getElem_cons hjm⟩
      have hz := HSM.out _ (List.getElem_mem hjm)
      generalize ps[j]'hjm = p at hcell HD hz
      have HT2 := Aside0.mk (Utf8Tabs_below HT1.out HB.out)
      clear hrd
      go_wp2_with fail
      refine (courierref03_Plain.calls p _ (by omega) HT2.out).mono ?_
      rintro e w2 ⟨rfl, hb⟩
      have HB2 := Aside0.mk (below_step HB.out hb)
      clear hb
      have HFB : Aside0 (ps.all plainV = (plainV p && (ps.drop (j + 1)).all plainV)) := ⟨by rw [HF.out, HD.out, List.all_cons]⟩
      generalize plainV p = b at *
      cases b with
      | false =>
        rw [Bool.false_and] at HFB
        rw [HFB.out] at HO
        rw [HO.out, if_neg (by decide)] at HPL
        go_wp2_with fail
        go_ret2
        rw [PathPost, HPL.out, HO.out]
        exact ⟨none, 0, rfl, Kd.C_nil _ _, Nat.le_refl _, below_step HB0.out HB2.out⟩
      | true =>
        rw [Bool.true_and] at HFB
        go_wp2_with fail
        go_roundw
        case rel => exact ⟨j + 1, by omega, by go_num, HB2, HFB⟩
        case measure => simp [intOf]; omega
    · have t1 : decide (j < n) = false := decide_eq_false hlt
      have hall : ps.all plainV = true := by rw [HF.out, List.drop_eq_nil_of_le (by rw [← HN.out]; omega)]; rfl
      rw [hall] at HO
      rw [HO.out, if_pos rfl] at HPL
      have HCW := Aside0.mk (Kd.C_below HC0.out HB.out)
      clear hall
      go_wp2_with fail
      go_ret2
      rw [PathPost, HPL.out, HO.out, ← HN.out]
      exact ⟨A, c, rfl, HCW.out, HLC.out, below_step HB0.out HB.out⟩
end Go.Proofs.YtknbhbppofphpaaGreatDoor.X
