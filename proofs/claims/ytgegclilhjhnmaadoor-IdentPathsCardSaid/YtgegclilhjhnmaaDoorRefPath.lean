/- The reference's Path: of any text of at most 10^6 bytes the same as the program's; and the law IdentPaths walked. -/
import Derived.Test.YtgegclilhjhnmaaDoorX58
import Derived.Test.YtgegclilhjhnmaaDoorX61
import Derived.Test.YtgegclilhjhnmaaDoorPath
set_option linter.unusedVariables false
set_option linter.unusedSimpArgs false
namespace Go.Proofs.YtgegclilhjhnmaaDoor.X
open Go.RowKit Go.Shelf Go.Proofs.YtgegclilhjhnmaaDoorW.PrintWords Go.Proofs.YtgegclilhjhnmaaDoorW.PrintLast Go.Proofs.YtgegclilhjhnmaaDoorW.PrintMore
set_option maxHeartbeats 4000000 in
set_option maxRecDepth 100000 in
theorem courierref03_Path.calls (s : ByteArray) (w : World) (hs : s.size ≤ 1000000) (hT : Lib.Utf8Tabs (Tryd.lays196_ren.g 3) (Tryd.lays196_ren.g 4) w) :
    Calls Tryd.prog 24 #[.string s] w (PathPost s w) := by
  have HT := Aside0.mk hT
  have HPF := Aside0.mk (pieces_f s hs)
  have hsm := pieces_small s
  obtain ⟨ps, hps⟩ : ∃ ps, ps = (piecesL s.data.toList).map txt8 := ⟨_, rfl⟩
  have hl2 : (piecesL s.data.toList).length = ps.length := by rw [hps, List.length_map]
  have HO : Aside0 (pathOk s = (decide (ps.length ≤ 8) && ps.all plainV)) := ⟨by unfold pathOk; rw [hl2, ← hps]⟩
  have HPL : Aside0 (pathL s = if pathOk s = true then ps else []) := ⟨by unfold pathL; rw [← hps]⟩
  rw [← hps] at HPF hsm
  rw [hl2] at hsm
  have HSM := Aside0.mk hsm.2
  have hn1 := hsm.1
  have HPS := Aside0.mk (path_size (s := s))
  clear hT hps hl2 hsm
  go_enter Tryd.func24, Tryd.ntmps24
  by_cases h2000 : 2000 < s.size
  · have t0 : decide (2000 < (s.size : Int)) = true := decide_eq_true (by omega)
    have t0n : decide (2000 < s.size) = true := decide_eq_true h2000
    have hok : pathOk s = false := by
      cases h : pathOk s with
      | false => rfl
      | true => have := HPS.out h; omega
    have HOK := Aside0.mk hok
    have HPL2 : Aside0 (pathL s = []) := ⟨by rw [HPL.out, hok]; rfl⟩
    clear hok
    go_wp2_with fail
    go_ret2
    rw [PathPost, HPL2.out, HOK.out]
    exact ⟨none, 0, rfl, Kd.C_nil _ _, Nat.le_refl _, Below.refl _ _⟩
  have t0 : decide (2000 < (s.size : Int)) = false := decide_eq_false (by omega)
  have t0n : decide (2000 < s.size) = false := decide_eq_false h2000
  go_wp2_with fail
  refine (courierref03_Pieces.calls _ s ps _ HPF.out).mono ?_
  rintro e w1 ⟨v, rfl, hR, hb⟩
  obtain ⟨A, c, rfl⟩ := Kd.R_slice hR
  have hR2 := Kd.R_reads' hR
  have HC0 := Aside0.mk hR2.2.2
  have HLC := Aside0.mk hR2.2.1
  have HB0 := Aside0.mk hb
  have HT1 := Aside0.mk (Utf8Tabs_below HT.out hb)
  obtain ⟨n, hn⟩ : ∃ n, n = ps.length := ⟨_, rfl⟩
  rw [← hn] at hn1 HO HC0 HLC ⊢
  have HN := Aside0.mk hn
  clear hR hR2 hb hn
  by_cases h8 : n ≤ 8
  rotate_left
  · have t8 : decide (8 < (n : Int)) = true := decide_eq_true (by omega)
    rw [decide_eq_false h8, Bool.false_and] at HO
    rw [HO.out, if_neg (by decide)] at HPL
    go_wp2_with fail
    go_ret2
    rw [PathPost, HPL.out, HO.out]
    exact ⟨none, 0, rfl, Kd.C_nil _ _, Nat.le_refl _, HB0.out⟩
  have t8 : decide (8 < (n : Int)) = false := decide_eq_false (by omega)
  rw [decide_eq_true h8, Bool.true_and] at HO
  go_wp2_with fail
  go_loopw [16] (fun v16 wr => ∃ j : Nat, j ≤ n ∧ v16 = .int .i64 j ∧ Aside0 (Below w1.heap.size w1 wr) ∧ Aside0 (ps.all plainV = (ps.drop j).all plainV)) (fun v16 _ => n - (intOf v16).toNat)
  case atStart => exact ⟨0, by omega, rfl, ⟨Below.refl _ _⟩, ⟨by rw [List.drop_zero]⟩⟩
  case round =>
    obtain ⟨j, hj, rfl, HB, HF⟩ := hrel
    by_cases hlt : j < n
    · have t1 : decide (j < n) = true := decide_eq_true hlt
      obtain ⟨ad, hA, hcell⟩ := Kd.at_string (Kd.C_below HC0.out HB.out) (j : Int) (by omega) (by omega)
      subst hA
      have hjm : j < ps.length := by rw [← HN.out]; exact hlt
      have hrd : rdOf ByteArray.empty ps (j : Int) = ps[j]'hjm := by simp [rdOf, hjm]
      rw [hrd, Int.toNat_natCast] at hcell
      have HD : Aside0 (ps.drop j = ps[j]'hjm :: ps.drop (j + 1)) := ⟨List.drop_eq_getElem_cons hjm⟩
      have hz := HSM.out _ (List.getElem_mem hjm)
      generalize ps[j]'hjm = p at hcell HD hz
      have HT2 := Aside0.mk (Utf8Tabs_below HT1.out HB.out)
      clear hrd
      go_wp2_with fail
      refine (courierref03_Plain.calls p _ (by omega) HT2.out).mono ?_
      rintro e w2 ⟨rfl, hb⟩
      have HB2 := Aside0.mk (below_step HB.out hb)
      clear hb
      have HFB : Aside0 (ps.all plainV = (plainV p && (ps.drop (j + 1)).all plainV)) := ⟨by rw [HF.out, HD.out, List.all_cons]⟩
      generalize plainV p = b at *
      cases b with
      | false =>
        rw [Bool.false_and] at HFB
        rw [HFB.out] at HO
        rw [HO.out, if_neg (by decide)] at HPL
        go_wp2_with fail
        go_ret2
        rw [PathPost, HPL.out, HO.out]
        exact ⟨none, 0, rfl, Kd.C_nil _ _, Nat.le_refl _, below_step HB0.out HB2.out⟩
      | true =>
        rw [Bool.true_and] at HFB
        go_wp2_with fail
        go_roundw
        case rel => exact ⟨j + 1, by omega, by go_num, HB2, HFB⟩
        case measure => simp [intOf]; omega
    · have t1 : decide (j < n) = false := decide_eq_false hlt
      have hall : ps.all plainV = true := by rw [HF.out, List.drop_eq_nil_of_le (by rw [← HN.out]; omega)]; rfl
      rw [hall] at HO
      rw [HO.out, if_pos rfl] at HPL
      have HCW := Aside0.mk (Kd.C_below HC0.out HB.out)
      clear hall
      go_wp2_with fail
      go_ret2
      rw [PathPost, HPL.out, HO.out, ← HN.out]
      exact ⟨A, c, rfl, HCW.out, HLC.out, below_step HB0.out HB.out⟩
theorem same_loop (l : List ByteArray) (hl : l.length ≤ 1000000000) : ∀ (m j : Nat), j + m = l.length → courierlaw03_same.l0 (m + 1) l l (l.length : Int) (j : Int) = some true
  | 0, j, h => by rw [courierlaw03_same.l0, if_neg (by omega)]
  | m + 1, j, h => by
    have hw : wrap64 ((j : Int) + 1) = ((j + 1 : Nat) : Int) := by unfold wrap64; omega
    rw [courierlaw03_same.l0, if_pos (by omega), if_pos (by omega), if_pos (by omega), if_pos (by omega), if_pos rfl, hw]
    exact same_loop l hl m (j + 1) (by omega)
theorem same_self (l : List ByteArray) (hl : l.length ≤ 1000000000) : courierlaw03_same.f (l.length + 1) l l = some true := by
  unfold courierlaw03_same.f
  rw [if_pos rfl]
  exact same_loop l hl l.length 0 (by omega)
theorem path_facts (s : ByteArray) : (pathL s).length ≤ 8 ∧ (pathOk s = true → joinL ((pathL s).map fun b => b.data.toList) = s.data.toList) ∧ (pathOk s = false → pathL s = []) ∧ ∀ p ∈ pathL s, p.size ≤ s.size := by
  refine ⟨?_, fun h => ?_, fun h => ?_, fun p hp => ?_⟩
  · unfold pathL
    by_cases h : pathOk s = true
    · rw [if_pos h, List.length_map]
      unfold pathOk at h
      rw [Bool.and_eq_true, decide_eq_true_eq] at h
      exact h.1
    · rw [if_neg h]; simp
  · unfold pathL
    rw [if_pos h, List.map_map]
    have e : ((fun b : ByteArray => b.data.toList) ∘ txt8) = id := funext fun l => txt8_data l
    rw [e, List.map_id, join_pieces]
  · unfold pathL
    rw [h]; rfl
  · unfold pathL at hp
    by_cases h : pathOk s = true
    · rw [if_pos h] at hp
      exact (pieces_small s).2 p hp
    · rw [if_neg h] at hp; cases hp
def bytesL (l : List ByteArray) : List (List UInt8) := l.map fun b => b.data.toList
set_option maxHeartbeats 4000000 in
set_option maxRecDepth 100000 in
theorem identPaths.calls (s : ByteArray) (m : Int) (w : World) (hT : Lib.Utf8Tabs (Tryd.lays196_ren.g 3) (Tryd.lays196_ren.g 4) w) (hm : w.cell? ⟨Tryd.lays146_ren.g 2, 0, none⟩ = some (.int .i64 m)) :
    Calls Tryd.prog 7 #[.string s] w fun e w' => e = .returned (.bool true) ∧ Below w.heap.size w w' := by
  have HT := Aside0.mk hT
  have HM := Aside0.mk hm
  clear hT hm
  go_enter Tryd.func7, Tryd.ntmps7
  go_wp2_with fail
  refine (awake03.calls _).mono ?_
  rintro e w1 ⟨rfl, hb⟩
  have HB1 := Aside0.mk hb
  clear hb
  go_wp2_with fail
  refine (courierlaw03_few.calls 3 (some ⟨w1.heap.size, 0, none⟩) 1 [s] _ _ (one_C s) (by simp) (few_one s)).mono ?_
  rintro e w' ⟨rfl, ⟨nd, rfl⟩⟩
  have HB2 := Aside0.mk (pw_below_drewN (below_alloc HB1.out (.cells #[.string s] 9)) nd)
  obtain ⟨W, hW⟩ : ∃ W, W = (w1.alloc (.cells #[.string s] 9)).drewN nd := ⟨_, rfl⟩
  rw [← hW] at HB2 ⊢
  clear hW HB1
  by_cases hs : s.size ≤ 3000
  rotate_left
  · rw [decide_eq_false hs]
    go_wp2_with fail
    refine (awake03.calls _).mono ?_
    rintro e w2 ⟨rfl, hb⟩
    have HB3 := Aside0.mk (below_step HB2.out hb)
    clear hb
    go_wp2_with fail
    go_ret
    exact ⟨rfl, HB3.out⟩
  rw [decide_eq_true hs]
  have HT2 := Aside0.mk (Utf8Tabs_below HT.out HB2.out)
  have HM2 := Aside0.mk (pw_cell_below HB2.out HM.out)
  go_wp2_with fail
  refine (ident_Path.calls s m W (by omega) HM2.out).mono ?_
  rintro e w3 ⟨A, c, rfl, hC, hc, hb⟩
  have HB3 := Aside0.mk (below_step HB2.out hb)
  have HT3 := Aside0.mk (Utf8Tabs_below HT2.out hb)
  have HCA := Aside0.mk hC
  have HLA := Aside0.mk hc
  clear hb hC hc HB2 HT2 HM2 HM HT
  go_wp2_with fail
  refine (courierref03_Path.calls s w3 (by omega) HT3.out).mono ?_
  rintro e w4 ⟨A2, c2, rfl, hC, hc, hb⟩
  have HB4 := Aside0.mk (below_step HB3.out hb)
  have HCB := Aside0.mk hC
  have HLB := Aside0.mk hc
  have HCC := Aside0.mk (Kd.C_below HCA.out hb)
  clear hb hC hc HB3 HT3 HCA
  have hf := path_facts s
  obtain ⟨l, hl⟩ : ∃ l, l = pathL s := ⟨_, rfl⟩
  rw [← hl] at hf HCB HLB HCC HLA ⊢
  obtain ⟨ok, hok⟩ : ∃ ok, ok = pathOk s := ⟨_, rfl⟩
  rw [← hok] at hf ⊢
  have HF1 := Aside0.mk hf.2.1
  have HF2 := Aside0.mk hf.2.2.1
  have HF3 := Aside0.mk hf.2.2.2
  have h8 := hf.1
  obtain ⟨n, hn⟩ : ∃ n, n = l.length := ⟨_, rfl⟩
  have HS := Aside0.mk (same_self l (by omega))
  have HCC2 := HCC
  have HLA2 := HLA
  rw [← hn] at h8 HCC HLA ⊢
  have HN := Aside0.mk hn
  clear hn hf hl hok
  have t2 : (ok == ok) = true := beq_self_eq_true ok
  go_wp2_with fail
  go_loopw [7, 30] (fun v7 v30 wr => ∃ (j : Nat) (X : ByteArray), j ≤ n ∧ v7 = .string X ∧ v30 = .int .i64 j ∧ Aside0 (Below w4.heap.size w4 wr) ∧ X.size ≤ 4000 * j ∧ Aside0 (X.data.toList = joinL (bytesL (l.take j)))) (fun _ v30 _ => n - (intOf v30).toNat)
  case atStart => exact ⟨0, ⟨#[]⟩, by omega, rfl, rfl, ⟨Below.refl _ _⟩, by decide, ⟨rfl⟩⟩
  case round =>
    obtain ⟨j, X, hj, rfl, rfl, HB, hX, HJ⟩ := hrel
    by_cases hlt : j < n
    · have t1 : decide (j < n) = true := decide_eq_true hlt
      obtain ⟨ad, hA, hcell⟩ := Kd.at_string (Kd.C_below HCC.out HB.out) (j : Int) (by omega) (by omega)
      subst hA
      have hjm : j < l.length := by rw [← HN.out]; exact hlt
      have hrd : rdOf ByteArray.empty l (j : Int) = l[j]'hjm := by simp [rdOf, hjm]
      rw [hrd, Int.toNat_natCast] at hcell
      have HD : Aside0 (l.take (j + 1) = l.take j ++ [l[j]'hjm]) := ⟨List.take_succ_eq_append_getElem hjm⟩
      have hz := HF3.out _ (List.getElem_mem hjm)
      generalize l[j]'hjm = p at hcell HD hz
      clear hrd
      by_cases h0 : j = 0
      · have tp : decide (0 < (j : Int)) = false := decide_eq_false (by omega)
        have tpn : decide (0 < j) = false := decide_eq_false (by omega)
        have HJ2 : Aside0 ((X ++ p).data.toList = joinL (bytesL (l.take (j + 1)))) := ⟨by
          rw [HD.out, ByteArray.data_append, Array.toList_append, HJ.out, h0]
          simp [bytesL, joinL]⟩
        clear h0
        go_wp2_with fail
        go_roundw
        case rel => exact ⟨j + 1, X ++ p, by omega, rfl, by go_num, HB, by rw [ByteArray.size_append]; omega, HJ2⟩
        case measure => simp [intOf]; omega
      · have tp : decide (0 < (j : Int)) = true := decide_eq_true (by omega)
        have tpn : decide (0 < j) = true := decide_eq_true (by omega)
        have k1 : (9223372036854775807 < X.size + 1) = False := eq_false (by omega)
        have k2 : (9223372036854775807 < X.size + 1 + p.size) = False := eq_false (by omega)
        have HJ2 : Aside0 ((X ++ ⟨#[46]⟩ ++ p).data.toList = joinL (bytesL (l.take (j + 1)))) := ⟨by
          have hne : bytesL (l.take j) ≠ [] := by
            intro e
            have h1 := congrArg List.length e
            rw [bytesL, List.length_map, List.length_take, List.length_nil] at h1
            omega
          have e : bytesL (l.take (j + 1)) = bytesL (l.take j) ++ [p.data.toList] := by rw [HD.out]; simp [bytesL]
          rw [e, joinL_snoc _ _ hne, ← HJ.out, ByteArray.data_append, ByteArray.data_append, Array.toList_append, Array.toList_append, List.append_assoc]
          rfl⟩
        clear h0
        go_wp2_with fail
        go_roundw
        case rel => exact ⟨j + 1, X ++ ⟨#[46]⟩ ++ p, by omega, rfl, by go_num, HB, by rw [ByteArray.size_append, ByteArray.size_append]; have h1 : (⟨#[46]⟩ : ByteArray).size = 1 := rfl; omega, HJ2⟩
        case measure => simp [intOf]; omega
    · have t1 : decide (j < n) = false := decide_eq_false hlt
      have HX : Aside0 (ok = true → X = s) := ⟨fun h => by
        have h1 := HF1.out h
        have h2 := HJ.out
        rw [List.take_of_length_le (by rw [← HN.out]; omega)] at h2
        rw [← txt8_of X, h2, ← txt8_of s, ← h1]
        rfl⟩
      have hcall : Calls Tryd.prog 25 #[.slice A n c, .slice A2 n c2] wr (fun e w' => e = .returned (.bool true) ∧ Drawn0 wr w') := by
        rw [HN.out]
        exact courierlaw03_same.calls _ A c l A2 c2 l true wr (Kd.C_below HCC2.out HB.out) HLA2.out (Kd.C_below HCB.out HB.out) HLB.out HS.out
      have HCALL := Aside0.mk hcall
      clear hcall
      go_wp2_with fail
      refine HCALL.out.mono ?_
      rintro e w' ⟨rfl, ⟨nd, rfl⟩⟩
      clear HCALL
      cases ok with
      | false =>
        go_wp2_with fail
        go_ret
        exact ⟨rfl, pw_below_drewN (below_step HB4.out HB.out) _⟩
      | true =>
        obtain rfl := HX.out rfl
        go_wp2_with fail
        go_ret
        exact ⟨rfl, pw_below_drewN (below_step HB4.out HB.out) _⟩
end Go.Proofs.YtgegclilhjhnmaaDoor.X
