/- The reference's small form: of any text the same as the program's; texts of at most 2^43 bytes; utf8's two tables as they are laid. -/
import Derived.Test.YtgegclilhjhnmaaDoorConv03
set_option linter.unusedVariables false
set_option linter.unusedSimpArgs false
namespace Go.Proofs.YtgegclilhjhnmaaDoor.X
open Go.RowKit Go.Shelf Go.Proofs.YtgegclilhjhnmaaDoorW.PrintWords Go.Proofs.YtgegclilhjhnmaaDoorW.PrintLast Go.Proofs.YtgegclilhjhnmaaDoorW.PrintMore
set_option maxHeartbeats 4000000 in
set_option maxRecDepth 100000 in
theorem courierref03_Snake.calls (s : ByteArray) (w : World) (hs : s.size ≤ 8796093022208) (hT : Lib.Utf8Tabs (Tryd.lays196_ren.g 3) (Tryd.lays196_ren.g 4) w) :
    Calls Tryd.prog 22 #[.string s] w fun e w' => e = .returned (.string ⟨(snakeV s).toArray⟩) ∧ Below w.heap.size w w' := by
  have hcv := fun w1 => conv_in w1 s (by omega)
  have HCV := Aside0.mk hcv
  clear hcv
  go_enter Tryd.func22, Tryd.ntmps22
  go_wp2_with fail
  refine (courierref03_Name.calls s _ (by omega) hT).mono ?_
  rintro e w1 ⟨rfl, hb1⟩
  clear hT
  by_cases hnm : nameV (runesOf s) = true
  rotate_left
  · have HV : Aside0 (snakeV s = []) := ⟨by unfold snakeV; rw [if_neg hnm]⟩
    rw [Bool.eq_false_iff.mpr hnm]
    go_wp2
    go_ret
    exact ⟨by rw [HV.out]; rfl, hb1⟩
  have HNm := Aside0.mk hnm
  rw [hnm]
  have HB1 := Aside0.mk hb1
  clear hb1 hnm
  obtain ⟨cap, W, hrun, hC0, hcap, hbW⟩ := HCV.out w1
  have HC := Aside0.mk hC0
  have HBW := Aside0.mk (below_step HB1.out hbW)
  have HLE := Aside0.mk (runesOf_le s)
  have HSS := Aside0.mk hs
  clear hC0 hcap hbW HCV hs
  obtain ⟨M, hM⟩ : ∃ M, M = runesOf s := ⟨_, rfl⟩
  rw [← hM] at hrun HC HNm HLE
  have HM := Aside0.mk hM
  clear hM
  obtain ⟨n, hn⟩ : ∃ n, n = M.length := ⟨_, rfl⟩
  rw [← hn] at hrun HC HLE
  have HN := Aside0.mk hn
  clear hn
  have hb2 := Below.refl W.heap.size W
  have HB2 := Aside0.mk hb2
  clear hb2
  have hnb : n ≤ 8796093022208 := by have h1 := HLE.out; have h3 := HSS.out; omega
  generalize (some (⟨w1.heap.size, 0, none⟩ : Addr)) = A at hrun HC
  go_wp2_with fail
  go_loopw [3, 14] (fun v3 v14 wr => ∃ (j : Nat) (acc : List Nat), j ≤ n ∧ v14 = .int .i64 j ∧ Aside0 (Kd.R (Kd.int .i32) 21 wr W.heap.size (fun _ => True) v3 (ints acc)) ∧ Aside0 (Below W.heap.size W wr) ∧ Aside0 (acc.length ≤ 2 * j) ∧ Aside0 (acc ++ snakeR (decide (j = 0)) (M.drop j) = snakeR true M)) (fun _ v14 _ => n - (intOf v14).toNat)
  case atStart => exact ⟨0, [], by omega, rfl, ⟨Kd.R_nil _ _ _ _ _⟩, HB2, ⟨Nat.le_refl _⟩, ⟨rfl⟩⟩
  case round =>
    clear HB2
    obtain ⟨j, acc, hj, rfl, HO2, HB2, HAL, HA⟩ := hrel
    by_cases hlt : j < n
    · have t1 : decide (j < n) = true := decide_eq_true hlt
      obtain ⟨ad, hA, hcell⟩ := Kd.at_int (Kd.C_below HC.out HB2.out) (j : Int) (by omega) (by omega)
      subst hA
      have hjm : j < M.length := by have := HN.out; omega
      rw [ints_at hjm, Int.toNat_natCast] at hcell
      have HD : Aside0 (M.drop j = M[j]'hjm :: M.drop (j + 1)) := ⟨List.drop_eq_getElem_cons hjm⟩
      have hin : insideV (M[j]'hjm) = true := (nameV_all HNm.out).1 _ (List.getElem_mem hjm)
      have hsm := inside_small hin
      generalize M[j]'hjm = x at hcell HD hsm
      have hj1 : decide (j + 1 = 0) = false := decide_eq_false (by omega)
      clear hin
      by_cases h65 : 65 ≤ x
      · have t65 : decide (65 ≤ (x : Int)) = true := decide_eq_true (by omega)
        by_cases h90 : x ≤ 90
        · have t90 : decide ((x : Int) ≤ 90) = true := decide_eq_true (by omega)
          have hw1 : IntKind.i32.wrap ((x : Int) + 32) = (x : Int) + 32 := by rw [IntKind.wrap_i32]; omega
          have hw2 : wrap32 ((x : Int) + 32) = (x : Int) + 32 := by unfold wrap32; omega
          by_cases hp0 : j = 0
          · have tp : decide (0 < (j : Int)) = false := decide_eq_false (by omega)
            have tpn : decide (0 < j) = false := decide_eq_false (by omega)
            have HP0 := Aside0.mk hp0
            clear hp0
            have hln : acc.length < 35184372088832 := by have h1 := HAL.out; have h2 := HLE.out; have h3 := HSS.out; simp; omega
            have HLN := Aside0.mk hln
            clear hln
            go_wp2_with (first | ((with_reducible refine gate_builtin (b := .append) (xs := #[.tmp 34, .tmp 36]) rfl ?_); at_builtin; refine Kd.R_append (Kd.int .i32) (w0 := W) W.heap.size rfl (.tmp 34) (.tmp 36) 28 21 (.int .i32 0) 4 rfl Tryd.underlying28 infoRune rfl (by decide) (by omega) _ (ints acc) ((x : Int) + 32) [.int .i32 ((x : Int) + 32)] (fun _ => True) (fun _ => False) rfl rfl ?aP (fun _ hk => hk.elim) ?aF ?aO ?aB ?aS ?aL ?_; (case aP => exact rfl); (case aB => exact (by repeat (first | (with_reducible first | exact HB2.out | apply below_alloc | apply pw_below_drewN | apply below_drew1) | exact HB2.out))); (case aF => exact (fun _ _ => trivial)); (case aO => exact (by (with_reducible repeat (first | apply Kd.R_alloc | apply Kd.R_drewN | apply Kd.R_drew)); exact HO2.out)); (case aS => exact (below_size (by repeat (first | (with_reducible first | exact HB2.out | apply below_alloc | apply pw_below_drewN | apply below_drew1) | exact HB2.out)))); (case aL => have := HLN.out; rw [ints_length]; omega); intro v3_ w9 ho hb hg hat))
            have HO3 : Aside0 (Kd.R (Kd.int .i32) 21 w9 W.heap.size (fun _ => True) v3_ (ints (acc ++ [(x + 32)]))) := ⟨by rw [ints_append, ints_one]; rw [show ((x + 32 : Nat) : Int) = (x : Int) + 32 by omega]; exact ho⟩
            have HB3 := Aside0.mk hb
            clear ho hb hg hat HO2 HB2
            go_wp2_with fail
            go_roundw
            case rel => exact ⟨j + 1, acc ++ [(x + 32)], by omega, by go_num, HO3, HB3, ⟨by have := HAL.out; simp; omega⟩, ⟨by rw [← HA.out, HD.out, snakeR, if_pos ⟨h65, h90⟩, if_pos (decide_eq_true HP0.out), hj1]; simp⟩⟩
            case measure => simp [intOf]; omega
          · have tp : decide (0 < (j : Int)) = true := decide_eq_true (by omega)
            have tpn : decide (0 < j) = true := decide_eq_true (by omega)
            have hln0 : acc.length < 35184372088832 := by have h1 := HAL.out; have h2 := HLE.out; have h3 := HSS.out; omega
            have HLN0 := Aside0.mk hln0
            clear hln0
            have hln : (acc ++ [95]).length < 35184372088832 := by have h1 := HAL.out; have h2 := HLE.out; have h3 := HSS.out; simp; omega
            have HLN := Aside0.mk hln
            clear hln
            go_wp2_with (first | (((with_reducible refine gate_builtin (b := .append) (xs := #[.tmp 29, .tmp 30]) rfl ?_); at_builtin; refine Kd.R_append (Kd.int .i32) (w0 := W) W.heap.size rfl (.tmp 29) (.tmp 30) 28 21 (.int .i32 0) 4 rfl Tryd.underlying28 infoRune rfl (by decide) (by omega) _ (ints acc) (95) [.int .i32 (95)] (fun _ => True) (fun _ => False) rfl rfl ?aP (fun _ hk => hk.elim) ?aF ?aO ?aB ?aS ?aL ?_; (case aP => exact rfl); (case aB => exact (by repeat (first | (with_reducible first | exact HB2.out | apply below_alloc | apply pw_below_drewN | apply below_drew1) | exact HB2.out))); (case aF => exact (fun _ _ => trivial)); (case aO => exact (by (with_reducible repeat (first | apply Kd.R_alloc | apply Kd.R_drewN | apply Kd.R_drew)); exact HO2.out)); (case aS => exact (below_size (by repeat (first | (with_reducible first | exact HB2.out | apply below_alloc | apply pw_below_drewN | apply below_drew1) | exact HB2.out)))); (case aL => have := HLN0.out; rw [ints_length]; omega); intro v0_ w8 ho hb hg hat); have HO0 : Aside0 (Kd.R (Kd.int .i32) 21 w8 W.heap.size (fun _ => True) v0_ (ints (acc ++ [95]))) := ⟨by rw [ints_append]; exact ho⟩; have HB0 := Aside0.mk hb; clear ho hb hg hat HO2 HB2) | ((with_reducible refine gate_builtin (b := .append) (xs := #[.tmp 34, .tmp 36]) rfl ?_); at_builtin; refine Kd.R_append (Kd.int .i32) (w0 := W) W.heap.size rfl (.tmp 34) (.tmp 36) 28 21 (.int .i32 0) 4 rfl Tryd.underlying28 infoRune rfl (by decide) (by omega) _ (ints (acc ++ [95])) ((x : Int) + 32) [.int .i32 ((x : Int) + 32)] (fun _ => True) (fun _ => False) rfl rfl ?aP (fun _ hk => hk.elim) ?aF ?aO ?aB ?aS ?aL ?_; (case aP => exact rfl); (case aB => exact (by repeat (first | (with_reducible first | exact HB0.out | apply below_alloc | apply pw_below_drewN | apply below_drew1) | exact HB0.out))); (case aF => exact (fun _ _ => trivial)); (case aO => exact (by (with_reducible repeat (first | apply Kd.R_alloc | apply Kd.R_drewN | apply Kd.R_drew)); exact HO0.out)); (case aS => exact (below_size (by repeat (first | (with_reducible first | exact HB0.out | apply below_alloc | apply pw_below_drewN | apply below_drew1) | exact HB0.out)))); (case aL => have := HLN.out; rw [ints_length]; omega); intro v3_ w9 ho hb hg hat))
            have HO3 : Aside0 (Kd.R (Kd.int .i32) 21 w9 W.heap.size (fun _ => True) v3_ (ints ((acc ++ [95]) ++ [(x + 32)]))) := ⟨by rw [ints_append, ints_one]; rw [show ((x + 32 : Nat) : Int) = (x : Int) + 32 by omega]; exact ho⟩
            have HB3 := Aside0.mk hb
            clear ho hb hg hat HO0 HB0
            go_wp2_with fail
            go_roundw
            case rel => exact ⟨j + 1, (acc ++ [95]) ++ [(x + 32)], by omega, by go_num, HO3, HB3, ⟨by have := HAL.out; simp; omega⟩, ⟨by rw [← HA.out, HD.out, snakeR, if_pos ⟨h65, h90⟩, if_neg (by simp [hp0]), hj1]; simp⟩⟩
            case measure => simp [intOf]; omega
        · have t90 : decide ((x : Int) ≤ 90) = false := decide_eq_false (by omega)
          have hln : acc.length < 35184372088832 := by have h1 := HAL.out; have h2 := HLE.out; have h3 := HSS.out; simp; omega
          have HLN := Aside0.mk hln
          clear hln
          go_wp2_with (first | ((with_reducible refine gate_builtin (b := .append) (xs := #[.tmp 34, .tmp 36]) rfl ?_); at_builtin; refine Kd.R_append (Kd.int .i32) (w0 := W) W.heap.size rfl (.tmp 34) (.tmp 36) 28 21 (.int .i32 0) 4 rfl Tryd.underlying28 infoRune rfl (by decide) (by omega) _ (ints acc) ((x : Int)) [.int .i32 ((x : Int))] (fun _ => True) (fun _ => False) rfl rfl ?aP (fun _ hk => hk.elim) ?aF ?aO ?aB ?aS ?aL ?_; (case aP => exact rfl); (case aB => exact (by repeat (first | (with_reducible first | exact HB2.out | apply below_alloc | apply pw_below_drewN | apply below_drew1) | exact HB2.out))); (case aF => exact (fun _ _ => trivial)); (case aO => exact (by (with_reducible repeat (first | apply Kd.R_alloc | apply Kd.R_drewN | apply Kd.R_drew)); exact HO2.out)); (case aS => exact (below_size (by repeat (first | (with_reducible first | exact HB2.out | apply below_alloc | apply pw_below_drewN | apply below_drew1) | exact HB2.out)))); (case aL => have := HLN.out; rw [ints_length]; omega); intro v3_ w9 ho hb hg hat))
          have HO3 : Aside0 (Kd.R (Kd.int .i32) 21 w9 W.heap.size (fun _ => True) v3_ (ints (acc ++ [x]))) := ⟨by rw [ints_append, ints_one]; exact ho⟩
          have HB3 := Aside0.mk hb
          clear ho hb hg hat HO2 HB2
          go_wp2_with fail
          go_roundw
          case rel => exact ⟨j + 1, acc ++ [x], by omega, by go_num, HO3, HB3, ⟨by have := HAL.out; simp; omega⟩, ⟨by rw [← HA.out, HD.out, snakeR, if_neg (fun h => h90 h.2), hj1]; simp⟩⟩
          case measure => simp [intOf]; omega
      · have t65 : decide (65 ≤ (x : Int)) = false := decide_eq_false (by omega)
        have hln : acc.length < 35184372088832 := by have h1 := HAL.out; have h2 := HLE.out; have h3 := HSS.out; simp; omega
        have HLN := Aside0.mk hln
        clear hln
        go_wp2_with (first | ((with_reducible refine gate_builtin (b := .append) (xs := #[.tmp 34, .tmp 36]) rfl ?_); at_builtin; refine Kd.R_append (Kd.int .i32) (w0 := W) W.heap.size rfl (.tmp 34) (.tmp 36) 28 21 (.int .i32 0) 4 rfl Tryd.underlying28 infoRune rfl (by decide) (by omega) _ (ints acc) ((x : Int)) [.int .i32 ((x : Int))] (fun _ => True) (fun _ => False) rfl rfl ?aP (fun _ hk => hk.elim) ?aF ?aO ?aB ?aS ?aL ?_; (case aP => exact rfl); (case aB => exact (by repeat (first | (with_reducible first | exact HB2.out | apply below_alloc | apply pw_below_drewN | apply below_drew1) | exact HB2.out))); (case aF => exact (fun _ _ => trivial)); (case aO => exact (by (with_reducible repeat (first | apply Kd.R_alloc | apply Kd.R_drewN | apply Kd.R_drew)); exact HO2.out)); (case aS => exact (below_size (by repeat (first | (with_reducible first | exact HB2.out | apply below_alloc | apply pw_below_drewN | apply below_drew1) | exact HB2.out)))); (case aL => have := HLN.out; rw [ints_length]; omega); intro v3_ w9 ho hb hg hat))
        have HO3 : Aside0 (Kd.R (Kd.int .i32) 21 w9 W.heap.size (fun _ => True) v3_ (ints (acc ++ [x]))) := ⟨by rw [ints_append, ints_one]; exact ho⟩
        have HB3 := Aside0.mk hb
        clear ho hb hg hat HO2 HB2
        go_wp2_with fail
        go_roundw
        case rel => exact ⟨j + 1, acc ++ [x], by omega, by go_num, HO3, HB3, ⟨by have := HAL.out; simp; omega⟩, ⟨by rw [← HA.out, HD.out, snakeR, if_neg (fun h => h65 h.1), hj1]; simp⟩⟩
        case measure => simp [intOf]; omega
    · have t1 : decide (j < n) = false := decide_eq_false hlt
      obtain ⟨A3, c3, rfl⟩ := Kd.R_slice HO2.out
      have hr := (Kd.R_reads' HO2.out).2.2
      have hout := conv_out (c := c3) hr
      have HV : Aside0 (acc = snakeR true M) := ⟨by rw [← HA.out, List.drop_eq_nil_of_le (by have := HN.out; omega), snakeR, List.append_nil]⟩
      have HS : Aside0 (snakeV s = if acc.length ≤ 40 then encAll acc else []) := ⟨by unfold snakeV; rw [← HM.out, if_pos HNm.out, ← HV.out]⟩
      rw [ints_length] at hout ⊢
      generalize acc.length = m at hout HS
      clear hr
      by_cases h40 : m ≤ 40
      · have t40 : decide (40 < (m : Int)) = false := decide_eq_false (by omega)
        rw [if_pos h40] at HS
        go_wp2_with fail
        go_ret
        exact ⟨congrArg (fun l : List UInt8 => Ending.returned (Value.string ⟨l.toArray⟩)) HS.out.symm, below_step HBW.out HB2.out⟩
      · have t40 : decide (40 < (m : Int)) = true := decide_eq_true (by omega)
        rw [if_neg h40] at HS
        go_wp2_with fail
        go_ret
        exact ⟨congrArg (fun l : List UInt8 => Ending.returned (Value.string ⟨l.toArray⟩)) HS.out.symm, below_step HBW.out HB2.out⟩
end Go.Proofs.YtgegclilhjhnmaaDoor.X
