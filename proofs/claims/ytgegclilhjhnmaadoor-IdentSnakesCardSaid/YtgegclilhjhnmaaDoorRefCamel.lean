/- The reference's great form: of any text the same as the program's; texts of at most 2^43 bytes; utf8's two tables as they are laid. -/
import Derived.Test.YtgegclilhjhnmaaDoorConv03
set_option linter.unusedVariables false
set_option linter.unusedSimpArgs false
namespace Go.Proofs.YtgegclilhjhnmaaDoor.X
open Go.RowKit Go.Shelf Go.Proofs.YtgegclilhjhnmaaDoorW.PrintWords Go.Proofs.YtgegclilhjhnmaaDoorW.PrintLast Go.Proofs.YtgegclilhjhnmaaDoorW.PrintMore
set_option maxHeartbeats 4000000 in
set_option maxRecDepth 100000 in
theorem courierref03_Camel.calls (s : ByteArray) (w : World) (hs : s.size ≤ 8796093022208) (hT : Lib.Utf8Tabs (Tryd.lays196_ren.g 3) (Tryd.lays196_ren.g 4) w) :
    Calls Tryd.prog 20 #[.string s] w fun e w' => e = .returned (.string ⟨(camelV s).toArray⟩) ∧ Below w.heap.size w w' := by
  have hcv := fun w1 => conv_in w1 s (by omega)
  have HCV := Aside0.mk hcv
  clear hcv
  go_enter Tryd.func20, Tryd.ntmps20
  go_wp2_with fail
  refine (courierref03_Name.calls s _ (by omega) hT).mono ?_
  rintro e w1 ⟨rfl, hb1⟩
  clear hT
  by_cases hnm : nameV (runesOf s) = true
  rotate_left
  · have HV : Aside0 (camelV s = []) := ⟨by unfold camelV; rw [if_neg hnm]⟩
    rw [Bool.eq_false_iff.mpr hnm]
    go_wp2
    go_ret
    exact ⟨by rw [HV.out]; rfl, hb1⟩
  have HNm := Aside0.mk hnm
  rw [hnm]
  have HB1 := Aside0.mk hb1
  clear hb1 hnm
  obtain ⟨cap, W, hrun, hC0, hcap, hbW⟩ := HCV.out w1
  have HC := Aside0.mk hC0
  have HBW := Aside0.mk (below_step HB1.out hbW)
  have HLE := Aside0.mk (runesOf_le s)
  have HSS := Aside0.mk hs
  clear hC0 hcap hbW HCV hs
  obtain ⟨M, hM⟩ : ∃ M, M = runesOf s := ⟨_, rfl⟩
  rw [← hM] at hrun HC HNm HLE
  have HM := Aside0.mk hM
  clear hM
  obtain ⟨n, hn⟩ : ∃ n, n = M.length := ⟨_, rfl⟩
  rw [← hn] at hrun HC HLE
  have HN := Aside0.mk hn
  clear hn
  have hb2 := Below.refl W.heap.size W
  have HB2 := Aside0.mk hb2
  clear hb2
  have hnb : n ≤ 8796093022208 := by have h1 := HLE.out; have h3 := HSS.out; omega
  generalize (some (⟨w1.heap.size, 0, none⟩ : Addr)) = A at hrun HC
  go_wp2_with fail
  go_loopw [3, 4, 15] (fun v3 v4 v15 wr => ∃ (j : Nat) (acc : List Nat) (g : Bool), j ≤ n ∧ v4 = .bool g ∧ v15 = .int .i64 j ∧ Aside0 (Kd.R (Kd.int .i32) 21 wr W.heap.size (fun _ => True) v3 (ints acc)) ∧ Aside0 (Below W.heap.size W wr) ∧ Aside0 (acc.length ≤ j) ∧ Aside0 (acc ++ camelR g (M.drop j) = camelR true M)) (fun _ _ v15 _ => n - (intOf v15).toNat)
  case atStart => exact ⟨0, [], true, by omega, rfl, rfl, ⟨Kd.R_nil _ _ _ _ _⟩, HB2, ⟨Nat.le_refl _⟩, ⟨rfl⟩⟩
  case round =>
    clear HB2
    obtain ⟨j, acc, g, hj, rfl, rfl, HO2, HB2, HAL, HA⟩ := hrel
    by_cases hlt : j < n
    · have t1 : decide (j < n) = true := decide_eq_true hlt
      obtain ⟨ad, hA, hcell⟩ := Kd.at_int (Kd.C_below HC.out HB2.out) (j : Int) (by omega) (by omega)
      subst hA
      have hjm : j < M.length := by have := HN.out; omega
      rw [ints_at hjm, Int.toNat_natCast] at hcell
      have HD : Aside0 (M.drop j = M[j]'hjm :: M.drop (j + 1)) := ⟨List.drop_eq_getElem_cons hjm⟩
      have hin : insideV (M[j]'hjm) = true := (nameV_all HNm.out).1 _ (List.getElem_mem hjm)
      have hsm := inside_small hin
      generalize M[j]'hjm = x at hcell HD hsm
      clear hin
      by_cases hx : x = 95
      · have t95 : ((x : Int) == 95) = true := beq_iff_eq.mpr (by omega)
        go_wp2_with fail
        go_roundw
        case rel => exact ⟨j + 1, acc, true, by omega, rfl, by go_num, HO2, HB2, ⟨by have := HAL.out; omega⟩, ⟨by rw [← HA.out, HD.out, camelR, if_pos hx]⟩⟩
        case measure => simp [intOf]; omega
      · have t95 : ((x : Int) == 95) = false := beq_eq_false_iff_ne.mpr (by omega)
        cases g with
        | false =>
          have hln : acc.length < 35184372088832 := by have h1 := HAL.out; have h2 := HLE.out; have h3 := HSS.out; omega
          have HLN := Aside0.mk hln
          clear hln
          go_wp2_with (first | ((with_reducible refine gate_builtin (b := .append) (xs := #[.tmp 35, .tmp 37]) rfl ?_); at_builtin; refine Kd.R_append (Kd.int .i32) (w0 := W) W.heap.size rfl (.tmp 35) (.tmp 37) 28 21 (.int .i32 0) 4 rfl Tryd.underlying28 infoRune rfl (by decide) (by omega) _ (ints acc) ((x : Int)) [.int .i32 ((x : Int))] (fun _ => True) (fun _ => False) rfl rfl ?aP (fun _ hk => hk.elim) ?aF ?aO ?aB ?aS ?aL ?_; (case aP => exact rfl); (case aB => exact (by repeat (first | (with_reducible first | exact HB2.out | apply below_alloc | apply pw_below_drewN | apply below_drew1) | exact HB2.out))); (case aF => exact (fun _ _ => trivial)); (case aO => exact (by (with_reducible repeat (first | apply Kd.R_alloc | apply Kd.R_drewN | apply Kd.R_drew)); exact HO2.out)); (case aS => exact (below_size (by repeat (first | (with_reducible first | exact HB2.out | apply below_alloc | apply pw_below_drewN | apply below_drew1) | exact HB2.out)))); (case aL => have := HLN.out; rw [ints_length]; omega); intro v3_ w9 ho hb hg hat))
          have HO3 : Aside0 (Kd.R (Kd.int .i32) 21 w9 W.heap.size (fun _ => True) v3_ (ints (acc ++ [x]))) := ⟨by rw [ints_append, ints_one]; exact ho⟩
          have HB3 := Aside0.mk hb
          clear ho hb hg hat HO2 HB2
          go_wp2_with fail
          go_roundw
          case rel => exact ⟨j + 1, acc ++ [x], false, by omega, rfl, by go_num, HO3, HB3, ⟨by rw [List.length_append]; have := HAL.out; simp; omega⟩, ⟨by rw [← HA.out, HD.out, camelR, if_neg hx, if_neg (by simp), List.append_assoc]; rfl⟩⟩
          case measure => simp [intOf]; omega
        | true =>
          by_cases h97 : 97 ≤ x
          · have t97 : decide (97 ≤ (x : Int)) = true := decide_eq_true (by omega)
            by_cases h122 : x ≤ 122
            · have t122 : decide ((x : Int) ≤ 122) = true := decide_eq_true (by omega)
              have hw1 : IntKind.i32.wrap ((x : Int) - 32) = (x : Int) - 32 := by rw [IntKind.wrap_i32]; omega
              have hw2 : wrap32 ((x : Int) - 32) = (x : Int) - 32 := by unfold wrap32; omega
              have hln : acc.length < 35184372088832 := by have h1 := HAL.out; have h2 := HLE.out; have h3 := HSS.out; omega
              have HLN := Aside0.mk hln
              clear hln
              go_wp2_with (first | ((with_reducible refine gate_builtin (b := .append) (xs := #[.tmp 35, .tmp 37]) rfl ?_); at_builtin; refine Kd.R_append (Kd.int .i32) (w0 := W) W.heap.size rfl (.tmp 35) (.tmp 37) 28 21 (.int .i32 0) 4 rfl Tryd.underlying28 infoRune rfl (by decide) (by omega) _ (ints acc) ((x : Int) - 32) [.int .i32 ((x : Int) - 32)] (fun _ => True) (fun _ => False) rfl rfl ?aP (fun _ hk => hk.elim) ?aF ?aO ?aB ?aS ?aL ?_; (case aP => exact rfl); (case aB => exact (by repeat (first | (with_reducible first | exact HB2.out | apply below_alloc | apply pw_below_drewN | apply below_drew1) | exact HB2.out))); (case aF => exact (fun _ _ => trivial)); (case aO => exact (by (with_reducible repeat (first | apply Kd.R_alloc | apply Kd.R_drewN | apply Kd.R_drew)); exact HO2.out)); (case aS => exact (below_size (by repeat (first | (with_reducible first | exact HB2.out | apply below_alloc | apply pw_below_drewN | apply below_drew1) | exact HB2.out)))); (case aL => have := HLN.out; rw [ints_length]; omega); intro v3_ w9 ho hb hg hat))
              have HO3 : Aside0 (Kd.R (Kd.int .i32) 21 w9 W.heap.size (fun _ => True) v3_ (ints (acc ++ [(x - 32)]))) := ⟨by rw [ints_append, ints_one]; rw [show ((x - 32 : Nat) : Int) = (x : Int) - 32 by omega]; exact ho⟩
              have HB3 := Aside0.mk hb
              clear ho hb hg hat HO2 HB2
              go_wp2_with fail
              go_roundw
              case rel => exact ⟨j + 1, acc ++ [(x - 32)], false, by omega, rfl, by go_num, HO3, HB3, ⟨by rw [List.length_append]; have := HAL.out; simp; omega⟩, ⟨by rw [← HA.out, HD.out, camelR, if_neg hx, if_pos ⟨rfl, h97, h122⟩, List.append_assoc]; rfl⟩⟩
              case measure => simp [intOf]; omega
            · have t122 : decide ((x : Int) ≤ 122) = false := decide_eq_false (by omega)
              have hln : acc.length < 35184372088832 := by have h1 := HAL.out; have h2 := HLE.out; have h3 := HSS.out; omega
              have HLN := Aside0.mk hln
              clear hln
              go_wp2_with (first | ((with_reducible refine gate_builtin (b := .append) (xs := #[.tmp 35, .tmp 37]) rfl ?_); at_builtin; refine Kd.R_append (Kd.int .i32) (w0 := W) W.heap.size rfl (.tmp 35) (.tmp 37) 28 21 (.int .i32 0) 4 rfl Tryd.underlying28 infoRune rfl (by decide) (by omega) _ (ints acc) ((x : Int)) [.int .i32 ((x : Int))] (fun _ => True) (fun _ => False) rfl rfl ?aP (fun _ hk => hk.elim) ?aF ?aO ?aB ?aS ?aL ?_; (case aP => exact rfl); (case aB => exact (by repeat (first | (with_reducible first | exact HB2.out | apply below_alloc | apply pw_below_drewN | apply below_drew1) | exact HB2.out))); (case aF => exact (fun _ _ => trivial)); (case aO => exact (by (with_reducible repeat (first | apply Kd.R_alloc | apply Kd.R_drewN | apply Kd.R_drew)); exact HO2.out)); (case aS => exact (below_size (by repeat (first | (with_reducible first | exact HB2.out | apply below_alloc | apply pw_below_drewN | apply below_drew1) | exact HB2.out)))); (case aL => have := HLN.out; rw [ints_length]; omega); intro v3_ w9 ho hb hg hat))
              have HO3 : Aside0 (Kd.R (Kd.int .i32) 21 w9 W.heap.size (fun _ => True) v3_ (ints (acc ++ [x]))) := ⟨by rw [ints_append, ints_one]; exact ho⟩
              have HB3 := Aside0.mk hb
              clear ho hb hg hat HO2 HB2
              go_wp2_with fail
              go_roundw
              case rel => exact ⟨j + 1, acc ++ [x], false, by omega, rfl, by go_num, HO3, HB3, ⟨by rw [List.length_append]; have := HAL.out; simp; omega⟩, ⟨by rw [← HA.out, HD.out, camelR, if_neg hx, if_neg (fun h => h122 h.2.2), List.append_assoc]; rfl⟩⟩
              case measure => simp [intOf]; omega
          · have t97 : decide (97 ≤ (x : Int)) = false := decide_eq_false (by omega)
            have hln : acc.length < 35184372088832 := by have h1 := HAL.out; have h2 := HLE.out; have h3 := HSS.out; omega
            have HLN := Aside0.mk hln
            clear hln
            go_wp2_with (first | ((with_reducible refine gate_builtin (b := .append) (xs := #[.tmp 35, .tmp 37]) rfl ?_); at_builtin; refine Kd.R_append (Kd.int .i32) (w0 := W) W.heap.size rfl (.tmp 35) (.tmp 37) 28 21 (.int .i32 0) 4 rfl Tryd.underlying28 infoRune rfl (by decide) (by omega) _ (ints acc) ((x : Int)) [.int .i32 ((x : Int))] (fun _ => True) (fun _ => False) rfl rfl ?aP (fun _ hk => hk.elim) ?aF ?aO ?aB ?aS ?aL ?_; (case aP => exact rfl); (case aB => exact (by repeat (first | (with_reducible first | exact HB2.out | apply below_alloc | apply pw_below_drewN | apply below_drew1) | exact HB2.out))); (case aF => exact (fun _ _ => trivial)); (case aO => exact (by (with_reducible repeat (first | apply Kd.R_alloc | apply Kd.R_drewN | apply Kd.R_drew)); exact HO2.out)); (case aS => exact (below_size (by repeat (first | (with_reducible first | exact HB2.out | apply below_alloc | apply pw_below_drewN | apply below_drew1) | exact HB2.out)))); (case aL => have := HLN.out; rw [ints_length]; omega); intro v3_ w9 ho hb hg hat))
            have HO3 : Aside0 (Kd.R (Kd.int .i32) 21 w9 W.heap.size (fun _ => True) v3_ (ints (acc ++ [x]))) := ⟨by rw [ints_append, ints_one]; exact ho⟩
            have HB3 := Aside0.mk hb
            clear ho hb hg hat HO2 HB2
            go_wp2_with fail
            go_roundw
            case rel => exact ⟨j + 1, acc ++ [x], false, by omega, rfl, by go_num, HO3, HB3, ⟨by rw [List.length_append]; have := HAL.out; simp; omega⟩, ⟨by rw [← HA.out, HD.out, camelR, if_neg hx, if_neg (fun h => h97 h.2.1), List.append_assoc]; rfl⟩⟩
            case measure => simp [intOf]; omega
    · have t1 : decide (j < n) = false := decide_eq_false hlt
      obtain ⟨A3, c3, rfl⟩ := Kd.R_slice HO2.out
      have hr := (Kd.R_reads' HO2.out).2.2
      have hout := conv_out (c := c3) hr
      have HV : Aside0 (acc = camelR true M) := ⟨by rw [← HA.out, List.drop_eq_nil_of_le (by have := HN.out; omega), camelR, List.append_nil]⟩
      clear hr
      go_wp2_with fail
      go_ret
      exact ⟨congrArg (fun l : List UInt8 => Ending.returned (Value.string ⟨l.toArray⟩)) (show encAll acc = camelV s by unfold camelV; rw [← HM.out, if_pos HNm.out, camelGo_R, ← HV.out]), below_step HBW.out HB2.out⟩
end Go.Proofs.YtgegclilhjhnmaaDoor.X
