/- The reference's number and right, walked. -/
import Derived.Test.YthnnleibngbclaaDoorRefRun
set_option linter.unusedVariables false
set_option linter.unusedSimpArgs false
namespace Go.Proofs.YthnnleibngbclaaDoor.X
open Go.RowKit Go.Shelf Go.Proofs.YthnnleibngbclaaDoorW.PrintWords Go.Proofs.YthnnleibngbclaaDoorW.PrintLast Go.Proofs.YthnnleibngbclaaDoorW.PrintMore
theorem get_el {s : ByteArray} {i : Nat} (h : i < s.size) : s[i]'h = s.get! i := (getElem!_pos s.data i h).symm
theorem list_el {s : ByteArray} {i : Nat} (h : i < s.size) : s.data.toList[i]'(by rw [Array.length_toList]; exact h) = s.get! i := by
  rw [Array.getElem_toList]
  exact get_el h
theorem list_len (s : ByteArray) : s.data.toList.length = s.size := by rw [Array.length_toList]; rfl
theorem valF_snoc (l : List UInt8) (c : UInt8) (a : Nat) : valF a (l ++ [c]) = valF a l * 10 + (c.toNat - 48) := by
  unfold valF
  rw [List.foldl_append]
  rfl
theorem take_next {s : ByteArray} {i : Nat} (h : i < s.size) : s.data.toList.take (i + 1) = s.data.toList.take i ++ [s.get! i] := by
  rw [List.take_succ_eq_append_getElem (by rw [list_len]; exact h), list_el h]
theorem dig_at {s : ByteArray} (h : digL s.data.toList = true) {i : Nat} (hi : i < s.size) : 48 ≤ (s.get! i).toNat ∧ (s.get! i).toNat ≤ 57 := by
  refine digL_iff.1 h _ ?_
  rw [← list_el hi]
  exact List.getElem_mem _
theorem ret_bool {a b : Bool} (h : a = b) : Ending.returned (.bool a) = .returned (.bool b) := by rw [h]
set_option maxHeartbeats 4000000 in
set_option maxRecDepth 100000 in
theorem courierref03_number.calls (s : ByteArray) (hs : 0 < s.size) (hz : s.size ≤ 70368744177664) (hd : digL s.data.toList = true) (w : World) :
    Calls Tryd.prog 28 #[.string s] w fun e w' => e = .returned (.bool (numR s.data.toList)) ∧ Below w.heap.size w w' := by
  have HD := Aside0.mk hd
  have HN : Aside0 (numR s.data.toList = (!(decide (10 < s.size)) && (!(decide (s.get! 0 = 48) && decide (1 < s.size)) && decide (valF 0 s.data.toList ≤ 2147483647)))) := ⟨by
    unfold numR
    rw [list_len]
    have : decide (s.data.toList.head? = some 48) = decide (s.get! 0 = 48) := by
      rw [List.head?_eq_getElem?, List.getElem?_eq_getElem (by rw [list_len]; exact hs), list_el hs]
      simp
    rw [this]⟩
  have he0 := get_el hs
  clear hd
  by_cases h10 : 10 < s.size
  · have t1i : decide ((10 : Int) < (s.size : Int)) = true := decide_eq_true (by omega)
    have t1 : decide (10 < s.size) = true := decide_eq_true h10
    have HV : Aside0 (numR s.data.toList = false) := ⟨by rw [HN.out, t1]; rfl⟩
    clear h10 he0
    go_enter Tryd.func28, Tryd.ntmps28
    go_wp2_with fail
    go_ret
    exact ⟨ret_bool HV.out.symm, Below.refl _ _⟩
  have t1i : decide ((10 : Int) < (s.size : Int)) = false := decide_eq_false (by omega)
  have t1 : decide (10 < s.size) = false := decide_eq_false h10
  have hz10 : s.size ≤ 10 := by omega
  by_cases h48 : s.get! 0 = 48
  · by_cases h1 : 1 < s.size
    · have t2 : (((s[0]'hs).toNat : Int) == 48) = true := beq_iff_eq.mpr (by rw [he0, h48]; rfl)
      have t3i : decide ((1 : Int) < (s.size : Int)) = true := decide_eq_true (by omega)
      have t3 : decide (1 < s.size) = true := decide_eq_true h1
      have HV : Aside0 (numR s.data.toList = false) := ⟨by rw [HN.out, t3, decide_eq_true h48]; simp⟩
      clear h10 he0 h48 h1
      go_enter Tryd.func28, Tryd.ntmps28
      go_wp2_with fail
      go_ret
      exact ⟨ret_bool HV.out.symm, Below.refl _ _⟩
    · have t2 : (((s[0]'hs).toNat : Int) == 48) = true := beq_iff_eq.mpr (by rw [he0, h48]; rfl)
      have t3i : decide ((1 : Int) < (s.size : Int)) = false := decide_eq_false (by omega)
      have t3 : decide (1 < s.size) = false := decide_eq_false h1
      have HV : Aside0 (numR s.data.toList = decide (valF 0 s.data.toList ≤ 2147483647)) := ⟨by rw [HN.out, t3, t1]; simp⟩
      clear h10 he0 h48 h1
      go_enter Tryd.func28, Tryd.ntmps28
      go_wp2_with fail
      clear t1i t1 t2 t3i t3 HN
      go_loopw [3, 4] (fun v3 v4 wr => ∃ j n : Nat, j ≤ s.size ∧ v4 = .int .i64 j ∧ v3 = .int .i64 n ∧ n ≤ 9999999999 ∧ Aside0 (n = valF 0 (s.data.toList.take j)) ∧ Aside0 (Below w.heap.size w wr)) (fun _ v4 _ => s.size - (intOf v4).toNat)
      case atStart => exact ⟨0, 0, by omega, rfl, rfl, by omega, ⟨rfl⟩, ⟨Below.refl _ _⟩⟩
      case round =>
        obtain ⟨j, n, hj, rfl, rfl, hn, HE, HB⟩ := hrel
        by_cases hlt : j < s.size
        · have hb := dig_at HD.out hlt
          have hel := get_el hlt
          have hnx : valF 0 (s.data.toList.take (j + 1)) = n * 10 + ((s.get! j).toNat - 48) := by rw [take_next hlt, valF_snoc, ← HE.out]
          have hbd := valF_bd (s.data.toList.take (j + 1)) 0 (fun c hc => digL_iff.1 HD.out c (List.mem_of_mem_take hc))
          have hln : (s.data.toList.take (j + 1)).length ≤ 10 := by rw [List.length_take]; omega
          have hpw : 10 ^ (s.data.toList.take (j + 1)).length ≤ 10 ^ 10 := Nat.pow_le_pow_right (by decide) hln
          have HNX := Aside0.mk hnx
          have hnb : n * 10 + ((s.get! j).toNat - 48) ≤ 9999999999 := by rw [← hnx]; have : (10 : Nat) ^ 10 = 10000000000 := (by decide); omega
          rw [← hel] at HNX hb hnb
          clear hnx hel hbd hln hpw
          obtain ⟨c, hc⟩ : ∃ c, (s[j]'hlt).toNat = c := ⟨_, rfl⟩
          rw [hc] at HNX hb hnb
          have HC := Aside0.mk hc
          clear hc
          have t1 : decide (j < s.size) = true := decide_eq_true hlt
          have hsub : IntKind.u8.wrap ((c : Int) - 48) = (c : Int) - 48 := by rw [IntKind.wrap_u8]; omega
          have hcv : ((s[j]'hlt).toNat : Int) = (c : Int) := by rw [HC.out]
          go_wp2_with fail
          go_roundw
          case rel => exact ⟨j + 1, n * 10 + (c - 48), by omega, by go_num, by go_num, by omega, ⟨HNX.out.symm⟩, HB⟩
          case measure => simp [intOf]; omega
        · have t1 : decide (j < s.size) = false := decide_eq_false hlt
          have HE2 : Aside0 (n = valF 0 s.data.toList) := ⟨by rw [HE.out, List.take_of_length_le (by rw [list_len]; omega)]⟩
          go_wp2_with fail
          go_ret
          exact ⟨ret_bool (by rw [HV.out, ← HE2.out]; rw [Bool.eq_iff_iff]; simp only [decide_eq_true_eq]; omega), HB.out⟩
  · have t2 : (((s[0]'hs).toNat : Int) == 48) = false := beq_eq_false_iff_ne.mpr (by
      rw [he0]
      intro e
      exact h48 (UInt8.toNat_inj.1 (by show (s.get! 0).toNat = 48; omega)))
    have HV : Aside0 (numR s.data.toList = decide (valF 0 s.data.toList ≤ 2147483647)) := ⟨by rw [HN.out, decide_eq_false h48, t1]; simp⟩
    clear h10 he0 h48
    go_enter Tryd.func28, Tryd.ntmps28
    go_wp2_with fail
    clear t1i t1 t2 HN
    go_loopw [3, 4] (fun v3 v4 wr => ∃ j n : Nat, j ≤ s.size ∧ v4 = .int .i64 j ∧ v3 = .int .i64 n ∧ n ≤ 9999999999 ∧ Aside0 (n = valF 0 (s.data.toList.take j)) ∧ Aside0 (Below w.heap.size w wr)) (fun _ v4 _ => s.size - (intOf v4).toNat)
    case atStart => exact ⟨0, 0, by omega, rfl, rfl, by omega, ⟨rfl⟩, ⟨Below.refl _ _⟩⟩
    case round =>
      obtain ⟨j, n, hj, rfl, rfl, hn, HE, HB⟩ := hrel
      by_cases hlt : j < s.size
      · have hb := dig_at HD.out hlt
        have hel := get_el hlt
        have hnx : valF 0 (s.data.toList.take (j + 1)) = n * 10 + ((s.get! j).toNat - 48) := by rw [take_next hlt, valF_snoc, ← HE.out]
        have hbd := valF_bd (s.data.toList.take (j + 1)) 0 (fun c hc => digL_iff.1 HD.out c (List.mem_of_mem_take hc))
        have hln : (s.data.toList.take (j + 1)).length ≤ 10 := by rw [List.length_take]; omega
        have hpw : 10 ^ (s.data.toList.take (j + 1)).length ≤ 10 ^ 10 := Nat.pow_le_pow_right (by decide) hln
        have HNX := Aside0.mk hnx
        have hnb : n * 10 + ((s.get! j).toNat - 48) ≤ 9999999999 := by rw [← hnx]; have : (10 : Nat) ^ 10 = 10000000000 := (by decide); omega
        rw [← hel] at HNX hb hnb
        clear hnx hel hbd hln hpw
        obtain ⟨c, hc⟩ : ∃ c, (s[j]'hlt).toNat = c := ⟨_, rfl⟩
        rw [hc] at HNX hb hnb
        have HC := Aside0.mk hc
        clear hc
        have t1 : decide (j < s.size) = true := decide_eq_true hlt
        have hsub : IntKind.u8.wrap ((c : Int) - 48) = (c : Int) - 48 := by rw [IntKind.wrap_u8]; omega
        have hcv : ((s[j]'hlt).toNat : Int) = (c : Int) := by rw [HC.out]
        go_wp2_with fail
        go_roundw
        case rel => exact ⟨j + 1, n * 10 + (c - 48), by omega, by go_num, by go_num, by omega, ⟨HNX.out.symm⟩, HB⟩
        case measure => simp [intOf]; omega
      · have t1 : decide (j < s.size) = false := decide_eq_false hlt
        have HE2 : Aside0 (n = valF 0 s.data.toList) := ⟨by rw [HE.out, List.take_of_length_le (by rw [list_len]; omega)]⟩
        go_wp2_with fail
        go_ret
        exact ⟨ret_bool (by rw [HV.out, ← HE2.out]; rw [Bool.eq_iff_iff]; simp only [decide_eq_true_eq]; omega), HB.out⟩
theorem digL_snoc {s : ByteArray} {j : Nat} (h : j < s.size) : digL (s.data.toList.take (j + 1)) = (digL (s.data.toList.take j) && decide (48 ≤ (s.get! j).toNat ∧ (s.get! j).toNat ≤ 57)) := by
  rw [take_next h]
  unfold digL
  rw [List.all_append]
  simp
theorem digL_stop {s : ByteArray} {j : Nat} (h : digL (s.data.toList.take j) = false) : digL s.data.toList = false := by
  rw [Bool.eq_false_iff]
  intro e
  rw [Bool.eq_false_iff] at h
  exact h (digL_iff.2 fun c hc => digL_iff.1 e c (List.mem_of_mem_take hc))
set_option maxHeartbeats 4000000 in
set_option maxRecDepth 100000 in
theorem courierref03_right.calls (x : Wd) (r : Int) (w : World) (hk : x.kind = 1 ∨ (x.kind = 2 ∧ 0 < x.text.size) ∨ x.kind = 3) (hs : x.text.size ≤ 70368744177664) (hT : Lib.Utf8Tabs (Tryd.lays196_ren.g 3) (Tryd.lays196_ren.g 4) w) :
    Calls Tryd.prog 20 #[.agg #[.int .i64 x.kind, .string x.text, .int .i64 x.line, .int .i64 x.col], .int .i32 r] w fun e w' => e = .returned (.bool (rightR x r)) ∧ Below w.heap.size w w' := by
  have HT := Aside0.mk hT
  have HR : Aside0 (rightR x r = if x.kind = 1 then nameV (runesOf x.text) else if x.kind = 2 then digL x.text.data.toList && numR x.text.data.toList else signV r) := ⟨rfl⟩
  have HK := Aside0.mk hk
  obtain ⟨kind, text, line, col⟩ := x
  simp only at hs HR HK ⊢
  have HB0 : Aside0 (Below w.heap.size w (w.alloc (.cells #[.int .i64 kind, .string text, .int .i64 line, .int .i64 col] 46))) := ⟨below_alloc (Below.refl _ _) _⟩
  have HT0 := Aside0.mk (Utf8Tabs_below hT HB0.out)
  have HBX := Aside0.mk (blk_new w (.cells #[.int .i64 kind, .string text, .int .i64 line, .int .i64 col] 46))
  obtain ⟨W, hW⟩ : ∃ W, W = w.alloc (.cells #[.int .i64 kind, .string text, .int .i64 line, .int .i64 col] 46) := ⟨_, rfl⟩
  rw [← hW] at HB0 HT0 HBX
  have HW := Aside0.mk hW
  clear hT hW hk
  go_enter Tryd.func20, Tryd.ntmps20
  by_cases h1 : kind = 1
  · have t0 : (kind == 1) = true := beq_iff_eq.mpr h1
    rw [if_pos h1] at HR
    clear h1
    go_wp2_with fail
    rw [← HW.out]
    refine (courierref03_Name.calls text _ (by omega) HT0.out).mono ?_
    rintro e w2 ⟨rfl, hb⟩
    have HB2 := Aside0.mk (below_step HB0.out hb)
    clear hb
    go_wp2_with fail
    go_ret
    exact ⟨ret_bool HR.out.symm, HB2.out⟩
  have t0 : (kind == 1) = false := beq_eq_false_iff_ne.mpr h1
  rw [if_neg h1] at HR
  by_cases h2 : kind = 2
  · have t2 : (kind == 2) = true := beq_iff_eq.mpr h2
    rw [if_pos h2] at HR
    have hz : 0 < text.size := by rcases HK.out with h | h | h; exact absurd h h1; exact h.2; omega
    clear h1 h2
    go_wp2_with fail
    rw [← HW.out]
    have c0 : W.cell? ⟨w.heap.size, 0, none⟩ = some (.int .i64 kind) := blk_cell HBX.out 0
    have c1 : W.cell? ⟨w.heap.size, 1, none⟩ = some (.string text) := blk_cell HBX.out 1
    go_loop [5] (fun v5 => ∃ j : Nat, j ≤ text.size ∧ v5 = .int .i64 j ∧ Aside0 (digL (text.data.toList.take j) = true)) (fun v5 => text.size - (intOf v5).toNat)
    case atStart => exact ⟨0, by omega, rfl, ⟨rfl⟩⟩
    case round =>
      obtain ⟨j, hj, rfl, HD⟩ := hrel
      by_cases hlt : j < text.size
      · have t1 : decide (j < text.size) = true := decide_eq_true hlt
        have hel := get_el hlt
        have hsn := digL_snoc hlt
        rw [HD.out, Bool.true_and, ← hel] at hsn
        have HSN := Aside0.mk hsn
        clear hel hsn
        by_cases hd1 : (text[j]'hlt).toNat < 48
        · have u1 : decide (((text[j]'hlt).toNat : Int) < 48) = true := decide_eq_true (by omega)
          have HV : Aside0 (digL text.data.toList = false) := ⟨digL_stop (j := j + 1) (by rw [HSN.out]; exact decide_eq_false (by omega))⟩
          clear hd1
          go_wp2_with fail
          go_ret
          exact ⟨ret_bool (by rw [HR.out, HV.out]; rfl), HB0.out⟩
        · have u1 : decide (((text[j]'hlt).toNat : Int) < 48) = false := decide_eq_false (by omega)
          by_cases hd2 : 57 < (text[j]'hlt).toNat
          · have u2 : decide ((57 : Int) < ((text[j]'hlt).toNat : Int)) = true := decide_eq_true (by omega)
            have HV : Aside0 (digL text.data.toList = false) := ⟨digL_stop (j := j + 1) (by rw [HSN.out]; exact decide_eq_false (by omega))⟩
            clear hd1 hd2
            go_wp2_with fail
            go_ret
            exact ⟨ret_bool (by rw [HR.out, HV.out]; rfl), HB0.out⟩
          · have u2 : decide ((57 : Int) < ((text[j]'hlt).toNat : Int)) = false := decide_eq_false (by omega)
            have HD2 : Aside0 (digL (text.data.toList.take (j + 1)) = true) := ⟨by rw [HSN.out]; exact decide_eq_true (by omega)⟩
            clear hd1 hd2
            go_wp2_with fail
            go_round
            case rel => exact ⟨j + 1, by omega, by go_num, HD2⟩
            case measure => simp [intOf]; omega
      · have t1 : decide (j < text.size) = false := decide_eq_false hlt
        have HD2 : Aside0 (digL text.data.toList = true) := ⟨by have := HD.out; rw [List.take_of_length_le (by rw [list_len]; omega)] at this; exact this⟩
        go_wp2_with fail
        refine (courierref03_number.calls text hz hs HD2.out _).mono ?_
        rintro e w2 ⟨rfl, hb⟩
        have HB2 := Aside0.mk (below_step HB0.out hb)
        clear hb
        go_wp2_with fail
        go_ret
        exact ⟨ret_bool (by rw [HR.out, HD2.out]; rfl), HB2.out⟩
  · have t2 : (kind == 2) = false := beq_eq_false_iff_ne.mpr h2
    rw [if_neg h2] at HR
    clear h1 h2 HK
    by_cases hr : signV r = true
    · rw [hr] at HR
      rcases sign_cases hr with rfl | rfl | rfl | rfl | rfl | rfl | rfl
      all_goals
        clear hr
        go_wp2_with fail
        go_ret
        exact ⟨ret_bool HR.out.symm, by rw [← HW.out]; exact HB0.out⟩
    · have hf : signV r = false := Bool.eq_false_iff.2 hr
      rw [hf] at HR
      have hn := of_decide_eq_false hf
      have u1 : (r == 123) = false := beq_eq_false_iff_ne.mpr (by omega)
      have u2 : (r == 125) = false := beq_eq_false_iff_ne.mpr (by omega)
      have u3 : (r == 40) = false := beq_eq_false_iff_ne.mpr (by omega)
      have u4 : (r == 41) = false := beq_eq_false_iff_ne.mpr (by omega)
      have u5 : (r == 61) = false := beq_eq_false_iff_ne.mpr (by omega)
      have u6 : (r == 59) = false := beq_eq_false_iff_ne.mpr (by omega)
      have u7 : (r == 46) = false := beq_eq_false_iff_ne.mpr (by omega)
      clear hr hf hn
      go_wp2_with fail
      go_ret
      exact ⟨ret_bool HR.out.symm, by rw [← HW.out]; exact HB0.out⟩
end Go.Proofs.YthnnleibngbclaaDoor.X
