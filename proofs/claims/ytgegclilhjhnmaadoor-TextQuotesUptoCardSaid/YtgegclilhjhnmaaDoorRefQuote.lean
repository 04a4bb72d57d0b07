/- The reference's Quote: of any text its quoted form; texts of at most 2^40 bytes; utf8's two tables as they are laid. -/
import Derived.Test.YtgegclilhjhnmaaDoorQuoteMath
import Derived.Deep.QuietTactic
import Derived.BigQuiet
set_option linter.unusedVariables false
set_option linter.unusedSimpArgs false
namespace Go.Proofs.YtgegclilhjhnmaaDoor.X
open Go.RowKit Go.Shelf Go.Proofs.YtgegclilhjhnmaaDoorW.PrintWords Go.Proofs.YtgegclilhjhnmaaDoorW.PrintLast Go.Proofs.YtgegclilhjhnmaaDoorW.PrintMore
set_option maxHeartbeats 4000000 in
set_option maxRecDepth 100000 in
theorem courierref12_Quote.calls (s : ByteArray) (w : World) (hs : s.size ≤ 1099511627776) (hT : Lib.Utf8Tabs (Tryd.lays196_ren.g 3) (Tryd.lays196_ren.g 4) w) :
    Calls Tryd.prog 10 #[.string s] w fun e w' => e = .returned (.string ⟨(quoteV s).toArray⟩) ∧ Below w.heap.size w w' := by
  go_enter Tryd.func10, Tryd.ntmps10
  go_wp2_with fail
  refine (courierref03_Runes.calls s _ (by omega) hT).mono ?_
  rintro e W ⟨A, cap, rfl, hC, hc, hb⟩
  have HBW := Aside0.mk hb
  clear hb hT
  by_cases hv : validV s = true
  rotate_left
  · rw [Bool.eq_false_iff.mpr hv]
    have HV : Aside0 (quoteV s = []) := ⟨by unfold quoteV; rw [if_neg hv]⟩
    clear hC
    go_wp2
    go_ret
    exact ⟨congrArg (fun l : List UInt8 => Ending.returned (Value.string ⟨l.toArray⟩)) HV.out.symm, HBW.out⟩
  have hz : runesZ s = ints (runesOf s) := by unfold runesZ; rw [if_pos hv]; rfl
  have hle := runesZ_le s
  have HVV := Aside0.mk hv
  rw [hv]
  rw [hz] at hC hc hle ⊢
  obtain ⟨M, hM⟩ : ∃ M, M = runesOf s := ⟨_, rfl⟩
  have hr : ∀ x ∈ M, x ≤ 1114111 := by rw [hM]; exact runesFrom_le s _ _
  rw [← hM] at hC hc hle ⊢
  have HM := Aside0.mk hM
  obtain ⟨n, hn⟩ : ∃ n, n = (ints M).length := ⟨_, rfl⟩
  rw [← hn] at hC hc hle ⊢
  have HN : Aside0 (n = M.length) := ⟨by rw [hn, ints_length]⟩
  have HC := Aside0.mk hC
  have HR := Aside0.mk hr
  have hnb : n ≤ 1099511627776 := by omega
  clear hC hM hn hr hz hv
  have hcv := conv_one
  have HB2 := Aside0.mk (Below.refl W.heap.size W)
  go_wp2_with fail
  go_loopw [5, 17] (fun v5 v17 wr => ∃ (j : Nat) (X : ByteArray), j ≤ n ∧ v5 = .string X ∧ v17 = .int .i64 j ∧ Aside0 (Below W.heap.size W wr) ∧ X.size ≤ 6 * j + 1 ∧ Aside0 (X.data.toList ++ quoteGo (M.drop j) = 34 :: quoteGo M)) (fun _ v17 _ => n - (intOf v17).toNat)
  case atStart => exact ⟨0, ⟨#[34]⟩, by omega, rfl, rfl, HB2, by decide, ⟨rfl⟩⟩
  case round =>
    clear HB2
    obtain ⟨j, X, hj, rfl, rfl, HB2, hX, HA⟩ := hrel
    by_cases hlt : j < n
    · have t1 : decide (j < n) = true := decide_eq_true hlt
      obtain ⟨ad, hA, hcell⟩ := Kd.at_int (Kd.C_below HC.out HB2.out) (j : Int) (by omega) (by omega)
      subst hA
      have hjm : j < M.length := by have := HN.out; omega
      rw [ints_at hjm, Int.toNat_natCast] at hcell
      have HD : Aside0 (M.drop j = M[j]'hjm :: M.drop (j + 1)) := ⟨List.drop_eq_getElem_cons hjm⟩
      have hsm : M[j]'hjm ≤ 1114111 := HR.out _ (List.getElem_mem hjm)
      generalize M[j]'hjm = x at hcell HD hsm
      have hl4 := Lib.runeCells_le (x : Int)
      rw [Lib.runeCells_length] at hl4
      have kE1 : (9223372036854775807 < X.size + 1 + (Lib.encodeRune (x : Int)).length) = False := eq_false (by omega)
      have kE2 : (9223372036854775807 < X.size + (Lib.encodeRune (x : Int)).length) = False := eq_false (by omega)
      have kE1 : (9223372036854775807 < X.size + 1 + (Lib.encodeRune (x : Int)).length) = False := eq_false (by omega)
      have kE2 : (9223372036854775807 < X.size + (Lib.encodeRune (x : Int)).length) = False := eq_false (by omega)
      by_cases h34 : x = 34 ∨ x = 92
      · have HQ : Aside0 (quoteR x = 92 :: Lib.encodeRune (x : Int)) := ⟨quote_lit h34⟩
        by_cases h3 : x = 34
        · have t34 : ((x : Int) == 34) = true := beq_iff_eq.mpr (by omega)
          clear h3 h34
          go_wp2_with fail
          go_roundw
          case rel => exact ⟨j + 1, _, by omega, rfl, by go_num, ⟨below_alloc HB2.out _⟩, by first | exact lf_size hX | exact lit_size hX hl4 | exact any_size hX hl4, ⟨by rw [← HA.out, HD.out, quoteGo, HQ.out]; simp [ByteArray.data_append]⟩⟩
          case measure => simp [intOf]; omega
        · have t34 : ((x : Int) == 34) = false := beq_eq_false_iff_ne.mpr (by omega)
          have t92 : ((x : Int) == 92) = true := beq_iff_eq.mpr (by omega)
          clear h3 h34
          go_wp2_with fail
          go_roundw
          case rel => exact ⟨j + 1, _, by omega, rfl, by go_num, ⟨below_alloc HB2.out _⟩, by first | exact lf_size hX | exact lit_size hX hl4 | exact any_size hX hl4, ⟨by rw [← HA.out, HD.out, quoteGo, HQ.out]; simp [ByteArray.data_append]⟩⟩
          case measure => simp [intOf]; omega
      · have t34 : ((x : Int) == 34) = false := beq_eq_false_iff_ne.mpr (by omega)
        have t92 : ((x : Int) == 92) = false := beq_eq_false_iff_ne.mpr (by omega)
        by_cases h10 : x = 10
        · have HQ : Aside0 (quoteR x = [92, 110]) := ⟨quote_lf h10⟩
          have t10 : ((x : Int) == 10) = true := beq_iff_eq.mpr (by omega)
          clear h10 h34
          go_wp2_with fail
          go_roundw
          case rel => exact ⟨j + 1, _, by omega, rfl, by go_num, HB2, by first | exact lf_size hX | exact lit_size hX hl4 | exact any_size hX hl4, ⟨by rw [← HA.out, HD.out, quoteGo, HQ.out]; simp [ByteArray.data_append]⟩⟩
          case measure => simp [intOf]; omega
        · have t10 : ((x : Int) == 10) = false := beq_eq_false_iff_ne.mpr (by omega)
          by_cases h32 : x < 32 ∨ x = 127
          · have HQ : Aside0 (quoteR x = [92, 117, 48, 48, hexd (x / 16), hexd (x % 16)]) := ⟨quote_hex h10 h32⟩
            have k2 : (9223372036854775807 < X.size + 4) = False := eq_false (by omega)
            have k3 : (9223372036854775807 < X.size + 4 + 1) = False := eq_false (by omega)
            have k4 : (9223372036854775807 < X.size + 4 + 1 + 1) = False := eq_false (by omega)
            have hb : Go.bits .and .i32 (x : Int) 15 = ((x % 16 : Nat) : Int) := and15 (by omega)
            have hr16 : x % 16 < 16 := by omega
            have hx128 : x < 128 := by omega
            clear hsm h34 h10 hl4 kE1 kE2
            generalize x % 16 = r at *
            by_cases h3 : x < 32
            · have t32 : decide ((x : Int) < 32) = true := decide_eq_true (by omega)
              clear h32
              go_wp2_with fail
              go_quiet (fail)
              go_wp2_with fail
              go_roundw
              case rel =>
                refine ⟨j + 1, _, by omega, rfl, by go_num, ⟨pw_below_drewN HB2.out _⟩, ?_, ⟨?_⟩⟩
                · exact hex_size hX (hex_one (by omega)) (hex_one hr16)
                · rw [← HA.out, HD.out, quoteGo, HQ.out, cat3, hexd_at (show x / 16 < 16 by omega), hexd_at hr16, List.append_assoc, List.append_assoc]
                  rfl
              case measure => simp [intOf]; omega
            · have t32 : decide ((x : Int) < 32) = false := decide_eq_false (by omega)
              have t127 : ((x : Int) == 127) = true := beq_iff_eq.mpr (by omega)
              clear h32
              go_wp2_with fail
              go_quiet (fail)
              go_wp2_with fail
              go_roundw
              case rel =>
                refine ⟨j + 1, _, by omega, rfl, by go_num, ⟨pw_below_drewN HB2.out _⟩, ?_, ⟨?_⟩⟩
                · exact hex_size hX (hex_one (by omega)) (hex_one hr16)
                · rw [← HA.out, HD.out, quoteGo, HQ.out, cat3, hexd_at (show x / 16 < 16 by omega), hexd_at hr16, List.append_assoc, List.append_assoc]
                  rfl
              case measure => simp [intOf]; omega
          · have HQ : Aside0 (quoteR x = Lib.encodeRune (x : Int)) := ⟨quote_any h34 h10 h32⟩
            have t32 : decide ((x : Int) < 32) = false := decide_eq_false (by omega)
            have t127 : ((x : Int) == 127) = false := beq_eq_false_iff_ne.mpr (by omega)
            clear h32 h10 h34
            go_wp2_with fail
            go_roundw
            case rel => exact ⟨j + 1, _, by omega, rfl, by go_num, ⟨below_alloc HB2.out _⟩, by first | exact lf_size hX | exact lit_size hX hl4 | exact any_size hX hl4, ⟨by rw [← HA.out, HD.out, quoteGo, HQ.out]; simp [ByteArray.data_append]⟩⟩
            case measure => simp [intOf]; omega
    · have t1 : decide (j < n) = false := decide_eq_false hlt
      have HV : Aside0 ((X ++ ⟨#[34]⟩ : ByteArray) = ⟨(quoteV s).toArray⟩) := ⟨by
        have h1 := HA.out
        rw [List.drop_eq_nil_of_le (by have := HN.out; omega), quoteGo, List.append_nil] at h1
        have h2 : (X ++ ⟨#[34]⟩ : ByteArray).data.toList = quoteV s := by
          unfold quoteV
          rw [if_pos HVV.out, ByteArray.data_append, Array.toList_append, h1, HM.out]
          rfl
        rw [← h2]⟩
      go_wp2_with fail
      go_ret
      exact ⟨congrArg (fun b : ByteArray => Ending.returned (Value.string b)) HV.out, below_step HBW.out HB2.out⟩
end Go.Proofs.YtgegclilhjhnmaaDoor.X
