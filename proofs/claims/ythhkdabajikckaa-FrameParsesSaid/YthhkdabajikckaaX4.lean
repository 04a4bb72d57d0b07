/- Plain functions for Go's own, out of the translation's print, and a proof that each call comes to what they tell; no condition but the functions' own answers. -/
import Derived.Test.YthhkdabajikckaaX0
namespace Go.Proofs.Ythhkdabajikckaa.X
open Go.RowKit Go.Proofs.YthhkdabajikckaaW.PrintWords Go.Proofs.YthhkdabajikckaaW.PrintLast Go.Proofs.YthhkdabajikckaaW.PrintMore
attribute [local go_sem] max2_int min2_int max_two min_two max_three min_three max_four min_four Go.Proofs.Ythhkdabajikckaa.MyWords.put_isSome Go.Proofs.Ythhkdabajikckaa.MyWords.drewN_put   -- for this text's walks alone
set_option linter.unusedVariables false
set_option linter.unusedSimpArgs false

/-! ### crc_Update: function 29 -/
section
open Go.Proofs.Ythhkdabajikckaa.Math
def crc_Update.f (a0 : Int) (l1 : List Int) : Option Int := if (0 ≤ a0 ∧ a0 < 4294967296) ∧ okBytes l1 = true then some ((crcUpd a0.toNat l1 : Nat) : Int) else none
set_option maxHeartbeats 1000000 in
set_option maxRecDepth 100000 in
theorem crc_Update.calls (a0 : Int) (A1 : Option Addr) (c1 : Nat) (l1 : List Int) (r : Int) (w : World) (hr1 : Kd.C (Kd.int .u8) w A1 l1.length l1) (hc1 : l1.length ≤ c1) (h : crc_Update.f a0 l1 = some r) :
    Calls Try.prog 29 #[.int .u32 a0, .slice A1 l1.length c1] w fun e w' => e = .returned (.int .u32 r) ∧ Below w.heap.size w w' := by
  obtain ⟨⟨h0, h1⟩, hb⟩ : (0 ≤ a0 ∧ a0 < 4294967296) ∧ okBytes l1 = true := by
    unfold crc_Update.f at h
    by_cases hc : (0 ≤ a0 ∧ a0 < 4294967296) ∧ okBytes l1 = true
    · exact hc
    · rw [if_neg hc] at h
      cases h
  unfold crc_Update.f at h
  rw [if_pos ⟨⟨h0, h1⟩, hb⟩] at h
  obtain rfl := Option.some.inj h
  clear h
  rw [okBytes_iff] at hb
  have HBy := Aside0.mk hb
  clear hb
  obtain ⟨s, rfl⟩ := Int.eq_ofNat_of_zero_le h0
  have hs : s < 4294967296 := by omega
  have hlen : l1.length ≤ 9223372036854775807 := hr1.2.1
  have HR := Aside0.mk hr1
  clear hr1 h0 h1
  have hinv := inv_u32 hs
  have hz := crc_zero
  have hsg : IntKind.u32.signed = false := rfl
  go_enter Try.func29, Try.ntmps29
  go_wp2_with fail
  refine (crc_table.calls _).mono ?_
  rintro e w1 ⟨rfl, hb1⟩
  have HB1 := Aside0.mk hb1
  have hz1 := hb1.size
  clear hb1
  go_wp2_with ((with_reducible refine gate_store (t := 50) (p := 5) (v := .tmp 8) rfl ?_); refine wpList_store_row rfl 50 (.tmp 5) (.tmp 8) rfl w1.heap.size (crcCells 256) rfl rfl 50 (crcCells 0) (heap_alloc_new _ _) (by kernel_rfl) (by rw [crcCells_size, crcCells_size]) (by kernel_rfl) ?_)
  obtain ⟨W, hW⟩ : ∃ W, W = (w1.alloc (.cells (crcCells 0) 50)).setRow w1.heap.size (crcCells 256) := ⟨_, rfl⟩
  have HC : Aside0 (W.heap[w1.heap.size]? = some (.cells (crcCells 256) 50 (0, 0))) := ⟨by rw [hW]; exact setRow_heap _ _ _ _ _ _ (heap_alloc_new _ _)⟩
  have HB : Aside0 (Below w.heap.size w W) := ⟨by rw [hW]; exact below_setRow (HB1.out.alloc hz1 _) hz1 _⟩
  rw [← hW]
  clear hW HB1
  have HA : Aside0 (Kd.C (Kd.int .u8) W A1 l1.length l1) := ⟨Kd.C_below HR.out HB.out⟩
  go_loop [0, 13] (fun v0 v13 => ∃ k : Nat, k ≤ l1.length ∧ v13 = .int .i64 k ∧ v0 = .int .u32 (crcFold (inv32 s) (l1.take k) : Nat)) (fun _ v13 => l1.length - (intOf v13).toNat)
  case atStart => exact ⟨0, by omega, rfl, congrArg (Value.int .u32) hinv⟩
  case round =>
    obtain ⟨k, hk, rfl, rfl⟩ := hrel
    have hx := crcFold_lt (l1.take k) (HBy.out.take k) (inv32_lt hs)
    by_cases hlt : k < l1.length
    · have t1 : decide (k < l1.length) = true := decide_eq_true hlt
      obtain ⟨ad, rfl, hcell⟩ := Kd.at_int HA.out (k : Int) (by omega) (by omega)
      rw [Int.toNat_natCast] at hcell
      have hbt := rd_bytes HBy.out hlt
      generalize hrd : rd l1 (k : Int) = c at hcell hbt
      have HX : Aside0 (crcFold (inv32 s) (l1.take (k + 1)) = crcByte (crcFold (inv32 s) (l1.take k)) c.toNat) := ⟨by rw [show l1.take (k + 1) = l1.take k ++ [c] by rw [← hrd]; exact take_rd hlt, crcFold_snoc]⟩
      generalize crcFold (inv32 s) (l1.take k) = x at hx HX
      clear hrd
      obtain ⟨c, rfl⟩ := Int.eq_ofNat_of_zero_le hbt.1
      have hc : c < 256 := by omega
      have hy : x % 256 ^^^ c < 256 := Nat.xor_lt_two_pow (n := 8) (by omega) hc
      have hix : Go.bits .xor .u8 ((x : Int) % 256) (c : Int) = ((x % 256 ^^^ c : Nat) : Int) := by
        rw [show (x : Int) % 256 = ((x % 256 : Nat) : Int) by omega, xor_nat_u8 (by omega) hc]
      have hT : W.cell? ⟨w1.heap.size, x % 256 ^^^ c, none⟩ = some (.int .u32 (shN 8 (x % 256 ^^^ c) : Nat)) := by rw [blk_cell HC.out, crcCells_at hy, if_pos hy]
      have HE : Aside0 (Go.bits .xor .u32 ((shN 8 (x % 256 ^^^ c) : Nat) : Int) ((x : Int) / 256) = ((crcByte x c : Nat) : Int)) := ⟨by rw [crcByte_tab hc, show (x : Int) / 256 = ((x / 256 : Nat) : Int) by omega, xor_nat_u32 (shN_lt 8 (by omega)) (by omega)]⟩
      generalize x % 256 ^^^ c = y at hy hix hT HE
      clear hbt
      go_wp2
      go_round
      case rel => exact ⟨k + 1, by omega, by go_num, congrArg (Value.int .u32) (HE.out.trans (by rw [HX.out]; rfl))⟩
      case measure => simp [intOf]; omega
    · have t1 : decide (k < l1.length) = false := decide_eq_false hlt
      obtain rfl : k = l1.length := by omega
      go_wp2
      rw [List.take_of_length_le (Nat.le_refl _)] at hx
      go_ret
      exact ⟨congrArg (fun z : Int => Ending.returned (Value.int .u32 z)) (inv_u32 hx), HB.out⟩
end

/-! ### crc_Sum: function 19 -/
def crc_Sum.f (l0 : List Int) : Option (Int) := (crc_Update.f 0 l0).bind fun t116 => (some t116)
set_option maxHeartbeats 8000000 in
set_option maxRecDepth 100000 in
theorem crc_Sum.calls (A0 : Option Addr) (c0 : Nat) (l0 : List Int) (r : Int) (w : World) (hr0 : Kd.C (Kd.int .u8) w A0 l0.length l0) (hc0 : l0.length ≤ c0) (h : crc_Sum.f l0 = some r) :
    Calls Try.prog 19 #[.slice A0 l0.length c0] w fun e w' => e = .returned (.int .u32 r) ∧ Below w.heap.size w w' := by
  have HR0 := Aside0.mk hr0
  have HC0 := Aside0.mk hc0
  clear hr0 hc0
  have HB := Aside0.mk (Below.refl w.heap.size w)
  have H : ((crc_Update.f 0 l0).bind fun t116 => (some t116)) = some r := h
  clear h
  replace H := Option.bind_eq_some_iff.mp H
  obtain ⟨t116, A20, H⟩ := H
  replace H : (some t116) = some r := H
  have A2 := Aside0.mk A20
  clear A20
  obtain rfl := Option.some.inj H
  go_enter Try.func19, Try.ntmps19
  go_wp2_with (first | ((with_reducible refine gate_callee (f := 29) rfl ?_); refine goesL_ (some 4) rfl rfl Try.func29 (by kernel_rfl) rfl #[.int .u32 0, .slice A0 l0.length c0] rfl (by (try simp only [List.map_toArray, List.map_cons, List.map_nil]); first | done | rfl | (simp only [List.length_drop, List.length_take]; rfl)) ?_; (with_reducible refine (crc_Update.calls 0 _ _ l0 t116 _ ?side1 ?side2 A2.out).mono ?_); (case side1 => repeat (first | exact HR0.out | (with_reducible refine Kd.C_alloc ?_ _) | (with_reducible refine Kd.C_drewN ?_ _) | (with_reducible refine Kd.C_drew ?_))); (case side2 => exact HC0.out); rintro e w3 ⟨rfl, hb⟩; refine ⟨_, rfl, ?_⟩; have n0_ := Aside0.mk (below_step (by repeat (first | (with_reducible first | exact HB.out | apply below_alloc | apply pw_below_drewN | apply below_drew1) | exact HB.out)) hb); clear HB; have HB := n0_; clear n0_; (try clear hb); (try clear hb2); (try clear hk); (try clear hi)))
  go_ret
  exact ⟨by first | rfl | (simp [errW_none, errW_some] <;> rfl) | (simp [*, errW_none, errW_some] <;> rfl), by repeat (first | (with_reducible first | exact HB.out | apply below_alloc | apply pw_below_drewN | apply below_drew1) | exact HB.out)⟩

end Go.Proofs.Ythhkdabajikckaa.X
