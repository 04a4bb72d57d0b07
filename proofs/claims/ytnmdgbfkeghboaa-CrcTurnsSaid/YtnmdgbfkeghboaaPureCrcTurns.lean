/- The statement CrcTurns over lists: one bit turned, anywhere in any bytes, makes another sum; no further condition. -/
import Derived.Test.YtnmdgbfkeghboaaX28
import Derived.Test.YtnmdgbfkeghboaaSpecCrc
namespace Go.Proofs.Ytnmdgbfkeghboaa.Pure
open Go.RowKit Go.Proofs.Ytnmdgbfkeghboaa.X Go.Proofs.YtnmdgbfkeghboaaW.PrintWords Go.Proofs.YtnmdgbfkeghboaaW.PrintLast Go.Proofs.YtnmdgbfkeghboaaW.PrintMore Go.Proofs.Ytnmdgbfkeghboaa.Math

theorem CrcTurns : courierlaw14_CrcTurns.Pure := by
  intro l a b hm hl hw ha hb
  have hB := Bytes.of_wf hw
  rw [wf_u64] at ha
  rw [wf_u8] at hb
  unfold courierlaw14_CrcTurns.f
  by_cases h0 : l.length = 0
  · rw [if_pos (by omega), crc_sum (Bytes.cons (by omega) (by omega) Bytes.nil), crc_sum (Bytes.cons (by omega) (by omega) Bytes.nil)]
    decide +kernel
  · rw [if_neg (by omega)]
    simp only [bsome, List.nil_append, List.length_nil, Nat.zero_add]
    obtain ⟨a, rfl⟩ := Int.eq_ofNat_of_zero_le ha.1
    obtain ⟨b, rfl⟩ := Int.eq_ofNat_of_zero_le hb.1
    have hk : a % l.length < l.length := Nat.mod_lt _ (by omega)
    have e : wrap64 (Int.tmod (a : Int) (IntKind.u64.wrap (l.length : Int))) = ((a % l.length : Nat) : Int) := by
      rw [u64_id (by omega) (by omega), Int.tmod_eq_emod_of_nonneg (by omega), ← Int.natCast_emod, wrap64_id (by omega) (by omega)]
    rw [if_pos (by omega), u64_id (n := (l.length : Int)) (by omega) (by omega), if_neg (by omega)]
    rw [u64_id (n := (l.length : Int)) (by omega) (by omega)] at e
    rw [e, if_pos (by omega), if_pos (by omega), Int.tmod_eq_emod_of_nonneg (by omega), if_pos (by omega)]
    have e2 : shl .u8 1 ((b : Int) % 8) = ((2 ^ (b % 8) : Nat) : Int) := by
      have : ∀ m : Fin 8, shl .u8 1 (m.val : Int) = ((2 ^ m.val : Nat) : Int) := by decide
      rw [show (b : Int) % 8 = ((b % 8 : Nat) : Int) by omega]
      exact this ⟨b % 8, by omega⟩
    rw [e2]
    have hp : 2 ^ (b % 8) < 256 := by
      have : ∀ m : Fin 8, 2 ^ m.val < 256 := by decide
      exact this ⟨b % 8, by omega⟩
    have hp0 : 0 < 2 ^ (b % 8) := Nat.two_pow_pos _
    generalize 2 ^ (b % 8) = p at hp hp0
    generalize a % l.length = i at hk
    obtain ⟨c0, c1⟩ := rd_bytes hB hk
    have hl2 : l = l.take i ++ rd l (i : Int) :: l.drop (i + 1) := by rw [← drop_rd hk, List.take_append_drop]
    generalize hc : rd l (i : Int) = c at c0 c1 hl2
    obtain ⟨c, rfl⟩ := Int.eq_ofNat_of_zero_le c0
    rw [xor_nat_u8 (by omega) hp]
    have hx : c ^^^ p < 256 := Nat.xor_lt_two_pow (n := 8) (by omega) hp
    have hs : l.set ((i : Nat) : Int).toNat ((c ^^^ p : Nat) : Int) = l.take i ++ ((c ^^^ p : Nat) : Int) :: l.drop (i + 1) := by
      rw [Int.toNat_natCast, List.set_eq_take_append_cons_drop, if_pos hk]
    rw [hs]
    have hB2 : Bytes (l.take i ++ ((c ^^^ p : Nat) : Int) :: l.drop (i + 1)) := (hB.take i).append (Bytes.cons (by omega) (by omega) (hB.drop (i + 1)))
    rw [crc_sum hB2, crc_sum hB]
    simp only [bsome]
    congr 1
    rw [bne_iff_ne]
    intro h
    have h2 : crcUpd 0 (l.take i ++ ((c ^^^ p : Nat) : Int) :: l.drop (i + 1)) = crcUpd 0 (l.take i ++ (c : Int) :: l.drop (i + 1)) := by
      rw [← hl2]
      omega
    have h3 := crcUpd_turn 0 (l.take i) (l.drop (i + 1)) _ _ (by omega) (by omega) h2
    have h4 : c ^^^ p = c := by omega
    have := xor_cancel h4
    omega

end Go.Proofs.Ytnmdgbfkeghboaa.Pure
