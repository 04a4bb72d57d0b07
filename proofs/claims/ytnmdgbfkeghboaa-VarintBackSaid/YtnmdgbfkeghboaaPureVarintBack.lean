/- The statement VarintBack over lists: a number's varint is taken back as it was, whatever stands behind it, and cut off it lacks something; no further condition. -/
import Derived.Test.YtnmdgbfkeghboaaX30
import Derived.Test.YtnmdgbfkeghboaaSpecTake
import Derived.Test.YtnmdgbfkeghboaaSpecWrite
namespace Go.Proofs.Ytnmdgbfkeghboaa.Pure
open Go.RowKit Go.Proofs.Ytnmdgbfkeghboaa.X Go.Proofs.YtnmdgbfkeghboaaW.PrintWords Go.Proofs.YtnmdgbfkeghboaaW.PrintLast Go.Proofs.Ytnmdgbfkeghboaa.Math

theorem VarintBack : courierlaw01_VarintBack.Pure := by
  intro n l c hn hm hl hw hc
  rw [wf_u64] at hn
  rw [wf_u8] at hc
  obtain ⟨n, rfl⟩ := Int.eq_ofNat_of_zero_le hn.1
  obtain ⟨c, rfl⟩ := Int.eq_ofNat_of_zero_le hc.1
  have hp := encV_pos n
  have h10 := encV_len10 (n := n) (by omega)
  have hb := encV_bytes n
  obtain ⟨K1, h1⟩ := varint_append n [] (by simp; omega)
  obtain ⟨K2, h2⟩ := varint_take (encV n ++ l) (hb.append (Bytes.of_wf hw))
  obtain ⟨K3, h3⟩ := varint_take ((encV n).take (c % (encV n).length)) (hb.take _)
  have tb : takeV 0 0 (encV n ++ l) = ((n : Int), ((encV n).length : Int), 0) := by
    have := takeV_back l n 0 0 (by omega) (by omega)
    rw [show 0 + 2 ^ (7 * 0) * n = n by omega, show 0 + (encV n).length = (encV n).length by omega] at this
    exact this
  rw [tb] at h2
  rw [takeV_cut n 0 0 _ (by omega) (by omega) (Nat.mod_lt _ hp)] at h3
  refine ⟨K1 + K2 + K3, ?_⟩
  unfold courierlaw01_VarintBack.f
  rw [h1 _ (by omega)]
  simp only [bsome, List.nil_append, List.length_nil, Nat.zero_add]
  rw [if_neg (by omega), if_pos (by omega), if_pos (by omega), h2 _ (by omega)]
  simp only [bsome]
  have e : Int.tmod (wrap64 (c : Int)) ((encV n).length : Int) = ((c % (encV n).length : Nat) : Int) := by
    rw [wrap64_id (by omega) (by omega), Int.tmod_eq_emod_of_nonneg (by omega)]
    exact (Int.natCast_emod c _).symm
  have hlt := Nat.mod_lt c hp
  rw [e, if_pos (by omega), if_pos (by omega), show (((c % (encV n).length : Nat) : Int)).toNat = c % (encV n).length by omega, h3 _ (by omega)]
  simp

end Go.Proofs.Ytnmdgbfkeghboaa.Pure
