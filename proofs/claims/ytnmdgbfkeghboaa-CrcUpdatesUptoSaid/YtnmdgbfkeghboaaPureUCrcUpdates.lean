/- The statement CrcUpdates over lists, of at most 1048576 bytes each: the sum of bytes and more bytes is that of both, one behind the other; no further condition. -/
import Derived.Test.YtnmdgbfkeghboaaX27
import Derived.Test.YtnmdgbfkeghboaaSpecCrc
import Derived.Test.YtnmdgbfkeghboaaUCrcUpdates
namespace Go.Proofs.Ytnmdgbfkeghboaa.Pure
open Go.RowKit Go.Proofs.Ytnmdgbfkeghboaa.X Go.Proofs.YtnmdgbfkeghboaaW.PrintWords Go.Proofs.YtnmdgbfkeghboaaW.PrintLast Go.Proofs.Ytnmdgbfkeghboaa.Math

theorem CrcUpdatesUpto : courierlaw14_CrcUpdates.PureUpto := by
  intro a l1 l2 ha _ hm1 hw1 _ hm2 hw2
  have hB1 := Bytes.of_wf hw1
  have hB2 := Bytes.of_wf hw2
  rw [wf_u32] at ha
  obtain ⟨a, rfl⟩ := Int.eq_ofNat_of_zero_le ha.1
  have ha2 : a < 4294967296 := by omega
  obtain ⟨K, hr⟩ := ref_update ha2 hB1 (by omega)
  refine ⟨K, ?_⟩
  unfold courierlaw14_CrcUpdates.f
  simp only [bsome, List.nil_append, List.length_nil, Nat.zero_add]
  rw [if_pos (by omega), if_pos (by omega), crc_update ha2 hB1, hr K (Nat.le_refl _), bsome, bsome, if_pos rfl, crc_sum hB1, bsome, crc_update (crcUpd_lt (by omega) l1 hB1) hB2, bsome, crc_sum (hB1.append hB2), bsome, crcUpd_append, if_pos rfl,
    crc_update ha2 Bytes.nil, bsome, crcUpd_nil, if_pos rfl, crc_sum (Bytes.cons (by omega) (by omega) Bytes.nil), bsome]
  decide +kernel

end Go.Proofs.Ytnmdgbfkeghboaa.Pure
