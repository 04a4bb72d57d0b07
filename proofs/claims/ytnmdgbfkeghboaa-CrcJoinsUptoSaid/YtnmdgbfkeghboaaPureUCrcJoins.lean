/- The statement CrcJoins over lists, of at most 1048576 bytes each: two sums are joined to that of both, one behind the other; no further condition. -/
import Derived.Test.YtnmdgbfkeghboaaX23
import Derived.Test.YtnmdgbfkeghboaaX22
import Derived.Test.YtnmdgbfkeghboaaSpecCrc
import Derived.Test.YtnmdgbfkeghboaaUCrcJoins
namespace Go.Proofs.Ytnmdgbfkeghboaa.Pure
open Go.RowKit Go.Proofs.Ytnmdgbfkeghboaa.X Go.Proofs.YtnmdgbfkeghboaaW.PrintWords Go.Proofs.YtnmdgbfkeghboaaW.PrintLast Go.Proofs.Ytnmdgbfkeghboaa.Math

theorem CrcJoinsUpto : courierlaw14_CrcJoins.PureUpto := by
  intro l1 l2 _ hm1 hw1 _ hm2 hw2
  have hB1 := Bytes.of_wf hw1
  have hB2 := Bytes.of_wf hw2
  obtain ⟨K, hr⟩ := ref_sum (hB1.append hB2) (by rw [List.length_append]; omega)
  have h1 := crcUpd_lt (s := 0) (by omega) l1 hB1
  have h2 := crcUpd_lt (s := 0) (by omega) l2 hB2
  have hj : crc_Join.f ((crcUpd 0 l1 : Nat) : Int) ((crcUpd 0 l2 : Nat) : Int) (l2.length : Int) = some ((crcUpd 0 (l1 ++ l2) : Nat) : Int) := by
    unfold crc_Join.f
    rw [if_pos ⟨⟨by omega, by omega⟩, ⟨by omega, by omega⟩, by omega, by omega⟩, crcUpd_join]
    simp only [Int.toNat_natCast]
  refine ⟨K, ?_⟩
  unfold courierlaw14_CrcJoins.f
  simp only [bsome, List.nil_append, List.length_nil, Nat.zero_add]
  rw [if_pos (by omega), if_pos (by omega), if_neg (by omega), crc_sum hB1, bsome, crc_sum hB2, bsome, hj, bsome, hr K (Nat.le_refl _), bsome]
  simp

end Go.Proofs.Ytnmdgbfkeghboaa.Pure
