/- The statement WireBack over plain values: what was appended is taken as it was, whatever stands behind it; cut off, it lacks something; where what comes in is of bulk at most 1048576. -/
import Derived.Test.YtopmelffmakklaaGUWireBack
import Derived.Test.YtopmelffmakklaaSpecField
set_option linter.unusedVariables false
namespace Go.Proofs.Ytopmelffmakklaa.Pure
open Go.RowKit Go.Proofs.YtopmelffmakklaaW.PrintWords Go.Proofs.YtopmelffmakklaaW.PrintMore Go.Proofs.Ytopmelffmakklaa.Math Go.Proofs.Ytopmelffmakklaa.X Go.Proofs.Ytopmelffmakklaa
theorem same_self (a b c : Int) (d : List Int) : courierref01_Same.f a b c d a b c d = some true := by
  unfold courierref01_Same.f
  simp
theorem WireBackUpto : courierlaw02_WireBack.PureUpto := by
  intro y0 l1 a2 ⟨h0, h1, h2, h3, h4, h5⟩ ⟨h6, h7, h8⟩ h9
  obtain ⟨num, ty, n, d⟩ := y0
  simp only [Opens.gInt] at h0 h1 h2 h5 h8 h9
  have hb : Bytes d := Bytes.of_wf h5
  have hb1 : Bytes l1 := Bytes.of_wf h8
  have hd : d.length ≤ 1048576 := h4
  clear h3 h4 h5 h8 h6
  rw [wf_u64] at h2 h9
  simp only
  by_cases hf : formedV num ty n d = true
  rotate_left
  · refine ⟨5, ?_⟩
    unfold courierlaw02_WireBack.f courierlaw02_awake.f
    rw [bsome, if_pos rfl, ref_formed _ _ _ _ _ (by omega), bsome, Bool.eq_false_iff.mpr hf, show (5 : Nat) = 4 + 1 from rfl]
    simp only [courierlaw02_WireBack.j0]
    rfl
  obtain ⟨a, b, c, rfl, rfl, rfl, hg⟩ := good_of h2.1 hf
  have hc : c < 18446744073709551616 := by omega
  have hl := fieldE_len hg hc (by omega)
  have hp := fieldE_pos (num := a) (ty := b) (n := c) (d := d)
  have hB := fieldE_bytes (num := a) (ty := b) (n := c) hb
  obtain ⟨K1, e1⟩ := wire_append hg hc (by omega)
  obtain ⟨K2, e2⟩ := wire_take (fieldE a b c d ++ l1) (hB.append hb1) (by rw [List.length_append]; omega)
  obtain ⟨q, rfl⟩ := Int.eq_ofNat_of_zero_le h9.1
  obtain ⟨K3, e3⟩ := wire_take ((fieldE a b c d).take (q % (fieldE a b c d).length)) (hB.take _) (by rw [List.length_take]; omega)
  refine ⟨K1 + K2 + K3 + 3, ?_⟩
  have k1 : ∀ j, j ≤ 2 → K1 ≤ K1 + K2 + K3 + j := fun _ _ => by omega
  unfold courierlaw02_WireBack.f courierlaw02_awake.f
  rw [bsome, if_pos rfl, ref_formed _ _ _ _ _ (by omega), bsome, hf, show K1 + K2 + K3 + 3 = (K1 + K2 + K3 + 1 + 1) + 1 from rfl]
  simp only [courierlaw02_WireBack.j0]
  unfold courierlaw02_theirs.f
  rw [if_neg (by decide), bsome, e1 _ (by omega), bsome]
  simp only [if_true, courierlaw02_WireBack.j1]
  rw [if_neg (by rw [beq_eq_false_iff_ne.mpr (show ¬ ((fieldE a b c d).length : Int) = 0 by omega)]; decide)]
  simp only [bsome, List.nil_append, List.length_nil]
  rw [if_pos (by omega), if_pos (by omega), e2 _ (by omega), bsome, fieldV_back hg hc (by omega)]
  generalize hL : (fieldE a b c d).length = L at hl hp e3
  rw [u64_id (by omega) (by omega), if_neg (by omega), Int.tmod_eq_emod_of_nonneg (by omega), show (q : Int) % (L : Int) = ((q % L : Nat) : Int) by omega]
  have hm := Nat.mod_lt q hp
  rw [if_pos (by omega), if_pos (by omega), Int.toNat_natCast, e3 _ (by omega), bsome]
  unfold courierlaw02_ours.f
  rw [bsome]
  simp only
  rw [same_self, bsome, if_pos rfl]
  simp only [if_true]
  rw [fieldV_cut hg hc (by omega) (by omega)]
  rfl
end Go.Proofs.Ytopmelffmakklaa.Pure
