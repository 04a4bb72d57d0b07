/- The law WireJoins of the program, for whatever comes in that is of bulk at most 1048576: from its walk and its statement over plain values; no condition but the row's own. -/
import Derived.Test.YtopmelffmakklaaRows
import Derived.Test.YtopmelffmakklaaGUWireJoins
import Derived.Test.YtopmelffmakklaaPureUWireJoins
import Derived.WalkKit
import Derived.ProofKit
import Derived.OpenShut
import Derived.ShutString
import Derived.ChangeOld
import Derived.Below
import Derived.SizedLaws
import Derived.JoinedCond
import Derived.Deep.CondSized
import Derived.Test.YtopmelffmakklaaOpens
namespace Go.Proofs.Ytopmelffmakklaa.wireJoins
open Go.ChangeShapes Go.WideShapes Go.ChangeAt Go.RowKit Go.Proofs.YtopmelffmakklaaW.PrintWords
open Go.ChangeMaps (open_string shut_string)
set_option linter.unusedVariables false
theorem own : ownKnob Try.prog.godebug = none := by kernel_rfl
theorem laidOut : laidOutB Try.prog = true := by kernel_rfl
set_option maxRecDepth 100000 in
set_option maxHeartbeats 2000000 in
theorem lifted (os : Os) (started : os.Started) (H : Type) (enc : TypeId × Value → H) (F : Stop.Interp) :
    ReturnsInHanded {} Try.checked os 6 .any ((Rows.OpenSpec.upto Rows.wireJoinsSpec).pre6 enc Try.prog Try.f6 Rows.wireJoinsUptoRow.domain false) (((Rows.OpenSpec.upto Rows.wireJoinsSpec).at F).post enc Try.prog Try.f6 false true false false) := by
  refine returnsInHanded_of_cond_sized (C := Try.checked) (s := Rows.OpenSpec.upto Rows.wireJoinsSpec) (k := Rows.uptoSmall) rfl own started (by kernel_rfl) Try.func6
    (OpenSpec.witness (enc := enc) (C := Try.checked) (s := Rows.OpenSpec.upto Rows.wireJoinsSpec) (k := Rows.uptoSmall) rfl false ⟨#[], #[.slice none 0 0], []⟩ 8 (by kernel_rfl) (by kernel_rfl) (by kernel_rfl) (x := ([.nil], [], [])) (by kernel_rfl) rfl (by kernel_rfl)) ?_
  intro W base args ds gs before hval0 hW hcnd hk hsz0 _
  have hkk := bulks.bound hk
  have hval : ∀ (j : Nat) t v, Try.f6.params[j]? = some t → args[j]? = some v → Value.okWide Try.prog W .any base t v := hval0
  have hW' := hW
  obtain ⟨p, q, hA0, hV, rfl, hfz, hnd⟩ := hW
  have hA : DataW.TrodAll enc Try.prog W 0 (fun _ => true) true Try.f6.params.toList args.toList ds p := hA0
  rw [Try.params6] at hA hval
  obtain ⟨v0, vs0, d0, ds0, p0, q0, hargs, rfl, rfl, h0, r0⟩ := trodAll_cons hA
  obtain ⟨rfl, rfl, rfl⟩ := trodAll_nil r0
  obtain rfl : args = #[v0] := by cases args; simp_all
  obtain ⟨rfl, rfl⟩ := trodVars_none hV
  have k0 := h0
  have lt0 : ∀ x ∈ p0, x.block < W.heap.size := by obtain ⟨m, hm⟩ := k0; exact DataW.trod_lt m _ _ _ hm
  obtain ⟨A0, c0, y0, rfl, lc0, hr0, g0⟩ := Opens.arg_slice Try.underlying46 (d := X.k30) (Opens.slice Try.underlying46 (by kernel_rfl) (Opens.struct (fun x : X.S30 => (x.f0, x.f1, x.f2, x.f3)) (fun p => (⟨p.1, p.2.1, p.2.2.1, p.2.2.2⟩ : X.S30)) (fun _ => rfl) Try.underlying30 (by kernel_rfl) (Opens.cons (by rfl) (by kernel_rfl) (Opens.int Try.underlying3) (Opens.cons (by rfl) (by kernel_rfl) (Opens.int Try.underlying3) (Opens.cons (by rfl) (by kernel_rfl) (Opens.int Try.underlying24) (Opens.one (by rfl) (by kernel_rfl) (Opens.slice Try.underlying22 (by kernel_rfl) (Opens.int Try.underlying5)))))))) (hval 0 46 v0 rfl rfl) h0
  obtain ⟨k, hf⟩ := Pure.WireJoinsUpto y0 (g0 1048576 (Nat.le_trans (bulks.part_le (by simp)) hkk))
  clear hA0 hval0 hsz0
  refine (X.courierlaw02_WireJoins.calls k _ _ _ true _ hr0 lc0 hf).mono fun e W' ⟨he, bel0⟩ => ?_
  have bel : Below W.heap.size W W' := bel0
  subst he
  show ∃ v, _ ∧ Rows.wireJoinsSpec.post enc Try.prog _ false true false false W _ v W'
  exact ⟨_, rfl, _, _, _, [], _, [], hW', trodAll_mk1 (shut_bool Try.underlying4 _), (trodAll_cons_mk (Below.trod laidOut (by kernel_rfl) (of_decide_eq_true (by kernel_rfl)) k0 bel lt0) trodAll_mk0), rfl, bel.frame _, fun h => by cases h⟩
theorem over : Rows.wireJoinsUptoRow.holds Try.pinned (Rows.OpenSpec.upto Rows.wireJoinsSpec) :=
  OpenClaim.holds_of_cond 6 Try.f6 rfl rfl rfl rfl rfl rfl rfl ⟨rfl, rfl, rfl, rfl, rfl⟩ rfl rfl rfl rfl rfl (by kernel_rfl) Try.func6 (by kernel_rfl)
    (of_decide_eq_true (by kernel_rfl)) (by unfold Func.isWrapper; first | (rw [if_pos (by decide +kernel)]; kernel_rfl) | (rw [if_neg (by decide +kernel)]; exact ⟨rfl, rfl⟩))
    (fun os started H enc _ F => lifted os started H enc F)
theorem proved : Rows.WireJoinsUptoSaid := over
#print axioms proved
end Go.Proofs.Ytopmelffmakklaa.wireJoins
namespace Go.Proofs.Ytopmelffmakklaa
/-- The row, under a short name, for the claim. -/
theorem wireJoins_upto_holds : Rows.WireJoinsUptoSaid := wireJoins.proved
end Go.Proofs.Ytopmelffmakklaa
