/- The law FrameTurned of the program, for whatever comes in: from its walk and its statement over plain values; no condition but the row's own. -/
import Derived.Test.YthhkdabajikckaaRows
import Derived.Test.YthhkdabajikckaaGFrameTurned
import Derived.Test.YthhkdabajikckaaPureFrameTurned
import Derived.WalkKit
import Derived.ProofKit
import Derived.OpenShut
import Derived.ShutString
import Derived.ChangeOld
import Derived.Below
import Derived.SizedLaws
import Derived.Test.YthhkdabajikckaaOpens
namespace Go.Proofs.Ythhkdabajikckaa.frameTurned
open Go.ChangeShapes Go.WideShapes Go.ChangeAt Go.RowKit Go.Proofs.YthhkdabajikckaaW.PrintWords
open Go.ChangeMaps (open_string shut_string)
set_option linter.unusedVariables false
theorem own : ownKnob Try.prog.godebug = none := by kernel_rfl
theorem laidOut : laidOutB Try.prog = true := by kernel_rfl
set_option maxRecDepth 100000 in
set_option maxHeartbeats 2000000 in
theorem lifted (os : Os) (started : os.Started) (H : Type) (enc : TypeId × Value → H) :
    ReturnsInHanded {} Try.checked os 6 .any (Rows.frameTurnedSpec.pre6 enc Try.prog Try.f6 Rows.frameTurnedRow.domain false) (Rows.frameTurnedSpec.post enc Try.prog Try.f6 false true false false) := by
  refine returnsInHanded_of_change_sized (C := Try.checked) own started (by kernel_rfl) Try.func6
    (ChangeSpec.witness6 (enc := enc) (C := Try.checked) false ⟨#[], #[.agg #[.int .i64 0, .int .i64 0, .int .u64 0, .int .i64 0, .int .u64 0, .int .i64 0, .int .i64 0, .int .i64 0, .slice none 0 0], .int .u64 0, .int .u8 0], []⟩ 8 (by kernel_rfl) (by kernel_rfl) (by kernel_rfl) (by kernel_rfl)) ?_
  intro W base args ds gs before hval0 hW hcnd hsz0 _
  have hval : ∀ (j : Nat) t v, Try.f6.params[j]? = some t → args[j]? = some v → Value.okWide Try.prog W .any base t v := hval0
  have hW' := hW
  obtain ⟨p, q, hA0, hV, rfl, hfz, hnd⟩ := hW
  have hA : DataW.TrodAll enc Try.prog W 0 (fun _ => true) true Try.f6.params.toList args.toList ds p := hA0
  rw [Try.params6] at hA hval
  obtain ⟨v0, vs0, d0, ds0, p0, q0, hargs, rfl, rfl, h0, r0⟩ := trodAll_cons hA
  obtain ⟨v1, vs1, d1, ds1, p1, q1, rfl, rfl, rfl, h1, r1⟩ := trodAll_cons r0
  obtain ⟨v2, vs2, d2, ds2, p2, q2, rfl, rfl, rfl, h2, r2⟩ := trodAll_cons r1
  obtain ⟨rfl, rfl, rfl⟩ := trodAll_nil r2
  obtain rfl : args = #[v0, v1, v2] := by cases args; simp_all
  obtain ⟨rfl, rfl⟩ := trodVars_none hV
  have k0 := h0
  have lt0 : ∀ x ∈ p0, x.block < W.heap.size := by obtain ⟨m, hm⟩ := k0; exact DataW.trod_lt m _ _ _ hm
  obtain ⟨cs0, y0, rfl, K0, g0⟩ := Opens.arg_struct Try.underlying25 (d := X.k25) (Opens.struct (fun x : X.S25 => (x.f0, x.f1, x.f2, x.f3, x.f4, x.f5, x.f6, x.f7, x.f8)) (fun p => (⟨p.1, p.2.1, p.2.2.1, p.2.2.2.1, p.2.2.2.2.1, p.2.2.2.2.2.1, p.2.2.2.2.2.2.1, p.2.2.2.2.2.2.2.1, p.2.2.2.2.2.2.2.2⟩ : X.S25)) (fun _ => rfl) Try.underlying25 (by kernel_rfl) (Opens.cons (by rfl) (by kernel_rfl) (Opens.int Try.underlying3) (Opens.cons (by rfl) (by kernel_rfl) (Opens.int Try.underlying3) (Opens.cons (by rfl) (by kernel_rfl) (Opens.int Try.underlying22) (Opens.cons (by rfl) (by kernel_rfl) (Opens.int Try.underlying3) (Opens.cons (by rfl) (by kernel_rfl) (Opens.int Try.underlying22) (Opens.cons (by rfl) (by kernel_rfl) (Opens.int Try.underlying3) (Opens.cons (by rfl) (by kernel_rfl) (Opens.int Try.underlying2) (Opens.cons (by rfl) (by kernel_rfl) (Opens.int Try.underlying3) (Opens.one (by rfl) (by kernel_rfl) (Opens.slice Try.underlying23 (by kernel_rfl) (Opens.int Try.underlying5)))))))))))) (hval 0 25 v0 rfl rfl) h0
  obtain ⟨A80, c80, e0, lc0_0, hr0_0⟩ := X.k25_open K0
  subst e0
  have k1 := h1
  have lt1 : ∀ x ∈ p1, x.block < W.heap.size := by obtain ⟨m, hm⟩ := k1; exact DataW.trod_lt m _ _ _ hm
  obtain ⟨y1, rfl, g1⟩ := Opens.arg_int Try.underlying35 (hval 1 35 v1 rfl rfl) h1
  have k2 := h2
  have lt2 : ∀ x ∈ p2, x.block < W.heap.size := by obtain ⟨m, hm⟩ := k2; exact DataW.trod_lt m _ _ _ hm
  obtain ⟨y2, rfl, g2⟩ := Opens.arg_int Try.underlying5 (hval 2 5 v2 rfl rfl) h2
  obtain ⟨k, hf⟩ := Pure.FrameTurned y0 y1 y2 ⟨_, g0 _ (Nat.le_refl _)⟩ ⟨_, g1 _ (Nat.le_refl _)⟩ ⟨_, g2 _ (Nat.le_refl _)⟩
  clear hA0 hval0 hsz0
  refine (X.courierlaw15_FrameTurned.calls k _ _ _ _ _ _ _ _ _ _ _ _ _ true _ hr0_0 lc0_0 hf).mono fun e W' ⟨he, bel0⟩ => ?_
  have bel : Below W.heap.size W W' := bel0
  subst he
  exact ⟨_, rfl, _, _, _, [], _, [], hW', trodAll_mk1 (shut_bool Try.underlying4 _), (trodAll_cons_mk (Below.trod laidOut (by kernel_rfl) (of_decide_eq_true (by kernel_rfl)) k0 bel lt0) (trodAll_cons_mk (Below.trod laidOut (by kernel_rfl) (of_decide_eq_true (by kernel_rfl)) k1 bel lt1) (trodAll_cons_mk (Below.trod laidOut (by kernel_rfl) (of_decide_eq_true (by kernel_rfl)) k2 bel lt2) trodAll_mk0))), rfl, bel.frame _, fun h => by cases h⟩
theorem over : Rows.frameTurnedRow.holds Try.pinned (OpenSpec.ofChange Rows.frameTurnedSpec) :=
  OpenClaim.holds_of_wide 6 Try.f6 rfl rfl rfl rfl rfl rfl rfl ⟨rfl, rfl, rfl, rfl, rfl⟩ rfl rfl rfl rfl rfl (by kernel_rfl) Try.func6 (by kernel_rfl)
    (of_decide_eq_true (by kernel_rfl)) (by unfold Func.isWrapper; first | (rw [if_pos (by decide +kernel)]; kernel_rfl) | (rw [if_neg (by decide +kernel)]; exact ⟨rfl, rfl⟩))
    (fun os started H enc _ => lifted os started H enc)
theorem proved : Rows.FrameTurnedSaid := over
#print axioms proved
end Go.Proofs.Ythhkdabajikckaa.frameTurned
namespace Go.Proofs.Ythhkdabajikckaa
/-- The row, under a short name, for the claim. -/
theorem frameTurned_holds : Rows.FrameTurnedSaid := frameTurned.proved
end Go.Proofs.Ythhkdabajikckaa
