/- Declarations that came in: they open to a tree that Small may be asked of. -/
import Derived.Test.YtknbhbppofphpaaGreatDoorReach
import Derived.Test.YtknbhbppofphpaaGreatDoorTree
set_option linter.unusedVariables false
set_option linter.unusedSimpArgs false
namespace Go.Proofs.YtknbhbppofphpaaGreatDoor.X
open Go.RowKit Go.WideShapes Go.Proofs.YtknbhbppofphpaaGreatDoorW.PrintWords Go.Proofs.YtknbhbppofphpaaGreatDoorW.PrintLast Go.Proofs.YtknbhbppofphpaaGreatDoorW.PrintMore Go.Proofs.YtknbhbppofphpaaGreatDoor
theorem posW (N : Nat) : Reach.OpensW Tryz.prog 34 k34 (fun _ => True) N := Reach.weaken (Reach.struct (fun x : S34 => (x.f0, x.f1)) (fun p => (⟨p.1, p.2⟩ : S34)) (fun _ => rfl) Tryz.underlying34 (by kernel_rfl) (Reach.cons (by rfl) (by kernel_rfl) (fun M hM => Reach.int Tryz.underlying3 M) (Reach.one (by rfl) (by kernel_rfl) (fun M hM => Reach.int Tryz.underlying3 M)))) (fun _ _ => trivial)
theorem fieldW (N : Nat) : Reach.OpensW Tryz.prog 63 k63 GoodF N := by
  refine Reach.weaken (Reach.struct (fun x : S63 => (x.f0, x.f1, x.f2, x.f3, x.f4)) (fun p => (⟨p.1, p.2.1, p.2.2.1, p.2.2.2.1, p.2.2.2.2⟩ : S63)) (fun _ => rfl) Tryz.underlying63 (by kernel_rfl) (Reach.cons (by rfl) (by kernel_rfl) (fun M hM => Reach.bool Tryz.underlying4 M) (Reach.cons (by rfl) (by kernel_rfl) (fun M hM => Reach.str Tryz.underlying9 M) (Reach.cons (by rfl) (by kernel_rfl) (fun M hM => Reach.str Tryz.underlying9 M) (Reach.cons (by rfl) (by kernel_rfl) (fun M hM => Reach.int Tryz.underlying3 M) (Reach.one (by rfl) (by kernel_rfl) (fun M hM => posW M))))))) (fun x h => ?_)
  obtain ⟨_, h1, h2, _⟩ := h
  have e : reachBytes ≤ 140737488355328 := by decide
  exact ⟨Nat.le_trans h1 e, Nat.le_trans h2 e⟩
theorem valueW (N : Nat) : Reach.OpensW Tryz.prog 64 k64 GoodV N := by
  refine Reach.weaken (Reach.struct (fun x : S64 => (x.f0, x.f1, x.f2)) (fun p => (⟨p.1, p.2.1, p.2.2⟩ : S64)) (fun _ => rfl) Tryz.underlying64 (by kernel_rfl) (Reach.cons (by rfl) (by kernel_rfl) (fun M hM => Reach.str Tryz.underlying9 M) (Reach.cons (by rfl) (by kernel_rfl) (fun M hM => Reach.int Tryz.underlying3 M) (Reach.one (by rfl) (by kernel_rfl) (fun M hM => posW M))))) (fun x h => ?_)
  obtain ⟨h1, _⟩ := h
  have e : reachBytes ≤ 140737488355328 := by decide
  exact Nat.le_trans h1 e
theorem methodW (N : Nat) : Reach.OpensW Tryz.prog 67 k67 GoodM N := by
  refine Reach.weaken (Reach.struct (fun x : S67 => (x.f0, x.f1, x.f2, x.f3)) (fun p => (⟨p.1, p.2.1, p.2.2.1, p.2.2.2⟩ : S67)) (fun _ => rfl) Tryz.underlying67 (by kernel_rfl) (Reach.cons (by rfl) (by kernel_rfl) (fun M hM => Reach.str Tryz.underlying9 M) (Reach.cons (by rfl) (by kernel_rfl) (fun M hM => Reach.str Tryz.underlying9 M) (Reach.cons (by rfl) (by kernel_rfl) (fun M hM => Reach.str Tryz.underlying9 M) (Reach.one (by rfl) (by kernel_rfl) (fun M hM => posW M)))))) (fun x h => ?_)
  obtain ⟨h1, h2, h3, _⟩ := h
  have e : reachBytes ≤ 140737488355328 := by decide
  exact ⟨Nat.le_trans h1 e, Nat.le_trans h2 e, Nat.le_trans h3 e⟩
theorem good_nil : GoodL [] := by rw [GoodL]; trivial
theorem good_app : ∀ l : List RD, (∀ x ∈ l, GoodL [x]) → GoodL l
  | [], _ => good_nil
  | ⟨a, b, c, fs, vs, ms, ds⟩ :: l, h => by
    have h1 := h _ List.mem_cons_self
    have h2 := good_app l (fun x hx => h x (List.mem_cons_of_mem _ hx))
    rw [GoodL] at h1 ⊢
    exact ⟨h1.1, h1.2.1, h1.2.2.1, h1.2.2.2.1, h1.2.2.2.2.1, h2⟩
set_option maxRecDepth 100000 in
set_option maxHeartbeats 2000000 in
theorem declW : ∀ N, Reach.OpensW Tryz.prog 60 k60 (fun x => GoodL [x]) N := by
  intro N
  induction N using Nat.strongRecOn with
  | _ N ih =>
  intro H enc w base spare held fuel cs x hN h
  obtain ⟨y, hK, hg⟩ := (Reach.struct (fun x : S60 => (x.f0, x.f1, x.f2, x.f3, x.f4, x.f5, x.f6)) (fun p => (⟨p.1, p.2.1, p.2.2.1, p.2.2.2.1, p.2.2.2.2.1, p.2.2.2.2.2.1, p.2.2.2.2.2.2⟩ : S60)) (fun _ => rfl) Tryz.underlying60 (by kernel_rfl) (Reach.cons (by rfl) (by kernel_rfl) (fun M hM => Reach.int Tryz.underlying3 M) (Reach.cons (by rfl) (by kernel_rfl) (fun M hM => Reach.str Tryz.underlying9 M) (Reach.cons (by rfl) (by kernel_rfl) (fun M hM => posW M) (Reach.cons (by rfl) (by kernel_rfl) (fun M hM => Reach.slice Tryz.underlying56 (by kernel_rfl) (by decide +kernel) (fun M' hM' => fieldW M')) (Reach.cons (by rfl) (by kernel_rfl) (fun M hM => Reach.slice Tryz.underlying57 (by kernel_rfl) (by decide +kernel) (fun M' hM' => valueW M')) (Reach.cons (by rfl) (by kernel_rfl) (fun M hM => Reach.slice Tryz.underlying58 (by kernel_rfl) (by decide +kernel) (fun M' hM' => methodW M')) (Reach.one (by rfl) (by kernel_rfl) (fun M hM => Reach.slice Tryz.underlying22 (by kernel_rfl) (by decide +kernel) (fun M' hM' => ih M' (by omega))))))))))) hN h
  refine ⟨y, ?_, fun hb => ?_⟩
  · obtain ⟨_, _, e0, rfl, ⟨_, _, e1, rfl, ⟨_, _, e2, s2, ⟨_, _, e3, ⟨A4, c4, rfl, l4, g4⟩, ⟨_, _, e4, ⟨A5, c5, rfl, l5, g5⟩, ⟨_, _, e5, ⟨A6, c6, rfl, l6, g6⟩, ⟨A7, c7, rfl, l7, g7⟩⟩⟩⟩⟩⟩⟩ := hK
    obtain rfl := k34_open s2
    subst e5 e4 e3 e2 e1
    rw [e0]
    exact k60_mk w y l4 g4 l5 g5 l6 g6 l7 g7
  · obtain ⟨h0, h1, _, ⟨h3, h3'⟩, ⟨h4, h4'⟩, ⟨h5, h5'⟩, ⟨h6, h6'⟩⟩ := hg hb
    have e : reachBytes ≤ 140737488355328 := by decide
    obtain ⟨a, b, c, fs, vs, ms, ds⟩ := y
    rw [GoodL]
    exact ⟨⟨h0, Nat.le_trans h1 e, Nat.le_trans h3 e, Nat.le_trans h4 e, Nat.le_trans h5 e, Nat.le_trans h6 e⟩, h3', h4', h5', good_app ds h6', good_nil⟩
theorem declsW (N : Nat) : Reach.OpensW Tryz.prog 22 (Kd.slice 60 k60) (fun l => GoodL l ∧ l.length ≤ 140737488355328) N :=
  Reach.weaken (Reach.slice Tryz.underlying22 (by kernel_rfl) (by decide +kernel) (fun M hM => declW M)) (fun l h => ⟨good_app l h.2, Nat.le_trans h.1 (by decide)⟩)
end Go.Proofs.YtknbhbppofphpaaGreatDoor.X
