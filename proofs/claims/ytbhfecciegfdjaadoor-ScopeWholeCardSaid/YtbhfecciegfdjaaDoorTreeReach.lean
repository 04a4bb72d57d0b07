/- Declarations that came in: they open to a tree that Small may be asked of. -/
import Derived.Test.YtbhfecciegfdjaaDoorReach
import Derived.Test.YtbhfecciegfdjaaDoorTree
set_option linter.unusedVariables false
set_option linter.unusedSimpArgs false
namespace Go.Proofs.YtbhfecciegfdjaaDoor.X
open Go.RowKit Go.WideShapes Go.Proofs.YtbhfecciegfdjaaDoorW.PrintWords Go.Proofs.YtbhfecciegfdjaaDoorW.PrintLast Go.Proofs.YtbhfecciegfdjaaDoorW.PrintMore Go.Proofs.YtbhfecciegfdjaaDoor
theorem posW (N : Nat) : Reach.OpensW Tryd.prog 42 k42 (fun _ => True) N := Reach.weaken (Reach.struct (fun x : S42 => (x.f0, x.f1)) (fun p => (⟨p.1, p.2⟩ : S42)) (fun _ => rfl) Tryd.underlying42 (by kernel_rfl) (Reach.cons (by rfl) (by kernel_rfl) (fun M hM => Reach.int Tryd.underlying3 M) (Reach.one (by rfl) (by kernel_rfl) (fun M hM => Reach.int Tryd.underlying3 M)))) (fun _ _ => trivial)
theorem fieldW (N : Nat) : Reach.OpensW Tryd.prog 57 k57 GoodF N := by
  refine Reach.weaken (Reach.struct (fun x : S57 => (x.f0, x.f1, x.f2, x.f3, x.f4)) (fun p => (⟨p.1, p.2.1, p.2.2.1, p.2.2.2.1, p.2.2.2.2⟩ : S57)) (fun _ => rfl) Tryd.underlying57 (by kernel_rfl) (Reach.cons (by rfl) (by kernel_rfl) (fun M hM => Reach.bool Tryd.underlying4 M) (Reach.cons (by rfl) (by kernel_rfl) (fun M hM => Reach.str Tryd.underlying9 M) (Reach.cons (by rfl) (by kernel_rfl) (fun M hM => Reach.str Tryd.underlying9 M) (Reach.cons (by rfl) (by kernel_rfl) (fun M hM => Reach.int Tryd.underlying3 M) (Reach.one (by rfl) (by kernel_rfl) (fun M hM => posW M))))))) (fun x h => ?_)
  obtain ⟨_, h1, h2, _⟩ := h
  have e : reachBytes ≤ 140737488355328 := by decide
  exact ⟨Nat.le_trans h1 e, Nat.le_trans h2 e⟩
theorem valueW (N : Nat) : Reach.OpensW Tryd.prog 60 k60 GoodV N := by
  refine Reach.weaken (Reach.struct (fun x : S60 => (x.f0, x.f1, x.f2)) (fun p => (⟨p.1, p.2.1, p.2.2⟩ : S60)) (fun _ => rfl) Tryd.underlying60 (by kernel_rfl) (Reach.cons (by rfl) (by kernel_rfl) (fun M hM => Reach.str Tryd.underlying9 M) (Reach.cons (by rfl) (by kernel_rfl) (fun M hM => Reach.int Tryd.underlying3 M) (Reach.one (by rfl) (by kernel_rfl) (fun M hM => posW M))))) (fun x h => ?_)
  obtain ⟨h1, _⟩ := h
  have e : reachBytes ≤ 140737488355328 := by decide
  exact Nat.le_trans h1 e
theorem methodW (N : Nat) : Reach.OpensW Tryd.prog 63 k63 GoodM N := by
  refine Reach.weaken (Reach.struct (fun x : S63 => (x.f0, x.f1, x.f2, x.f3)) (fun p => (⟨p.1, p.2.1, p.2.2.1, p.2.2.2⟩ : S63)) (fun _ => rfl) Tryd.underlying63 (by kernel_rfl) (Reach.cons (by rfl) (by kernel_rfl) (fun M hM => Reach.str Tryd.underlying9 M) (Reach.cons (by rfl) (by kernel_rfl) (fun M hM => Reach.str Tryd.underlying9 M) (Reach.cons (by rfl) (by kernel_rfl) (fun M hM => Reach.str Tryd.underlying9 M) (Reach.one (by rfl) (by kernel_rfl) (fun M hM => posW M)))))) (fun x h => ?_)
  obtain ⟨h1, h2, h3, _⟩ := h
  have e : reachBytes ≤ 140737488355328 := by decide
  exact ⟨Nat.le_trans h1 e, Nat.le_trans h2 e, Nat.le_trans h3 e⟩
theorem good_nil : GoodL [] := by rw [GoodL]; trivial
theorem good_app : ∀ l : List RD, (∀ x ∈ l, GoodL [x]) → GoodL l
  | [], _ => good_nil
  | ⟨a, b, c, fs, vs, ms, ds⟩ :: l, h => by
    have h1 := h _ List.mem_cons_self
    have h2 := good_app l (fun x hx => h x (List.mem_cons_of_mem _ hx))
    rw [GoodL] at h1 ⊢
    exact ⟨h1.1, h1.2.1, h1.2.2.1, h1.2.2.2.1, h1.2.2.2.2.1, h2⟩
set_option maxRecDepth 100000 in
set_option maxHeartbeats 2000000 in
theorem declW : ∀ N, Reach.OpensW Tryd.prog 54 k54 (fun x => GoodL [x]) N := by
  intro N
  induction N using Nat.strongRecOn with
  | _ N ih =>
  intro H enc w base spare held fuel cs x hN h
  obtain ⟨y, hK, hg⟩ := (Reach.struct (fun x : S54 => (x.f0, x.f1, x.f2, x.f3, x.f4, x.f5, x.f6)) (fun p => (⟨p.1, p.2.1, p.2.2.1, p.2.2.2.1, p.2.2.2.2.1, p.2.2.2.2.2.1, p.2.2.2.2.2.2⟩ : S54)) (fun _ => rfl) Tryd.underlying54 (by kernel_rfl) (Reach.cons (by rfl) (by kernel_rfl) (fun M hM => Reach.int Tryd.underlying3 M) (Reach.cons (by rfl) (by kernel_rfl) (fun M hM => Reach.str Tryd.underlying9 M) (Reach.cons (by rfl) (by kernel_rfl) (fun M hM => posW M) (Reach.cons (by rfl) (by kernel_rfl) (fun M hM => Reach.slice Tryd.underlying50 (by kernel_rfl) (by decide +kernel) (fun M' hM' => fieldW M')) (Reach.cons (by rfl) (by kernel_rfl) (fun M hM => Reach.slice Tryd.underlying51 (by kernel_rfl) (by decide +kernel) (fun M' hM' => valueW M')) (Reach.cons (by rfl) (by kernel_rfl) (fun M hM => Reach.slice Tryd.underlying52 (by kernel_rfl) (by decide +kernel) (fun M' hM' => methodW M')) (Reach.one (by rfl) (by kernel_rfl) (fun M hM => Reach.slice Tryd.underlying22 (by kernel_rfl) (by decide +kernel) (fun M' hM' => ih M' (by omega))))))))))) hN h
  refine ⟨y, ?_, fun hb => ?_⟩
  · obtain ⟨_, _, e0, rfl, ⟨_, _, e1, rfl, ⟨_, _, e2, s2, ⟨_, _, e3, ⟨A4, c4, rfl, l4, g4⟩, ⟨_, _, e4, ⟨A5, c5, rfl, l5, g5⟩, ⟨_, _, e5, ⟨A6, c6, rfl, l6, g6⟩, ⟨A7, c7, rfl, l7, g7⟩⟩⟩⟩⟩⟩⟩ := hK
    obtain rfl := k42_open s2
    subst e5 e4 e3 e2 e1
    rw [e0]
    exact k54_mk w y l4 g4 l5 g5 l6 g6 l7 g7
  · obtain ⟨h0, h1, _, ⟨h3, h3'⟩, ⟨h4, h4'⟩, ⟨h5, h5'⟩, ⟨h6, h6'⟩⟩ := hg hb
    have e : reachBytes ≤ 140737488355328 := by decide
    obtain ⟨a, b, c, fs, vs, ms, ds⟩ := y
    rw [GoodL]
    exact ⟨⟨h0, Nat.le_trans h1 e, Nat.le_trans h3 e, Nat.le_trans h4 e, Nat.le_trans h5 e, Nat.le_trans h6 e⟩, h3', h4', h5', good_app ds h6', good_nil⟩
theorem declsW (N : Nat) : Reach.OpensW Tryd.prog 22 (Kd.slice 54 k54) (fun l => GoodL l ∧ l.length ≤ 140737488355328) N :=
  Reach.weaken (Reach.slice Tryd.underlying22 (by kernel_rfl) (by decide +kernel) (fun M hM => declW M)) (fun l h => ⟨good_app l h.2, Nat.le_trans h.1 (by decide)⟩)
end Go.Proofs.YtbhfecciegfdjaaDoor.X
