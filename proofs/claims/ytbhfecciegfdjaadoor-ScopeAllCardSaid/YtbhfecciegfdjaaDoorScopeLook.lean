/- scope.Find at any declarations; and the law's first question, answered yes. -/
import Derived.Test.YtbhfecciegfdjaaDoorScopeFind
set_option linter.unusedVariables false
set_option linter.unusedSimpArgs false
namespace Go.Proofs.YtbhfecciegfdjaaDoor.X
open Go.RowKit Go.Shelf Go.Proofs.YtbhfecciegfdjaaDoorW.PrintWords Go.Proofs.YtbhfecciegfdjaaDoorW.PrintLast Go.Proofs.YtbhfecciegfdjaaDoorW.PrintMore
set_option maxHeartbeats 8000000 in
set_option maxRecDepth 100000 in
theorem scope_Find.calls (l : List PD) (A : Option Addr) (c : Nat) (sc path : ByteArray) (m : Int) (w : World) (hC : Kd.C kP w A l.length l) (hc : l.length ≤ c) (hn : nmP l ≤ 900000000) (hk : Kinds (alL l ⟨#[]⟩)) (hs : sc.size ≤ 100000000) (hp : path.size ≤ 1000000) (hm : w.cell? ⟨0, 0, none⟩ = some (.int .i64 m)) :
    Calls Tryd.prog 11 #[.slice A l.length c, .string sc, .string path] w (FindPost (findS (kindOf (alL l ⟨#[]⟩)) sc path) w) := by
  have HC := Aside0.mk hC
  have HK := Aside0.mk hk
  clear hC hk
  go_enter Tryd.func11, Tryd.ntmps11
  go_wp2_with fail
  obtain ⟨W0, hW0⟩ : ∃ W0, W0 = w.alloc (.cells #[.string ⟨#[]⟩, .int .i64 0] 33) := ⟨_, rfl⟩
  have hB0 : Below w.heap.size w W0 := by rw [hW0]; exact below_alloc (Below.refl _ _) _
  have hX0 : W0.heap[w.heap.size]? = some (.cells #[.string ⟨#[]⟩, .int .i64 0] 33 (0, 0)) := by rw [hW0]; exact blk_new w _
  have hm0 := pw_cell_below hB0 hm
  rw [← hW0]
  refine (scope_New.calls l A c W0 (Kd.C_below HC.out hB0) hc hn HK.out).mono ?_
  rintro e w1 ⟨bf, bm, nn, rfl, hF1, hb⟩
  have HB1 := Aside0.mk (below_step hB0 hb)
  have HX1 := Aside0.mk (blk_below hX0 hb)
  have HF1 := Aside0.mk hF1
  have HM1 := Aside0.mk (pw_cell_below hb hm0)
  clear hF1 hb hB0 hX0 hW0 hm0 hm
  go_wp2_with fail
  refine (finder_Find.calls bf bm nn _ sc path m w1 HF1.out hs hp HM1.out).mono ?_
  rintro e w2 ⟨rfl, hb⟩
  have HB2 := Aside0.mk (below_step HB1.out hb)
  have hx2 := blk_below HX1.out hb
  have HX2 := Aside0.mk hx2
  have x0 : w2.cell? ⟨w.heap.size, 0, none⟩ = some (.string ⟨#[]⟩) := blk_cell hx2 0
  have x1 : w2.cell? ⟨w.heap.size, 1, none⟩ = some (.int .i64 0) := blk_cell hx2 1
  have y0 := blk_frozen hx2 0
  have y1 := blk_frozen hx2 1
  clear hx2 hb
  obtain ⟨rn, hrn⟩ : ∃ rn, rn = nmR (findS (kindOf (alL l ⟨#[]⟩)) sc path) := ⟨_, rfl⟩
  obtain ⟨rk, hrk⟩ : ∃ rk, rk = kdR (findS (kindOf (alL l ⟨#[]⟩)) sc path) := ⟨_, rfl⟩
  obtain ⟨b, hb⟩ : ∃ b, b = (findS (kindOf (alL l ⟨#[]⟩)) sc path).isSome := ⟨_, rfl⟩
  have HR : Aside0 (FindPost (findS (kindOf (alL l ⟨#[]⟩)) sc path) w (.returned (.tuple #[.agg #[.string rn, .int .i64 rk], .bool b])) w) := ⟨⟨by rw [hrn, hrk, hb], Below.refl _ _⟩⟩
  rw [← hrn, ← hrk, ← hb]
  clear hrn hrk hb
  go_wp2_with fail
  refine bodyPost_ret (results_ct rfl _ _ w.heap.size 33 #[.string rn, .int .i64 rk] (0, 0) _ rfl ((blk_set (blk_set HX2.out 0 _) 1 _).trans rfl) Tryd.underlying33 rfl (by kernel_rfl)) rfl ?_
  exact ⟨HR.out.1, (HB2.out.setCell (p := ⟨w.heap.size, 0, none⟩) (Nat.le_refl _) _).setCell (p := ⟨w.heap.size, 1, none⟩) (Nat.le_refl _) _⟩
end Go.Proofs.YtbhfecciegfdjaaDoor.X
