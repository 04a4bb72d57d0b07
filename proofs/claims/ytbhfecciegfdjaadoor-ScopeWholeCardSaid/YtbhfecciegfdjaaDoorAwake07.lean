/- What a program that does nothing answers wrongly: the law's first question, answered yes. -/
import Derived.Test.YtbhfecciegfdjaaDoorScopeM
set_option linter.unusedVariables false
set_option linter.unusedSimpArgs false
namespace Go.Proofs.YtbhfecciegfdjaaDoor.X
open Go.RowKit Go.Shelf Go.Proofs.YtbhfecciegfdjaaDoorW.PrintWords Go.Proofs.YtbhfecciegfdjaaDoorW.PrintLast Go.Proofs.YtbhfecciegfdjaaDoorW.PrintMore
def aw1 : PD := ⟨1, ⟨#[66]⟩, ⟨0, 0⟩, [], [], [], []⟩
def aw0 : PD := ⟨1, ⟨#[65]⟩, ⟨0, 0⟩, [], [], [], [aw1]⟩
theorem aw_path : pathOk ⟨#[66]⟩ = true := by
  have h1 : piecesL [66] = [[66]] := rfl
  have h2 : nameV (runesOf ⟨#[66]⟩) = true := by decide +kernel
  have h3 : resV ⟨#[66]⟩ = false := by
    unfold resV
    rw [ByteArray.toList_eq]
    decide +kernel
  unfold pathOk
  show (decide ((piecesL [66]).length ≤ 8) && ((piecesL [66]).map txt8).all plainV) = true
  rw [h1]
  show (true && (plainV ⟨#[66]⟩ && true)) = true
  unfold plainV
  rw [h2, h3]
  rfl
theorem aw_all : alL [aw0] ⟨#[]⟩ = [⟨⟨#[65]⟩, 1⟩, ⟨⟨#[65, 46, 66]⟩, 1⟩] := by
  have e1 : (⟨#[]⟩ : ByteArray) ++ ⟨#[65]⟩ = ⟨#[65]⟩ := by decide +kernel
  have e2 : (⟨#[65]⟩ : ByteArray) ++ dot ++ ⟨#[66]⟩ = ⟨#[65, 46, 66]⟩ := by decide +kernel
  rw [aw0, alL, alL, aw1, alL, alL, alL, e1, e2]
  rfl
theorem aw_find : findS (kindOf (alL [aw0] ⟨#[]⟩)) ⟨#[65]⟩ ⟨#[66]⟩ = some ⟨⟨#[65, 46, 66]⟩, 1⟩ := by
  have h1 : pathL ⟨#[66]⟩ = [⟨#[66]⟩] := by
    unfold pathL
    rw [aw_path, if_pos rfl]
    rfl
  have h2 : kd0 (kindOf (alL [aw0] ⟨#[]⟩)) ⟨#[65]⟩ = 1 := by rw [aw_all]; rfl
  have h3 : inN ⟨#[65]⟩ ⟨#[66]⟩ = ⟨#[65, 46, 66]⟩ := by decide +kernel
  have h4 : kd0 (kindOf (alL [aw0] ⟨#[]⟩)) ⟨#[65, 46, 66]⟩ = 1 := by
    rw [aw_all, kd0, kindOf, kindOf, if_neg (by decide +kernel), if_pos rfl]
    rfl
  have h5 : inOk (kindOf (alL [aw0] ⟨#[]⟩)) ⟨#[65, 46, 66]⟩ = true := by rw [inOk, h4]; rfl
  unfold findS
  rw [aw_path, if_neg (by decide), if_neg (by rw [h2]; decide), h1]
  show (downS _ (climbS _ ⟨#[66]⟩ 1 ⟨#[65]⟩) []).map _ = _
  rw [climbS, h3, if_pos h5, downS]
  show some (⟨⟨#[65, 46, 66]⟩, kd0 _ ⟨#[65, 46, 66]⟩⟩ : RS) = _
  rw [h4]
theorem one_lit {α : Type} {d : Kd α} (w : World) (e : TypeId) (x : α) (cs : List Value) (h : d.K (w.alloc (.cells cs.toArray e)) x cs) : d.C (w.alloc (.cells cs.toArray e)) (some ⟨w.heap.size, 0, none⟩) 1 [x] := by
  refine ⟨rfl, by omega, fun _ => ⟨_, rfl, fun j p hj => ?_⟩⟩
  obtain rfl : j = 0 := by
    rcases Nat.eq_zero_or_pos j with h0 | h0
    · exact h0
    · rw [List.getElem?_eq_none (by simp; omega)] at hj; cases hj
  obtain rfl : x = p := by simpa using hj
  refine ⟨cs, d.K_len h, h, fun j u hu => ?_⟩
  rw [Nat.zero_mul, Nat.zero_add, add_plain]
  refine (blk_cell (blk_new w _) j).trans ?_
  rw [← hu, List.getElem?_toArray]
set_option maxHeartbeats 4000000 in
set_option maxRecDepth 100000 in
theorem awake07.calls (m : Int) (w : World) (hm : w.cell? ⟨0, 0, none⟩ = some (.int .i64 m)) :
    Calls Tryd.prog 5 #[] w fun e w' => e = .returned (.bool true) ∧ Below w.heap.size w w' := by
  go_enter Tryd.func5, Tryd.ntmps5
  go_wp2_with fail
  obtain ⟨W0, hW0⟩ : ∃ W0, W0 = w.alloc (.cells #[.int .i64 1, .string ⟨#[66]⟩, .int .i64 0, .int .i64 0, .slice none 0 0, .slice none 0 0, .slice none 0 0, .slice none 0 0] 47) := ⟨_, rfl⟩
  obtain ⟨W1, hW1⟩ : ∃ W1, W1 = W0.alloc (.cells #[.int .i64 1, .string ⟨#[65]⟩, .int .i64 0, .int .i64 0, .slice none 0 0, .slice none 0 0, .slice none 0 0, .slice (some ⟨w.heap.size, 0, none⟩) 1 1] 47) := ⟨_, rfl⟩
  have hC0 : Kd.C kP W0 (some ⟨w.heap.size, 0, none⟩) 1 [aw1] := by
    rw [hW0]
    exact one_lit w _ aw1 [.int .i64 1, .string ⟨#[66]⟩, .int .i64 0, .int .i64 0, .slice none 0 0, .slice none 0 0, .slice none 0 0, .slice none 0 0] (k47_mk _ aw1 (Nat.le_refl _) (Kd.C_nil _ _) (Nat.le_refl _) (Kd.C_nil _ _) (Nat.le_refl _) (Kd.C_nil _ _) (Nat.le_refl _) (Kd.C_nil _ _))
  have hB1 : Below W0.heap.size W0 W1 := by rw [hW1]; exact below_alloc (Below.refl _ _) _
  have hs : W0.heap.size = w.heap.size + 1 := by rw [hW0]; simp
  have hC1 : Kd.C kP W1 (some ⟨w.heap.size + 1, 0, none⟩) 1 [aw0] := by
    rw [← hs, hW1]
    have hC2 := Kd.C_below hC0 hB1
    rw [hW1] at hC2
    exact one_lit W0 _ aw0 [.int .i64 1, .string ⟨#[65]⟩, .int .i64 0, .int .i64 0, .slice none 0 0, .slice none 0 0, .slice none 0 0, .slice (some ⟨w.heap.size, 0, none⟩) 1 1] (k47_mk _ aw0 (Nat.le_refl _) (Kd.C_nil _ _) (Nat.le_refl _) (Kd.C_nil _ _) (Nat.le_refl _) (Kd.C_nil _ _) (Nat.le_refl _) hC2)
  have hB : Below w.heap.size w W1 := by rw [hW1, hW0]; exact below_alloc (below_alloc (Below.refl _ _) _) _
  rw [← hW0, ← hW1]
  have hk : Kinds (alL [aw0] ⟨#[]⟩) := by
    rw [aw_all]
    intro x hx
    simp only [List.mem_cons, List.not_mem_nil, or_false] at hx
    rcases hx with rfl | rfl <;> decide
  have HFD := Aside0.mk aw_find
  have HBA := Aside0.mk hB
  refine (scope_Find.calls [aw0] (some ⟨w.heap.size + 1, 0, none⟩) 1 ⟨#[65]⟩ ⟨#[66]⟩ m W1 hC1 (Nat.le_refl _) (by rw [aw0, nmP, nmP, aw1, nmP, nmP]; decide) hk (by decide) (by decide) (pw_cell_below hB hm)).mono ?_
  rw [HFD.out]
  rintro e w2 ⟨rfl, hb⟩
  have HB2 := Aside0.mk (below_step HBA.out hb)
  clear hb hC0 hB1 hs hC1 hB hk hm hW0 hW1
  simp only [nmR, kdR, Option.isSome_some]
  go_wp2_with fail
  go_ret
  exact ⟨rfl, below_alloc HB2.out _⟩
end Go.Proofs.YtbhfecciegfdjaaDoor.X
