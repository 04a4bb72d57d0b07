/- print.number, print.path, and what print.formed asks of a value and of a method. -/
import Derived.Test.YtknbhbppofphpaaGreatDoorPfAny
import Derived.Test.YtknbhbppofphpaaGreatDoorRefForm
import Derived.Deep.RegionHeld3
set_option linter.unusedVariables false
set_option linter.unusedSimpArgs false
namespace Go.Proofs.YtknbhbppofphpaaGreatDoor.X
open Go.RowKit Go.Shelf Go.Proofs.YtknbhbppofphpaaGreatDoorW.PrintWords Go.Proofs.YtknbhbppofphpaaGreatDoorW.PrintLast Go.Proofs.YtknbhbppofphpaaGreatDoorW.PrintMore
set_option maxHeartbeats 4000000 in
set_option maxRecDepth 100000 in
theorem print_number.calls (n : Int) (w : World) : Calls Tryz.prog 44 #[.int .i64 n] w fun e w' => e = .returned (.bool (numV n)) ∧ w' = w := by
  go_enter Tryz.func44, Tryz.ntmps44
  by_cases h0 : 0 ≤ n
  · have t0 : decide (0 ≤ n) = true := decide_eq_true h0
    by_cases h1 : n ≤ 2147483647
    · have t1 : decide (n ≤ 2147483647) = true := decide_eq_true h1
      have HV : Aside0 (numV n = true) := ⟨by unfold numV; rw [t0, t1]; rfl⟩
      clear h0 h1
      go_wp2_with fail
      go_ret
      exact ⟨congrArg (fun b => Ending.returned (Value.bool b)) HV.out.symm, rfl⟩
    · have t1 : decide (n ≤ 2147483647) = false := decide_eq_false h1
      have HV : Aside0 (numV n = false) := ⟨by unfold numV; rw [t0, t1]; rfl⟩
      clear h0 h1
      go_wp2_with fail
      go_ret
      exact ⟨congrArg (fun b => Ending.returned (Value.bool b)) HV.out.symm, rfl⟩
  · have t0 : decide (0 ≤ n) = false := decide_eq_false h0
    have HV : Aside0 (numV n = false) := ⟨by unfold numV; rw [t0]; rfl⟩
    clear h0
    go_wp2_with fail
    go_ret
    exact ⟨congrArg (fun b => Ending.returned (Value.bool b)) HV.out.symm, rfl⟩
set_option maxHeartbeats 4000000 in
set_option maxRecDepth 100000 in
theorem print_path.calls (s : ByteArray) (m : Int) (w : World) (hs : s.size ≤ 1000000) (hm : w.cell? ⟨3, 0, none⟩ = some (.int .i64 m)) :
    Calls Tryz.prog 45 #[.string s] w fun e w' => e = .returned (.bool (pathOk s)) ∧ Below w.heap.size w w' := by
  have HM := Aside0.mk hm
  clear hm
  go_enter Tryz.func45, Tryz.ntmps45
  go_wp2_with fail
  refine (ident_Path.calls s m _ hs HM.out).mono ?_
  rintro e w2 ⟨A, c, rfl, hC, hc, hb⟩
  have HB := Aside0.mk hb
  clear hb hC hc
  go_wp2_with fail
  go_ret
  exact ⟨rfl, HB.out⟩
/-- What the program asks of a value, a method. -/
def valP (v : PV) : Bool := plainV v.f0 && numV v.f1
def metP (m : PM) : Bool := plainV m.f0 && pathOk m.f1 && pathOk m.f2
set_option maxHeartbeats 4000000 in
set_option maxRecDepth 100000 in
theorem formed2.calls (d : PV) (w : World) (h0 : d.f0.size ≤ 1000000) :
    Calls Tryz.prog 49 #[.agg #[.string d.f0, .int .i64 d.f1, .int .i64 d.f2.f0, .int .i64 d.f2.f1]] w fun e w' => e = .returned (.bool (!valP d)) ∧ Below w.heap.size w w' := by
  obtain ⟨nm, num, p0, p1⟩ := d
  simp only at h0 ⊢
  have HV : Aside0 (valP ⟨nm, num, ⟨p0, p1⟩⟩ = (plainV nm && numV num)) := ⟨rfl⟩
  go_enter Tryz.func49, Tryz.ntmps49
  go_wp2_with fail
  obtain ⟨W0, hW0⟩ : ∃ W0, W0 = w.alloc (.cells #[.string nm, .int .i64 num, .int .i64 p0, .int .i64 p1] 36) := ⟨_, rfl⟩
  have hB0 : Below w.heap.size w W0 := by rw [hW0]; exact below_alloc (Below.refl _ _) _
  have hX0 : W0.heap[w.heap.size]? = some (.cells #[.string nm, .int .i64 num, .int .i64 p0, .int .i64 p1] 36 (0, 0)) := by rw [hW0]; exact blk_new w _
  rw [← hW0]
  refine (ident_Plain.calls nm W0 (by omega)).mono ?_
  rintro e w1 ⟨rfl, hb⟩
  have HB1 := Aside0.mk (below_step hB0 hb)
  have hx1 := blk_below hX0 hb
  have c1 : w1.cell? ⟨w.heap.size, 1, none⟩ = some (.int .i64 num) := blk_cell hx1 1
  clear hB0 hX0 hW0 hb hx1
  generalize plainV nm = pl at *
  cases pl with
  | false =>
    go_wp2_with fail
    go_ret
    exact ⟨congrArg (fun b => Ending.returned (Value.bool b)) (by rw [HV.out]; rfl), HB1.out⟩
  | true =>
    go_wp2_with fail
    refine (print_number.calls num w1).mono ?_
    rintro e w2 ⟨rfl, hw⟩
    obtain rfl := hw.symm
    generalize numV num = nv at *
    cases nv with
    | false =>
      go_wp2_with fail
      go_ret
      exact ⟨congrArg (fun b => Ending.returned (Value.bool b)) (by rw [HV.out]; rfl), HB1.out⟩
    | true =>
      go_wp2_with fail
      go_ret
      exact ⟨congrArg (fun b => Ending.returned (Value.bool b)) (by rw [HV.out]; rfl), HB1.out⟩
set_option maxHeartbeats 4000000 in
set_option maxRecDepth 100000 in
theorem formed3.calls (d : PM) (m : Int) (w : World) (h0 : d.f0.size ≤ 1000000) (h1 : d.f1.size ≤ 1000000) (h2 : d.f2.size ≤ 1000000) (hm : w.cell? ⟨3, 0, none⟩ = some (.int .i64 m)) :
    Calls Tryz.prog 51 #[.agg #[.string d.f0, .string d.f1, .string d.f2, .int .i64 d.f3.f0, .int .i64 d.f3.f1]] w fun e w' => e = .returned (.bool (!metP d)) ∧ Below w.heap.size w w' := by
  obtain ⟨nm, ti, tu, p0, p1⟩ := d
  simp only at h0 h1 h2 ⊢
  have HM := Aside0.mk hm
  clear hm
  have HV : Aside0 (metP ⟨nm, ti, tu, ⟨p0, p1⟩⟩ = (plainV nm && pathOk ti && pathOk tu)) := ⟨rfl⟩
  go_enter Tryz.func51, Tryz.ntmps51
  go_wp2_with fail
  obtain ⟨W0, hW0⟩ : ∃ W0, W0 = w.alloc (.cells #[.string nm, .string ti, .string tu, .int .i64 p0, .int .i64 p1] 66) := ⟨_, rfl⟩
  have hB0 : Below w.heap.size w W0 := by rw [hW0]; exact below_alloc (Below.refl _ _) _
  have hX0 : W0.heap[w.heap.size]? = some (.cells #[.string nm, .string ti, .string tu, .int .i64 p0, .int .i64 p1] 66 (0, 0)) := by rw [hW0]; exact blk_new w _
  rw [← hW0]
  refine (ident_Plain.calls nm W0 (by omega)).mono ?_
  rintro e w1 ⟨rfl, hb⟩
  have HB1 := Aside0.mk (below_step hB0 hb)
  have hx1 := blk_below hX0 hb
  have HX1 := Aside0.mk hx1
  have c1 : w1.cell? ⟨w.heap.size, 1, none⟩ = some (.string ti) := blk_cell hx1 1
  clear hB0 hX0 hW0 hb hx1
  generalize plainV nm = pl at *
  cases pl with
  | false =>
    go_wp2_with fail
    go_ret
    exact ⟨congrArg (fun b => Ending.returned (Value.bool b)) (by rw [HV.out]; rfl), HB1.out⟩
  | true =>
    go_wp2_with fail
    refine (print_path.calls ti m w1 h1 (pw_cell_below HB1.out HM.out)).mono ?_
    rintro e w2 ⟨rfl, hb⟩
    have HB2 := Aside0.mk (below_step HB1.out hb)
    have c2 : w2.cell? ⟨w.heap.size, 2, none⟩ = some (.string tu) := blk_cell (blk_below HX1.out hb) 2
    clear hb c1
    generalize pathOk ti = pi at *
    cases pi with
    | false =>
      go_wp2_with fail
      go_ret
      exact ⟨congrArg (fun b => Ending.returned (Value.bool b)) (by rw [HV.out]; rfl), HB2.out⟩
    | true =>
      go_wp2_with fail
      refine (print_path.calls tu m w2 h2 (pw_cell_below HB2.out HM.out)).mono ?_
      rintro e w3 ⟨rfl, hb⟩
      have HB3 := Aside0.mk (below_step HB2.out hb)
      clear hb c2
      generalize pathOk tu = po at *
      cases po with
      | false =>
        go_wp2_with fail
        go_ret
        exact ⟨congrArg (fun b => Ending.returned (Value.bool b)) (by rw [HV.out]; rfl), HB3.out⟩
      | true =>
        go_wp2_with fail
        go_ret
        exact ⟨congrArg (fun b => Ending.returned (Value.bool b)) (by rw [HV.out]; rfl), HB3.out⟩
end Go.Proofs.YtknbhbppofphpaaGreatDoor.X
