/- What a program that does nothing answers wrongly: the law's first question, answered yes. -/
import Derived.Test.YtgegclilhjhnmaaDoorCamel
import Derived.Test.YtgegclilhjhnmaaDoorRune
set_option linter.unusedVariables false
set_option linter.unusedSimpArgs false
namespace Go.Proofs.YtgegclilhjhnmaaDoor.X
open Go.RowKit Go.Shelf Go.Proofs.YtgegclilhjhnmaaDoorW.PrintWords Go.Proofs.YtgegclilhjhnmaaDoorW.PrintLast Go.Proofs.YtgegclilhjhnmaaDoorW.PrintMore
theorem awake_name : nameV (runesOf { data := #[206, 187, 49] }) = true := by decide +kernel
theorem awake_camel : camelV { data := #[103, 101, 116, 95, 105, 116, 101, 109] } = [71, 101, 116, 73, 116, 101, 109] := by decide +kernel
set_option maxHeartbeats 4000000 in
set_option maxRecDepth 100000 in
theorem awake03.calls (w : World) : Calls Tryd.prog 11 #[] w fun e w' => e = .returned (.bool true) ∧ Below w.heap.size w w' := by
  have h1 := awake_name
  have h2 := awake_camel
  go_enter Tryd.func11, Tryd.ntmps11
  go_wp2_with fail
  refine (ident_Name.calls { data := #[206, 187, 49] } _ (by decide)).mono ?_
  rintro e w1 ⟨rfl, hb1⟩
  rw [h1]
  have HB1 := Aside0.mk hb1
  clear hb1
  go_wp2_with fail
  refine (ident_Camel.calls { data := #[103, 101, 116, 95, 105, 116, 101, 109] } _ (by decide)).mono ?_
  rintro e w2 ⟨rfl, hb2⟩
  rw [h2]
  have HB2 := Aside0.mk (below_step HB1.out hb2)
  clear hb2
  go_wp2
  go_ret
  exact ⟨rfl, HB2.out⟩
end Go.Proofs.YtgegclilhjhnmaaDoor.X
