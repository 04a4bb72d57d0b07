/- Plain functions for Go's own, out of the translation's print, and a proof that each call comes to what they tell; no condition but the functions' own answers. -/
import Derived.Test.YtopmelffmakklaaX0
import Derived.Test.YtopmelffmakklaaX4
namespace Go.Proofs.Ytopmelffmakklaa.X
open Go.RowKit Go.Proofs.YtopmelffmakklaaW.PrintWords Go.Proofs.YtopmelffmakklaaW.PrintLast Go.Proofs.YtopmelffmakklaaW.PrintMore
attribute [local go_sem] max2_int min2_int max_two min_two max_three min_three max_four min_four Go.Proofs.Ytopmelffmakklaa.MyWords.put_isSome Go.Proofs.Ytopmelffmakklaa.MyWords.drewN_put   -- for this text's walks alone
set_option linter.unusedVariables false
set_option linter.unusedSimpArgs false

/-! ### courierlaw02_awake: function 7 -/
section
open Go.Proofs.Ytopmelffmakklaa.Math
def courierlaw02_awake.f : Option Bool := some true
theorem wire_append_ab : wire_Append.f 40 [] 1 2 0 [97, 98] = some ([10, 2, 97, 98], 0) := by decide +kernel
theorem reads_ab (W : World) (x y : Int) (fr : Nat × Nat) : Kd.C (Kd.int .u8) (W.alloc (.cells #[.int .u8 x, .int .u8 y] 5 fr)) (some ⟨W.heap.size, 0, none⟩) [x, y].length [x, y] := by
  refine Kd.C_of_reads (d := (0 : Int)) (h1 := fun _ => rfl) ⟨rfl, by simp, fun _ => ⟨_, rfl, fun j hj => ?_⟩⟩
  have hj' : j < 2 := hj
  rcases Nat.lt_or_ge j 1 with h | h
  · obtain rfl : j = 0 := by omega
    simp [World.cell?, World.alloc, -World.alloc_eq, Addr.add]
  · obtain rfl : j = 1 := by omega
    simp [World.cell?, World.alloc, -World.alloc_eq, Addr.add]
theorem reads_nil (W : World) : Kd.C (Kd.int .u8) W none ([] : List Int).length [] := Kd.C_of_reads (d := (0 : Int)) (h1 := fun _ => rfl) ⟨rfl, by simp, fun h => absurd h (by simp)⟩
set_option maxHeartbeats 1000000 in
set_option maxRecDepth 100000 in
theorem courierlaw02_awake.calls (r : Bool) (w : World) (h : courierlaw02_awake.f = some r) :
    Calls Try.prog 7 #[] w fun e w' => e = .returned (.bool r) ∧ Below w.heap.size w w' := by
  obtain rfl := Option.some.inj h
  have hu := Try.underlying26
  have kc : ∀ (C : Array Value) (n c : Nat), (convert 22 22 (.slice (some ⟨w.heap.size, 0, none⟩) n c)).run Try.prog (w.alloc (.cells C 5)) = .ok (.slice (some ⟨w.heap.size, 0, none⟩) n c) (w.alloc (.cells C 5 (C.size, C.size + 1))) := fun C n c => Lib.run_convert_bytes_const (P := Try.prog) w 22 5 C n c Try.underlying22 Try.underlying5
  have hs : ((strOfNums [10, 2, 97, 98]).toList == ([10, 2, 97, 98] : List UInt8)) = true := by decide +kernel
  go_enter Try.func7, Try.ntmps7
  go_wp2_with fail
  refine (wire_Append.calls 40 none 0 [] 1 2 0 _ _ [97, 98] [10, 2, 97, 98] 0 _ (reads_nil _) (Nat.le_refl _) (reads_ab w 97 98 _) (by simp) wire_append_ab).mono ?_
  rintro e w2 ⟨v, rfl, ho, hb⟩
  have HB2 := Aside0.mk (Below.trans (⟨rfl, rfl, rfl, by simp, fun i hi => by simp [World.alloc, -World.alloc_eq, Array.getElem?_push, show i ≠ w.heap.size by omega]⟩ : Below w.heap.size w (w.alloc (.cells #[.int .u8 97, .int .u8 98] 5 (2, 3)))) (hb.mono (by simp)))
  have HO := Aside0.mk ho
  clear hb ho
  have hcv := own_string (P := Try.prog) Try.underlying22 Try.underlying5 Try.underlying9 (Kd.own_of_R HO.out)
  go_wp2_with fail
  go_ret
  exact ⟨rfl, HB2.out⟩
end

end Go.Proofs.Ytopmelffmakklaa.X
