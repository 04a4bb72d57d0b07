/- The law WireSplits where what it reads is of bulk at most 1048576: its statement over lists, and its walk; no further condition. -/
import Derived.Test.YtopmelffmakklaaX23
namespace Go.Proofs.Ytopmelffmakklaa.X
open Go.RowKit Go.Proofs.YtopmelffmakklaaW.PrintWords Go.Proofs.YtopmelffmakklaaW.PrintLast Go.Proofs.YtopmelffmakklaaW.PrintMore
set_option linter.unusedVariables false
def courierlaw02_WireSplits.PureUpto : Prop := ∀ (l0 : List Int), l0.length ≤ maxLen → l0.length * 1 ≤ 1048576 → (∀ x ∈ l0, (Lit.int .u8 x).wf = true) → ∃ k, courierlaw02_WireSplits.f k l0 = some true
theorem courierlaw02_WireSplits.walkUpto (P : courierlaw02_WireSplits.PureUpto) (a0 : Option Addr) (len0 cap0 : Nat) (z0 : List Int) (w : World) (w0 : (a0 = none ∧ len0 = 0 ∧ cap0 = 0 ∧ z0 = []) ∨ ∃ x, a0 = some x ∧ len0 ≤ cap0 ∧ cap0 ≤ maxLen ∧ z0.length = cap0 ∧ (∀ i, i < z0.length → w.cell? (x.add i) = some (.int .u8 (z0.getD i 0))) ∧ ∀ n ∈ z0, (Lit.int .u8 n).wf = true) (y0 : len0 * 1 ≤ 1048576) :
    Calls Try.prog 5 #[.slice a0 len0 cap0] w fun e w' => e = .returned (.bool true) ∧ Below w.heap.size w w' := by
  obtain ⟨l0, rfl, hr0, hm0, hw0, hc0⟩ := ReadsInt.ofRowC w0
  obtain ⟨k, h⟩ := P l0 hm0 y0 hw0
  refine (courierlaw02_WireSplits.calls k _ _ l0 true w (Kd.C_of_reads (d := (0 : Int)) (h1 := fun _ => rfl) hr0) hc0 h).mono ?_
  rintro e w' ⟨rfl, hd⟩
  exact ⟨rfl, hd⟩


end Go.Proofs.Ytopmelffmakklaa.X
