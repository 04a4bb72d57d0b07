/-
  No cell of these rows narrows 'for every input' (looked for: loops, veiled, ifaces, maps, wideKeys, modest, calm, conditions, laid).
  DERIVED. THE GIVEN ROWS OF THIS SEAT. 5 by the template 'for every input the law returns true; each argument reads behind the call as it read before'; 0 by the template 'total and deterministic' (their statements: YthhkdabajikckaaTotals.lean).
  GIVEN WITH THE SEED: the statements are not yours to turn. If you find one false, say at which input.
  Laid BY PROGRAM, IN A SANDBOX (cutbox-rows.mjs): the forced cells as the released guide's own fill.sh prints them over the translation 5450dc739a4f0c67… (all of the seat's roots in one cut). By AI agents, Wed Nov 11 2026. No macro, syntax, notation, axiom, sorry.
-/
import Derived.Test.YthhkdabajikckaaChecked
import GoSem.Claim
import GoSem.ClaimJoined
import GoSem.ClaimMapViews
import Derived.JoinedTies
import Derived.KernelRfl
namespace Go.Proofs.Ythhkdabajikckaa
/- THE CELL 'sum', in the pinned program and in every row, IS THE sha256 OF THE DUMP (.gsa) THAT YthhkdabajikckaaProg.lean LOADS. Nothing in Lean hashes anything: it is a label: what it is worth is what the hold of that sum in a sandbox is worth. -/
noncomputable def Try.pinned : Pinned := { name := "ythhkdabajikckaa", sum := "5450dc739a4f0c67f335e3ec3a30c5d564956456b5001a2262d5bf8dd8c4bd7b", checked := Try.checked }
namespace Rows
def none {H : Type} : Left H := { results := [], args := [] }

/-- 'courierlaw15.FrameBuilds': WHATEVER THE INPUT: true; the input reads as it did. -/
def frameBuildsSpec : ChangeSpec := { name := "frameBuilds", fn := fun _ => fun
  | [d] => { results := [.lit (.bool true)], args := [d] }
  | _ => none }
def frameBuildsRow : OpenClaim := { program := "ythhkdabajikckaa", sum := "5450dc739a4f0c67f335e3ec3a30c5d564956456b5001a2262d5bf8dd8c4bd7b", func := "courier/courierlaw15.FrameBuilds", spec := "frameBuilds", apart := false }
def FrameBuildsSaid : Prop := frameBuildsRow.holds Try.pinned (OpenSpec.ofChange frameBuildsSpec)

/-- ITS FALSE NEIGHBOUR: 'it returns false'. Refute it at one input. -/
def frameBuildsWrong : ChangeSpec := { name := "frameBuilds", fn := fun _ => fun
  | [d] => { results := [.lit (.bool false)], args := [d] }
  | _ => none }
def FrameBuildsWrongFalsely : Prop := frameBuildsRow.holds Try.pinned (OpenSpec.ofChange frameBuildsWrong)

/-- 'courierlaw15.FrameSame': WHATEVER THE INPUT: true; the input reads as it did. -/
def frameSameSpec : ChangeSpec := { name := "frameSame", fn := fun _ => fun
  | [d1, d2] => { results := [.lit (.bool true)], args := [d1, d2] }
  | _ => none }
def frameSameRow : OpenClaim := { program := "ythhkdabajikckaa", sum := "5450dc739a4f0c67f335e3ec3a30c5d564956456b5001a2262d5bf8dd8c4bd7b", func := "courier/courierlaw15.FrameSame", spec := "frameSame", apart := false }
def FrameSameSaid : Prop := frameSameRow.holds Try.pinned (OpenSpec.ofChange frameSameSpec)

/-- ITS FALSE NEIGHBOUR: 'it returns false'. Refute it at one input. -/
def frameSameWrong : ChangeSpec := { name := "frameSame", fn := fun _ => fun
  | [d1, d2] => { results := [.lit (.bool false)], args := [d1, d2] }
  | _ => none }
def FrameSameWrongFalsely : Prop := frameSameRow.holds Try.pinned (OpenSpec.ofChange frameSameWrong)

/-- 'courierlaw15.FrameParses': WHATEVER THE INPUT: true; the input reads as it did. -/
def frameParsesSpec : ChangeSpec := { name := "frameParses", fn := fun _ => fun
  | [d] => { results := [.lit (.bool true)], args := [d] }
  | _ => none }
def frameParsesRow : OpenClaim := { program := "ythhkdabajikckaa", sum := "5450dc739a4f0c67f335e3ec3a30c5d564956456b5001a2262d5bf8dd8c4bd7b", func := "courier/courierlaw15.FrameParses", spec := "frameParses", unfollowed := true, recurses := true, apart := false }
def FrameParsesSaid : Prop := frameParsesRow.holds Try.pinned (OpenSpec.ofChange frameParsesSpec)

/-- ITS FALSE NEIGHBOUR: 'it returns false'. Refute it at one input. -/
def frameParsesWrong : ChangeSpec := { name := "frameParses", fn := fun _ => fun
  | [d] => { results := [.lit (.bool false)], args := [d] }
  | _ => none }
def FrameParsesWrongFalsely : Prop := frameParsesRow.holds Try.pinned (OpenSpec.ofChange frameParsesWrong)

/-- 'courierlaw15.FrameTurned': WHATEVER THE INPUT: true; the input reads as it did. -/
def frameTurnedSpec : ChangeSpec := { name := "frameTurned", fn := fun _ => fun
  | [d1, d2, d3] => { results := [.lit (.bool true)], args := [d1, d2, d3] }
  | _ => none }
def frameTurnedRow : OpenClaim := { program := "ythhkdabajikckaa", sum := "5450dc739a4f0c67f335e3ec3a30c5d564956456b5001a2262d5bf8dd8c4bd7b", func := "courier/courierlaw15.FrameTurned", spec := "frameTurned", unfollowed := true, recurses := true, apart := false }
def FrameTurnedSaid : Prop := frameTurnedRow.holds Try.pinned (OpenSpec.ofChange frameTurnedSpec)

/-- ITS FALSE NEIGHBOUR: 'it returns false'. Refute it at one input. -/
def frameTurnedWrong : ChangeSpec := { name := "frameTurned", fn := fun _ => fun
  | [d1, d2, d3] => { results := [.lit (.bool false)], args := [d1, d2, d3] }
  | _ => none }
def FrameTurnedWrongFalsely : Prop := frameTurnedRow.holds Try.pinned (OpenSpec.ofChange frameTurnedWrong)

/-- 'courierlaw15.FrameBack': WHATEVER THE INPUT: true; the input reads as it did. -/
def frameBackSpec : ChangeSpec := { name := "frameBack", fn := fun _ => fun
  | [d] => { results := [.lit (.bool true)], args := [d] }
  | _ => none }
def frameBackRow : OpenClaim := { program := "ythhkdabajikckaa", sum := "5450dc739a4f0c67f335e3ec3a30c5d564956456b5001a2262d5bf8dd8c4bd7b", func := "courier/courierlaw15.FrameBack", spec := "frameBack", unfollowed := true, recurses := true, apart := false }
def FrameBackSaid : Prop := frameBackRow.holds Try.pinned (OpenSpec.ofChange frameBackSpec)

/-- ITS FALSE NEIGHBOUR: 'it returns false'. Refute it at one input. -/
def frameBackWrong : ChangeSpec := { name := "frameBack", fn := fun _ => fun
  | [d] => { results := [.lit (.bool false)], args := [d] }
  | _ => none }
def FrameBackWrongFalsely : Prop := frameBackRow.holds Try.pinned (OpenSpec.ofChange frameBackWrong)

/- THE SECOND FORM. 'bulk': how many values and letters a reading holds, each counted each time it is reached (what is shared counts as often as it is met; a slice's spare places count too). A statement '..UptoSaid' is the law's where the arguments, and the package variables that the reading takes, are together of bulk at most 1048576: NARROWER than '..Said'. Prove '..Said' where nothing that the law and all that it calls make is longer than what came in: it says more and counts as full. Else prove '..UptoSaid'. A law counts once. -/
mutual
def uptoBulk {H : Type} : DataW H → Nat
  | .lit (.string bytes) => bytes.length + 1
  | .lit _ => 1
  | .nil => 1
  | .ptr d => uptoBulk d + 1
  | .slice elems spare => uptoBulkAll elems + uptoBulkAll spare + 1
  | .agg parts => uptoBulkAll parts + 1
  | .iface _ d => uptoBulk d + 1
  | .map entries => uptoBulkEntries entries + 1
  | .held _ => 1
def uptoBulkAll {H : Type} : List (DataW H) → Nat
  | [] => 0
  | d :: r => uptoBulk d + uptoBulkAll r
def uptoBulkEntries {H : Type} : List (Lit × DataW H) → Nat
  | [] => 0
  | x :: r => uptoBulkEntry x + uptoBulkEntries r
def uptoBulkEntry {H : Type} : Lit × DataW H → Nat
  | (.string bytes, d) => bytes.length + uptoBulk d + 1
  | (_, d) => uptoBulk d + 1
 end
def uptoSmall : (H : Type) → List (DataW H) → Bool := fun _ ds => decide (uptoBulkAll ds ≤ 1048576)
def OpenSpec.upto (s : _root_.Go.ChangeSpec) : _root_.Go.OpenSpec := { _root_.Go.OpenSpec.ofChange s with cond := some uptoSmall }

/-- 'courierlaw15.FrameBuilds', WHERE WHAT IT READS IS OF BULK AT MOST 1048576: true; the input reads as it did. -/
def frameBuildsUptoRow : OpenClaim := { program := "ythhkdabajikckaa", sum := "5450dc739a4f0c67f335e3ec3a30c5d564956456b5001a2262d5bf8dd8c4bd7b", func := "courier/courierlaw15.FrameBuilds", spec := "frameBuilds", apart := false, narrowed := true }
def FrameBuildsUptoSaid : Prop := frameBuildsUptoRow.holds Try.pinned (OpenSpec.upto frameBuildsSpec)

/-- 'courierlaw15.FrameSame', WHERE WHAT IT READS IS OF BULK AT MOST 1048576: true; the input reads as it did. -/
def frameSameUptoRow : OpenClaim := { program := "ythhkdabajikckaa", sum := "5450dc739a4f0c67f335e3ec3a30c5d564956456b5001a2262d5bf8dd8c4bd7b", func := "courier/courierlaw15.FrameSame", spec := "frameSame", apart := false, narrowed := true }
def FrameSameUptoSaid : Prop := frameSameUptoRow.holds Try.pinned (OpenSpec.upto frameSameSpec)

/-- 'courierlaw15.FrameParses', WHERE WHAT IT READS IS OF BULK AT MOST 1048576: true; the input reads as it did. -/
def frameParsesUptoRow : OpenClaim := { program := "ythhkdabajikckaa", sum := "5450dc739a4f0c67f335e3ec3a30c5d564956456b5001a2262d5bf8dd8c4bd7b", func := "courier/courierlaw15.FrameParses", spec := "frameParses", unfollowed := true, recurses := true, apart := false, narrowed := true }
def FrameParsesUptoSaid : Prop := frameParsesUptoRow.holds Try.pinned (OpenSpec.upto frameParsesSpec)

/-- 'courierlaw15.FrameTurned', WHERE WHAT IT READS IS OF BULK AT MOST 1048576: true; the input reads as it did. -/
def frameTurnedUptoRow : OpenClaim := { program := "ythhkdabajikckaa", sum := "5450dc739a4f0c67f335e3ec3a30c5d564956456b5001a2262d5bf8dd8c4bd7b", func := "courier/courierlaw15.FrameTurned", spec := "frameTurned", unfollowed := true, recurses := true, apart := false, narrowed := true }
def FrameTurnedUptoSaid : Prop := frameTurnedUptoRow.holds Try.pinned (OpenSpec.upto frameTurnedSpec)

/-- 'courierlaw15.FrameBack', WHERE WHAT IT READS IS OF BULK AT MOST 1048576: true; the input reads as it did. -/
def frameBackUptoRow : OpenClaim := { program := "ythhkdabajikckaa", sum := "5450dc739a4f0c67f335e3ec3a30c5d564956456b5001a2262d5bf8dd8c4bd7b", func := "courier/courierlaw15.FrameBack", spec := "frameBack", unfollowed := true, recurses := true, apart := false, narrowed := true }
def FrameBackUptoSaid : Prop := frameBackUptoRow.holds Try.pinned (OpenSpec.upto frameBackSpec)

end Rows
end Go.Proofs.Ythhkdabajikckaa
