/-
  No cell of these rows narrows 'for every input' (looked for: loops, veiled, ifaces, maps, wideKeys, modest, calm, conditions, laid).
  DERIVED. THE GIVEN ROWS OF THIS SEAT. 12 by the template 'for every input the law returns true; each argument reads behind the call as it read before'; 0 by the template 'total and deterministic' (their statements: YtnmdgbfkeghboaaTotals.lean).
  GIVEN WITH THE SEED: the statements are not yours to turn. If you find one false, say at which input.
  Laid BY PROGRAM, IN A SANDBOX (cutbox-rows.mjs): the forced cells as the released guide's own fill.sh prints them over the translation 19d6867292d917dc… (all of the seat's roots in one cut). By AI agents, Wed Nov 11 2026. No macro, syntax, notation, axiom, sorry.
-/
import Derived.Test.YtnmdgbfkeghboaaChecked
import GoSem.Claim
import GoSem.ClaimJoined
import GoSem.ClaimMapViews
import Derived.JoinedTies
import Derived.KernelRfl
namespace Go.Proofs.Ytnmdgbfkeghboaa
/- THE CELL 'sum', in the pinned program and in every row, IS THE sha256 OF THE DUMP (.gsa) THAT YtnmdgbfkeghboaaProg.lean LOADS. Nothing in Lean hashes anything: it is a label: what it is worth is what the hold of that sum in a sandbox is worth. -/
noncomputable def Try.pinned : Pinned := { name := "ytnmdgbfkeghboaa", sum := "19d6867292d917dc14559516695c5d237338da81c11c9bf1391f677c5f879d72", checked := Try.checked }
namespace Rows
def none {H : Type} : Left H := { results := [], args := [] }

/-- 'courierlaw01.VarintZigs': WHATEVER THE INPUT: true; the input reads as it did. -/
def varintZigsSpec : ChangeSpec := { name := "varintZigs", fn := fun _ => fun
  | [d1, d2] => { results := [.lit (.bool true)], args := [d1, d2] }
  | _ => none }
def varintZigsRow : OpenClaim := { program := "ytnmdgbfkeghboaa", sum := "19d6867292d917dc14559516695c5d237338da81c11c9bf1391f677c5f879d72", func := "courier/courierlaw01.VarintZigs", spec := "varintZigs", apart := false }
def VarintZigsSaid : Prop := varintZigsRow.holds Try.pinned (OpenSpec.ofChange varintZigsSpec)

/-- ITS FALSE NEIGHBOUR: 'it returns false'. Refute it at one input. -/
def varintZigsWrong : ChangeSpec := { name := "varintZigs", fn := fun _ => fun
  | [d1, d2] => { results := [.lit (.bool false)], args := [d1, d2] }
  | _ => none }
def VarintZigsWrongFalsely : Prop := varintZigsRow.holds Try.pinned (OpenSpec.ofChange varintZigsWrong)

/-- 'courierlaw01.VarintKeeps': WHATEVER THE INPUT: true; the input reads as it did. -/
def varintKeepsSpec : ChangeSpec := { name := "varintKeeps", fn := fun _ => fun
  | [d1, d2] => { results := [.lit (.bool true)], args := [d1, d2] }
  | _ => none }
def varintKeepsRow : OpenClaim := { program := "ytnmdgbfkeghboaa", sum := "19d6867292d917dc14559516695c5d237338da81c11c9bf1391f677c5f879d72", func := "courier/courierlaw01.VarintKeeps", spec := "varintKeeps", apart := false }
def VarintKeepsSaid : Prop := varintKeepsRow.holds Try.pinned (OpenSpec.ofChange varintKeepsSpec)

/-- ITS FALSE NEIGHBOUR: 'it returns false'. Refute it at one input. -/
def varintKeepsWrong : ChangeSpec := { name := "varintKeeps", fn := fun _ => fun
  | [d1, d2] => { results := [.lit (.bool false)], args := [d1, d2] }
  | _ => none }
def VarintKeepsWrongFalsely : Prop := varintKeepsRow.holds Try.pinned (OpenSpec.ofChange varintKeepsWrong)

/-- 'courierlaw01.VarintTakes': WHATEVER THE INPUT: true; the input reads as it did. -/
def varintTakesSpec : ChangeSpec := { name := "varintTakes", fn := fun _ => fun
  | [d] => { results := [.lit (.bool true)], args := [d] }
  | _ => none }
def varintTakesRow : OpenClaim := { program := "ytnmdgbfkeghboaa", sum := "19d6867292d917dc14559516695c5d237338da81c11c9bf1391f677c5f879d72", func := "courier/courierlaw01.VarintTakes", spec := "varintTakes", apart := false }
def VarintTakesSaid : Prop := varintTakesRow.holds Try.pinned (OpenSpec.ofChange varintTakesSpec)

/-- ITS FALSE NEIGHBOUR: 'it returns false'. Refute it at one input. -/
def varintTakesWrong : ChangeSpec := { name := "varintTakes", fn := fun _ => fun
  | [d] => { results := [.lit (.bool false)], args := [d] }
  | _ => none }
def VarintTakesWrongFalsely : Prop := varintTakesRow.holds Try.pinned (OpenSpec.ofChange varintTakesWrong)

/-- 'courierlaw01.VarintLong': WHATEVER THE INPUT: true; the input reads as it did. -/
def varintLongSpec : ChangeSpec := { name := "varintLong", fn := fun _ => fun
  | [d1, d2] => { results := [.lit (.bool true)], args := [d1, d2] }
  | _ => none }
def varintLongRow : OpenClaim := { program := "ytnmdgbfkeghboaa", sum := "19d6867292d917dc14559516695c5d237338da81c11c9bf1391f677c5f879d72", func := "courier/courierlaw01.VarintLong", spec := "varintLong", apart := false }
def VarintLongSaid : Prop := varintLongRow.holds Try.pinned (OpenSpec.ofChange varintLongSpec)

/-- ITS FALSE NEIGHBOUR: 'it returns false'. Refute it at one input. -/
def varintLongWrong : ChangeSpec := { name := "varintLong", fn := fun _ => fun
  | [d1, d2] => { results := [.lit (.bool false)], args := [d1, d2] }
  | _ => none }
def VarintLongWrongFalsely : Prop := varintLongRow.holds Try.pinned (OpenSpec.ofChange varintLongWrong)

/-- 'courierlaw01.VarintTakesFixed': WHATEVER THE INPUT: true; the input reads as it did. -/
def varintTakesFixedSpec : ChangeSpec := { name := "varintTakesFixed", fn := fun _ => fun
  | [d] => { results := [.lit (.bool true)], args := [d] }
  | _ => none }
def varintTakesFixedRow : OpenClaim := { program := "ytnmdgbfkeghboaa", sum := "19d6867292d917dc14559516695c5d237338da81c11c9bf1391f677c5f879d72", func := "courier/courierlaw01.VarintTakesFixed", spec := "varintTakesFixed", apart := false }
def VarintTakesFixedSaid : Prop := varintTakesFixedRow.holds Try.pinned (OpenSpec.ofChange varintTakesFixedSpec)

/-- ITS FALSE NEIGHBOUR: 'it returns false'. Refute it at one input. -/
def varintTakesFixedWrong : ChangeSpec := { name := "varintTakesFixed", fn := fun _ => fun
  | [d] => { results := [.lit (.bool false)], args := [d] }
  | _ => none }
def VarintTakesFixedWrongFalsely : Prop := varintTakesFixedRow.holds Try.pinned (OpenSpec.ofChange varintTakesFixedWrong)

/-- 'courierlaw01.VarintFixed': WHATEVER THE INPUT: true; the input reads as it did. -/
def varintFixedSpec : ChangeSpec := { name := "varintFixed", fn := fun _ => fun
  | [d1, d2, d3] => { results := [.lit (.bool true)], args := [d1, d2, d3] }
  | _ => none }
def varintFixedRow : OpenClaim := { program := "ytnmdgbfkeghboaa", sum := "19d6867292d917dc14559516695c5d237338da81c11c9bf1391f677c5f879d72", func := "courier/courierlaw01.VarintFixed", spec := "varintFixed", apart := false }
def VarintFixedSaid : Prop := varintFixedRow.holds Try.pinned (OpenSpec.ofChange varintFixedSpec)

/-- ITS FALSE NEIGHBOUR: 'it returns false'. Refute it at one input. -/
def varintFixedWrong : ChangeSpec := { name := "varintFixed", fn := fun _ => fun
  | [d1, d2, d3] => { results := [.lit (.bool false)], args := [d1, d2, d3] }
  | _ => none }
def VarintFixedWrongFalsely : Prop := varintFixedRow.holds Try.pinned (OpenSpec.ofChange varintFixedWrong)

/-- 'courierlaw14.CrcSums': WHATEVER THE INPUT: true; the input reads as it did. -/
def crcSumsSpec : ChangeSpec := { name := "crcSums", fn := fun _ => fun
  | [d] => { results := [.lit (.bool true)], args := [d] }
  | _ => none }
def crcSumsRow : OpenClaim := { program := "ytnmdgbfkeghboaa", sum := "19d6867292d917dc14559516695c5d237338da81c11c9bf1391f677c5f879d72", func := "courier/courierlaw14.CrcSums", spec := "crcSums", apart := false }
def CrcSumsSaid : Prop := crcSumsRow.holds Try.pinned (OpenSpec.ofChange crcSumsSpec)

/-- ITS FALSE NEIGHBOUR: 'it returns false'. Refute it at one input. -/
def crcSumsWrong : ChangeSpec := { name := "crcSums", fn := fun _ => fun
  | [d] => { results := [.lit (.bool false)], args := [d] }
  | _ => none }
def CrcSumsWrongFalsely : Prop := crcSumsRow.holds Try.pinned (OpenSpec.ofChange crcSumsWrong)

/-- 'courierlaw14.CrcUpdates': WHATEVER THE INPUT: true; the input reads as it did. -/
def crcUpdatesSpec : ChangeSpec := { name := "crcUpdates", fn := fun _ => fun
  | [d1, d2, d3] => { results := [.lit (.bool true)], args := [d1, d2, d3] }
  | _ => none }
def crcUpdatesRow : OpenClaim := { program := "ytnmdgbfkeghboaa", sum := "19d6867292d917dc14559516695c5d237338da81c11c9bf1391f677c5f879d72", func := "courier/courierlaw14.CrcUpdates", spec := "crcUpdates", apart := false }
def CrcUpdatesSaid : Prop := crcUpdatesRow.holds Try.pinned (OpenSpec.ofChange crcUpdatesSpec)

/-- ITS FALSE NEIGHBOUR: 'it returns false'. Refute it at one input. -/
def crcUpdatesWrong : ChangeSpec := { name := "crcUpdates", fn := fun _ => fun
  | [d1, d2, d3] => { results := [.lit (.bool false)], args := [d1, d2, d3] }
  | _ => none }
def CrcUpdatesWrongFalsely : Prop := crcUpdatesRow.holds Try.pinned (OpenSpec.ofChange crcUpdatesWrong)

/-- 'courierlaw14.CrcTurns': WHATEVER THE INPUT: true; the input reads as it did. -/
def crcTurnsSpec : ChangeSpec := { name := "crcTurns", fn := fun _ => fun
  | [d1, d2, d3] => { results := [.lit (.bool true)], args := [d1, d2, d3] }
  | _ => none }
def crcTurnsRow : OpenClaim := { program := "ytnmdgbfkeghboaa", sum := "19d6867292d917dc14559516695c5d237338da81c11c9bf1391f677c5f879d72", func := "courier/courierlaw14.CrcTurns", spec := "crcTurns", apart := false }
def CrcTurnsSaid : Prop := crcTurnsRow.holds Try.pinned (OpenSpec.ofChange crcTurnsSpec)

/-- ITS FALSE NEIGHBOUR: 'it returns false'. Refute it at one input. -/
def crcTurnsWrong : ChangeSpec := { name := "crcTurns", fn := fun _ => fun
  | [d1, d2, d3] => { results := [.lit (.bool false)], args := [d1, d2, d3] }
  | _ => none }
def CrcTurnsWrongFalsely : Prop := crcTurnsRow.holds Try.pinned (OpenSpec.ofChange crcTurnsWrong)

/-- 'courierlaw01.VarintBack': WHATEVER THE INPUT: true; the input reads as it did. -/
def varintBackSpec : ChangeSpec := { name := "varintBack", fn := fun _ => fun
  | [d1, d2, d3] => { results := [.lit (.bool true)], args := [d1, d2, d3] }
  | _ => none }
def varintBackRow : OpenClaim := { program := "ytnmdgbfkeghboaa", sum := "19d6867292d917dc14559516695c5d237338da81c11c9bf1391f677c5f879d72", func := "courier/courierlaw01.VarintBack", spec := "varintBack", apart := false }
def VarintBackSaid : Prop := varintBackRow.holds Try.pinned (OpenSpec.ofChange varintBackSpec)

/-- ITS FALSE NEIGHBOUR: 'it returns false'. Refute it at one input. -/
def varintBackWrong : ChangeSpec := { name := "varintBack", fn := fun _ => fun
  | [d1, d2, d3] => { results := [.lit (.bool false)], args := [d1, d2, d3] }
  | _ => none }
def VarintBackWrongFalsely : Prop := varintBackRow.holds Try.pinned (OpenSpec.ofChange varintBackWrong)

/-- 'courierlaw01.VarintAppends': WHATEVER THE INPUT: true; the input reads as it did. -/
def varintAppendsSpec : ChangeSpec := { name := "varintAppends", fn := fun _ => fun
  | [d1, d2] => { results := [.lit (.bool true)], args := [d1, d2] }
  | _ => none }
def varintAppendsRow : OpenClaim := { program := "ytnmdgbfkeghboaa", sum := "19d6867292d917dc14559516695c5d237338da81c11c9bf1391f677c5f879d72", func := "courier/courierlaw01.VarintAppends", spec := "varintAppends", apart := false }
def VarintAppendsSaid : Prop := varintAppendsRow.holds Try.pinned (OpenSpec.ofChange varintAppendsSpec)

/-- ITS FALSE NEIGHBOUR: 'it returns false'. Refute it at one input. -/
def varintAppendsWrong : ChangeSpec := { name := "varintAppends", fn := fun _ => fun
  | [d1, d2] => { results := [.lit (.bool false)], args := [d1, d2] }
  | _ => none }
def VarintAppendsWrongFalsely : Prop := varintAppendsRow.holds Try.pinned (OpenSpec.ofChange varintAppendsWrong)

/-- 'courierlaw14.CrcJoins': WHATEVER THE INPUT: true; the input reads as it did. -/
def crcJoinsSpec : ChangeSpec := { name := "crcJoins", fn := fun _ => fun
  | [d1, d2] => { results := [.lit (.bool true)], args := [d1, d2] }
  | _ => none }
def crcJoinsRow : OpenClaim := { program := "ytnmdgbfkeghboaa", sum := "19d6867292d917dc14559516695c5d237338da81c11c9bf1391f677c5f879d72", func := "courier/courierlaw14.CrcJoins", spec := "crcJoins", apart := false }
def CrcJoinsSaid : Prop := crcJoinsRow.holds Try.pinned (OpenSpec.ofChange crcJoinsSpec)

/-- ITS FALSE NEIGHBOUR: 'it returns false'. Refute it at one input. -/
def crcJoinsWrong : ChangeSpec := { name := "crcJoins", fn := fun _ => fun
  | [d1, d2] => { results := [.lit (.bool false)], args := [d1, d2] }
  | _ => none }
def CrcJoinsWrongFalsely : Prop := crcJoinsRow.holds Try.pinned (OpenSpec.ofChange crcJoinsWrong)

/- THE SECOND FORM. 'bulk': how many values and letters a reading holds, each counted each time it is reached (what is shared counts as often as it is met; a slice's spare places count too). A statement '..UptoSaid' is the law's where the arguments, and the package variables that the reading takes, are together of bulk at most 1048576: NARROWER than '..Said'. Prove '..Said' where nothing that the law and all that it calls make is longer than what came in: it says more and counts as full. Else prove '..UptoSaid'. A law counts once. -/
mutual
def uptoBulk {H : Type} : DataW H → Nat
  | .lit (.string bytes) => bytes.length + 1
  | .lit _ => 1
  | .nil => 1
  | .ptr d => uptoBulk d + 1
  | .slice elems spare => uptoBulkAll elems + uptoBulkAll spare + 1
  | .agg parts => uptoBulkAll parts + 1
  | .iface _ d => uptoBulk d + 1
  | .map entries => uptoBulkEntries entries + 1
  | .held _ => 1
def uptoBulkAll {H : Type} : List (DataW H) → Nat
  | [] => 0
  | d :: r => uptoBulk d + uptoBulkAll r
def uptoBulkEntries {H : Type} : List (Lit × DataW H) → Nat
  | [] => 0
  | x :: r => uptoBulkEntry x + uptoBulkEntries r
def uptoBulkEntry {H : Type} : Lit × DataW H → Nat
  | (.string bytes, d) => bytes.length + uptoBulk d + 1
  | (_, d) => uptoBulk d + 1
 end
def uptoSmall : (H : Type) → List (DataW H) → Bool := fun _ ds => decide (uptoBulkAll ds ≤ 1048576)
def OpenSpec.upto (s : _root_.Go.ChangeSpec) : _root_.Go.OpenSpec := { _root_.Go.OpenSpec.ofChange s with cond := some uptoSmall }

/-- 'courierlaw01.VarintZigs', WHERE WHAT IT READS IS OF BULK AT MOST 1048576: true; the input reads as it did. -/
def varintZigsUptoRow : OpenClaim := { program := "ytnmdgbfkeghboaa", sum := "19d6867292d917dc14559516695c5d237338da81c11c9bf1391f677c5f879d72", func := "courier/courierlaw01.VarintZigs", spec := "varintZigs", apart := false, narrowed := true }
def VarintZigsUptoSaid : Prop := varintZigsUptoRow.holds Try.pinned (OpenSpec.upto varintZigsSpec)

/-- 'courierlaw01.VarintKeeps', WHERE WHAT IT READS IS OF BULK AT MOST 1048576: true; the input reads as it did. -/
def varintKeepsUptoRow : OpenClaim := { program := "ytnmdgbfkeghboaa", sum := "19d6867292d917dc14559516695c5d237338da81c11c9bf1391f677c5f879d72", func := "courier/courierlaw01.VarintKeeps", spec := "varintKeeps", apart := false, narrowed := true }
def VarintKeepsUptoSaid : Prop := varintKeepsUptoRow.holds Try.pinned (OpenSpec.upto varintKeepsSpec)

/-- 'courierlaw01.VarintTakes', WHERE WHAT IT READS IS OF BULK AT MOST 1048576: true; the input reads as it did. -/
def varintTakesUptoRow : OpenClaim := { program := "ytnmdgbfkeghboaa", sum := "19d6867292d917dc14559516695c5d237338da81c11c9bf1391f677c5f879d72", func := "courier/courierlaw01.VarintTakes", spec := "varintTakes", apart := false, narrowed := true }
def VarintTakesUptoSaid : Prop := varintTakesUptoRow.holds Try.pinned (OpenSpec.upto varintTakesSpec)

/-- 'courierlaw01.VarintLong', WHERE WHAT IT READS IS OF BULK AT MOST 1048576: true; the input reads as it did. -/
def varintLongUptoRow : OpenClaim := { program := "ytnmdgbfkeghboaa", sum := "19d6867292d917dc14559516695c5d237338da81c11c9bf1391f677c5f879d72", func := "courier/courierlaw01.VarintLong", spec := "varintLong", apart := false, narrowed := true }
def VarintLongUptoSaid : Prop := varintLongUptoRow.holds Try.pinned (OpenSpec.upto varintLongSpec)

/-- 'courierlaw01.VarintTakesFixed', WHERE WHAT IT READS IS OF BULK AT MOST 1048576: true; the input reads as it did. -/
def varintTakesFixedUptoRow : OpenClaim := { program := "ytnmdgbfkeghboaa", sum := "19d6867292d917dc14559516695c5d237338da81c11c9bf1391f677c5f879d72", func := "courier/courierlaw01.VarintTakesFixed", spec := "varintTakesFixed", apart := false, narrowed := true }
def VarintTakesFixedUptoSaid : Prop := varintTakesFixedUptoRow.holds Try.pinned (OpenSpec.upto varintTakesFixedSpec)

/-- 'courierlaw01.VarintFixed', WHERE WHAT IT READS IS OF BULK AT MOST 1048576: true; the input reads as it did. -/
def varintFixedUptoRow : OpenClaim := { program := "ytnmdgbfkeghboaa", sum := "19d6867292d917dc14559516695c5d237338da81c11c9bf1391f677c5f879d72", func := "courier/courierlaw01.VarintFixed", spec := "varintFixed", apart := false, narrowed := true }
def VarintFixedUptoSaid : Prop := varintFixedUptoRow.holds Try.pinned (OpenSpec.upto varintFixedSpec)

/-- 'courierlaw14.CrcSums', WHERE WHAT IT READS IS OF BULK AT MOST 1048576: true; the input reads as it did. -/
def crcSumsUptoRow : OpenClaim := { program := "ytnmdgbfkeghboaa", sum := "19d6867292d917dc14559516695c5d237338da81c11c9bf1391f677c5f879d72", func := "courier/courierlaw14.CrcSums", spec := "crcSums", apart := false, narrowed := true }
def CrcSumsUptoSaid : Prop := crcSumsUptoRow.holds Try.pinned (OpenSpec.upto crcSumsSpec)

/-- 'courierlaw14.CrcUpdates', WHERE WHAT IT READS IS OF BULK AT MOST 1048576: true; the input reads as it did. -/
def crcUpdatesUptoRow : OpenClaim := { program := "ytnmdgbfkeghboaa", sum := "19d6867292d917dc14559516695c5d237338da81c11c9bf1391f677c5f879d72", func := "courier/courierlaw14.CrcUpdates", spec := "crcUpdates", apart := false, narrowed := true }
def CrcUpdatesUptoSaid : Prop := crcUpdatesUptoRow.holds Try.pinned (OpenSpec.upto crcUpdatesSpec)

/-- 'courierlaw14.CrcTurns', WHERE WHAT IT READS IS OF BULK AT MOST 1048576: true; the input reads as it did. -/
def crcTurnsUptoRow : OpenClaim := { program := "ytnmdgbfkeghboaa", sum := "19d6867292d917dc14559516695c5d237338da81c11c9bf1391f677c5f879d72", func := "courier/courierlaw14.CrcTurns", spec := "crcTurns", apart := false, narrowed := true }
def CrcTurnsUptoSaid : Prop := crcTurnsUptoRow.holds Try.pinned (OpenSpec.upto crcTurnsSpec)

/-- 'courierlaw01.VarintBack', WHERE WHAT IT READS IS OF BULK AT MOST 1048576: true; the input reads as it did. -/
def varintBackUptoRow : OpenClaim := { program := "ytnmdgbfkeghboaa", sum := "19d6867292d917dc14559516695c5d237338da81c11c9bf1391f677c5f879d72", func := "courier/courierlaw01.VarintBack", spec := "varintBack", apart := false, narrowed := true }
def VarintBackUptoSaid : Prop := varintBackUptoRow.holds Try.pinned (OpenSpec.upto varintBackSpec)

/-- 'courierlaw01.VarintAppends', WHERE WHAT IT READS IS OF BULK AT MOST 1048576: true; the input reads as it did. -/
def varintAppendsUptoRow : OpenClaim := { program := "ytnmdgbfkeghboaa", sum := "19d6867292d917dc14559516695c5d237338da81c11c9bf1391f677c5f879d72", func := "courier/courierlaw01.VarintAppends", spec := "varintAppends", apart := false, narrowed := true }
def VarintAppendsUptoSaid : Prop := varintAppendsUptoRow.holds Try.pinned (OpenSpec.upto varintAppendsSpec)

/-- 'courierlaw14.CrcJoins', WHERE WHAT IT READS IS OF BULK AT MOST 1048576: true; the input reads as it did. -/
def crcJoinsUptoRow : OpenClaim := { program := "ytnmdgbfkeghboaa", sum := "19d6867292d917dc14559516695c5d237338da81c11c9bf1391f677c5f879d72", func := "courier/courierlaw14.CrcJoins", spec := "crcJoins", apart := false, narrowed := true }
def CrcJoinsUptoSaid : Prop := crcJoinsUptoRow.holds Try.pinned (OpenSpec.upto crcJoinsSpec)

end Rows
end Go.Proofs.Ytnmdgbfkeghboaa
