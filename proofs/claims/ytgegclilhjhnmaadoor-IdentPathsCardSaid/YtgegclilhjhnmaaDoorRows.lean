/-
  NARROWER THAN 'FOR EVERY INPUT', by the rows' own cells (each row's printed sentence says how): TextQuotes: laid · IdentNames: laid · IdentCamels: laid · IdentSnakes: laid · IdentPaths: laid.
  DERIVED. THE GIVEN ROWS OF THIS SEAT. 5 by the template 'for every input the law returns true; each argument reads behind the call as it read before'; 0 by the template 'total and deterministic' (their statements: YtgegclilhjhnmaaDoorTotals.lean).
  GIVEN WITH THE SEED: the statements are not yours to turn. If you find one false, say at which input.
  Laid BY PROGRAM, IN A SANDBOX (cutbox-rows.mjs): the forced cells as the released guide's own fill.sh prints them over the translation 6252b6bfa7a47232… (all of the seat's roots in one cut). By AI agents, Wed Nov 11 2026. No macro, syntax, notation, axiom, sorry.
-/
import Derived.Test.YtgegclilhjhnmaaDoorChecked
import GoSem.PinnedTables
import GoSem.Claim
import GoSem.ClaimJoined
import GoSem.ClaimMapViews
import Derived.JoinedTies
import Derived.KernelRfl
namespace Go.Proofs.YtgegclilhjhnmaaDoor
/- THE CELL 'sum', in the pinned program and in every row, IS THE sha256 OF THE DUMP (.gsa) THAT YtgegclilhjhnmaaDoorProg.lean LOADS. Nothing in Lean hashes anything: it is a label: what it is worth is what the hold of that sum in a sandbox is worth. -/
noncomputable def Tryd.pinned : Pinned := { name := "ytgegclilhjhnmaadoor", sum := "6252b6bfa7a472326e9d96b6cb891742ba0cadf85c5b467caff948129d307f03", checked := Tryd.checked }
namespace Rows
def none {H : Type} : Left H := { results := [], args := [] }

/- WHAT THE LISTED PACKAGE-LEVEL VARIABLES READ AS WHEN THE CALL BEGINS. Each datum BY PROGRAM (the guide's laid-datum.mjs) off the statement by which the dump's own 'gosem.cut.vars' lays the variable. In a bare row this is a premise. The card (YtgegclilhjhnmaaDoorCards.lean) ties it to the program's text. -/
def laid_unicode_utf8_acceptRanges {H : Type} : DataW H := .agg [.agg [.lit (.int .u8 128), .lit (.int .u8 191)], .agg [.lit (.int .u8 160), .lit (.int .u8 191)], .agg [.lit (.int .u8 128), .lit (.int .u8 159)], .agg [.lit (.int .u8 144), .lit (.int .u8 191)], .agg [.lit (.int .u8 128), .lit (.int .u8 143)], .agg [.lit (.int .u8 0), .lit (.int .u8 0)], .agg [.lit (.int .u8 0), .lit (.int .u8 0)], .agg [.lit (.int .u8 0), .lit (.int .u8 0)], .agg [.lit (.int .u8 0), .lit (.int .u8 0)], .agg [.lit (.int .u8 0), .lit (.int .u8 0)], .agg [.lit (.int .u8 0), .lit (.int .u8 0)], .agg [.lit (.int .u8 0), .lit (.int .u8 0)], .agg [.lit (.int .u8 0), .lit (.int .u8 0)], .agg [.lit (.int .u8 0), .lit (.int .u8 0)], .agg [.lit (.int .u8 0), .lit (.int .u8 0)], .agg [.lit (.int .u8 0), .lit (.int .u8 0)]]
/-- One of Go's own tables, pinned by name: the form's constant. -/
def laid_unicode_utf8_first : DataW Unit := Go.Pinned.utf8First

/-- 'courierlaw12.TextQuotes': WHATEVER THE INPUT: true; the input reads as it did. -/
def textQuotesSpec : ChangeSpec := { name := "textQuotes", fn := fun _ => fun
  | [d] => { results := [.lit (.bool true)], args := [d] }
  | _ => none }
def textQuotesRow : OpenClaim := { program := "ytgegclilhjhnmaadoor", sum := "6252b6bfa7a472326e9d96b6cb891742ba0cadf85c5b467caff948129d307f03", func := "courier/courierlaw12.TextQuotes", spec := "textQuotes", inPlace := ["internal/abi.NoEscape"], named := ["unicode/utf8.first", "unicode/utf8.acceptRanges"], apart := false, laid := [("unicode/utf8.acceptRanges", laid_unicode_utf8_acceptRanges), ("unicode/utf8.first", laid_unicode_utf8_first)] }
def TextQuotesSaid : Prop := textQuotesRow.holds Tryd.pinned (OpenSpec.ofChange textQuotesSpec)

/-- ITS FALSE NEIGHBOUR: 'it returns false'. Refute it at one input. -/
def textQuotesWrong : ChangeSpec := { name := "textQuotes", fn := fun _ => fun
  | [d] => { results := [.lit (.bool false)], args := [d] }
  | _ => none }
def TextQuotesWrongFalsely : Prop := textQuotesRow.holds Tryd.pinned (OpenSpec.ofChange textQuotesWrong)

/-- 'courierlaw03.IdentNames': WHATEVER THE INPUT: true; the input reads as it did. -/
def identNamesSpec : ChangeSpec := { name := "identNames", fn := fun _ => fun
  | [d] => { results := [.lit (.bool true)], args := [d] }
  | _ => none }
def identNamesRow : OpenClaim := { program := "ytgegclilhjhnmaadoor", sum := "6252b6bfa7a472326e9d96b6cb891742ba0cadf85c5b467caff948129d307f03", func := "courier/courierlaw03.IdentNames", spec := "identNames", inPlace := ["internal/abi.NoEscape"], named := ["unicode/utf8.first", "unicode/utf8.acceptRanges"], apart := false, laid := [("unicode/utf8.acceptRanges", laid_unicode_utf8_acceptRanges), ("unicode/utf8.first", laid_unicode_utf8_first)] }
def IdentNamesSaid : Prop := identNamesRow.holds Tryd.pinned (OpenSpec.ofChange identNamesSpec)

/-- ITS FALSE NEIGHBOUR: 'it returns false'. Refute it at one input. -/
def identNamesWrong : ChangeSpec := { name := "identNames", fn := fun _ => fun
  | [d] => { results := [.lit (.bool false)], args := [d] }
  | _ => none }
def IdentNamesWrongFalsely : Prop := identNamesRow.holds Tryd.pinned (OpenSpec.ofChange identNamesWrong)

/-- 'courierlaw03.IdentCamels': WHATEVER THE INPUT: true; the input reads as it did. -/
def identCamelsSpec : ChangeSpec := { name := "identCamels", fn := fun _ => fun
  | [d] => { results := [.lit (.bool true)], args := [d] }
  | _ => none }
def identCamelsRow : OpenClaim := { program := "ytgegclilhjhnmaadoor", sum := "6252b6bfa7a472326e9d96b6cb891742ba0cadf85c5b467caff948129d307f03", func := "courier/courierlaw03.IdentCamels", spec := "identCamels", inPlace := ["internal/abi.NoEscape"], named := ["unicode/utf8.first", "unicode/utf8.acceptRanges"], apart := false, laid := [("unicode/utf8.acceptRanges", laid_unicode_utf8_acceptRanges), ("unicode/utf8.first", laid_unicode_utf8_first)] }
def IdentCamelsSaid : Prop := identCamelsRow.holds Tryd.pinned (OpenSpec.ofChange identCamelsSpec)

/-- ITS FALSE NEIGHBOUR: 'it returns false'. Refute it at one input. -/
def identCamelsWrong : ChangeSpec := { name := "identCamels", fn := fun _ => fun
  | [d] => { results := [.lit (.bool false)], args := [d] }
  | _ => none }
def IdentCamelsWrongFalsely : Prop := identCamelsRow.holds Tryd.pinned (OpenSpec.ofChange identCamelsWrong)

/-- 'courierlaw03.IdentSnakes': WHATEVER THE INPUT: true; the input reads as it did. -/
def identSnakesSpec : ChangeSpec := { name := "identSnakes", fn := fun _ => fun
  | [d] => { results := [.lit (.bool true)], args := [d] }
  | _ => none }
def identSnakesRow : OpenClaim := { program := "ytgegclilhjhnmaadoor", sum := "6252b6bfa7a472326e9d96b6cb891742ba0cadf85c5b467caff948129d307f03", func := "courier/courierlaw03.IdentSnakes", spec := "identSnakes", inPlace := ["internal/abi.NoEscape"], named := ["unicode/utf8.first", "unicode/utf8.acceptRanges"], apart := false, laid := [("unicode/utf8.acceptRanges", laid_unicode_utf8_acceptRanges), ("unicode/utf8.first", laid_unicode_utf8_first)] }
def IdentSnakesSaid : Prop := identSnakesRow.holds Tryd.pinned (OpenSpec.ofChange identSnakesSpec)

/-- ITS FALSE NEIGHBOUR: 'it returns false'. Refute it at one input. -/
def identSnakesWrong : ChangeSpec := { name := "identSnakes", fn := fun _ => fun
  | [d] => { results := [.lit (.bool false)], args := [d] }
  | _ => none }
def IdentSnakesWrongFalsely : Prop := identSnakesRow.holds Tryd.pinned (OpenSpec.ofChange identSnakesWrong)

/-- 'courierlaw03.IdentPaths': WHATEVER THE INPUT: true; the input reads as it did. -/
def identPathsSpec : ChangeSpec := { name := "identPaths", fn := fun _ => fun
  | [d] => { results := [.lit (.bool true)], args := [d] }
  | _ => none }
def identPathsRow : OpenClaim := { program := "ytgegclilhjhnmaadoor", sum := "6252b6bfa7a472326e9d96b6cb891742ba0cadf85c5b467caff948129d307f03", func := "courier/courierlaw03.IdentPaths", spec := "identPaths", inPlace := ["internal/abi.NoEscape", "internal/bytealg.CountString", "internal/bytealg.IndexByteString", "internal/bytealg.IndexString"], unfollowed := true, recurses := true, named := ["unicode/utf8.first", "unicode/utf8.acceptRanges", "internal/bytealg.MaxLen"], apart := false, laid := [("unicode/utf8.acceptRanges", laid_unicode_utf8_acceptRanges), ("unicode/utf8.first", laid_unicode_utf8_first)] }
def IdentPathsSaid : Prop := identPathsRow.holds Tryd.pinned (OpenSpec.ofChange identPathsSpec)

/-- ITS FALSE NEIGHBOUR: 'it returns false'. Refute it at one input. -/
def identPathsWrong : ChangeSpec := { name := "identPaths", fn := fun _ => fun
  | [d] => { results := [.lit (.bool false)], args := [d] }
  | _ => none }
def IdentPathsWrongFalsely : Prop := identPathsRow.holds Tryd.pinned (OpenSpec.ofChange identPathsWrong)

/- THE SECOND FORM. 'bulk': how many values and letters a reading holds, each counted each time it is reached (what is shared counts as often as it is met; a slice's spare places count too). A statement '..UptoSaid' is the law's where the arguments, and the package variables that the reading takes, are together of bulk at most 1048576: NARROWER than '..Said'. Prove '..Said' where nothing that the law and all that it calls make is longer than what came in: it says more and counts as full. Else prove '..UptoSaid'. A law counts once. -/
mutual
def uptoBulk {H : Type} : DataW H → Nat
  | .lit (.string bytes) => bytes.length + 1
  | .lit _ => 1
  | .nil => 1
  | .ptr d => uptoBulk d + 1
  | .slice elems spare => uptoBulkAll elems + uptoBulkAll spare + 1
  | .agg parts => uptoBulkAll parts + 1
  | .iface _ d => uptoBulk d + 1
  | .map entries => uptoBulkEntries entries + 1
  | .held _ => 1
def uptoBulkAll {H : Type} : List (DataW H) → Nat
  | [] => 0
  | d :: r => uptoBulk d + uptoBulkAll r
def uptoBulkEntries {H : Type} : List (Lit × DataW H) → Nat
  | [] => 0
  | x :: r => uptoBulkEntry x + uptoBulkEntries r
def uptoBulkEntry {H : Type} : Lit × DataW H → Nat
  | (.string bytes, d) => bytes.length + uptoBulk d + 1
  | (_, d) => uptoBulk d + 1
 end
def uptoSmall : (H : Type) → List (DataW H) → Bool := fun _ ds => decide (uptoBulkAll ds ≤ 1048576)
def OpenSpec.upto (s : _root_.Go.ChangeSpec) : _root_.Go.OpenSpec := { _root_.Go.OpenSpec.ofChange s with cond := some uptoSmall }

/-- 'courierlaw12.TextQuotes', WHERE WHAT IT READS IS OF BULK AT MOST 1048576: true; the input reads as it did. -/
def textQuotesUptoRow : OpenClaim := { program := "ytgegclilhjhnmaadoor", sum := "6252b6bfa7a472326e9d96b6cb891742ba0cadf85c5b467caff948129d307f03", func := "courier/courierlaw12.TextQuotes", spec := "textQuotes", inPlace := ["internal/abi.NoEscape"], named := ["unicode/utf8.first", "unicode/utf8.acceptRanges"], apart := false, laid := [("unicode/utf8.acceptRanges", laid_unicode_utf8_acceptRanges), ("unicode/utf8.first", laid_unicode_utf8_first)], narrowed := true }
def TextQuotesUptoSaid : Prop := textQuotesUptoRow.holds Tryd.pinned (OpenSpec.upto textQuotesSpec)

/-- 'courierlaw03.IdentNames', WHERE WHAT IT READS IS OF BULK AT MOST 1048576: true; the input reads as it did. -/
def identNamesUptoRow : OpenClaim := { program := "ytgegclilhjhnmaadoor", sum := "6252b6bfa7a472326e9d96b6cb891742ba0cadf85c5b467caff948129d307f03", func := "courier/courierlaw03.IdentNames", spec := "identNames", inPlace := ["internal/abi.NoEscape"], named := ["unicode/utf8.first", "unicode/utf8.acceptRanges"], apart := false, laid := [("unicode/utf8.acceptRanges", laid_unicode_utf8_acceptRanges), ("unicode/utf8.first", laid_unicode_utf8_first)], narrowed := true }
def IdentNamesUptoSaid : Prop := identNamesUptoRow.holds Tryd.pinned (OpenSpec.upto identNamesSpec)

/-- 'courierlaw03.IdentCamels', WHERE WHAT IT READS IS OF BULK AT MOST 1048576: true; the input reads as it did. -/
def identCamelsUptoRow : OpenClaim := { program := "ytgegclilhjhnmaadoor", sum := "6252b6bfa7a472326e9d96b6cb891742ba0cadf85c5b467caff948129d307f03", func := "courier/courierlaw03.IdentCamels", spec := "identCamels", inPlace := ["internal/abi.NoEscape"], named := ["unicode/utf8.first", "unicode/utf8.acceptRanges"], apart := false, laid := [("unicode/utf8.acceptRanges", laid_unicode_utf8_acceptRanges), ("unicode/utf8.first", laid_unicode_utf8_first)], narrowed := true }
def IdentCamelsUptoSaid : Prop := identCamelsUptoRow.holds Tryd.pinned (OpenSpec.upto identCamelsSpec)

/-- 'courierlaw03.IdentSnakes', WHERE WHAT IT READS IS OF BULK AT MOST 1048576: true; the input reads as it did. -/
def identSnakesUptoRow : OpenClaim := { program := "ytgegclilhjhnmaadoor", sum := "6252b6bfa7a472326e9d96b6cb891742ba0cadf85c5b467caff948129d307f03", func := "courier/courierlaw03.IdentSnakes", spec := "identSnakes", inPlace := ["internal/abi.NoEscape"], named := ["unicode/utf8.first", "unicode/utf8.acceptRanges"], apart := false, laid := [("unicode/utf8.acceptRanges", laid_unicode_utf8_acceptRanges), ("unicode/utf8.first", laid_unicode_utf8_first)], narrowed := true }
def IdentSnakesUptoSaid : Prop := identSnakesUptoRow.holds Tryd.pinned (OpenSpec.upto identSnakesSpec)

/-- 'courierlaw03.IdentPaths', WHERE WHAT IT READS IS OF BULK AT MOST 1048576: true; the input reads as it did. -/
def identPathsUptoRow : OpenClaim := { program := "ytgegclilhjhnmaadoor", sum := "6252b6bfa7a472326e9d96b6cb891742ba0cadf85c5b467caff948129d307f03", func := "courier/courierlaw03.IdentPaths", spec := "identPaths", inPlace := ["internal/abi.NoEscape", "internal/bytealg.CountString", "internal/bytealg.IndexByteString", "internal/bytealg.IndexString"], unfollowed := true, recurses := true, named := ["unicode/utf8.first", "unicode/utf8.acceptRanges", "internal/bytealg.MaxLen"], apart := false, laid := [("unicode/utf8.acceptRanges", laid_unicode_utf8_acceptRanges), ("unicode/utf8.first", laid_unicode_utf8_first)], narrowed := true }
def IdentPathsUptoSaid : Prop := identPathsUptoRow.holds Tryd.pinned (OpenSpec.upto identPathsSpec)

end Rows
end Go.Proofs.YtgegclilhjhnmaaDoor
