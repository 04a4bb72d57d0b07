/- The law WireJoins over plain values: what is to be proved of it, where what it reads is of bulk at most 1048576; no further condition. -/
import Derived.Test.YtopmelffmakklaaX20
import Derived.Test.YtopmelffmakklaaOpens
namespace Go.Proofs.Ytopmelffmakklaa.X
open Go.RowKit Go.Proofs.YtopmelffmakklaaW.PrintWords Go.Proofs.YtopmelffmakklaaW.PrintLast Go.Proofs.YtopmelffmakklaaW.PrintMore
open Go.Proofs.Ytopmelffmakklaa
set_option linter.unusedVariables false
def courierlaw02_WireJoins.PureUpto : Prop := ∀ (y0 : (List S30)), (Opens.gList (Opens.gIso (fun x : S30 => (x.f0, x.f1, x.f2, x.f3)) (Opens.gPair (Opens.gInt .i64) (Opens.gPair (Opens.gInt .i64) (Opens.gPair (Opens.gInt .u64) (Opens.gList (Opens.gInt .u8))))))) 1048576 y0 → ∃ k, courierlaw02_WireJoins.f k y0 = some true
end Go.Proofs.Ytopmelffmakklaa.X
