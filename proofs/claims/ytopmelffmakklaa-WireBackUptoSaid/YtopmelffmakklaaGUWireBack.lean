/- The law WireBack over plain values: what is to be proved of it, where what it reads is of bulk at most 1048576; no further condition. -/
import Derived.Test.YtopmelffmakklaaX20
import Derived.Test.YtopmelffmakklaaOpens
namespace Go.Proofs.Ytopmelffmakklaa.X
open Go.RowKit Go.Proofs.YtopmelffmakklaaW.PrintWords Go.Proofs.YtopmelffmakklaaW.PrintLast Go.Proofs.YtopmelffmakklaaW.PrintMore
open Go.Proofs.Ytopmelffmakklaa
set_option linter.unusedVariables false
def courierlaw02_WireBack.PureUpto : Prop := ∀ (y0 : S30) (y1 : (List Int)) (y2 : Int), (Opens.gIso (fun x : S30 => (x.f0, x.f1, x.f2, x.f3)) (Opens.gPair (Opens.gInt .i64) (Opens.gPair (Opens.gInt .i64) (Opens.gPair (Opens.gInt .u64) (Opens.gList (Opens.gInt .u8)))))) 1048576 y0 → (Opens.gList (Opens.gInt .u8)) 1048576 y1 → (Opens.gInt .u64) 1048576 y2 → ∃ k, courierlaw02_WireBack.f k y0.f0 y0.f1 y0.f2 y0.f3 y1 y2 = some true
end Go.Proofs.Ytopmelffmakklaa.X
