/- The law FrameSame over plain values: what is to be proved of it; no further condition. -/
import Derived.Test.YthhkdabajikckaaX19
import Derived.Test.YthhkdabajikckaaOpens
import Derived.Test.YthhkdabajikckaaK25
namespace Go.Proofs.Ythhkdabajikckaa.X
open Go.RowKit Go.Proofs.YthhkdabajikckaaW.PrintWords Go.Proofs.YthhkdabajikckaaW.PrintLast Go.Proofs.YthhkdabajikckaaW.PrintMore
open Go.Proofs.Ythhkdabajikckaa
set_option linter.unusedVariables false
def courierlaw15_FrameSame.Pure : Prop := ∀ (y0 : S25) (y1 : S25), (∃ b, (Opens.gIso (fun x : S25 => (x.f0, x.f1, x.f2, x.f3, x.f4, x.f5, x.f6, x.f7, x.f8)) (Opens.gPair (Opens.gInt .i64) (Opens.gPair (Opens.gInt .i64) (Opens.gPair (Opens.gInt .u64) (Opens.gPair (Opens.gInt .i64) (Opens.gPair (Opens.gInt .u64) (Opens.gPair (Opens.gInt .i64) (Opens.gPair (Opens.gInt .i64) (Opens.gPair (Opens.gInt .i64) (Opens.gList (Opens.gInt .u8))))))))))) b y0) → (∃ b, (Opens.gIso (fun x : S25 => (x.f0, x.f1, x.f2, x.f3, x.f4, x.f5, x.f6, x.f7, x.f8)) (Opens.gPair (Opens.gInt .i64) (Opens.gPair (Opens.gInt .i64) (Opens.gPair (Opens.gInt .u64) (Opens.gPair (Opens.gInt .i64) (Opens.gPair (Opens.gInt .u64) (Opens.gPair (Opens.gInt .i64) (Opens.gPair (Opens.gInt .i64) (Opens.gPair (Opens.gInt .i64) (Opens.gList (Opens.gInt .u8))))))))))) b y1) → ∃ k, courierlaw15_FrameSame.f k y0.f0 y0.f1 y0.f2 y0.f3 y0.f4 y0.f5 y0.f6 y0.f7 y0.f8 y1.f0 y1.f1 y1.f2 y1.f3 y1.f4 y1.f5 y1.f6 y1.f7 y1.f8 = some true
end Go.Proofs.Ythhkdabajikckaa.X
