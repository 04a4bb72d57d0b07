/- The law FrameTurned over plain values: what is to be proved of it; no further condition. -/
import Derived.Test.YthhkdabajikckaaX22
import Derived.Test.YthhkdabajikckaaOpens
namespace Go.Proofs.Ythhkdabajikckaa.X
open Go.RowKit Go.Proofs.YthhkdabajikckaaW.PrintWords Go.Proofs.YthhkdabajikckaaW.PrintLast Go.Proofs.YthhkdabajikckaaW.PrintMore
open Go.Proofs.Ythhkdabajikckaa
set_option linter.unusedVariables false
def courierlaw15_FrameTurned.Pure : Prop := ∀ (y0 : S25) (y1 : Int) (y2 : Int), (∃ b, (Opens.gIso (fun x : S25 => (x.f0, x.f1, x.f2, x.f3, x.f4, x.f5, x.f6, x.f7, x.f8)) (Opens.gPair (Opens.gInt .i64) (Opens.gPair (Opens.gInt .i64) (Opens.gPair (Opens.gInt .u64) (Opens.gPair (Opens.gInt .i64) (Opens.gPair (Opens.gInt .u64) (Opens.gPair (Opens.gInt .i64) (Opens.gPair (Opens.gInt .i64) (Opens.gPair (Opens.gInt .i64) (Opens.gList (Opens.gInt .u8))))))))))) b y0) → (∃ b, (Opens.gInt .u64) b y1) → (∃ b, (Opens.gInt .u8) b y2) → ∃ k, courierlaw15_FrameTurned.f k y0.f0 y0.f1 y0.f2 y0.f3 y0.f4 y0.f5 y0.f6 y0.f7 y0.f8 y1 y2 = some true
end Go.Proofs.Ythhkdabajikckaa.X
