/- Plain arithmetic of Go's bit operations on whole numbers: what and, or, xor and shifts come to, under bounds on the numbers. -/
import Derived.Laws.BitsLemmas
import Derived.Test.YtknbhbppofphpaaGreatDoorWM
namespace Go.Proofs.YtknbhbppofphpaaGreatDoor.Math
open Go.Proofs.YtknbhbppofphpaaGreatDoorW.PrintWords Go.Proofs.YtknbhbppofphpaaGreatDoorW.PrintMore

end Go.Proofs.YtknbhbppofphpaaGreatDoor.Math
