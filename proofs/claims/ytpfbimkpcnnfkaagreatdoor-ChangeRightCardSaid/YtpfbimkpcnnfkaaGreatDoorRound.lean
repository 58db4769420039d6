/- A region that draws its order, in a round of a range over a function, by the plain law for one whose head only reads. -/
import Derived.StillTailTactics
import Derived.OrdersIn
import Derived.RangeFuncCalls
import Derived.TacticsIn
namespace Go.Proofs.YtpfbimkpcnnfkaaGreatDoor.Iter
open Go
set_option linter.unusedVariables false
end Go.Proofs.YtpfbimkpcnnfkaaGreatDoor.Iter
