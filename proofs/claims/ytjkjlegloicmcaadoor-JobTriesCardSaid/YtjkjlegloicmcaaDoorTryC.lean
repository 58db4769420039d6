/- JobTries: all roads. -/
import Derived.Test.YtjkjlegloicmcaaDoorTryB
set_option linter.unusedVariables false
set_option linter.unusedSimpArgs false
namespace Go.Proofs.YtjkjlegloicmcaaDoor
open Go.RowKit
set_option maxRecDepth 100000 in
set_option maxHeartbeats 4000000 in
theorem jobTries_calls (j : Job) (a : JA) (path : ByteArray) (w : World) (hj : j.now w a)  :
    Calls Tryd.prog 6 #[.agg (j.cells a).toArray, .string path] w (RetB w true) := by
  cases hp : plainB j with
  | false => exact jobTries_g0 j a path w hj hp
  | true =>
    by_cases h1 : (path.size : Int) ≤ 200
    · cases h2 : decide (j.tries < 0) with
      | true => exact jobTries_g2 j a path w hj hp h1 h2
      | false =>
        cases h3 : decide (3 < j.tries) with
        | true => exact jobTries_g3 j a path w hj hp h1 h2 h3
        | false => exact jobTries_main j a path w hj hp h1 h2 h3
    · exact jobTries_g1 j a path w hj hp h1
end Go.Proofs.YtjkjlegloicmcaaDoor
