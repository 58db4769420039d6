/- JobStack: all roads. -/
import Derived.Test.YtjkjlegloicmcaaDoorStkB
set_option linter.unusedVariables false
set_option linter.unusedSimpArgs false
namespace Go.Proofs.YtjkjlegloicmcaaDoor
open Go.RowKit
set_option maxRecDepth 100000 in
set_option maxHeartbeats 4000000 in
theorem jobStack_calls (j : Job) (a : JA) (f g : Frame) (fa ga : Sl) (w : World) (hj : j.now w a) (hf : rStr.Is w (Now w) fa f.names) (hg : rStr.Is w (Now w) ga g.names)  :
    Calls Tryd.prog 5 #[.agg (j.cells a).toArray, .agg #[.int .i64 f.fd, .string f.name, .slice fa.a f.names.length fa.c], .agg #[.int .i64 g.fd, .string g.name, .slice ga.a g.names.length ga.c]] w (RetB w true) := by
  cases hp : plainB j with
  | false => exact jobStack_g1 j a f g fa ga w hj hf hg hp
  | true =>
    by_cases h60 : (f.names.length : Int) ≤ 60
    · by_cases g60 : (g.names.length : Int) ≤ 60
      · exact jobStack_main j a f g fa ga w hj hf hg hp h60 g60
      · exact jobStack_g3 j a f g fa ga w hj hf hg hp h60 g60
    · exact jobStack_g2 j a f g fa ga w hj hf hg hp h60
end Go.Proofs.YtjkjlegloicmcaaDoor
