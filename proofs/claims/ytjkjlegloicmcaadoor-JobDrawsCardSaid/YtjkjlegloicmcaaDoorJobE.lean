/- The job layer: job.Same, joined. -/
import Derived.Test.YtjkjlegloicmcaaDoorJobD0
import Derived.Test.YtjkjlegloicmcaaDoorJobD1
import Derived.Test.YtjkjlegloicmcaaDoorJobD2
set_option linter.unusedVariables false
set_option linter.unusedSimpArgs false
namespace Go.Proofs.YtjkjlegloicmcaaDoor
open Go.RowKit

theorem same_calls (j k : Job) (a b : JA) (w : World) (S : Nat → Prop) (hS : Sub S w) (hj : j.ok w S a) (hk : k.ok w S b) (hl : j.stack.length ≤ 1000) (hn : ∀ f ∈ j.stack, f.names.length ≤ 100000) (hl2 : j.names.length ≤ 100000) (hl3 : j.draws.length ≤ 100000) :
    Calls Tryd.prog 16 #[.agg (j.cells a).toArray, .agg (k.cells b).toArray] w (RetB w (decide (j = k))) := by
  rw [job_eq]
  unfold Job.rest
  cases h0 : decide (j.nums = k.nums)
  · simpa using same_case0 j k a b w S hS hj hk hl hn hl2 hl3 h0
  cases h1 : j.path.toList == k.path.toList
  · simpa using same_case1 j k a b w S hS hj hk hl hn hl2 hl3 h0 h1
  cases h2 : j.path2.toList == k.path2.toList
  · simpa using same_case2 j k a b w S hS hj hk hl hn hl2 hl3 h0 h1 h2
  cases h3 : j.text.toList == k.text.toList
  · simpa using same_case3 j k a b w S hS hj hk hl hn hl2 hl3 h0 h1 h2 h3
  cases h4 : j.out.toList == k.out.toList
  · simpa using same_case4 j k a b w S hS hj hk hl hn hl2 hl3 h0 h1 h2 h3 h4
  cases h5 : j.done == k.done
  · simpa using same_case5 j k a b w S hS hj hk hl hn hl2 hl3 h0 h1 h2 h3 h4 h5
  cases h6 : j.e == k.e
  · simpa using same_case6 j k a b w S hS hj hk hl hn hl2 hl3 h0 h1 h2 h3 h4 h5 h6
  cases h7 : decide (j.names = k.names)
  · simpa using same_case7 j k a b w S hS hj hk hl hn hl2 hl3 h0 h1 h2 h3 h4 h5 h6 h7
  cases h8 : decide (j.draws = k.draws)
  · simpa using same_case8 j k a b w S hS hj hk hl hn hl2 hl3 h0 h1 h2 h3 h4 h5 h6 h7 h8
  cases h9 : decide (j.stack = k.stack)
  · simpa using same_case9 j k a b w S hS hj hk hl hn hl2 hl3 h0 h1 h2 h3 h4 h5 h6 h7 h8 h9
  · simpa using same_case10 j k a b w S hS hj hk hl hn hl2 hl3 h0 h1 h2 h3 h4 h5 h6 h7 h8 h9
end Go.Proofs.YtjkjlegloicmcaaDoor
