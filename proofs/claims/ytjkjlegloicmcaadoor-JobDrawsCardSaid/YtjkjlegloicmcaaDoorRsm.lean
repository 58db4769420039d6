/- The reference's Same. -/
import Derived.Test.YtjkjlegloicmcaaDoorRsm0
import Derived.Test.YtjkjlegloicmcaaDoorRsm1
import Derived.Test.YtjkjlegloicmcaaDoorRsm2
import Derived.Test.YtjkjlegloicmcaaDoorRsm3
set_option linter.unusedVariables false
set_option linter.unusedSimpArgs false
namespace Go.Proofs.YtjkjlegloicmcaaDoor
open Go.RowKit
theorem refSame_calls (j k : Job) (a b : JA) (w : World) (hj : j.now w a) (hk : k.now w b) (hl : j.stack.length ≤ 1000) (hn : ∀ f ∈ j.stack, f.names.length ≤ 100000) (hl2 : j.names.length ≤ 100000) (hl3 : j.draws.length ≤ 100000) :
    Calls Tryd.prog 13 #[.agg (j.cells a).toArray, .agg (k.cells b).toArray] w (RetB w (decide (j = k))) := by
  have key : decide (j = k) = (decide (j.names = k.names) && (decide (j.stack = k.stack) && (decide (j.draws = k.draws) && ((j.kind == k.kind) && ((j.p == k.p) && ((j.phase == k.phase) && ((j.fd == k.fd) && ((j.n == k.n) && ((j.mode == k.mode) && ((j.tries == k.tries) && ((j.at_ == k.at_) && ((j.flags == k.flags) && ((j.path.toList == k.path.toList) && ((j.path2.toList == k.path2.toList) && ((j.text.toList == k.text.toList) && ((j.done == k.done) && ((j.exit == k.exit) && ((j.out.toList == k.out.toList) && ((j.e == k.e)))))))))))))))))))) := by
    rw [job_eq]
    unfold Job.nums Job.rest
    rw [Bool.eq_iff_iff]
    simp only [Bool.and_eq_true, decide_eq_true_eq, beq_iff_eq, List.cons.injEq, and_true]
    constructor
    · rintro ⟨⟨a1, a2, a3, a4, a5, a6, a7, a8, a9, a10⟩, ⟨⟨⟨⟨⟨b1, b2⟩, b3⟩, b4⟩, b5⟩, b6⟩, c1, c2, c3⟩
      exact ⟨c1, c3, c2, a1, a2, a3, a4, a5, a6, a7, a8, a9, b1, b2, b3, b5, a10, b4, b6⟩
    · rintro ⟨c1, c3, c2, a1, a2, a3, a4, a5, a6, a7, a8, a9, b1, b2, b3, b5, a10, b4, b6⟩
      exact ⟨⟨a1, a2, a3, a4, a5, a6, a7, a8, a9, a10⟩, ⟨⟨⟨⟨⟨b1, b2⟩, b3⟩, b4⟩, b5⟩, b6⟩, c1, c2, c3⟩
  rw [key]
  cases h0 : decide (j.names = k.names)
  · simpa using refSame_case0 j k a b w hj hk hl hn hl2 hl3 h0
  cases h1 : decide (j.stack = k.stack)
  · simpa using refSame_case1 j k a b w hj hk hl hn hl2 hl3 h0 h1
  cases h2 : decide (j.draws = k.draws)
  · simpa using refSame_case2 j k a b w hj hk hl hn hl2 hl3 h0 h1 h2
  cases h3 : (j.kind == k.kind)
  · simpa using refSame_case3 j k a b w hj hk hl hn hl2 hl3 h0 h1 h2 h3
  cases h4 : (j.p == k.p)
  · simpa using refSame_case4 j k a b w hj hk hl hn hl2 hl3 h0 h1 h2 h3 h4
  cases h5 : (j.phase == k.phase)
  · simpa using refSame_case5 j k a b w hj hk hl hn hl2 hl3 h0 h1 h2 h3 h4 h5
  cases h6 : (j.fd == k.fd)
  · simpa using refSame_case6 j k a b w hj hk hl hn hl2 hl3 h0 h1 h2 h3 h4 h5 h6
  cases h7 : (j.n == k.n)
  · simpa using refSame_case7 j k a b w hj hk hl hn hl2 hl3 h0 h1 h2 h3 h4 h5 h6 h7
  cases h8 : (j.mode == k.mode)
  · simpa using refSame_case8 j k a b w hj hk hl hn hl2 hl3 h0 h1 h2 h3 h4 h5 h6 h7 h8
  cases h9 : (j.tries == k.tries)
  · simpa using refSame_case9 j k a b w hj hk hl hn hl2 hl3 h0 h1 h2 h3 h4 h5 h6 h7 h8 h9
  cases h10 : (j.at_ == k.at_)
  · simpa using refSame_case10 j k a b w hj hk hl hn hl2 hl3 h0 h1 h2 h3 h4 h5 h6 h7 h8 h9 h10
  cases h11 : (j.flags == k.flags)
  · simpa using refSame_case11 j k a b w hj hk hl hn hl2 hl3 h0 h1 h2 h3 h4 h5 h6 h7 h8 h9 h10 h11
  cases h12 : (j.path.toList == k.path.toList)
  · simpa using refSame_case12 j k a b w hj hk hl hn hl2 hl3 h0 h1 h2 h3 h4 h5 h6 h7 h8 h9 h10 h11 h12
  cases h13 : (j.path2.toList == k.path2.toList)
  · simpa using refSame_case13 j k a b w hj hk hl hn hl2 hl3 h0 h1 h2 h3 h4 h5 h6 h7 h8 h9 h10 h11 h12 h13
  cases h14 : (j.text.toList == k.text.toList)
  · simpa using refSame_case14 j k a b w hj hk hl hn hl2 hl3 h0 h1 h2 h3 h4 h5 h6 h7 h8 h9 h10 h11 h12 h13 h14
  cases h15 : (j.done == k.done)
  · simpa using refSame_case15 j k a b w hj hk hl hn hl2 hl3 h0 h1 h2 h3 h4 h5 h6 h7 h8 h9 h10 h11 h12 h13 h14 h15
  cases h16 : (j.exit == k.exit)
  · simpa using refSame_case16 j k a b w hj hk hl hn hl2 hl3 h0 h1 h2 h3 h4 h5 h6 h7 h8 h9 h10 h11 h12 h13 h14 h15 h16
  cases h17 : (j.out.toList == k.out.toList)
  · simpa using refSame_case17 j k a b w hj hk hl hn hl2 hl3 h0 h1 h2 h3 h4 h5 h6 h7 h8 h9 h10 h11 h12 h13 h14 h15 h16 h17
  cases h18 : (j.e == k.e)
  · simpa using refSame_case18 j k a b w hj hk hl hn hl2 hl3 h0 h1 h2 h3 h4 h5 h6 h7 h8 h9 h10 h11 h12 h13 h14 h15 h16 h17 h18
  simpa using refSame_case19 j k a b w hj hk hl hn hl2 hl3 h0 h1 h2 h3 h4 h5 h6 h7 h8 h9 h10 h11 h12 h13 h14 h15 h16 h17 h18
end Go.Proofs.YtjkjlegloicmcaaDoor
