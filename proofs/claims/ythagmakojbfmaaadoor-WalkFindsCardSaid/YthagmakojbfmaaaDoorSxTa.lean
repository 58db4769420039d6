/- Trees, printed by program. -/
import Derived.Test.YthagmakojbfmaaaDoorSxX
set_option maxRecDepth 100000
set_option linter.unusedVariables false
namespace Go.Proofs.YthagmakojbfmaaaDoor.Sx
open Go Go.RowKit Go.Proofs.YthagmakojbfmaaaDoor
abbrev K0 : List CK := [.i .i64, .i .i64, .i .i64, .i .i64, .i .i64, .i .i64, .t, .s]
abbrev K1 : List CK := [.s, .i .i64, .i .i64, .i .i64, .i .i64, .s, .b, .b, .i .i64, .i .i64, .t, .i .i64, .b, .b]
abbrev K2 : List CK := [.i .i64, .i .i64, .i .i64, .i .i64, .i .i64, .i .i64, .t, .s, .b]
abbrev K3 : List CK := [.i .i64, .t, .i .i64, .b]
abbrev K4 : List CK := [.i .i64, .i .i64, .i .i64, .i .i64, .i .i64, .i .i64, .t, .s, .v]
def betw.args (a0 : Cells S.ty [.i .i64]) (a1 : Cells S.ty [.i .i64]) (a2 : Cells S.ty [.i .i64]) : List (SV S.ty) := [.i .i64 (.at a0.1), .i .i64 (.at a1.1), .i .i64 (.at a2.1)]
def betw.giv (a0 : Cells S.ty [.i .i64]) (a1 : Cells S.ty [.i .i64]) (a2 : Cells S.ty [.i .i64]) : List (Nat × Own S.ty) := []
def betw.T (a0 : Cells S.ty [.i .i64]) (a1 : Cells S.ty [.i .i64]) (a2 : Cells S.ty [.i .i64]) : Tree S.ty :=
 .ret (.b (.ite (.cmp .leq (.at a1.1) (.at a0.1)) (.cmp .leq (.at a0.1) (.at a2.1)) (.b false))) [] []
theorem betw.run (a0 : Cells S.ty [.i .i64]) (a1 : Cells S.ty [.i .i64]) (a2 : Cells S.ty [.i .i64]) : runFn Tryd.prog Tryd.f65 (bodyOf Tryd.f65) [] (betw.args a0 a1 a2) (betw.giv a0 a1 a2) = betw.T a0 a1 a2 := by kernel_rfl
def get.args (a0 : Cells S.ty [.s, .i .i64, .i .i64]) (a1 : Cells S.ty [.i .i64]) : List (SV S.ty) := [.agg (cellsSV [.s, .i .i64, .i .i64] a0), .i .i64 (.at a1.1)]
def get.giv (a0 : Cells S.ty [.s, .i .i64, .i .i64]) (a1 : Cells S.ty [.i .i64]) : List (Nat × Own S.ty) := []
def get.T (a0 : Cells S.ty [.s, .i .i64, .i .i64]) (a1 : Cells S.ty [.i .i64]) : Tree S.ty :=
 .new 2 <|
 .new 4 <|
 .call (.b true) true 65 [.i .i64 (.at a1.1), .i .i64 (.i 0), .i .i64 (.bin .sub .i64 (.ofN (.at a0.1.2.1)) (.i 1))] [] [] [(false, [.b])] [] fun x0 y0 =>
 .ob (.not (.not (.at x0.1))) (.idx (.at a1.1) (.at a0.1.2.1) (.at a0.1.1)) <|
 .ob (.not (.not (.at x0.1))) (.here (.at a0.1.1)) <|
 .uld (.not (.not (.at x0.1))) (.at a0.1.1) (.add (.mul (.toN (.at a1.1)) 8) (.n 0)) [.i .i64] fun x1 =>
 .test (.ite (.not (.at x0.1)) (.b true) (.cmp .eql (.at x1.1) (.i 0)))
 (.ret (.tup [.agg [.i .i64 (.i 0), .i .i64 (.i 0), .i .i64 (.i 0), .i .i64 (.i 0), .i .i64 (.i 0), .i .i64 (.i 0), .t (.t ⟨#[]⟩), .s .anil (.n 0) (.n 0)], .b (.b false)]) [] [])
 (.ob (.b true) (.idx (.at a1.1) (.at a0.1.2.1) (.at a0.1.1)) <|
 .uld (.b true) (.at a0.1.1) (.mul (.toN (.at a1.1)) 8) K0 fun x2 =>
 .ret (.tup [.agg (cellsSV K0 x2), .b (.b true)]) [] [])
theorem get.run (a0 : Cells S.ty [.s, .i .i64, .i .i64]) (a1 : Cells S.ty [.i .i64]) : runFn Tryd.prog Tryd.f54 (bodyOf Tryd.f54) [] (get.args a0 a1) (get.giv a0 a1) = get.T a0 a1 := by kernel_rfl
def may.args (a0 : Cells S.ty [.i .i64]) (a1 : Cells S.ty [.i .i64]) (a2 : Cells S.ty [.i .i64]) (a3 : Cells S.ty [.i .i64]) : List (SV S.ty) := [.i .i64 (.at a0.1), .i .i64 (.at a1.1), .i .i64 (.at a2.1), .i .i64 (.at a3.1)]
def may.giv (a0 : Cells S.ty [.i .i64]) (a1 : Cells S.ty [.i .i64]) (a2 : Cells S.ty [.i .i64]) (a3 : Cells S.ty [.i .i64]) : List (Nat × Own S.ty) := []
def may.T (a0 : Cells S.ty [.i .i64]) (a1 : Cells S.ty [.i .i64]) (a2 : Cells S.ty [.i .i64]) (a3 : Cells S.ty [.i .i64]) : Tree S.ty :=
 .test (.cmp .eql (.at a2.1) (.i 0))
 (.ret (.b (.b true)) [] [])
 (.test (.cmp .eql (.at a2.1) (.at a1.1))
 (.ret (.b (.cmp .eql (.bin .andNot .i64 (.bin .and .i64 (.at a3.1) (.i 7)) (.shf .shr .i64 (.at a0.1) 3)) (.i 0))) [] [])
 (.ret (.b (.cmp .eql (.bin .andNot .i64 (.bin .and .i64 (.at a3.1) (.i 7)) (.at a0.1)) (.i 0))) [] []))
theorem may.run (a0 : Cells S.ty [.i .i64]) (a1 : Cells S.ty [.i .i64]) (a2 : Cells S.ty [.i .i64]) (a3 : Cells S.ty [.i .i64]) : runFn Tryd.prog Tryd.f55 (bodyOf Tryd.f55) [] (may.args a0 a1 a2 a3) (may.giv a0 a1 a2 a3) = may.T a0 a1 a2 a3 := by kernel_rfl
def here.args (a0 : Cells S.ty K1) : List (SV S.ty) := [.p 34 0]
def here.giv (a0 : Cells S.ty K1) : List (Nat × Own S.ty) := [(34, ⟨true, K1, some (cellsSV K1 a0)⟩)]
def here.T (a0 : Cells S.ty K1) : Tree S.ty :=
 .new 2 <|
 .call (.b true) true 54 [.agg ((cellsSV K1 a0).take 3), .i .i64 (.at a0.2.2.2.2.1)] [] [] [(true, K0), (false, [.b])] [] fun x0 y0 =>
 .new 4 <|
 .test (.not (.at x0.2.2.2.2.2.2.2.2.1))
 (.new 23 <|
 .ret (.tup [.agg ((cellsSV K2 x0).take 8), .ifc 66 (.p 23 0)]) [(cellsSV K1 a0)] [(23, [.i .i64 (.i 2)])])
 (.test (.cmp .neq (.at x0.1) (.i 2))
 (.new 31 <|
 .ret (.tup [.agg ((cellsSV K2 x0).take 8), .ifc 66 (.p 31 0)]) [(cellsSV K1 a0)] [(31, [.i .i64 (.i 4)])])
 (.ret (.tup [.agg ((cellsSV K2 x0).take 8), .lit .nilIface]) [(cellsSV K1 a0)] []))
theorem here.run (a0 : Cells S.ty K1) : runFn Tryd.prog Tryd.f38 (bodyOf Tryd.f38) [] (here.args a0) (here.giv a0) = here.T a0 := by kernel_rfl
def end_.args (a0 : Cells S.ty K1) (a1 : Cells S.ty K3) : List (SV S.ty) := [.p 11 0, .agg (cellsSV K3 a1)]
def end_.giv (a0 : Cells S.ty K1) (a1 : Cells S.ty K3) : List (Nat × Own S.ty) := [(11, ⟨true, K1, some (cellsSV K1 a0)⟩)]
def end_.T (a0 : Cells S.ty K1) (a1 : Cells S.ty K3) : Tree S.ty :=
 .new 3 <|
 .ret (.tup []) [((((((cellsSV K1 a0).set 9 (.i .i64 (.at a1.1))).set 10 (.t (.at a1.2.1))).set 11 (.i .i64 (.at a1.2.2.1))).set 12 (.b (.at a1.2.2.2.1))).set 13 (.b (.b true)))] []
theorem end_.run (a0 : Cells S.ty K1) (a1 : Cells S.ty K3) : runFn Tryd.prog Tryd.f39 (bodyOf Tryd.f39) [] (end_.args a0 a1) (end_.giv a0 a1) = end_.T a0 a1 := by kernel_rfl
def named.args (a0 : Cells S.ty K1) (a1 : Cells S.ty K0) (a2 : Cells S.ty [.t]) : List (SV S.ty) := [.p 28 0, .agg (cellsSV K0 a1), .t (.at a2.1)]
def named.giv (a0 : Cells S.ty K1) (a1 : Cells S.ty K0) (a2 : Cells S.ty [.t]) : List (Nat × Own S.ty) := [(28, ⟨true, K1, some (cellsSV K1 a0)⟩)]
def named.T (a0 : Cells S.ty K1) (a1 : Cells S.ty K0) (a2 : Cells S.ty [.t]) : Tree S.ty :=
 .new 4 <|
 .test (.scmp .eql (.at a2.1) (.t ⟨#[46]⟩))
 (.ret (.i .i64 (.at a0.2.2.2.2.1)) [(cellsSV K1 a0)] [])
 (.test (.scmp .eql (.at a2.1) (.t ⟨#[46, 46]⟩))
 (.ret (.i .i64 (.at a1.2.2.2.2.2.1)) [(cellsSV K1 a0)] [])
 (.call (.b true) true 66 [.s (.at a1.2.2.2.2.2.2.2.1.1) (.at a1.2.2.2.2.2.2.2.1.2.1) (.at a1.2.2.2.2.2.2.2.1.2.2), .t (.at a2.1)] [] [] [(false, [.i .i64]), (false, [.b])] [] fun x0 y0 =>
 .ret (.i .i64 (.at x0.1)) [(cellsSV K1 a0)] []))
theorem named.run (a0 : Cells S.ty K1) (a1 : Cells S.ty K0) (a2 : Cells S.ty [.t]) : runFn Tryd.prog Tryd.f56 (bodyOf Tryd.f56) [] (named.args a0 a1 a2) (named.giv a0 a1 a2) = named.T a0 a1 a2 := by kernel_rfl
def halted.args (a0 : Cells S.ty [.i .i64]) : List (SV S.ty) := [.i .i64 (.at a0.1)]
def halted.giv (a0 : Cells S.ty [.i .i64]) : List (Nat × Own S.ty) := []
def halted.T (a0 : Cells S.ty [.i .i64]) : Tree S.ty :=
 .test (.cmp .eql (.at a0.1) (.i 0))
 (.ret (.lit .nilIface) [] [])
 (.new 7 <|
 .ret (.ifc 66 (.p 7 0)) [] [(7, [.i .i64 (.at a0.1)])])
theorem halted.run (a0 : Cells S.ty [.i .i64]) : runFn Tryd.prog Tryd.f67 (bodyOf Tryd.f67) [] (halted.args a0) (halted.giv a0) = halted.T a0 := by kernel_rfl
def hop.args (a0 : Cells S.ty K1) (a1 : Cells S.ty [.t]) (a2 : Cells S.ty [.s]) : List (SV S.ty) := [.p 61 0, .t (.at a1.1), .s (.at a2.1.1) (.at a2.1.2.1) (.at a2.1.2.2)]
def hop.giv (a0 : Cells S.ty K1) (a1 : Cells S.ty [.t]) (a2 : Cells S.ty [.s]) : List (Nat × Own S.ty) := [(61, ⟨true, K1, some (cellsSV K1 a0)⟩)]
def hop.T (a0 : Cells S.ty K1) (a1 : Cells S.ty [.t]) (a2 : Cells S.ty [.s]) : Tree S.ty :=
 .test (.cmp .eql (.at a0.2.2.2.2.2.2.2.2.1) (.i 8))
 (.new 17 <|
 .ret (.ifc 66 (.p 17 0)) [(cellsSV K1 a0)] [(17, [.i .i64 (.i 8)])])
 (.call (.b true) true 20 [.t (.at a1.1)] [] [] [(false, [.i .i64])] [] fun x0 y0 =>
 .call (.b true) true 67 [.i .i64 (.at x0.1)] [] [] [(false, [.v])] [] fun x1 y1 =>
 .ob (.b true) (.ifc (.at x1.1)) <|
 .test (.not (.nilV (.at x1.1)))
 (.ret (.v (.at x1.1)) [(cellsSV K1 a0)] [])
 (.call (.b true) true 21 [.t (.at a1.1)] [] [] [(false, [.s]), (false, [.b]), (false, [.b])] [] fun x2 y2 =>
 .test (.at x2.2.1)
 (.bi (.b true) (.bi .append #[60, 60] 60) [.s (.at x2.1.1) (.at x2.1.2.1) (.at x2.1.2.2), .s (.at a2.1.1) (.at a2.1.2.1) (.at a2.1.2.2)] [] [(false, [.s])] fun x3 =>
 .test (.cmp .eql (.ofN (.at x3.1.2.1)) (.i 0))
 (.call (.b true) true 39 [.p 61 0, .agg [.i .i64 (.i 0), .t (.t ⟨#[]⟩), .i .i64 (.i 0), .b (.at a0.2.2.2.2.2.2.2.1)]] [(61, ((((cellsSV K1 a0).set 4 (.i .i64 (.i 0))).set 5 (.s (.at x3.1.1) (.at x3.1.2.1) (.at x3.1.2.2))).set 8 (.i .i64 (.bin .add .i64 (.at a0.2.2.2.2.2.2.2.2.1) (.i 1)))))] [] [] [K1] fun x4 y4 =>
 .ret (.lit .nilIface) [(cellsSV K1 y4.1)] [])
 (.ret (.lit .nilIface) [((((cellsSV K1 a0).set 4 (.i .i64 (.i 0))).set 5 (.s (.at x3.1.1) (.at x3.1.2.1) (.at x3.1.2.2))).set 8 (.i .i64 (.bin .add .i64 (.at a0.2.2.2.2.2.2.2.2.1) (.i 1))))] []))
 (.bi (.b true) (.bi .append #[60, 60] 60) [.s (.at x2.1.1) (.at x2.1.2.1) (.at x2.1.2.2), .s (.at a2.1.1) (.at a2.1.2.1) (.at a2.1.2.2)] [] [(false, [.s])] fun x3 =>
 .test (.cmp .eql (.ofN (.at x3.1.2.1)) (.i 0))
 (.call (.b true) true 39 [.p 61 0, .agg [.i .i64 (.i 0), .t (.t ⟨#[]⟩), .i .i64 (.i 0), .b (.at a0.2.2.2.2.2.2.2.1)]] [(61, (((cellsSV K1 a0).set 5 (.s (.at x3.1.1) (.at x3.1.2.1) (.at x3.1.2.2))).set 8 (.i .i64 (.bin .add .i64 (.at a0.2.2.2.2.2.2.2.2.1) (.i 1)))))] [] [] [K1] fun x4 y4 =>
 .ret (.lit .nilIface) [(cellsSV K1 y4.1)] [])
 (.ret (.lit .nilIface) [(((cellsSV K1 a0).set 5 (.s (.at x3.1.1) (.at x3.1.2.1) (.at x3.1.2.2))).set 8 (.i .i64 (.bin .add .i64 (.at a0.2.2.2.2.2.2.2.2.1) (.i 1))))] []))))
theorem hop.run (a0 : Cells S.ty K1) (a1 : Cells S.ty [.t]) (a2 : Cells S.ty [.s]) : runFn Tryd.prog Tryd.f57 (bodyOf Tryd.f57) [] (hop.args a0 a1 a2) (hop.giv a0 a1 a2) = hop.T a0 a1 a2 := by kernel_rfl
def step.args (a0 : Cells S.ty K1) : List (SV S.ty) := [.p 147 0]
def step.giv (a0 : Cells S.ty K1) : List (Nat × Own S.ty) := [(147, ⟨true, K1, some (cellsSV K1 a0)⟩)]
def step.T (a0 : Cells S.ty K1) : Tree S.ty :=
 .call (.b true) true 38 [.p 147 0] [(147, (cellsSV K1 a0))] [] [(true, K0), (false, [.v])] [K1] fun x0 y0 =>
 .new 3 <|
 .ob (.b true) (.ifc (.at x0.2.2.2.2.2.2.2.2.1)) <|
 .test (.not (.nilV (.at x0.2.2.2.2.2.2.2.2.1)))
 (.ret (.v (.at x0.2.2.2.2.2.2.2.2.1)) [(cellsSV K1 y0.1)] [])
 (.call (.b true) true 55 [.i .i64 (.at x0.2.1), .i .i64 (.at x0.2.2.1), .i .i64 (.at y0.1.2.2.2.1), .i .i64 (.i 1)] [] [] [(false, [.b])] [] fun x1 y1 =>
 .test (.not (.at x1.1))
 (.new 30 <|
 .ret (.ifc 66 (.p 30 0)) [(cellsSV K1 y0.1)] [(30, [.i .i64 (.i 7)])])
 (.ob (.b true) (.idx (.i 0) (.at y0.1.2.2.2.2.2.1.2.1) (.at y0.1.2.2.2.2.2.1.1)) <|
 .uld (.b true) (.at y0.1.2.2.2.2.2.1.1) (.mul (.n 0) 1) [.t] fun x2 =>
 .ob (.b true) (.bnds (.i 1) (.ofN (.at y0.1.2.2.2.2.2.1.2.1)) (.ofN (.at y0.1.2.2.2.2.2.1.2.2))) <|
 .call (.b true) true 56 [.p 147 0, .agg ((cellsSV K4 x0).take 8), .t (.at x2.1)] [(147, (cellsSV K1 y0.1))] [] [(false, [.i .i64])] [K1] fun x3 y3 =>
 .call (.b true) true 54 [.agg ((cellsSV K1 y3.1).take 3), .i .i64 (.at x3.1)] [] [] [(true, K0), (false, [.b])] [] fun x4 y4 =>
 .new 9 <|
 .test (.ite (.cmp .eql (.at x3.1) (.i (-1))) (.cmp .eql (.ofN (.sub (.at y0.1.2.2.2.2.2.1.2.1) (.n 1))) (.i 0)) (.b false))
 (.call (.b true) true 39 [.p 147 0, .agg [.i .i64 (.at y3.1.2.2.2.2.1), .t (.at x2.1), .i .i64 (.i (-1)), .b (.at y3.1.2.2.2.2.2.2.2.1)]] [(147, (cellsSV K1 y3.1))] [] [] [K1] fun x5 y5 =>
 .ret (.lit .nilIface) [(cellsSV K1 y5.1)] [])
 (.test (.cmp .eql (.at x3.1) (.i (-1)))
 (.new 116 <|
 .ret (.ifc 66 (.p 116 0)) [(cellsSV K1 y3.1)] [(116, [.i .i64 (.i 2)])])
 (.test (.ite (.cmp .eql (.at x4.1) (.i 3)) (.ite (.ite (.not (.cmp .eql (.ofN (.sub (.at y0.1.2.2.2.2.2.1.2.1) (.n 1))) (.i 0))) (.b true) (.at y3.1.2.2.2.2.2.2.1)) (.b true) (.at y3.1.2.2.2.2.2.2.2.1)) (.b false))
 (.call (.b true) true 57 [.p 147 0, .t (.at x4.2.2.2.2.2.2.1), .s (.adv (.at y0.1.2.2.2.2.2.1.1) (.at y0.1.2.2.2.2.2.1.2.2) (.n 1) 1) (.sub (.at y0.1.2.2.2.2.2.1.2.1) (.n 1)) (.sub (.at y0.1.2.2.2.2.2.1.2.2) (.n 1))] [(147, (cellsSV K1 y3.1))] [] [(false, [.v])] [K1] fun x5 y5 =>
 .ret (.v (.at x5.1)) [(cellsSV K1 y5.1)] [])
 (.test (.ite (.ite (.cmp .eql (.ofN (.sub (.at y0.1.2.2.2.2.2.1.2.1) (.n 1))) (.i 0)) (.at y3.1.2.2.2.2.2.2.2.1) (.b false)) (.cmp .neq (.at x4.1) (.i 2)) (.b false))
 (.new 124 <|
 .ret (.ifc 66 (.p 124 0)) [(cellsSV K1 y3.1)] [(124, [.i .i64 (.i 4)])])
 (.test (.cmp .eql (.ofN (.sub (.at y0.1.2.2.2.2.2.1.2.1) (.n 1))) (.i 0))
 (.call (.b true) true 39 [.p 147 0, .agg [.i .i64 (.at y3.1.2.2.2.2.1), .t (.at x2.1), .i .i64 (.at x3.1), .b (.at y3.1.2.2.2.2.2.2.2.1)]] [(147, (cellsSV K1 y3.1))] [] [] [K1] fun x5 y5 =>
 .ret (.lit .nilIface) [(((cellsSV K1 y5.1).set 4 (.i .i64 (.at x3.1))).set 5 (.s (.adv (.at y0.1.2.2.2.2.2.1.1) (.at y0.1.2.2.2.2.2.1.2.2) (.n 1) 1) (.sub (.at y0.1.2.2.2.2.2.1.2.1) (.n 1)) (.sub (.at y0.1.2.2.2.2.2.1.2.2) (.n 1))))] [])
 (.ret (.lit .nilIface) [(((cellsSV K1 y3.1).set 4 (.i .i64 (.at x3.1))).set 5 (.s (.adv (.at y0.1.2.2.2.2.2.1.1) (.at y0.1.2.2.2.2.2.1.2.2) (.n 1) 1) (.sub (.at y0.1.2.2.2.2.2.1.2.1) (.n 1)) (.sub (.at y0.1.2.2.2.2.2.1.2.2) (.n 1))))] [])))))))
theorem step.run (a0 : Cells S.ty K1) : runFn Tryd.prog Tryd.f40 (bodyOf Tryd.f40) [] (step.args a0) (step.giv a0) = step.T a0 := by kernel_rfl
end Go.Proofs.YthagmakojbfmaaaDoor.Sx
