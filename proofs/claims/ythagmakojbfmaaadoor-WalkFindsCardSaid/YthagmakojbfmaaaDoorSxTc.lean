/- Trees, printed by program. -/
import Derived.Test.YthagmakojbfmaaaDoorSxTa
set_option maxRecDepth 100000
set_option linter.unusedVariables false
namespace Go.Proofs.YthagmakojbfmaaaDoor.Sx
open Go Go.RowKit Go.Proofs.YthagmakojbfmaaaDoor
def all.args (a0 : Cells S.ty K1) : List (SV S.ty) := [.p 50 0]
def all.giv (a0 : Cells S.ty K1) : List (Nat × Own S.ty) := [(50, ⟨true, K1, some (cellsSV K1 a0)⟩)]
def all.T (a0 : Cells S.ty K1) : Tree S.ty :=
 .test (.cmp .eql (.ofN (.at a0.2.2.2.2.2.1.2.1)) (.i 0))
 (.call (.b true) true 38 [.p 50 0] [(50, (cellsSV K1 a0))] [] [(true, K0), (false, [.v])] [K1] fun x0 y0 =>
 .new 3 <|
 .call (.b true) true 39 [.p 50 0, .agg [.i .i64 (.at y0.1.2.2.2.2.1), .t (.t ⟨#[]⟩), .i .i64 (.at y0.1.2.2.2.2.1), .b (.b true)]] [(50, (cellsSV K1 y0.1))] [] [] [K1] fun x1 y1 =>
 .ret (.v (.at x0.2.2.2.2.2.2.2.2.1)) [(cellsSV K1 y1.1)] [])
 (.loop 0 [] [K1] [] [(cellsSV K1 a0)] fun x0 y0 =>
 .test (.not (.at y0.1.2.2.2.2.2.2.2.2.2.2.2.2.2.1))
 (.ob (.b true) (.idx (.i 0) (.at y0.1.2.2.2.2.2.1.2.1) (.at y0.1.2.2.2.2.2.1.1)) <|
 .uld (.b true) (.at y0.1.2.2.2.2.2.1.1) (.mul (.n 0) 1) [.t] fun x1 =>
 .call (.b true) true 40 [.p 50 0] [(50, (cellsSV K1 y0.1))] [] [(false, [.v])] [K1] fun x2 y2 =>
 .ob (.b true) (.ifc (.at x2.1)) <|
 .test (.not (.nilV (.at x2.1)))
 (.ob (.b true) (.one (.at x2.1)) <|
 .new 48 <|
 .ret (.ifc 90 (.p 48 0)) [(cellsSV K1 y2.1)] [(48, [.t (.at x1.1), .v (.at x2.1)])])
 (.again 0 [] [(cellsSV K1 y2.1)] []))
 (.ret (.lit .nilIface) [(cellsSV K1 y0.1)] []))
theorem all.run (a0 : Cells S.ty K1) : runFn Tryd.prog Tryd.f23 (bodyOf Tryd.f23) [⟨5, [], [50]⟩] (all.args a0) (all.giv a0) = all.T a0 := by kernel_rfl
def walk.args (a0 : Cells S.ty [.s, .i .i64, .i .i64]) (a1 : Cells S.ty [.i .i64]) (a2 : Cells S.ty [.i .i64]) (a3 : Cells S.ty [.t]) (a4 : Cells S.ty [.b]) : List (SV S.ty) := [.agg (cellsSV [.s, .i .i64, .i .i64] a0), .i .i64 (.at a1.1), .i .i64 (.at a2.1), .t (.at a3.1), .b (.at a4.1)]
def walk.giv (a0 : Cells S.ty [.s, .i .i64, .i .i64]) (a1 : Cells S.ty [.i .i64]) (a2 : Cells S.ty [.i .i64]) (a3 : Cells S.ty [.t]) (a4 : Cells S.ty [.b]) : List (Nat × Own S.ty) := []
def walk.T (a0 : Cells S.ty [.s, .i .i64, .i .i64]) (a1 : Cells S.ty [.i .i64]) (a2 : Cells S.ty [.i .i64]) (a3 : Cells S.ty [.t]) (a4 : Cells S.ty [.b]) : Tree S.ty :=
 .new 5 <|
 .new 10 <|
 .call (.b true) true 20 [.t (.at a3.1)] [] [] [(false, [.i .i64])] [] fun x0 y0 =>
 .test (.cmp .neq (.at x0.1) (.i 0))
 (.ret (.tup [.agg [.i .i64 (.i 0), .t (.t ⟨#[]⟩), .i .i64 (.i 0), .b (.b false)], .i .i64 (.at x0.1)]) [] [])
 (.new 27 <|
 .call (.b true) true 21 [.t (.at a3.1)] [] [] [(false, [.s]), (false, [.b]), (false, [.b])] [] fun x1 y1 =>
 .call (.b true) true 22 [.t (.at a3.1), .t (.t ⟨#[47]⟩)] [] [] [(false, [.b])] [] fun x2 y2 =>
 .test (.at x2.1)
 (.new 14 <|
 .call (.b true) true 23 [.p 27 0] [(27, [.s (.at a0.1.1) (.at a0.1.2.1) (.at a0.1.2.2), .i .i64 (.at a0.2.1), .i .i64 (.at a0.2.2.1), .i .i64 (.at a1.1), .i .i64 (.i 0), .s (.at x1.1.1) (.at x1.1.2.1) (.at x1.1.2.2), .b (.at a4.1), .b (.at x1.2.2.1), .i .i64 (.i 0), .i .i64 (.i 0), .t (.t ⟨#[]⟩), .i .i64 (.i 0), .b (.b false), .b (.b false)])] [] [(false, [.v])] [K1] fun x3 y3 =>
 .call (.b true) true 24 [.v (.at x3.1), .ifc 71 (.p 14 0)] [(14, [.lit (.pointer .none)])] [] [(false, [.b])] [[.v]] fun x4 y4 =>
 .test (.at x4.1)
 (.ob (.b true) (.here (.ptr (.at y4.1.1))) <|
 .ob (.b true) (.here (.ptr (.at y4.1.1))) <|
 .uld (.b true) (.ptr (.at y4.1.1)) (.add (.n 0) (.n 0)) [.i .i64] fun x5 =>
 .ret (.tup [.agg [.i .i64 (.i 0), .t (.t ⟨#[]⟩), .i .i64 (.i 0), .b (.b false)], .i .i64 (.at x5.1)]) [] [])
 (.ret (.tup [.agg (((cellsSV K1 y3.1).drop 9).take 4), .i .i64 (.i 0)]) [] []))
 (.new 14 <|
 .call (.b true) true 23 [.p 27 0] [(27, [.s (.at a0.1.1) (.at a0.1.2.1) (.at a0.1.2.2), .i .i64 (.at a0.2.1), .i .i64 (.at a0.2.2.1), .i .i64 (.at a1.1), .i .i64 (.at a2.1), .s (.at x1.1.1) (.at x1.1.2.1) (.at x1.1.2.2), .b (.at a4.1), .b (.at x1.2.2.1), .i .i64 (.i 0), .i .i64 (.i 0), .t (.t ⟨#[]⟩), .i .i64 (.i 0), .b (.b false), .b (.b false)])] [] [(false, [.v])] [K1] fun x3 y3 =>
 .call (.b true) true 24 [.v (.at x3.1), .ifc 71 (.p 14 0)] [(14, [.lit (.pointer .none)])] [] [(false, [.b])] [[.v]] fun x4 y4 =>
 .test (.at x4.1)
 (.ob (.b true) (.here (.ptr (.at y4.1.1))) <|
 .ob (.b true) (.here (.ptr (.at y4.1.1))) <|
 .uld (.b true) (.ptr (.at y4.1.1)) (.add (.n 0) (.n 0)) [.i .i64] fun x5 =>
 .ret (.tup [.agg [.i .i64 (.i 0), .t (.t ⟨#[]⟩), .i .i64 (.i 0), .b (.b false)], .i .i64 (.at x5.1)]) [] [])
 (.ret (.tup [.agg (((cellsSV K1 y3.1).drop 9).take 4), .i .i64 (.i 0)]) [] [])))
theorem walk.run (a0 : Cells S.ty [.s, .i .i64, .i .i64]) (a1 : Cells S.ty [.i .i64]) (a2 : Cells S.ty [.i .i64]) (a3 : Cells S.ty [.t]) (a4 : Cells S.ty [.b]) : runFn Tryd.prog Tryd.f12 (bodyOf Tryd.f12) [] (walk.args a0 a1 a2 a3 a4) (walk.giv a0 a1 a2 a3 a4) = walk.T a0 a1 a2 a3 a4 := by kernel_rfl
def node.args (a0 : Cells S.ty [.s, .i .i64, .i .i64]) (a1 : Cells S.ty [.i .i64]) (a2 : Cells S.ty [.i .i64]) (a3 : Cells S.ty [.t]) (a4 : Cells S.ty [.b]) : List (SV S.ty) := [.agg (cellsSV [.s, .i .i64, .i .i64] a0), .i .i64 (.at a1.1), .i .i64 (.at a2.1), .t (.at a3.1), .b (.at a4.1)]
def node.giv (a0 : Cells S.ty [.s, .i .i64, .i .i64]) (a1 : Cells S.ty [.i .i64]) (a2 : Cells S.ty [.i .i64]) (a3 : Cells S.ty [.t]) (a4 : Cells S.ty [.b]) : List (Nat × Own S.ty) := []
def node.T (a0 : Cells S.ty [.s, .i .i64, .i .i64]) (a1 : Cells S.ty [.i .i64]) (a2 : Cells S.ty [.i .i64]) (a3 : Cells S.ty [.t]) (a4 : Cells S.ty [.b]) : Tree S.ty :=
 .new 5 <|
 .call (.b true) true 12 [.agg (cellsSV [.s, .i .i64, .i .i64] a0), .i .i64 (.at a1.1), .i .i64 (.at a2.1), .t (.at a3.1), .b (.at a4.1)] [] [] [(true, K3), (false, [.i .i64])] [] fun x0 y0 =>
 .new 12 <|
 .test (.cmp .neq (.at x0.2.2.2.2.1) (.i 0))
 (.ret (.tup [.i .i64 (.i 0), .i .i64 (.at x0.2.2.2.2.1)]) [] [])
 (.test (.cmp .eql (.at x0.2.2.1) (.i (-1)))
 (.ret (.tup [.i .i64 (.i 0), .i .i64 (.i 2)]) [] [])
 (.ret (.tup [.i .i64 (.at x0.2.2.1), .i .i64 (.i 0)]) [] []))
theorem node.run (a0 : Cells S.ty [.s, .i .i64, .i .i64]) (a1 : Cells S.ty [.i .i64]) (a2 : Cells S.ty [.i .i64]) (a3 : Cells S.ty [.t]) (a4 : Cells S.ty [.b]) : runFn Tryd.prog Tryd.f15 (bodyOf Tryd.f15) [] (node.args a0 a1 a2 a3 a4) (node.giv a0 a1 a2 a3 a4) = node.T a0 a1 a2 a3 a4 := by kernel_rfl
end Go.Proofs.YthagmakojbfmaaaDoor.Sx
