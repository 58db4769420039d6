/- Trees, printed by program. -/
import Derived.Test.YthagmakojbfmaaaDoorSxX
set_option maxRecDepth 100000
set_option linter.unusedVariables false
namespace Go.Proofs.YthagmakojbfmaaaDoor.Sx
open Go Go.RowKit Go.Proofs.YthagmakojbfmaaaDoor
def find.args (a0 : Cells S.ty [.s]) (a1 : Cells S.ty [.t]) : List (SV S.ty) := [.s (.at a0.1.1) (.at a0.1.2.1) (.at a0.1.2.2), .t (.at a1.1)]
def find.giv (a0 : Cells S.ty [.s]) (a1 : Cells S.ty [.t]) : List (Nat × Own S.ty) := []
def find.T (a0 : Cells S.ty [.s]) (a1 : Cells S.ty [.t]) : Tree S.ty :=
 .call (.b true) true 71 [.s (.at a0.1.1) (.at a0.1.2.1) (.at a0.1.2.2), .t (.at a1.1)] [] [] [(false, [.i .i64]), (false, [.b])] [] fun x0 y0 =>
 .test (.at x0.2.1)
 (.ob (.b true) (.idx (.at x0.1) (.at a0.1.2.1) (.at a0.1.1)) <|
 .ob (.b true) (.here (.at a0.1.1)) <|
 .uld (.b true) (.at a0.1.1) (.add (.mul (.toN (.at x0.1)) 2) (.n 1)) [.i .i64] fun x1 =>
 .ret (.tup [.i .i64 (.at x1.1), .b (.b true)]) [] [])
 (.ret (.tup [.i .i64 (.i (-1)), .b (.b false)]) [] [])
theorem find.run (a0 : Cells S.ty [.s]) (a1 : Cells S.ty [.t]) : runFn Tryd.prog Tryd.f66 (bodyOf Tryd.f66) [] (find.args a0 a1) (find.giv a0 a1) = find.T a0 a1 := by kernel_rfl
def place.args (a0 : Cells S.ty [.s]) (a1 : Cells S.ty [.t]) : List (SV S.ty) := [.s (.at a0.1.1) (.at a0.1.2.1) (.at a0.1.2.2), .t (.at a1.1)]
def place.giv (a0 : Cells S.ty [.s]) (a1 : Cells S.ty [.t]) : List (Nat × Own S.ty) := []
def place.T (a0 : Cells S.ty [.s]) (a1 : Cells S.ty [.t]) : Tree S.ty :=
 .call (.b true) true 74 [.s (.at a0.1.1) (.at a0.1.2.1) (.at a0.1.2.2), .t (.at a1.1), .fn (.func 75) [] []] [] [] [(false, [.i .i64]), (false, [.b])] [] fun x0 y0 =>
 .ret (.tup (cellsSV [.i .i64, .b] x0)) [] []
theorem place.run (a0 : Cells S.ty [.s]) (a1 : Cells S.ty [.t]) : runFn Tryd.prog Tryd.f71 (bodyOf Tryd.f71) [] (place.args a0 a1) (place.giv a0 a1) = place.T a0 a1 := by kernel_rfl
def place1.args (a0 : Cells S.ty [.t, .i .i64]) (a1 : Cells S.ty [.t]) : List (SV S.ty) := [.agg (cellsSV [.t, .i .i64] a0), .t (.at a1.1)]
def place1.giv (a0 : Cells S.ty [.t, .i .i64]) (a1 : Cells S.ty [.t]) : List (Nat × Own S.ty) := []
def place1.T (a0 : Cells S.ty [.t, .i .i64]) (a1 : Cells S.ty [.t]) : Tree S.ty :=
 .new 2 <|
 .call (.b true) true 76 [.t (.at a0.1), .t (.at a1.1)] [] [] [(false, [.i .i64])] [] fun x0 y0 =>
 .ret (.i .i64 (.at x0.1)) [] []
theorem place1.run (a0 : Cells S.ty [.t, .i .i64]) (a1 : Cells S.ty [.t]) : runFn Tryd.prog Tryd.f75 (bodyOf Tryd.f75) [] (place1.args a0 a1) (place1.giv a0 a1) = place1.T a0 a1 := by kernel_rfl
def bsf.args (a0 : Cells S.ty [.s]) (a1 : Cells S.ty [.t]) : List (SV S.ty) := [.s (.at a0.1.1) (.at a0.1.2.1) (.at a0.1.2.2), .t (.at a1.1), .fn (.func 75) [] []]
def bsf.giv (a0 : Cells S.ty [.s]) (a1 : Cells S.ty [.t]) : List (Nat × Own S.ty) := []
def bsf.T (a0 : Cells S.ty [.s]) (a1 : Cells S.ty [.t]) : Tree S.ty :=
 .loop 0 [.i .i64, .i .i64] [] [.i .i64 (.i 0), .i .i64 (.ofN (.at a0.1.2.1))] [] fun x0 y0 =>
 .test (.cmp .lss (.at x0.1) (.at x0.2.1))
 (.ob (.b true) (.idx (.conv .i64 (.shf .shr .u64 (.conv .u64 (.bin .add .i64 (.at x0.1) (.at x0.2.1))) 1)) (.at a0.1.2.1) (.at a0.1.1)) <|
 .uld (.b true) (.at a0.1.1) (.mul (.toN (.conv .i64 (.shf .shr .u64 (.conv .u64 (.bin .add .i64 (.at x0.1) (.at x0.2.1))) 1))) 2) [.t, .i .i64] fun x1 =>
 .call (.b true) true 75 [.agg (cellsSV [.t, .i .i64] x1), .t (.at a1.1)] [] [] [(false, [.i .i64])] [] fun x2 y2 =>
 .test (.cmp .lss (.at x2.1) (.i 0))
 (.again 0 [.i .i64 (.bin .add .i64 (.conv .i64 (.shf .shr .u64 (.conv .u64 (.bin .add .i64 (.at x0.1) (.at x0.2.1))) 1)) (.i 1)), .i .i64 (.at x0.2.1)] [] [])
 (.again 0 [.i .i64 (.at x0.1), .i .i64 (.conv .i64 (.shf .shr .u64 (.conv .u64 (.bin .add .i64 (.at x0.1) (.at x0.2.1))) 1))] [] []))
 (.ob (.cmp .lss (.at x0.1) (.ofN (.at a0.1.2.1))) (.idx (.at x0.1) (.at a0.1.2.1) (.at a0.1.1)) <|
 .uld (.cmp .lss (.at x0.1) (.ofN (.at a0.1.2.1))) (.at a0.1.1) (.mul (.toN (.at x0.1)) 2) [.t, .i .i64] fun x1 =>
 .call (.cmp .lss (.at x0.1) (.ofN (.at a0.1.2.1))) true 75 [.agg (cellsSV [.t, .i .i64] x1), .t (.at a1.1)] [] [] [(false, [.i .i64])] [] fun x2 y2 =>
 .ret (.tup [.i .i64 (.at x0.1), .b (.ite (.cmp .lss (.at x0.1) (.ofN (.at a0.1.2.1))) (.cmp .eql (.at x2.1) (.i 0)) (.b false))]) [] [])
theorem bsf.run (a0 : Cells S.ty [.s]) (a1 : Cells S.ty [.t]) : runFn Tryd.prog Tryd.f74 (bodyOf Tryd.f74) [⟨3, [9, 10], []⟩] (bsf.args a0 a1) (bsf.giv a0 a1) = bsf.T a0 a1 := by kernel_rfl
end Go.Proofs.YthagmakojbfmaaaDoor.Sx
