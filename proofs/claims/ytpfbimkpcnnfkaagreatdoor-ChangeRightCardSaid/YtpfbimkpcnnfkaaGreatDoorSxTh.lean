/- Trees, printed by program. -/
import Derived.Test.YtpfbimkpcnnfkaaGreatDoorSxTd
/- Trees, printed by program. -/
/- Trees, printed by program. -/
/- Trees, printed by program. -/
set_option maxRecDepth 100000
set_option linter.unusedVariables false
namespace Go.Proofs.YtpfbimkpcnnfkaaGreatDoor.Sx
open Go Go.RowKit Go.Proofs.YtpfbimkpcnnfkaaGreatDoor
def cloneN.args (a0 : Cells S.ty [.s]) : List (SV S.ty) := [.s (.at a0.1.1) (.at a0.1.2.1) (.at a0.1.2.2)]
def cloneN.giv (a0 : Cells S.ty [.s]) : List (Nat × Own S.ty) := []
def cloneN.T (a0 : Cells S.ty [.s]) : Tree S.ty :=
 .test (.nilA (.at a0.1.1))
 (.ret (.s .anil (.n 0) (.n 0)) [] [])
 (.bi (.b true) (.emp 22) [] [] [(false, [.s])] fun x0 =>
 .bi (.b true) (.bi .append #[22, 22] 22) [.s (.at x0.1.1) (.at x0.1.2.1) (.at x0.1.2.2), .s (.at a0.1.1) (.at a0.1.2.1) (.at a0.1.2.2)] [] [(false, [.s])] fun x1 =>
 .ret (.s (.at x1.1.1) (.at x1.1.2.1) (.at x1.1.2.2)) [] [])
theorem cloneN.run (a0 : Cells S.ty [.s]) : runFn Tryz.prog Tryz.f122 (bodyOf Tryz.f122) [] (cloneN.args a0) (cloneN.giv a0) = cloneN.T a0 := by kernel_rfl
def cloneE.args (a0 : Cells S.ty [.s]) : List (SV S.ty) := [.s (.at a0.1.1) (.at a0.1.2.1) (.at a0.1.2.2)]
def cloneE.giv (a0 : Cells S.ty [.s]) : List (Nat × Own S.ty) := []
def cloneE.T (a0 : Cells S.ty [.s]) : Tree S.ty :=
 .test (.nilA (.at a0.1.1))
 (.ret (.s .anil (.n 0) (.n 0)) [] [])
 (.bi (.b true) (.emp 51) [] [] [(false, [.s])] fun x0 =>
 .bi (.b true) (.bi .append #[51, 51] 51) [.s (.at x0.1.1) (.at x0.1.2.1) (.at x0.1.2.2), .s (.at a0.1.1) (.at a0.1.2.1) (.at a0.1.2.2)] [] [(false, [.s])] fun x1 =>
 .ret (.s (.at x1.1.1) (.at x1.1.2.1) (.at x1.1.2.2)) [] [])
theorem cloneE.run (a0 : Cells S.ty [.s]) : runFn Tryz.prog Tryz.f144 (bodyOf Tryz.f144) [] (cloneE.args a0) (cloneE.giv a0) = cloneE.T a0 := by kernel_rfl
def used1.args (a0 : Cells S.ty K0) : List (SV S.ty) := [.agg (cellsSV K0 a0)]
def used1.giv (a0 : Cells S.ty K0) : List (Nat × Own S.ty) := []
def used1.T (a0 : Cells S.ty K0) : Tree S.ty :=
 .new 1 <|
 .test (.cmp .eql (.at a0.1) (.i 0))
 (.ret (.i .i64 (.i 0)) [] [])
 (.ret (.i .i64 (.i 1)) [] [])
theorem used1.run (a0 : Cells S.ty K0) : runFn Tryz.prog Tryz.f91 (bodyOf Tryz.f91) [] (used1.args a0) (used1.giv a0) = used1.T a0 := by kernel_rfl
def nbytes.args (a0 : Cells S.ty K0) : List (SV S.ty) := [.agg (cellsSV K0 a0)]
def nbytes.giv (a0 : Cells S.ty K0) : List (Nat × Own S.ty) := []
def nbytes.T (a0 : Cells S.ty K0) : Tree S.ty :=
 .new 1 <|
 .test (.ite (.cmp .neq (.at a0.1) (.i 1)) (.cmp .neq (.at a0.1) (.i 3)) (.b false))
 (.ret (.i .i64 (.i 0)) [] [])
 (.ret (.i .i64 (.len (.at a0.2.2.2.2.2.2.1))) [] [])
theorem nbytes.run (a0 : Cells S.ty K0) : runFn Tryz.prog Tryz.f124 (bodyOf Tryz.f124) [] (nbytes.args a0) (nbytes.giv a0) = nbytes.T a0 := by kernel_rfl
def sumU.args (a0 : Cells S.ty [.s, .i .i64, .i .i64]) : List (SV S.ty) := [.agg (cellsSV [.s, .i .i64, .i .i64] a0), .fn (.func 91) [] []]
def sumU.giv (a0 : Cells S.ty [.s, .i .i64, .i .i64]) : List (Nat × Own S.ty) := []
def sumU.T (a0 : Cells S.ty [.s, .i .i64, .i .i64]) : Tree S.ty :=
 .new 2 <|
 .loop 0 [.i .i64, .i .i64] [] [.i .i64 (.i 0), .i .i64 (.i 0)] [] fun x0 y0 =>
 .test (.cmp .lss (.at x0.2.1) (.ofN (.at a0.1.2.1)))
 (.ob (.b true) (.idx (.at x0.2.1) (.at a0.1.2.1) (.at a0.1.1)) <|
 .uld (.b true) (.at a0.1.1) (.mul (.toN (.at x0.2.1)) 8) K0 fun x1 =>
 .new 6 <|
 .call (.b true) true 91 [.agg (cellsSV K0 x1)] [] [] [(false, [.i .i64])] [] fun x2 y2 =>
 .again 0 [.i .i64 (.bin .add .i64 (.at x0.1) (.at x2.1)), .i .i64 (.bin .add .i64 (.at x0.2.1) (.i 1))] [] [(.s (.at a0.1.1) (.at a0.1.2.1) (.at a0.1.2.2), .s (.at a0.1.1) (.at a0.1.2.1) (.at a0.1.2.2)), (.i .i64 (.at a0.2.1), .i .i64 (.at a0.2.1)), (.i .i64 (.at a0.2.2.1), .i .i64 (.at a0.2.2.1))])
 (.ret (.i .i64 (.at x0.1)) [] [])
theorem sumU.run (a0 : Cells S.ty [.s, .i .i64, .i .i64]) : runFn Tryz.prog Tryz.f90 (bodyOf Tryz.f90) [⟨2, [4, 10], []⟩] (sumU.args a0) (sumU.giv a0) = sumU.T a0 := by kernel_rfl
def sumB.args (a0 : Cells S.ty [.s, .i .i64, .i .i64]) : List (SV S.ty) := [.agg (cellsSV [.s, .i .i64, .i .i64] a0), .fn (.func 124) [] []]
def sumB.giv (a0 : Cells S.ty [.s, .i .i64, .i .i64]) : List (Nat × Own S.ty) := []
def sumB.T (a0 : Cells S.ty [.s, .i .i64, .i .i64]) : Tree S.ty :=
 .new 2 <|
 .loop 0 [.i .i64, .i .i64] [] [.i .i64 (.i 0), .i .i64 (.i 0)] [] fun x0 y0 =>
 .test (.cmp .lss (.at x0.2.1) (.ofN (.at a0.1.2.1)))
 (.ob (.b true) (.idx (.at x0.2.1) (.at a0.1.2.1) (.at a0.1.1)) <|
 .uld (.b true) (.at a0.1.1) (.mul (.toN (.at x0.2.1)) 8) K0 fun x1 =>
 .new 6 <|
 .call (.b true) true 124 [.agg (cellsSV K0 x1)] [] [] [(false, [.i .i64])] [] fun x2 y2 =>
 .again 0 [.i .i64 (.bin .add .i64 (.at x0.1) (.at x2.1)), .i .i64 (.bin .add .i64 (.at x0.2.1) (.i 1))] [] [(.s (.at a0.1.1) (.at a0.1.2.1) (.at a0.1.2.2), .s (.at a0.1.1) (.at a0.1.2.1) (.at a0.1.2.2)), (.i .i64 (.at a0.2.1), .i .i64 (.at a0.2.1)), (.i .i64 (.at a0.2.2.1), .i .i64 (.at a0.2.2.1))])
 (.ret (.i .i64 (.at x0.1)) [] [])
theorem sumB.run (a0 : Cells S.ty [.s, .i .i64, .i .i64]) : runFn Tryz.prog Tryz.f90 (bodyOf Tryz.f90) [⟨2, [4, 10], []⟩] (sumB.args a0) (sumB.giv a0) = sumB.T a0 := by kernel_rfl
def dused.args (a0 : Cells S.ty [.s, .i .i64, .i .i64]) : List (SV S.ty) := [.agg (cellsSV [.s, .i .i64, .i .i64] a0)]
def dused.giv (a0 : Cells S.ty [.s, .i .i64, .i .i64]) : List (Nat × Own S.ty) := []
def dused.T (a0 : Cells S.ty [.s, .i .i64, .i .i64]) : Tree S.ty :=
 .new 1 <|
 .call (.b true) true 90 [.agg (cellsSV [.s, .i .i64, .i .i64] a0), .fn (.func 91) [] []] [] [] [(false, [.i .i64])] [] fun x0 y0 =>
 .ret (.i .i64 (.at x0.1)) [] []
theorem dused.run (a0 : Cells S.ty [.s, .i .i64, .i .i64]) : runFn Tryz.prog Tryz.f42 (bodyOf Tryz.f42) [] (dused.args a0) (dused.giv a0) = dused.T a0 := by kernel_rfl
def dbytes.args (a0 : Cells S.ty [.s, .i .i64, .i .i64]) : List (SV S.ty) := [.agg (cellsSV [.s, .i .i64, .i .i64] a0)]
def dbytes.giv (a0 : Cells S.ty [.s, .i .i64, .i .i64]) : List (Nat × Own S.ty) := []
def dbytes.T (a0 : Cells S.ty [.s, .i .i64, .i .i64]) : Tree S.ty :=
 .new 1 <|
 .call (.b true) true 90 [.agg (cellsSV [.s, .i .i64, .i .i64] a0), .fn (.func 124) [] []] [] [] [(false, [.i .i64])] [] fun x0 y0 =>
 .ret (.i .i64 (.at x0.1)) [] []
theorem dbytes.run (a0 : Cells S.ty [.s, .i .i64, .i .i64]) : runFn Tryz.prog Tryz.f123 (bodyOf Tryz.f123) [] (dbytes.args a0) (dbytes.giv a0) = dbytes.T a0 := by kernel_rfl
def add1.args (a0 : Cells S.ty K0) : List (SV S.ty) := [.agg (cellsSV K0 a0)]
def add1.giv (a0 : Cells S.ty K0) : List (Nat × Own S.ty) := []
def add1.T (a0 : Cells S.ty K0) : Tree S.ty :=
 .new 1 <|
 .ret (.b (.cmp .eql (.at a0.1) (.i 0))) [] []
theorem add1.run (a0 : Cells S.ty K0) : runFn Tryz.prog Tryz.f126 (bodyOf Tryz.f126) [] (add1.args a0) (add1.giv a0) = add1.T a0 := by kernel_rfl
def idxf.args (a0 : Cells S.ty [.s]) : List (SV S.ty) := [.s (.at a0.1.1) (.at a0.1.2.1) (.at a0.1.2.2), .fn (.func 126) [] []]
def idxf.giv (a0 : Cells S.ty [.s]) : List (Nat × Own S.ty) := []
def idxf.T (a0 : Cells S.ty [.s]) : Tree S.ty :=
 .loop 0 [.i .i64] [] [.i .i64 (.i 0)] [] fun x0 y0 =>
 .test (.cmp .lss (.at x0.1) (.ofN (.at a0.1.2.1)))
 (.ob (.b true) (.idx (.at x0.1) (.at a0.1.2.1) (.at a0.1.1)) <|
 .uld (.b true) (.at a0.1.1) (.mul (.toN (.at x0.1)) 8) K0 fun x1 =>
 .call (.b true) true 126 [.agg (cellsSV K0 x1)] [] [] [(false, [.b])] [] fun x2 y2 =>
 .test (.at x2.1)
 (.ret (.i .i64 (.at x0.1)) [] [])
 (.again 0 [.i .i64 (.bin .add .i64 (.at x0.1) (.i 1))] [] []))
 (.ret (.i .i64 (.i (-1))) [] [])
theorem idxf.run (a0 : Cells S.ty [.s]) : runFn Tryz.prog Tryz.f125 (bodyOf Tryz.f125) [⟨2, [8], []⟩] (idxf.args a0) (idxf.giv a0) = idxf.T a0 := by kernel_rfl
def dset.args (a0 : Cells S.ty [.s, .i .i64, .i .i64]) (a1 : Cells S.ty [.i .i64]) (a2 : Cells S.ty K0) : List (SV S.ty) := [.agg (cellsSV [.s, .i .i64, .i .i64] a0), .i .i64 (.at a1.1), .agg (cellsSV K0 a2)]
def dset.giv (a0 : Cells S.ty [.s, .i .i64, .i .i64]) (a1 : Cells S.ty [.i .i64]) (a2 : Cells S.ty K0) : List (Nat × Own S.ty) := []
def dset.T (a0 : Cells S.ty [.s, .i .i64, .i .i64]) (a1 : Cells S.ty [.i .i64]) (a2 : Cells S.ty K0) : Tree S.ty :=
 .new 3 <|
 .new 5 <|
 .new 6 <|
 .call (.b true) true 71 [.i .i64 (.at a1.1), .i .i64 (.i 0), .i .i64 (.bin .sub .i64 (.ofN (.at a0.1.2.1)) (.i 1))] [] [] [(false, [.b])] [] fun x0 y0 =>
 .test (.at x0.1)
 (.call (.b true) true 122 [.s (.at a0.1.1) (.at a0.1.2.1) (.at a0.1.2.2)] [] [] [(false, [.s])] [] fun x1 y1 =>
 .ob (.b true) (.idx (.at a1.1) (.at x1.1.2.1) (.at x1.1.1)) <|
 .ust (.at x1.1.1) (.mul (.toN (.at a1.1)) 8) (cellsSV K0 a2) <|
 .ret (.agg ((cellsSV [.s, .i .i64, .i .i64] a0).set 0 (.s (.at x1.1.1) (.at x1.1.2.1) (.at x1.1.2.2)))) [] [])
 (.ret (.agg (cellsSV [.s, .i .i64, .i .i64] a0)) [] [])
theorem dset.run (a0 : Cells S.ty [.s, .i .i64, .i .i64]) (a1 : Cells S.ty [.i .i64]) (a2 : Cells S.ty K0) : runFn Tryz.prog Tryz.f103 (bodyOf Tryz.f103) [] (dset.args a0 a1 a2) (dset.giv a0 a1 a2) = dset.T a0 a1 a2 := by kernel_rfl
def dadd.args (a0 : Cells S.ty [.s, .i .i64, .i .i64]) (a1 : Cells S.ty K0) : List (SV S.ty) := [.agg (cellsSV [.s, .i .i64, .i .i64] a0), .agg (cellsSV K0 a1)]
def dadd.giv (a0 : Cells S.ty [.s, .i .i64, .i .i64]) (a1 : Cells S.ty K0) : List (Nat × Own S.ty) := []
def dadd.T (a0 : Cells S.ty [.s, .i .i64, .i .i64]) (a1 : Cells S.ty K0) : Tree S.ty :=
 .new 2 <|
 .new 3 <|
 .new 4 <|
 .call (.b true) false 42 [.agg (cellsSV [.s, .i .i64, .i .i64] a0)] [] [] [(false, [.i .i64])] [] fun x0 y0 =>
 .call (.not (.cmp .geq (.at x0.1) (.at a0.2.1))) false 123 [.agg (cellsSV [.s, .i .i64, .i .i64] a0)] [] [] [(false, [.i .i64])] [] fun x1 y1 =>
 .call (.not (.cmp .geq (.at x0.1) (.at a0.2.1))) false 124 [.agg (cellsSV K0 a1)] [] [] [(false, [.i .i64])] [] fun x2 y2 =>
 .test (.ite (.cmp .geq (.at x0.1) (.at a0.2.1)) (.b true) (.cmp .gtr (.bin .add .i64 (.at x1.1) (.at x2.1)) (.at a0.2.2.1)))
 (.ret (.tup [.agg (cellsSV [.s, .i .i64, .i .i64] a0), .i .i64 (.i 0), .i .i64 (.i 10)]) [] [])
 (.call (.b true) true 125 [.s (.at a0.1.1) (.at a0.1.2.1) (.at a0.1.2.2), .fn (.func 126) [] []] [] [] [(false, [.i .i64])] [] fun x3 y3 =>
 .test (.cmp .lss (.at x3.1) (.i 0))
 (.call (.b true) true 122 [.s (.at a0.1.1) (.at a0.1.2.1) (.at a0.1.2.2)] [] [] [(false, [.s])] [] fun x4 y4 =>
 .new 36 <|
 .bi (.b true) (.bi .append #[22, 22] 22) [.s (.at x4.1.1) (.at x4.1.2.1) (.at x4.1.2.2), .os 36 0 1 1] [(36, [.i .i64 (.i 0), .i .i64 (.i 0), .i .i64 (.i 0), .i .i64 (.i 0), .i .i64 (.i 0), .i .i64 (.i 0), .t (.t ⟨#[]⟩), .s .anil (.n 0) (.n 0)])] [(false, [.s])] fun x5 =>
 .call (.b true) true 103 [.agg ((cellsSV [.s, .i .i64, .i .i64] a0).set 0 (.s (.at x5.1.1) (.at x5.1.2.1) (.at x5.1.2.2))), .i .i64 (.ofN (.at a0.1.2.1)), .agg (cellsSV K0 a1)] [] [] [(true, [.s, .i .i64, .i .i64])] [] fun x6 y6 =>
 .ret (.tup [.agg (cellsSV [.s, .i .i64, .i .i64] x6), .i .i64 (.ofN (.at a0.1.2.1)), .i .i64 (.i 0)]) [] [])
 (.call (.b true) true 103 [.agg (cellsSV [.s, .i .i64, .i .i64] a0), .i .i64 (.at x3.1), .agg (cellsSV K0 a1)] [] [] [(true, [.s, .i .i64, .i .i64])] [] fun x4 y4 =>
 .ret (.tup [.agg (cellsSV [.s, .i .i64, .i .i64] x4), .i .i64 (.at x3.1), .i .i64 (.i 0)]) [] []))
theorem dadd.run (a0 : Cells S.ty [.s, .i .i64, .i .i64]) (a1 : Cells S.ty K0) : runFn Tryz.prog Tryz.f107 (bodyOf Tryz.f107) [] (dadd.args a0 a1) (dadd.giv a0 a1) = dadd.T a0 a1 := by kernel_rfl
def dsettle.args (a0 : Cells S.ty [.s, .i .i64, .i .i64]) (a1 : Cells S.ty [.i .i64]) : List (SV S.ty) := [.agg (cellsSV [.s, .i .i64, .i .i64] a0), .i .i64 (.at a1.1)]
def dsettle.giv (a0 : Cells S.ty [.s, .i .i64, .i .i64]) (a1 : Cells S.ty [.i .i64]) : List (Nat × Own S.ty) := []
def dsettle.T (a0 : Cells S.ty [.s, .i .i64, .i .i64]) (a1 : Cells S.ty [.i .i64]) : Tree S.ty :=
 .new 2 <|
 .new 4 <|
 .call (.b true) true 24 [.agg (cellsSV [.s, .i .i64, .i .i64] a0), .i .i64 (.at a1.1)] [] [] [(true, K0), (false, [.b])] [] fun x0 y0 =>
 .new 5 <|
 .test (.ite (.ite (.ite (.at x0.2.2.2.2.2.2.2.2.1) (.cmp .neq (.at a1.1) (.i 0)) (.b false)) (.cmp .lss (.at x0.2.2.2.1) (.i 1)) (.b false)) (.cmp .lss (.at x0.2.2.2.2.1) (.i 1)) (.b false))
 (.call (.b true) true 103 [.agg (cellsSV [.s, .i .i64, .i .i64] a0), .i .i64 (.at a1.1), .agg [.i .i64 (.i 0), .i .i64 (.i 0), .i .i64 (.i 0), .i .i64 (.i 0), .i .i64 (.i 0), .i .i64 (.i 0), .t (.t ⟨#[]⟩), .s .anil (.n 0) (.n 0)]] [] [] [(true, [.s, .i .i64, .i .i64])] [] fun x1 y1 =>
 .ret (.agg (cellsSV [.s, .i .i64, .i .i64] x1)) [] [])
 (.ret (.agg (cellsSV [.s, .i .i64, .i .i64] a0)) [] [])
theorem dsettle.run (a0 : Cells S.ty [.s, .i .i64, .i .i64]) (a1 : Cells S.ty [.i .i64]) : runFn Tryz.prog Tryz.f100 (bodyOf Tryz.f100) [] (dsettle.args a0 a1) (dsettle.giv a0 a1) = dsettle.T a0 a1 := by kernel_rfl
def insE.args (a0 : Cells S.ty [.s]) (a1 : Cells S.ty [.i .i64]) (a2 : Cells S.ty [.s]) : List (SV S.ty) := [.s (.at a0.1.1) (.at a0.1.2.1) (.at a0.1.2.2), .i .i64 (.at a1.1), .s (.at a2.1.1) (.at a2.1.2.1) (.at a2.1.2.2)]
def insE.giv (a0 : Cells S.ty [.s]) (a1 : Cells S.ty [.i .i64]) (a2 : Cells S.ty [.s]) : List (Nat × Own S.ty) := []
def insE.T (a0 : Cells S.ty [.s]) (a1 : Cells S.ty [.i .i64]) (a2 : Cells S.ty [.s]) : Tree S.ty :=
 .ob (.b true) (.bnds (.at a1.1) (.ofN (.at a0.1.2.1)) (.ofN (.at a0.1.2.2))) <|
 .test (.cmp .eql (.ofN (.at a2.1.2.1)) (.i 0))
 (.ret (.s (.at a0.1.1) (.at a0.1.2.1) (.at a0.1.2.2)) [] [])
 (.test (.cmp .eql (.at a1.1) (.ofN (.at a0.1.2.1)))
 (.bi (.b true) (.bi .append #[51, 51] 51) [.s (.at a0.1.1) (.at a0.1.2.1) (.at a0.1.2.2), .s (.at a2.1.1) (.at a2.1.2.1) (.at a2.1.2.2)] [] [(false, [.s])] fun x0 =>
 .ret (.s (.at x0.1.1) (.at x0.1.2.1) (.at x0.1.2.2)) [] [])
 (.test (.cmp .gtr (.bin .add .i64 (.ofN (.at a0.1.2.1)) (.ofN (.at a2.1.2.1))) (.ofN (.at a0.1.2.2)))
 (.ob (.b true) (.bnds (.i 0) (.at a1.1) (.ofN (.at a0.1.2.2))) <|
 .bi (.b true) (.bi .append #[51, 3] 51) [.s (.adv (.at a0.1.1) (.at a0.1.2.2) (.n 0) 2) (.sub (.toN (.at a1.1)) (.n 0)) (.sub (.at a0.1.2.2) (.n 0)), .i .i64 (.bin .sub .i64 (.bin .add .i64 (.ofN (.at a0.1.2.1)) (.ofN (.at a2.1.2.1))) (.at a1.1))] [] [(false, [.s])] fun x0 =>
 .ob (.b true) (.bnds (.at a1.1) (.ofN (.at x0.1.2.1)) (.ofN (.at x0.1.2.2))) <|
 .bi (.b true) (.bi .copy #[51, 51] 3) [.s (.adv (.at x0.1.1) (.at x0.1.2.2) (.toN (.at a1.1)) 2) (.sub (.at x0.1.2.1) (.toN (.at a1.1))) (.sub (.at x0.1.2.2) (.toN (.at a1.1))), .s (.at a2.1.1) (.at a2.1.2.1) (.at a2.1.2.2)] [] [(false, [.i .i64])] fun x1 =>
 .ob (.b true) (.bnds (.bin .add .i64 (.at a1.1) (.ofN (.at a2.1.2.1))) (.ofN (.at x0.1.2.1)) (.ofN (.at x0.1.2.2))) <|
 .ob (.b true) (.bnds (.at a1.1) (.ofN (.at a0.1.2.1)) (.ofN (.at a0.1.2.2))) <|
 .bi (.b true) (.bi .copy #[51, 51] 3) [.s (.adv (.at x0.1.1) (.at x0.1.2.2) (.toN (.bin .add .i64 (.at a1.1) (.ofN (.at a2.1.2.1)))) 2) (.sub (.at x0.1.2.1) (.toN (.bin .add .i64 (.at a1.1) (.ofN (.at a2.1.2.1))))) (.sub (.at x0.1.2.2) (.toN (.bin .add .i64 (.at a1.1) (.ofN (.at a2.1.2.1))))), .s (.adv (.at a0.1.1) (.at a0.1.2.2) (.toN (.at a1.1)) 2) (.sub (.at a0.1.2.1) (.toN (.at a1.1))) (.sub (.at a0.1.2.2) (.toN (.at a1.1)))] [] [(false, [.i .i64])] fun x2 =>
 .ret (.s (.at x0.1.1) (.at x0.1.2.1) (.at x0.1.2.2)) [] [])
 (.ob (.b true) (.bnds (.i 0) (.bin .add .i64 (.ofN (.at a0.1.2.1)) (.ofN (.at a2.1.2.1))) (.ofN (.at a0.1.2.2))) <|
 .ob (.b true) (.bnds (.bin .add .i64 (.at a1.1) (.ofN (.at a2.1.2.1))) (.ofN (.sub (.toN (.bin .add .i64 (.ofN (.at a0.1.2.1)) (.ofN (.at a2.1.2.1)))) (.n 0))) (.ofN (.sub (.at a0.1.2.2) (.n 0)))) <|
 .bi (.b true) (.ext 155) [.s (.at a2.1.1) (.at a2.1.2.1) (.at a2.1.2.2), .s (.adv (.adv (.at a0.1.1) (.at a0.1.2.2) (.n 0) 2) (.sub (.at a0.1.2.2) (.n 0)) (.toN (.bin .add .i64 (.at a1.1) (.ofN (.at a2.1.2.1)))) 2) (.sub (.sub (.toN (.bin .add .i64 (.ofN (.at a0.1.2.1)) (.ofN (.at a2.1.2.1)))) (.n 0)) (.toN (.bin .add .i64 (.at a1.1) (.ofN (.at a2.1.2.1))))) (.sub (.sub (.at a0.1.2.2) (.n 0)) (.toN (.bin .add .i64 (.at a1.1) (.ofN (.at a2.1.2.1)))))] [] [(false, [.b])] fun x0 =>
 .test (.not (.at x0.1))
 (.ob (.b true) (.bnds (.bin .add .i64 (.at a1.1) (.ofN (.at a2.1.2.1))) (.ofN (.sub (.toN (.bin .add .i64 (.ofN (.at a0.1.2.1)) (.ofN (.at a2.1.2.1)))) (.n 0))) (.ofN (.sub (.at a0.1.2.2) (.n 0)))) <|
 .ob (.b true) (.bnds (.at a1.1) (.ofN (.sub (.toN (.bin .add .i64 (.ofN (.at a0.1.2.1)) (.ofN (.at a2.1.2.1)))) (.n 0))) (.ofN (.sub (.at a0.1.2.2) (.n 0)))) <|
 .bi (.b true) (.bi .copy #[51, 51] 3) [.s (.adv (.adv (.at a0.1.1) (.at a0.1.2.2) (.n 0) 2) (.sub (.at a0.1.2.2) (.n 0)) (.toN (.bin .add .i64 (.at a1.1) (.ofN (.at a2.1.2.1)))) 2) (.sub (.sub (.toN (.bin .add .i64 (.ofN (.at a0.1.2.1)) (.ofN (.at a2.1.2.1)))) (.n 0)) (.toN (.bin .add .i64 (.at a1.1) (.ofN (.at a2.1.2.1))))) (.sub (.sub (.at a0.1.2.2) (.n 0)) (.toN (.bin .add .i64 (.at a1.1) (.ofN (.at a2.1.2.1))))), .s (.adv (.adv (.at a0.1.1) (.at a0.1.2.2) (.n 0) 2) (.sub (.at a0.1.2.2) (.n 0)) (.toN (.at a1.1)) 2) (.sub (.sub (.toN (.bin .add .i64 (.ofN (.at a0.1.2.1)) (.ofN (.at a2.1.2.1)))) (.n 0)) (.toN (.at a1.1))) (.sub (.sub (.at a0.1.2.2) (.n 0)) (.toN (.at a1.1)))] [] [(false, [.i .i64])] fun x1 =>
 .ob (.b true) (.bnds (.at a1.1) (.ofN (.sub (.toN (.bin .add .i64 (.ofN (.at a0.1.2.1)) (.ofN (.at a2.1.2.1)))) (.n 0))) (.ofN (.sub (.at a0.1.2.2) (.n 0)))) <|
 .bi (.b true) (.bi .copy #[51, 51] 3) [.s (.adv (.adv (.at a0.1.1) (.at a0.1.2.2) (.n 0) 2) (.sub (.at a0.1.2.2) (.n 0)) (.toN (.at a1.1)) 2) (.sub (.sub (.toN (.bin .add .i64 (.ofN (.at a0.1.2.1)) (.ofN (.at a2.1.2.1)))) (.n 0)) (.toN (.at a1.1))) (.sub (.sub (.at a0.1.2.2) (.n 0)) (.toN (.at a1.1))), .s (.at a2.1.1) (.at a2.1.2.1) (.at a2.1.2.2)] [] [(false, [.i .i64])] fun x2 =>
 .ret (.s (.adv (.at a0.1.1) (.at a0.1.2.2) (.n 0) 2) (.sub (.toN (.bin .add .i64 (.ofN (.at a0.1.2.1)) (.ofN (.at a2.1.2.1)))) (.n 0)) (.sub (.at a0.1.2.2) (.n 0))) [] [])
 (.ob (.b true) (.bnds (.ofN (.at a0.1.2.1)) (.ofN (.sub (.toN (.bin .add .i64 (.ofN (.at a0.1.2.1)) (.ofN (.at a2.1.2.1)))) (.n 0))) (.ofN (.sub (.at a0.1.2.2) (.n 0)))) <|
 .bi (.b true) (.bi .copy #[51, 51] 3) [.s (.adv (.adv (.at a0.1.1) (.at a0.1.2.2) (.n 0) 2) (.sub (.at a0.1.2.2) (.n 0)) (.at a0.1.2.1) 2) (.sub (.sub (.toN (.bin .add .i64 (.ofN (.at a0.1.2.1)) (.ofN (.at a2.1.2.1)))) (.n 0)) (.at a0.1.2.1)) (.sub (.sub (.at a0.1.2.2) (.n 0)) (.at a0.1.2.1)), .s (.at a2.1.1) (.at a2.1.2.1) (.at a2.1.2.2)] [] [(false, [.i .i64])] fun x1 =>
 .ob (.b true) (.bnds (.at a1.1) (.ofN (.sub (.toN (.bin .add .i64 (.ofN (.at a0.1.2.1)) (.ofN (.at a2.1.2.1)))) (.n 0))) (.ofN (.sub (.at a0.1.2.2) (.n 0)))) <|
 .call (.b true) true 156 [.s (.adv (.adv (.at a0.1.1) (.at a0.1.2.2) (.n 0) 2) (.sub (.at a0.1.2.2) (.n 0)) (.toN (.at a1.1)) 2) (.sub (.sub (.toN (.bin .add .i64 (.ofN (.at a0.1.2.1)) (.ofN (.at a2.1.2.1)))) (.n 0)) (.toN (.at a1.1))) (.sub (.sub (.at a0.1.2.2) (.n 0)) (.toN (.at a1.1))), .i .i64 (.ofN (.at a2.1.2.1))] [] [] [] [] fun x2 y2 =>
 .ret (.s (.adv (.at a0.1.1) (.at a0.1.2.2) (.n 0) 2) (.sub (.toN (.bin .add .i64 (.ofN (.at a0.1.2.1)) (.ofN (.at a2.1.2.1)))) (.n 0)) (.sub (.at a0.1.2.2) (.n 0))) [] []))))
theorem insE.run (a0 : Cells S.ty [.s]) (a1 : Cells S.ty [.i .i64]) (a2 : Cells S.ty [.s]) : runFn Tryz.prog Tryz.f154 (bodyOf Tryz.f154) [] (insE.args a0 a1 a2) (insE.giv a0 a1 a2) = insE.T a0 a1 a2 := by kernel_rfl
def repE.args (a0 : Cells S.ty [.s]) (a1 : Cells S.ty [.i .i64]) (a2 : Cells S.ty [.i .i64]) (a3 : Cells S.ty [.s]) : List (SV S.ty) := [.s (.at a0.1.1) (.at a0.1.2.1) (.at a0.1.2.2), .i .i64 (.at a1.1), .i .i64 (.at a2.1), .s (.at a3.1.1) (.at a3.1.2.1) (.at a3.1.2.2)]
def repE.giv (a0 : Cells S.ty [.s]) (a1 : Cells S.ty [.i .i64]) (a2 : Cells S.ty [.i .i64]) (a3 : Cells S.ty [.s]) : List (Nat × Own S.ty) := []
def repE.T (a0 : Cells S.ty [.s]) (a1 : Cells S.ty [.i .i64]) (a2 : Cells S.ty [.i .i64]) (a3 : Cells S.ty [.s]) : Tree S.ty :=
 .ob (.b true) (.bnds (.at a1.1) (.at a2.1) (.ofN (.at a0.1.2.2))) <|
 .test (.cmp .eql (.at a1.1) (.at a2.1))
 (.call (.b true) true 154 [.s (.at a0.1.1) (.at a0.1.2.1) (.at a0.1.2.2), .i .i64 (.at a1.1), .s (.at a3.1.1) (.at a3.1.2.1) (.at a3.1.2.2)] [] [] [(false, [.s])] [] fun x0 y0 =>
 .ret (.s (.at x0.1.1) (.at x0.1.2.1) (.at x0.1.2.2)) [] [])
 (.test (.cmp .eql (.at a2.1) (.ofN (.at a0.1.2.1)))
 (.ob (.b true) (.bnds (.i 0) (.at a1.1) (.ofN (.at a0.1.2.2))) <|
 .bi (.b true) (.bi .append #[51, 51] 51) [.s (.adv (.at a0.1.1) (.at a0.1.2.2) (.n 0) 2) (.sub (.toN (.at a1.1)) (.n 0)) (.sub (.at a0.1.2.2) (.n 0)), .s (.at a3.1.1) (.at a3.1.2.1) (.at a3.1.2.2)] [] [(false, [.s])] fun x0 =>
 .test (.cmp .lss (.ofN (.at x0.1.2.1)) (.ofN (.at a0.1.2.1)))
 (.ob (.b true) (.bnds (.ofN (.at x0.1.2.1)) (.ofN (.at a0.1.2.1)) (.ofN (.at a0.1.2.2))) <|
 .bi (.b true) (.bi .clear #[51] 0) [.s (.adv (.at a0.1.1) (.at a0.1.2.2) (.at x0.1.2.1) 2) (.sub (.at a0.1.2.1) (.at x0.1.2.1)) (.sub (.at a0.1.2.2) (.at x0.1.2.1))] [] [] fun x1 =>
 .ret (.s (.at x0.1.1) (.at x0.1.2.1) (.at x0.1.2.2)) [] [])
 (.ret (.s (.at x0.1.1) (.at x0.1.2.1) (.at x0.1.2.2)) [] []))
 (.ob (.b true) (.bnds (.i 0) (.at a1.1) (.ofN (.at a0.1.2.2))) <|
 .ob (.b true) (.bnds (.at a2.1) (.ofN (.at a0.1.2.1)) (.ofN (.at a0.1.2.2))) <|
 .test (.cmp .gtr (.bin .add .i64 (.bin .add .i64 (.ofN (.sub (.toN (.at a1.1)) (.n 0))) (.ofN (.at a3.1.2.1))) (.ofN (.sub (.at a0.1.2.1) (.toN (.at a2.1))))) (.ofN (.at a0.1.2.2)))
 (.ob (.b true) (.bnds (.i 0) (.at a1.1) (.ofN (.at a0.1.2.2))) <|
 .bi (.b true) (.bi .append #[51, 3] 51) [.s (.adv (.at a0.1.1) (.at a0.1.2.2) (.n 0) 2) (.sub (.toN (.at a1.1)) (.n 0)) (.sub (.at a0.1.2.2) (.n 0)), .i .i64 (.bin .sub .i64 (.bin .add .i64 (.bin .add .i64 (.ofN (.sub (.toN (.at a1.1)) (.n 0))) (.ofN (.at a3.1.2.1))) (.ofN (.sub (.at a0.1.2.1) (.toN (.at a2.1))))) (.at a1.1))] [] [(false, [.s])] fun x0 =>
 .ob (.b true) (.bnds (.at a1.1) (.ofN (.at x0.1.2.1)) (.ofN (.at x0.1.2.2))) <|
 .bi (.b true) (.bi .copy #[51, 51] 3) [.s (.adv (.at x0.1.1) (.at x0.1.2.2) (.toN (.at a1.1)) 2) (.sub (.at x0.1.2.1) (.toN (.at a1.1))) (.sub (.at x0.1.2.2) (.toN (.at a1.1))), .s (.at a3.1.1) (.at a3.1.2.1) (.at a3.1.2.2)] [] [(false, [.i .i64])] fun x1 =>
 .ob (.b true) (.bnds (.bin .add .i64 (.at a1.1) (.ofN (.at a3.1.2.1))) (.ofN (.at x0.1.2.1)) (.ofN (.at x0.1.2.2))) <|
 .ob (.b true) (.bnds (.at a2.1) (.ofN (.at a0.1.2.1)) (.ofN (.at a0.1.2.2))) <|
 .bi (.b true) (.bi .copy #[51, 51] 3) [.s (.adv (.at x0.1.1) (.at x0.1.2.2) (.toN (.bin .add .i64 (.at a1.1) (.ofN (.at a3.1.2.1)))) 2) (.sub (.at x0.1.2.1) (.toN (.bin .add .i64 (.at a1.1) (.ofN (.at a3.1.2.1))))) (.sub (.at x0.1.2.2) (.toN (.bin .add .i64 (.at a1.1) (.ofN (.at a3.1.2.1))))), .s (.adv (.at a0.1.1) (.at a0.1.2.2) (.toN (.at a2.1)) 2) (.sub (.at a0.1.2.1) (.toN (.at a2.1))) (.sub (.at a0.1.2.2) (.toN (.at a2.1)))] [] [(false, [.i .i64])] fun x2 =>
 .ret (.s (.at x0.1.1) (.at x0.1.2.1) (.at x0.1.2.2)) [] [])
 (.ob (.b true) (.bnds (.i 0) (.bin .add .i64 (.bin .add .i64 (.ofN (.sub (.toN (.at a1.1)) (.n 0))) (.ofN (.at a3.1.2.1))) (.ofN (.sub (.at a0.1.2.1) (.toN (.at a2.1))))) (.ofN (.at a0.1.2.2))) <|
 .test (.cmp .leq (.bin .add .i64 (.at a1.1) (.ofN (.at a3.1.2.1))) (.at a2.1))
 (.ob (.b true) (.bnds (.at a1.1) (.ofN (.sub (.toN (.bin .add .i64 (.bin .add .i64 (.ofN (.sub (.toN (.at a1.1)) (.n 0))) (.ofN (.at a3.1.2.1))) (.ofN (.sub (.at a0.1.2.1) (.toN (.at a2.1)))))) (.n 0))) (.ofN (.sub (.at a0.1.2.2) (.n 0)))) <|
 .bi (.b true) (.bi .copy #[51, 51] 3) [.s (.adv (.adv (.at a0.1.1) (.at a0.1.2.2) (.n 0) 2) (.sub (.at a0.1.2.2) (.n 0)) (.toN (.at a1.1)) 2) (.sub (.sub (.toN (.bin .add .i64 (.bin .add .i64 (.ofN (.sub (.toN (.at a1.1)) (.n 0))) (.ofN (.at a3.1.2.1))) (.ofN (.sub (.at a0.1.2.1) (.toN (.at a2.1)))))) (.n 0)) (.toN (.at a1.1))) (.sub (.sub (.at a0.1.2.2) (.n 0)) (.toN (.at a1.1))), .s (.at a3.1.1) (.at a3.1.2.1) (.at a3.1.2.2)] [] [(false, [.i .i64])] fun x0 =>
 .ob (.b true) (.bnds (.bin .add .i64 (.at a1.1) (.ofN (.at a3.1.2.1))) (.ofN (.sub (.toN (.bin .add .i64 (.bin .add .i64 (.ofN (.sub (.toN (.at a1.1)) (.n 0))) (.ofN (.at a3.1.2.1))) (.ofN (.sub (.at a0.1.2.1) (.toN (.at a2.1)))))) (.n 0))) (.ofN (.sub (.at a0.1.2.2) (.n 0)))) <|
 .ob (.b true) (.bnds (.at a2.1) (.ofN (.at a0.1.2.1)) (.ofN (.at a0.1.2.2))) <|
 .bi (.b true) (.bi .copy #[51, 51] 3) [.s (.adv (.adv (.at a0.1.1) (.at a0.1.2.2) (.n 0) 2) (.sub (.at a0.1.2.2) (.n 0)) (.toN (.bin .add .i64 (.at a1.1) (.ofN (.at a3.1.2.1)))) 2) (.sub (.sub (.toN (.bin .add .i64 (.bin .add .i64 (.ofN (.sub (.toN (.at a1.1)) (.n 0))) (.ofN (.at a3.1.2.1))) (.ofN (.sub (.at a0.1.2.1) (.toN (.at a2.1)))))) (.n 0)) (.toN (.bin .add .i64 (.at a1.1) (.ofN (.at a3.1.2.1))))) (.sub (.sub (.at a0.1.2.2) (.n 0)) (.toN (.bin .add .i64 (.at a1.1) (.ofN (.at a3.1.2.1))))), .s (.adv (.at a0.1.1) (.at a0.1.2.2) (.toN (.at a2.1)) 2) (.sub (.at a0.1.2.1) (.toN (.at a2.1))) (.sub (.at a0.1.2.2) (.toN (.at a2.1)))] [] [(false, [.i .i64])] fun x1 =>
 .ob (.b true) (.bnds (.bin .add .i64 (.bin .add .i64 (.ofN (.sub (.toN (.at a1.1)) (.n 0))) (.ofN (.at a3.1.2.1))) (.ofN (.sub (.at a0.1.2.1) (.toN (.at a2.1))))) (.ofN (.at a0.1.2.1)) (.ofN (.at a0.1.2.2))) <|
 .bi (.b true) (.bi .clear #[51] 0) [.s (.adv (.at a0.1.1) (.at a0.1.2.2) (.toN (.bin .add .i64 (.bin .add .i64 (.ofN (.sub (.toN (.at a1.1)) (.n 0))) (.ofN (.at a3.1.2.1))) (.ofN (.sub (.at a0.1.2.1) (.toN (.at a2.1)))))) 2) (.sub (.at a0.1.2.1) (.toN (.bin .add .i64 (.bin .add .i64 (.ofN (.sub (.toN (.at a1.1)) (.n 0))) (.ofN (.at a3.1.2.1))) (.ofN (.sub (.at a0.1.2.1) (.toN (.at a2.1))))))) (.sub (.at a0.1.2.2) (.toN (.bin .add .i64 (.bin .add .i64 (.ofN (.sub (.toN (.at a1.1)) (.n 0))) (.ofN (.at a3.1.2.1))) (.ofN (.sub (.at a0.1.2.1) (.toN (.at a2.1)))))))] [] [] fun x2 =>
 .ret (.s (.adv (.at a0.1.1) (.at a0.1.2.2) (.n 0) 2) (.sub (.toN (.bin .add .i64 (.bin .add .i64 (.ofN (.sub (.toN (.at a1.1)) (.n 0))) (.ofN (.at a3.1.2.1))) (.ofN (.sub (.at a0.1.2.1) (.toN (.at a2.1)))))) (.n 0)) (.sub (.at a0.1.2.2) (.n 0))) [] [])
 (.ob (.b true) (.bnds (.bin .add .i64 (.at a1.1) (.ofN (.at a3.1.2.1))) (.ofN (.sub (.toN (.bin .add .i64 (.bin .add .i64 (.ofN (.sub (.toN (.at a1.1)) (.n 0))) (.ofN (.at a3.1.2.1))) (.ofN (.sub (.at a0.1.2.1) (.toN (.at a2.1)))))) (.n 0))) (.ofN (.sub (.at a0.1.2.2) (.n 0)))) <|
 .bi (.b true) (.ext 155) [.s (.adv (.adv (.at a0.1.1) (.at a0.1.2.2) (.n 0) 2) (.sub (.at a0.1.2.2) (.n 0)) (.toN (.bin .add .i64 (.at a1.1) (.ofN (.at a3.1.2.1)))) 2) (.sub (.sub (.toN (.bin .add .i64 (.bin .add .i64 (.ofN (.sub (.toN (.at a1.1)) (.n 0))) (.ofN (.at a3.1.2.1))) (.ofN (.sub (.at a0.1.2.1) (.toN (.at a2.1)))))) (.n 0)) (.toN (.bin .add .i64 (.at a1.1) (.ofN (.at a3.1.2.1))))) (.sub (.sub (.at a0.1.2.2) (.n 0)) (.toN (.bin .add .i64 (.at a1.1) (.ofN (.at a3.1.2.1))))), .s (.at a3.1.1) (.at a3.1.2.1) (.at a3.1.2.2)] [] [(false, [.b])] fun x0 =>
 .test (.not (.at x0.1))
 (.ob (.b true) (.bnds (.bin .add .i64 (.at a1.1) (.ofN (.at a3.1.2.1))) (.ofN (.sub (.toN (.bin .add .i64 (.bin .add .i64 (.ofN (.sub (.toN (.at a1.1)) (.n 0))) (.ofN (.at a3.1.2.1))) (.ofN (.sub (.at a0.1.2.1) (.toN (.at a2.1)))))) (.n 0))) (.ofN (.sub (.at a0.1.2.2) (.n 0)))) <|
 .ob (.b true) (.bnds (.at a2.1) (.ofN (.at a0.1.2.1)) (.ofN (.at a0.1.2.2))) <|
 .bi (.b true) (.bi .copy #[51, 51] 3) [.s (.adv (.adv (.at a0.1.1) (.at a0.1.2.2) (.n 0) 2) (.sub (.at a0.1.2.2) (.n 0)) (.toN (.bin .add .i64 (.at a1.1) (.ofN (.at a3.1.2.1)))) 2) (.sub (.sub (.toN (.bin .add .i64 (.bin .add .i64 (.ofN (.sub (.toN (.at a1.1)) (.n 0))) (.ofN (.at a3.1.2.1))) (.ofN (.sub (.at a0.1.2.1) (.toN (.at a2.1)))))) (.n 0)) (.toN (.bin .add .i64 (.at a1.1) (.ofN (.at a3.1.2.1))))) (.sub (.sub (.at a0.1.2.2) (.n 0)) (.toN (.bin .add .i64 (.at a1.1) (.ofN (.at a3.1.2.1))))), .s (.adv (.at a0.1.1) (.at a0.1.2.2) (.toN (.at a2.1)) 2) (.sub (.at a0.1.2.1) (.toN (.at a2.1))) (.sub (.at a0.1.2.2) (.toN (.at a2.1)))] [] [(false, [.i .i64])] fun x1 =>
 .ob (.b true) (.bnds (.at a1.1) (.ofN (.sub (.toN (.bin .add .i64 (.bin .add .i64 (.ofN (.sub (.toN (.at a1.1)) (.n 0))) (.ofN (.at a3.1.2.1))) (.ofN (.sub (.at a0.1.2.1) (.toN (.at a2.1)))))) (.n 0))) (.ofN (.sub (.at a0.1.2.2) (.n 0)))) <|
 .bi (.b true) (.bi .copy #[51, 51] 3) [.s (.adv (.adv (.at a0.1.1) (.at a0.1.2.2) (.n 0) 2) (.sub (.at a0.1.2.2) (.n 0)) (.toN (.at a1.1)) 2) (.sub (.sub (.toN (.bin .add .i64 (.bin .add .i64 (.ofN (.sub (.toN (.at a1.1)) (.n 0))) (.ofN (.at a3.1.2.1))) (.ofN (.sub (.at a0.1.2.1) (.toN (.at a2.1)))))) (.n 0)) (.toN (.at a1.1))) (.sub (.sub (.at a0.1.2.2) (.n 0)) (.toN (.at a1.1))), .s (.at a3.1.1) (.at a3.1.2.1) (.at a3.1.2.2)] [] [(false, [.i .i64])] fun x2 =>
 .ret (.s (.adv (.at a0.1.1) (.at a0.1.2.2) (.n 0) 2) (.sub (.toN (.bin .add .i64 (.bin .add .i64 (.ofN (.sub (.toN (.at a1.1)) (.n 0))) (.ofN (.at a3.1.2.1))) (.ofN (.sub (.at a0.1.2.1) (.toN (.at a2.1)))))) (.n 0)) (.sub (.at a0.1.2.2) (.n 0))) [] [])
 (.ob (.b true) (.bnds (.at a1.1) (.at a2.1) (.ofN (.sub (.at a0.1.2.2) (.n 0)))) <|
 .bi (.b true) (.ext 155) [.s (.adv (.adv (.at a0.1.1) (.at a0.1.2.2) (.n 0) 2) (.sub (.at a0.1.2.2) (.n 0)) (.toN (.at a1.1)) 2) (.sub (.toN (.at a2.1)) (.toN (.at a1.1))) (.sub (.sub (.at a0.1.2.2) (.n 0)) (.toN (.at a1.1))), .s (.at a3.1.1) (.at a3.1.2.1) (.at a3.1.2.2)] [] [(false, [.b])] fun x1 =>
 .test (.not (.at x1.1))
 (.ob (.b true) (.bnds (.at a1.1) (.at a2.1) (.ofN (.sub (.at a0.1.2.2) (.n 0)))) <|
 .ob (.b true) (.bnds (.bin .sub .i64 (.ofN (.at a3.1.2.1)) (.bin .sub .i64 (.at a2.1) (.at a1.1))) (.ofN (.at a3.1.2.1)) (.ofN (.at a3.1.2.2))) <|
 .bi (.b true) (.bi .copy #[51, 51] 3) [.s (.adv (.adv (.at a0.1.1) (.at a0.1.2.2) (.n 0) 2) (.sub (.at a0.1.2.2) (.n 0)) (.toN (.at a1.1)) 2) (.sub (.toN (.at a2.1)) (.toN (.at a1.1))) (.sub (.sub (.at a0.1.2.2) (.n 0)) (.toN (.at a1.1))), .s (.adv (.at a3.1.1) (.at a3.1.2.2) (.toN (.bin .sub .i64 (.ofN (.at a3.1.2.1)) (.bin .sub .i64 (.at a2.1) (.at a1.1)))) 2) (.sub (.at a3.1.2.1) (.toN (.bin .sub .i64 (.ofN (.at a3.1.2.1)) (.bin .sub .i64 (.at a2.1) (.at a1.1))))) (.sub (.at a3.1.2.2) (.toN (.bin .sub .i64 (.ofN (.at a3.1.2.1)) (.bin .sub .i64 (.at a2.1) (.at a1.1)))))] [] [(false, [.i .i64])] fun x2 =>
 .ob (.b true) (.bnds (.ofN (.at a0.1.2.1)) (.ofN (.sub (.toN (.bin .add .i64 (.bin .add .i64 (.ofN (.sub (.toN (.at a1.1)) (.n 0))) (.ofN (.at a3.1.2.1))) (.ofN (.sub (.at a0.1.2.1) (.toN (.at a2.1)))))) (.n 0))) (.ofN (.sub (.at a0.1.2.2) (.n 0)))) <|
 .ob (.b true) (.bnds (.i 0) (.bin .sub .i64 (.ofN (.at a3.1.2.1)) (.bin .sub .i64 (.at a2.1) (.at a1.1))) (.ofN (.at a3.1.2.2))) <|
 .bi (.b true) (.bi .copy #[51, 51] 3) [.s (.adv (.adv (.at a0.1.1) (.at a0.1.2.2) (.n 0) 2) (.sub (.at a0.1.2.2) (.n 0)) (.at a0.1.2.1) 2) (.sub (.sub (.toN (.bin .add .i64 (.bin .add .i64 (.ofN (.sub (.toN (.at a1.1)) (.n 0))) (.ofN (.at a3.1.2.1))) (.ofN (.sub (.at a0.1.2.1) (.toN (.at a2.1)))))) (.n 0)) (.at a0.1.2.1)) (.sub (.sub (.at a0.1.2.2) (.n 0)) (.at a0.1.2.1)), .s (.adv (.at a3.1.1) (.at a3.1.2.2) (.n 0) 2) (.sub (.toN (.bin .sub .i64 (.ofN (.at a3.1.2.1)) (.bin .sub .i64 (.at a2.1) (.at a1.1)))) (.n 0)) (.sub (.at a3.1.2.2) (.n 0))] [] [(false, [.i .i64])] fun x3 =>
 .ob (.b true) (.bnds (.at a1.1) (.ofN (.sub (.toN (.bin .add .i64 (.bin .add .i64 (.ofN (.sub (.toN (.at a1.1)) (.n 0))) (.ofN (.at a3.1.2.1))) (.ofN (.sub (.at a0.1.2.1) (.toN (.at a2.1)))))) (.n 0))) (.ofN (.sub (.at a0.1.2.2) (.n 0)))) <|
 .call (.b true) true 156 [.s (.adv (.adv (.at a0.1.1) (.at a0.1.2.2) (.n 0) 2) (.sub (.at a0.1.2.2) (.n 0)) (.toN (.at a1.1)) 2) (.sub (.sub (.toN (.bin .add .i64 (.bin .add .i64 (.ofN (.sub (.toN (.at a1.1)) (.n 0))) (.ofN (.at a3.1.2.1))) (.ofN (.sub (.at a0.1.2.1) (.toN (.at a2.1)))))) (.n 0)) (.toN (.at a1.1))) (.sub (.sub (.at a0.1.2.2) (.n 0)) (.toN (.at a1.1))), .i .i64 (.bin .sub .i64 (.ofN (.at a3.1.2.1)) (.bin .sub .i64 (.at a2.1) (.at a1.1)))] [] [] [] [] fun x4 y4 =>
 .ret (.s (.adv (.at a0.1.1) (.at a0.1.2.2) (.n 0) 2) (.sub (.toN (.bin .add .i64 (.bin .add .i64 (.ofN (.sub (.toN (.at a1.1)) (.n 0))) (.ofN (.at a3.1.2.1))) (.ofN (.sub (.at a0.1.2.1) (.toN (.at a2.1)))))) (.n 0)) (.sub (.at a0.1.2.2) (.n 0))) [] [])
 (.ob (.b true) (.bnds (.ofN (.at a0.1.2.1)) (.ofN (.sub (.toN (.bin .add .i64 (.bin .add .i64 (.ofN (.sub (.toN (.at a1.1)) (.n 0))) (.ofN (.at a3.1.2.1))) (.ofN (.sub (.at a0.1.2.1) (.toN (.at a2.1)))))) (.n 0))) (.ofN (.sub (.at a0.1.2.2) (.n 0)))) <|
 .bi (.b true) (.ext 155) [.s (.adv (.adv (.at a0.1.1) (.at a0.1.2.2) (.n 0) 2) (.sub (.at a0.1.2.2) (.n 0)) (.at a0.1.2.1) 2) (.sub (.sub (.toN (.bin .add .i64 (.bin .add .i64 (.ofN (.sub (.toN (.at a1.1)) (.n 0))) (.ofN (.at a3.1.2.1))) (.ofN (.sub (.at a0.1.2.1) (.toN (.at a2.1)))))) (.n 0)) (.at a0.1.2.1)) (.sub (.sub (.at a0.1.2.2) (.n 0)) (.at a0.1.2.1)), .s (.at a3.1.1) (.at a3.1.2.1) (.at a3.1.2.2)] [] [(false, [.b])] fun x2 =>
 .test (.not (.at x2.1))
 (.ob (.b true) (.bnds (.ofN (.at a0.1.2.1)) (.ofN (.sub (.toN (.bin .add .i64 (.bin .add .i64 (.ofN (.sub (.toN (.at a1.1)) (.n 0))) (.ofN (.at a3.1.2.1))) (.ofN (.sub (.at a0.1.2.1) (.toN (.at a2.1)))))) (.n 0))) (.ofN (.sub (.at a0.1.2.2) (.n 0)))) <|
 .ob (.b true) (.bnds (.i 0) (.bin .sub .i64 (.ofN (.at a3.1.2.1)) (.bin .sub .i64 (.at a2.1) (.at a1.1))) (.ofN (.at a3.1.2.2))) <|
 .bi (.b true) (.bi .copy #[51, 51] 3) [.s (.adv (.adv (.at a0.1.1) (.at a0.1.2.2) (.n 0) 2) (.sub (.at a0.1.2.2) (.n 0)) (.at a0.1.2.1) 2) (.sub (.sub (.toN (.bin .add .i64 (.bin .add .i64 (.ofN (.sub (.toN (.at a1.1)) (.n 0))) (.ofN (.at a3.1.2.1))) (.ofN (.sub (.at a0.1.2.1) (.toN (.at a2.1)))))) (.n 0)) (.at a0.1.2.1)) (.sub (.sub (.at a0.1.2.2) (.n 0)) (.at a0.1.2.1)), .s (.adv (.at a3.1.1) (.at a3.1.2.2) (.n 0) 2) (.sub (.toN (.bin .sub .i64 (.ofN (.at a3.1.2.1)) (.bin .sub .i64 (.at a2.1) (.at a1.1)))) (.n 0)) (.sub (.at a3.1.2.2) (.n 0))] [] [(false, [.i .i64])] fun x3 =>
 .ob (.b true) (.bnds (.at a1.1) (.at a2.1) (.ofN (.sub (.at a0.1.2.2) (.n 0)))) <|
 .ob (.b true) (.bnds (.bin .sub .i64 (.ofN (.at a3.1.2.1)) (.bin .sub .i64 (.at a2.1) (.at a1.1))) (.ofN (.at a3.1.2.1)) (.ofN (.at a3.1.2.2))) <|
 .bi (.b true) (.bi .copy #[51, 51] 3) [.s (.adv (.adv (.at a0.1.1) (.at a0.1.2.2) (.n 0) 2) (.sub (.at a0.1.2.2) (.n 0)) (.toN (.at a1.1)) 2) (.sub (.toN (.at a2.1)) (.toN (.at a1.1))) (.sub (.sub (.at a0.1.2.2) (.n 0)) (.toN (.at a1.1))), .s (.adv (.at a3.1.1) (.at a3.1.2.2) (.toN (.bin .sub .i64 (.ofN (.at a3.1.2.1)) (.bin .sub .i64 (.at a2.1) (.at a1.1)))) 2) (.sub (.at a3.1.2.1) (.toN (.bin .sub .i64 (.ofN (.at a3.1.2.1)) (.bin .sub .i64 (.at a2.1) (.at a1.1))))) (.sub (.at a3.1.2.2) (.toN (.bin .sub .i64 (.ofN (.at a3.1.2.1)) (.bin .sub .i64 (.at a2.1) (.at a1.1)))))] [] [(false, [.i .i64])] fun x4 =>
 .ob (.b true) (.bnds (.at a1.1) (.ofN (.sub (.toN (.bin .add .i64 (.bin .add .i64 (.ofN (.sub (.toN (.at a1.1)) (.n 0))) (.ofN (.at a3.1.2.1))) (.ofN (.sub (.at a0.1.2.1) (.toN (.at a2.1)))))) (.n 0))) (.ofN (.sub (.at a0.1.2.2) (.n 0)))) <|
 .call (.b true) true 156 [.s (.adv (.adv (.at a0.1.1) (.at a0.1.2.2) (.n 0) 2) (.sub (.at a0.1.2.2) (.n 0)) (.toN (.at a1.1)) 2) (.sub (.sub (.toN (.bin .add .i64 (.bin .add .i64 (.ofN (.sub (.toN (.at a1.1)) (.n 0))) (.ofN (.at a3.1.2.1))) (.ofN (.sub (.at a0.1.2.1) (.toN (.at a2.1)))))) (.n 0)) (.toN (.at a1.1))) (.sub (.sub (.at a0.1.2.2) (.n 0)) (.toN (.at a1.1))), .i .i64 (.bin .sub .i64 (.ofN (.at a3.1.2.1)) (.bin .sub .i64 (.at a2.1) (.at a1.1)))] [] [] [] [] fun x5 y5 =>
 .ret (.s (.adv (.at a0.1.1) (.at a0.1.2.2) (.n 0) 2) (.sub (.toN (.bin .add .i64 (.bin .add .i64 (.ofN (.sub (.toN (.at a1.1)) (.n 0))) (.ofN (.at a3.1.2.1))) (.ofN (.sub (.at a0.1.2.1) (.toN (.at a2.1)))))) (.n 0)) (.sub (.at a0.1.2.2) (.n 0))) [] [])
 (.ob (.b true) (.bnds (.at a2.1) (.ofN (.at a0.1.2.1)) (.ofN (.at a0.1.2.2))) <|
 .call (.b true) true 157 [.s (.at a3.1.1) (.at a3.1.2.1) (.at a3.1.2.2), .s (.adv (.at a0.1.1) (.at a0.1.2.2) (.toN (.at a2.1)) 2) (.sub (.at a0.1.2.1) (.toN (.at a2.1))) (.sub (.at a0.1.2.2) (.toN (.at a2.1)))] [] [] [(false, [.i .i64])] [] fun x3 y3 =>
 .ob (.b true) (.bnds (.at a1.1) (.ofN (.sub (.toN (.bin .add .i64 (.bin .add .i64 (.ofN (.sub (.toN (.at a1.1)) (.n 0))) (.ofN (.at a3.1.2.1))) (.ofN (.sub (.at a0.1.2.1) (.toN (.at a2.1)))))) (.n 0))) (.ofN (.sub (.at a0.1.2.2) (.n 0)))) <|
 .bi (.b true) (.bi .copy #[51, 51] 3) [.s (.adv (.adv (.at a0.1.1) (.at a0.1.2.2) (.n 0) 2) (.sub (.at a0.1.2.2) (.n 0)) (.toN (.at a1.1)) 2) (.sub (.sub (.toN (.bin .add .i64 (.bin .add .i64 (.ofN (.sub (.toN (.at a1.1)) (.n 0))) (.ofN (.at a3.1.2.1))) (.ofN (.sub (.at a0.1.2.1) (.toN (.at a2.1)))))) (.n 0)) (.toN (.at a1.1))) (.sub (.sub (.at a0.1.2.2) (.n 0)) (.toN (.at a1.1))), .s (.at a3.1.1) (.at a3.1.2.1) (.at a3.1.2.2)] [] [(false, [.i .i64])] fun x4 =>
 .ob (.b true) (.bnds (.bin .add .i64 (.at a1.1) (.ofN (.at a3.1.2.1))) (.ofN (.sub (.toN (.bin .add .i64 (.bin .add .i64 (.ofN (.sub (.toN (.at a1.1)) (.n 0))) (.ofN (.at a3.1.2.1))) (.ofN (.sub (.at a0.1.2.1) (.toN (.at a2.1)))))) (.n 0))) (.ofN (.sub (.at a0.1.2.2) (.n 0)))) <|
 .ob (.b true) (.bnds (.bin .add .i64 (.at a1.1) (.at x3.1)) (.ofN (.sub (.toN (.bin .add .i64 (.bin .add .i64 (.ofN (.sub (.toN (.at a1.1)) (.n 0))) (.ofN (.at a3.1.2.1))) (.ofN (.sub (.at a0.1.2.1) (.toN (.at a2.1)))))) (.n 0))) (.ofN (.sub (.at a0.1.2.2) (.n 0)))) <|
 .bi (.b true) (.bi .copy #[51, 51] 3) [.s (.adv (.adv (.at a0.1.1) (.at a0.1.2.2) (.n 0) 2) (.sub (.at a0.1.2.2) (.n 0)) (.toN (.bin .add .i64 (.at a1.1) (.ofN (.at a3.1.2.1)))) 2) (.sub (.sub (.toN (.bin .add .i64 (.bin .add .i64 (.ofN (.sub (.toN (.at a1.1)) (.n 0))) (.ofN (.at a3.1.2.1))) (.ofN (.sub (.at a0.1.2.1) (.toN (.at a2.1)))))) (.n 0)) (.toN (.bin .add .i64 (.at a1.1) (.ofN (.at a3.1.2.1))))) (.sub (.sub (.at a0.1.2.2) (.n 0)) (.toN (.bin .add .i64 (.at a1.1) (.ofN (.at a3.1.2.1))))), .s (.adv (.adv (.at a0.1.1) (.at a0.1.2.2) (.n 0) 2) (.sub (.at a0.1.2.2) (.n 0)) (.toN (.bin .add .i64 (.at a1.1) (.at x3.1))) 2) (.sub (.sub (.toN (.bin .add .i64 (.bin .add .i64 (.ofN (.sub (.toN (.at a1.1)) (.n 0))) (.ofN (.at a3.1.2.1))) (.ofN (.sub (.at a0.1.2.1) (.toN (.at a2.1)))))) (.n 0)) (.toN (.bin .add .i64 (.at a1.1) (.at x3.1)))) (.sub (.sub (.at a0.1.2.2) (.n 0)) (.toN (.bin .add .i64 (.at a1.1) (.at x3.1))))] [] [(false, [.i .i64])] fun x5 =>
 .ret (.s (.adv (.at a0.1.1) (.at a0.1.2.2) (.n 0) 2) (.sub (.toN (.bin .add .i64 (.bin .add .i64 (.ofN (.sub (.toN (.at a1.1)) (.n 0))) (.ofN (.at a3.1.2.1))) (.ofN (.sub (.at a0.1.2.1) (.toN (.at a2.1)))))) (.n 0)) (.sub (.at a0.1.2.2) (.n 0))) [] [])))))))
theorem repE.run (a0 : Cells S.ty [.s]) (a1 : Cells S.ty [.i .i64]) (a2 : Cells S.ty [.i .i64]) (a3 : Cells S.ty [.s]) : runFn Tryz.prog Tryz.f143 (bodyOf Tryz.f143) [] (repE.args a0 a1 a2 a3) (repE.giv a0 a1 a2 a3) = repE.T a0 a1 a2 a3 := by kernel_rfl
def splE.args (a0 : Cells S.ty [.s]) (a1 : Cells S.ty [.i .i64]) (a2 : Cells S.ty [.i .i64]) (a3 : Cells S.ty [.s]) : List (SV S.ty) := [.s (.at a0.1.1) (.at a0.1.2.1) (.at a0.1.2.2), .i .i64 (.at a1.1), .i .i64 (.at a2.1), .s (.at a3.1.1) (.at a3.1.2.1) (.at a3.1.2.2)]
def splE.giv (a0 : Cells S.ty [.s]) (a1 : Cells S.ty [.i .i64]) (a2 : Cells S.ty [.i .i64]) (a3 : Cells S.ty [.s]) : List (Nat × Own S.ty) := []
def splE.T (a0 : Cells S.ty [.s]) (a1 : Cells S.ty [.i .i64]) (a2 : Cells S.ty [.i .i64]) (a3 : Cells S.ty [.s]) : Tree S.ty :=
 .call (.b true) true 144 [.s (.at a0.1.1) (.at a0.1.2.1) (.at a0.1.2.2)] [] [] [(false, [.s])] [] fun x0 y0 =>
 .call (.b true) true 143 [.s (.at x0.1.1) (.at x0.1.2.1) (.at x0.1.2.2), .i .i64 (.at a1.1), .i .i64 (.at a2.1), .s (.at a3.1.1) (.at a3.1.2.1) (.at a3.1.2.2)] [] [] [(false, [.s])] [] fun x1 y1 =>
 .ret (.s (.at x1.1.1) (.at x1.1.2.1) (.at x1.1.2.2)) [] []
theorem splE.run (a0 : Cells S.ty [.s]) (a1 : Cells S.ty [.i .i64]) (a2 : Cells S.ty [.i .i64]) (a3 : Cells S.ty [.s]) : runFn Tryz.prog Tryz.f121 (bodyOf Tryz.f121) [] (splE.args a0 a1 a2 a3) (splE.giv a0 a1 a2 a3) = splE.T a0 a1 a2 a3 := by kernel_rfl
def eput.args (a0 : Cells S.ty [.s]) (a1 : Cells S.ty [.t, .i .i64]) : List (SV S.ty) := [.s (.at a0.1.1) (.at a0.1.2.1) (.at a0.1.2.2), .agg (cellsSV [.t, .i .i64] a1)]
def eput.giv (a0 : Cells S.ty [.s]) (a1 : Cells S.ty [.t, .i .i64]) : List (Nat × Own S.ty) := []
def eput.T (a0 : Cells S.ty [.s]) (a1 : Cells S.ty [.t, .i .i64]) : Tree S.ty :=
 .new 3 <|
 .call (.b true) true 120 [.s (.at a0.1.1) (.at a0.1.2.1) (.at a0.1.2.2), .t (.at a1.1)] [] [] [(false, [.i .i64]), (false, [.b])] [] fun x0 y0 =>
 .test (.at x0.2.1)
 (.new 20 <|
 .call (.b true) true 121 [.s (.at a0.1.1) (.at a0.1.2.1) (.at a0.1.2.2), .i .i64 (.at x0.1), .i .i64 (.bin .add .i64 (.at x0.1) (.i 1)), .os 20 0 1 1] [] [(20, (cellsSV [.t, .i .i64] a1))] [(false, [.s])] [] fun x1 y1 =>
 .ret (.s (.at x1.1.1) (.at x1.1.2.1) (.at x1.1.2.2)) [] [])
 (.new 26 <|
 .call (.b true) true 121 [.s (.at a0.1.1) (.at a0.1.2.1) (.at a0.1.2.2), .i .i64 (.at x0.1), .i .i64 (.at x0.1), .os 26 0 1 1] [] [(26, (cellsSV [.t, .i .i64] a1))] [(false, [.s])] [] fun x1 y1 =>
 .ret (.s (.at x1.1.1) (.at x1.1.2.1) (.at x1.1.2.2)) [] [])
theorem eput.run (a0 : Cells S.ty [.s]) (a1 : Cells S.ty [.t, .i .i64]) : runFn Tryz.prog Tryz.f102 (bodyOf Tryz.f102) [] (eput.args a0 a1) (eput.giv a0 a1) = eput.T a0 a1 := by kernel_rfl
def edrop.args (a0 : Cells S.ty [.s]) (a1 : Cells S.ty [.t]) : List (SV S.ty) := [.s (.at a0.1.1) (.at a0.1.2.1) (.at a0.1.2.2), .t (.at a1.1)]
def edrop.giv (a0 : Cells S.ty [.s]) (a1 : Cells S.ty [.t]) : List (Nat × Own S.ty) := []
def edrop.T (a0 : Cells S.ty [.s]) (a1 : Cells S.ty [.t]) : Tree S.ty :=
 .call (.b true) true 120 [.s (.at a0.1.1) (.at a0.1.2.1) (.at a0.1.2.2), .t (.at a1.1)] [] [] [(false, [.i .i64]), (false, [.b])] [] fun x0 y0 =>
 .test (.not (.at x0.2.1))
 (.call (.b true) true 121 [.s (.at a0.1.1) (.at a0.1.2.1) (.at a0.1.2.2), .i .i64 (.at x0.1), .i .i64 (.at x0.1), .s .anil (.n 0) (.n 0)] [] [] [(false, [.s])] [] fun x1 y1 =>
 .ret (.s (.at x1.1.1) (.at x1.1.2.1) (.at x1.1.2.2)) [] [])
 (.call (.b true) true 121 [.s (.at a0.1.1) (.at a0.1.2.1) (.at a0.1.2.2), .i .i64 (.at x0.1), .i .i64 (.bin .add .i64 (.at x0.1) (.i 1)), .s .anil (.n 0) (.n 0)] [] [] [(false, [.s])] [] fun x1 y1 =>
 .ret (.s (.at x1.1.1) (.at x1.1.2.1) (.at x1.1.2.2)) [] [])
theorem edrop.run (a0 : Cells S.ty [.s]) (a1 : Cells S.ty [.t]) : runFn Tryz.prog Tryz.f98 (bodyOf Tryz.f98) [] (edrop.args a0 a1) (edrop.giv a0 a1) = edrop.T a0 a1 := by kernel_rfl
def ejoin.args (a0 : Cells S.ty [.s]) : List (SV S.ty) := [.s (.at a0.1.1) (.at a0.1.2.1) (.at a0.1.2.2)]
def ejoin.giv (a0 : Cells S.ty [.s]) : List (Nat × Own S.ty) := []
def ejoin.T (a0 : Cells S.ty [.s]) : Tree S.ty :=
 .loop 0 [.i .i64, .i .i64] [] [.i .i64 (.i 0), .i .i64 (.i 0)] [] fun x0 y0 =>
 .test (.cmp .lss (.at x0.2.1) (.ofN (.at a0.1.2.1)))
 (.ob (.b true) (.idx (.at x0.2.1) (.at a0.1.2.1) (.at a0.1.1)) <|
 .uld (.b true) (.at a0.1.1) (.mul (.toN (.at x0.2.1)) 1) [.v] fun x1 =>
 .ob (.b true) (.ifc (.at x1.1)) <|
 .test (.not (.nilV (.at x1.1)))
 (.again 0 [.i .i64 (.bin .add .i64 (.at x0.1) (.i 1)), .i .i64 (.bin .add .i64 (.at x0.2.1) (.i 1))] [] [])
 (.again 0 [.i .i64 (.at x0.1), .i .i64 (.bin .add .i64 (.at x0.2.1) (.i 1))] [] []))
 (.test (.cmp .eql (.at x0.1) (.i 0))
 (.ret (.lit .nilIface) [] [])
 (.bi (.b true) (.mk 141) [.i .i64 (.i 0), .i .i64 (.at x0.1)] [] [(false, [.s])] fun x1 =>
 .new 25 <|
 .loop 1 [.i .i64] [[.s]] [.i .i64 (.i 0)] [[.s (.at x1.1.1) (.at x1.1.2.1) (.at x1.1.2.2)]] fun x2 y2 =>
 .test (.cmp .lss (.at x2.1) (.ofN (.at a0.1.2.1)))
 (.ob (.b true) (.idx (.at x2.1) (.at a0.1.2.1) (.at a0.1.1)) <|
 .uld (.b true) (.at a0.1.1) (.mul (.toN (.at x2.1)) 1) [.v] fun x3 =>
 .ob (.b true) (.ifc (.at x3.1)) <|
 .test (.not (.nilV (.at x3.1)))
 (.ob (.b true) (.one (.at x3.1)) <|
 .new 40 <|
 .bi (.b true) (.bi .append #[141, 141] 141) [.s (.at y2.1.1.1) (.at y2.1.1.2.1) (.at y2.1.1.2.2), .os 40 0 1 1] [(40, [.v (.at x3.1)])] [(false, [.s])] fun x4 =>
 .again 1 [.i .i64 (.bin .add .i64 (.at x2.1) (.i 1))] [[.s (.at x4.1.1) (.at x4.1.2.1) (.at x4.1.2.2)]] [])
 (.again 1 [.i .i64 (.bin .add .i64 (.at x2.1) (.i 1))] [[.s (.at y2.1.1.1) (.at y2.1.1.2.1) (.at y2.1.1.2.2)]] []))
 (.ret (.ifc 142 (.p 25 0)) [] [(25, [.s (.at y2.1.1.1) (.at y2.1.1.2.1) (.at y2.1.1.2.2)])])))
theorem ejoin.run (a0 : Cells S.ty [.s]) : runFn Tryz.prog Tryz.f48 (bodyOf Tryz.f48) [⟨3, [3, 11], []⟩, ⟨12, [28], [25]⟩] (ejoin.args a0) (ejoin.giv a0) = ejoin.T a0 := by kernel_rfl
def no_.args (a0 : Cells S.ty [.i .i64]) : List (SV S.ty) := [.i .i64 (.at a0.1)]
def no_.giv (a0 : Cells S.ty [.i .i64]) : List (Nat × Own S.ty) := []
def no_.T (a0 : Cells S.ty [.i .i64]) : Tree S.ty :=
 .test (.cmp .eql (.at a0.1) (.i 0))
 (.ret (.lit .nilIface) [] [])
 (.new 7 <|
 .call (.b true) true 48 [.os 7 0 1 1] [] [(7, [.ifc 92 (.i .i64 (.at a0.1))])] [(false, [.v])] [] fun x0 y0 =>
 .ret (.v (.at x0.1)) [] [])
theorem no_.run (a0 : Cells S.ty [.i .i64]) : runFn Tryz.prog Tryz.f84 (bodyOf Tryz.f84) [] (no_.args a0) (no_.giv a0) = no_.T a0 := by kernel_rfl
def number.args (a0 : Cells S.ty [.v]) : List (SV S.ty) := [.v (.at a0.1)]
def number.giv (a0 : Cells S.ty [.v]) : List (Nat × Own S.ty) := []
def number.T (a0 : Cells S.ty [.v]) : Tree S.ty :=
 .new 3 <|
 .call (.b true) true 117 [.v (.at a0.1), .ifc 174 (.p 3 0)] [(3, [.i .i64 (.i 0)])] [] [(false, [.b])] [[.i .i64]] fun x0 y0 =>
 .test (.at x0.1)
 (.ret (.i .i64 (.at y0.1.1)) [] [])
 (.ret (.i .i64 (.i 0)) [] [])
theorem number.run (a0 : Cells S.ty [.v]) : runFn Tryz.prog Tryz.f93 (bodyOf Tryz.f93) [] (number.args a0) (number.giv a0) = number.T a0 := by kernel_rfl
end Go.Proofs.YtpfbimkpcnnfkaaGreatDoor.Sx
set_option maxRecDepth 100000
set_option linter.unusedVariables false
namespace Go.Proofs.YtpfbimkpcnnfkaaGreatDoor.Sx
open Go Go.RowKit Go.Proofs.YtpfbimkpcnnfkaaGreatDoor
abbrev K5 : List CK := [.s, .i .i64, .i .i64, .i .i64]
abbrev K6 : List CK := [.i .i64, .t, .i .i64, .b, .i .i64]
abbrev K7 : List CK := [.i .i64, .t, .i .i64, .b, .v]
abbrev K8 : List CK := [.s, .i .i64, .i .i64, .i .i64, .i .i64]
abbrev K9 : List CK := [.i .i64, .t, .i .i64, .b, .i .i64, .i .i64, .i .i64, .i .i64, .i .i64, .i .i64, .t, .s, .v]
def cnode.args (a0 : Cells S.ty K5) (a1 : Cells S.ty [.i .i64]) : List (SV S.ty) := [.p 17 0, .i .i64 (.at a1.1)]
def cnode.giv (a0 : Cells S.ty K5) (a1 : Cells S.ty [.i .i64]) : List (Nat × Own S.ty) := [(17, ⟨true, K5, some (cellsSV K5 a0)⟩)]
def cnode.T (a0 : Cells S.ty K5) (a1 : Cells S.ty [.i .i64]) : Tree S.ty :=
 .new 4 <|
 .call (.b true) true 24 [.agg ((cellsSV K5 a0).take 3), .i .i64 (.at a1.1)] [] [] [(true, K0), (false, [.b])] [] fun x0 y0 =>
 .new 5 <|
 .ret (.agg ((cellsSV K2 x0).take 8)) [(cellsSV K5 a0)] []
theorem cnode.run (a0 : Cells S.ty K5) (a1 : Cells S.ty [.i .i64]) : runFn Tryz.prog Tryz.f85 (bodyOf Tryz.f85) [] (cnode.args a0 a1) (cnode.giv a0 a1) = cnode.T a0 a1 := by kernel_rfl
def writes.args (a0 : Cells S.ty K5) (a1 : Cells S.ty [.i .i64]) (a2 : Cells S.ty [.i .i64]) : List (SV S.ty) := [.p 19 0, .i .i64 (.at a1.1), .i .i64 (.at a2.1)]
def writes.giv (a0 : Cells S.ty K5) (a1 : Cells S.ty [.i .i64]) (a2 : Cells S.ty [.i .i64]) : List (Nat × Own S.ty) := [(19, ⟨true, K5, some (cellsSV K5 a0)⟩)]
def writes.T (a0 : Cells S.ty K5) (a1 : Cells S.ty [.i .i64]) (a2 : Cells S.ty [.i .i64]) : Tree S.ty :=
 .call (.b true) true 85 [.p 19 0, .i .i64 (.at a2.1)] [(19, (cellsSV K5 a0))] [] [(true, K0)] [K5] fun x0 y0 =>
 .new 7 <|
 .call (.b true) true 94 [.i .i64 (.at x0.2.1), .i .i64 (.at x0.2.2.1), .i .i64 (.at a1.1), .i .i64 (.i 2)] [] [] [(false, [.b])] [] fun x1 y1 =>
 .test (.not (.at x1.1))
 (.ret (.ifc 92 (.i .i64 (.i 7))) [(cellsSV K5 y0.1)] [])
 (.ret (.lit .nilIface) [(cellsSV K5 y0.1)] [])
theorem writes.run (a0 : Cells S.ty K5) (a1 : Cells S.ty [.i .i64]) (a2 : Cells S.ty [.i .i64]) : runFn Tryz.prog Tryz.f49 (bodyOf Tryz.f49) [] (writes.args a0 a1 a2) (writes.giv a0 a1 a2) = writes.T a0 a1 a2 := by kernel_rfl
def cwalk.args (a0 : Cells S.ty K5) (a1 : Cells S.ty [.i .i64, .i .i64]) (a2 : Cells S.ty [.t]) : List (SV S.ty) := [.p 26 0, .agg (cellsSV [.i .i64, .i .i64] a1), .t (.at a2.1)]
def cwalk.giv (a0 : Cells S.ty K5) (a1 : Cells S.ty [.i .i64, .i .i64]) (a2 : Cells S.ty [.t]) : List (Nat × Own S.ty) := [(26, ⟨true, K5, some (cellsSV K5 a0)⟩)]
def cwalk.T (a0 : Cells S.ty K5) (a1 : Cells S.ty [.i .i64, .i .i64]) (a2 : Cells S.ty [.t]) : Tree S.ty :=
 .new 4 <|
 .new 6 <|
 .call (.b true) true 89 [.agg ((cellsSV K5 a0).take 3), .i .i64 (.at a1.1), .i .i64 (.at a1.2.1), .t (.at a2.1), .b (.b false)] [] [] [(true, K3), (false, [.i .i64])] [] fun x0 y0 =>
 .new 8 <|
 .call (.b true) false 84 [.i .i64 (.at x0.2.2.2.2.1)] [] [] [(false, [.v])] [] fun x1 y1 =>
 .ret (.tup [.agg ((cellsSV K6 x0).take 4), .v (.at x1.1)]) [(cellsSV K5 a0)] []
theorem cwalk.run (a0 : Cells S.ty K5) (a1 : Cells S.ty [.i .i64, .i .i64]) (a2 : Cells S.ty [.t]) : runFn Tryz.prog Tryz.f46 (bodyOf Tryz.f46) [] (cwalk.args a0 a1 a2) (cwalk.giv a0 a1 a2) = cwalk.T a0 a1 a2 := by kernel_rfl
def there.args (a0 : Cells S.ty K5) (a1 : Cells S.ty [.i .i64, .i .i64]) (a2 : Cells S.ty [.t]) : List (SV S.ty) := [.p 32 0, .agg (cellsSV [.i .i64, .i .i64] a1), .t (.at a2.1)]
def there.giv (a0 : Cells S.ty K5) (a1 : Cells S.ty [.i .i64, .i .i64]) (a2 : Cells S.ty [.t]) : List (Nat × Own S.ty) := [(32, ⟨true, K5, some (cellsSV K5 a0)⟩)]
def there.T (a0 : Cells S.ty K5) (a1 : Cells S.ty [.i .i64, .i .i64]) (a2 : Cells S.ty [.t]) : Tree S.ty :=
 .new 4 <|
 .new 6 <|
 .new 7 <|
 .call (.b true) true 46 [.p 32 0, .agg (cellsSV [.i .i64, .i .i64] a1), .t (.at a2.1)] [(32, (cellsSV K5 a0))] [] [(true, K3), (false, [.v])] [K5] fun x0 y0 =>
 .new 9 <|
 .ob (.b true) (.ifc (.at x0.2.2.2.2.1)) <|
 .test (.ite (.nilV (.at x0.2.2.2.2.1)) (.cmp .lss (.at x0.2.2.1) (.i 0)) (.b false))
 (.call (.b true) false 85 [.p 32 0, .i .i64 (.at x0.2.2.1)] [(32, (cellsSV K5 y0.1))] [] [(true, K0)] [K5] fun x1 y1 =>
 .ret (.tup [.agg ((cellsSV K7 x0).take 4), .agg (cellsSV K0 x1), .ifc 92 (.i .i64 (.i 2))]) [(cellsSV K5 y1.1)] [])
 (.call (.b true) false 85 [.p 32 0, .i .i64 (.at x0.2.2.1)] [(32, (cellsSV K5 y0.1))] [] [(true, K0)] [K5] fun x1 y1 =>
 .ret (.tup [.agg ((cellsSV K7 x0).take 4), .agg (cellsSV K0 x1), .v (.at x0.2.2.2.2.1)]) [(cellsSV K5 y1.1)] [])
theorem there.run (a0 : Cells S.ty K5) (a1 : Cells S.ty [.i .i64, .i .i64]) (a2 : Cells S.ty [.t]) : runFn Tryz.prog Tryz.f45 (bodyOf Tryz.f45) [] (there.args a0 a1 a2) (there.giv a0 a1 a2) = there.T a0 a1 a2 := by kernel_rfl
def alive.args (a0 : Cells S.ty K5) (a1 : Cells S.ty [.i .i64]) : List (SV S.ty) := [.p 11 0, .i .i64 (.at a1.1)]
def alive.giv (a0 : Cells S.ty K5) (a1 : Cells S.ty [.i .i64]) : List (Nat × Own S.ty) := [(11, ⟨true, K5, some (cellsSV K5 a0)⟩)]
def alive.T (a0 : Cells S.ty K5) (a1 : Cells S.ty [.i .i64]) : Tree S.ty :=
 .call (.b true) true 85 [.p 11 0, .i .i64 (.at a1.1)] [(11, (cellsSV K5 a0))] [] [(true, K0)] [K5] fun x0 y0 =>
 .test (.cmp .lss (.at x0.2.2.2.1) (.i 1))
 (.ret (.ifc 92 (.i .i64 (.i 2))) [(cellsSV K5 y0.1)] [])
 (.ret (.lit .nilIface) [(cellsSV K5 y0.1)] [])
theorem alive.run (a0 : Cells S.ty K5) (a1 : Cells S.ty [.i .i64]) : runFn Tryz.prog Tryz.f95 (bodyOf Tryz.f95) [] (alive.args a0 a1) (alive.giv a0 a1) = alive.T a0 a1 := by kernel_rfl
def free.args (a0 : Cells S.ty K5) (a1 : Cells S.ty [.i .i64, .i .i64]) (a2 : Cells S.ty K3) : List (SV S.ty) := [.p 25 0, .agg (cellsSV [.i .i64, .i .i64] a1), .agg (cellsSV K3 a2)]
def free.giv (a0 : Cells S.ty K5) (a1 : Cells S.ty [.i .i64, .i .i64]) (a2 : Cells S.ty K3) : List (Nat × Own S.ty) := [(25, ⟨true, K5, some (cellsSV K5 a0)⟩)]
def free.T (a0 : Cells S.ty K5) (a1 : Cells S.ty [.i .i64, .i .i64]) (a2 : Cells S.ty K3) : Tree S.ty :=
 .new 4 <|
 .new 5 <|
 .test (.cmp .geq (.at a2.2.2.1) (.i 0))
 (.ret (.ifc 92 (.i .i64 (.i 3))) [(cellsSV K5 a0)] [])
 (.call (.b true) true 95 [.p 25 0, .i .i64 (.at a2.1)] [(25, (cellsSV K5 a0))] [] [(false, [.v])] [K5] fun x0 y0 =>
 .ob (.b true) (.ifc (.at x0.1)) <|
 .test (.not (.nilV (.at x0.1)))
 (.ret (.v (.at x0.1)) [(cellsSV K5 y0.1)] [])
 (.call (.b true) true 49 [.p 25 0, .i .i64 (.at a1.1), .i .i64 (.at a2.1)] [(25, (cellsSV K5 y0.1))] [] [(false, [.v])] [K5] fun x1 y1 =>
 .ret (.v (.at x1.1)) [(cellsSV K5 y1.1)] []))
theorem free.run (a0 : Cells S.ty K5) (a1 : Cells S.ty [.i .i64, .i .i64]) (a2 : Cells S.ty K3) : runFn Tryz.prog Tryz.f80 (bodyOf Tryz.f80) [] (free.args a0 a1 a2) (free.giv a0 a1 a2) = free.T a0 a1 a2 := by kernel_rfl
def put1.args (a0 : Cells S.ty K0) (a1 : Cells S.ty K3) (a2 : Cells S.ty [.i .i64]) : List (SV S.ty) := [.p 16 0, .p 17 0, .p 18 0]
def put1.giv (a0 : Cells S.ty K0) (a1 : Cells S.ty K3) (a2 : Cells S.ty [.i .i64]) : List (Nat × Own S.ty) := [(16, ⟨true, K0, some (cellsSV K0 a0)⟩), (17, ⟨true, K3, some (cellsSV K3 a1)⟩), (18, ⟨true, [.i .i64], some [.i .i64 (.at a2.1)]⟩)]
def put1.T (a0 : Cells S.ty K0) (a1 : Cells S.ty K3) (a2 : Cells S.ty [.i .i64]) : Tree S.ty :=
 .call (.b true) true 102 [.s (.at a0.2.2.2.2.2.2.2.1.1) (.at a0.2.2.2.2.2.2.2.1.2.1) (.at a0.2.2.2.2.2.2.2.1.2.2), .agg [.t (.at a1.2.1), .i .i64 (.at a2.1)]] [] [] [(false, [.s])] [] fun x0 y0 =>
 .ret (.tup []) [((cellsSV K0 a0).set 7 (.s (.at x0.1.1) (.at x0.1.2.1) (.at x0.1.2.2))), (cellsSV K3 a1), [.i .i64 (.at a2.1)]] []
theorem put1.run (a0 : Cells S.ty K0) (a1 : Cells S.ty K3) (a2 : Cells S.ty [.i .i64]) : runFn Tryz.prog Tryz.f101 (bodyOf Tryz.f101) [] (put1.args a0 a1 a2) (put1.giv a0 a1 a2) = put1.T a0 a1 a2 := by kernel_rfl
def turnPut.args (a0 : Cells S.ty K5) (a1 : Cells S.ty [.i .i64]) (a2x0 : Cells S.ty [.i .i64, .t, .i .i64, .b]) (a2x1 : Cells S.ty [.i .i64]) : List (SV S.ty) := [.p 22 0, .i .i64 (.at a1.1), .fn (.func 101) [] [.p 25 0, .p 26 0]]
def turnPut.giv (a0 : Cells S.ty K5) (a1 : Cells S.ty [.i .i64]) (a2x0 : Cells S.ty [.i .i64, .t, .i .i64, .b]) (a2x1 : Cells S.ty [.i .i64]) : List (Nat × Own S.ty) := [(22, ⟨true, K5, some (cellsSV K5 a0)⟩), (25, ⟨true, K3, some [.i .i64 (.at a2x0.1), .t (.at a2x0.2.1), .i .i64 (.at a2x0.2.2.1), .b (.at a2x0.2.2.2.1)]⟩), (26, ⟨true, [.i .i64], some [.i .i64 (.at a2x1.1)]⟩)]
def turnPut.T (a0 : Cells S.ty K5) (a1 : Cells S.ty [.i .i64]) (a2x0 : Cells S.ty [.i .i64, .t, .i .i64, .b]) (a2x1 : Cells S.ty [.i .i64]) : Tree S.ty :=
 .call (.b true) true 85 [.p 22 0, .i .i64 (.at a1.1)] [(22, (cellsSV K5 a0))] [] [(true, K0)] [K5] fun x0 y0 =>
 .new 6 <|
 .call (.b true) true 101 [.p 6 0, .p 25 0, .p 26 0] [(6, (cellsSV K0 x0)), (25, [.i .i64 (.at a2x0.1), .t (.at a2x0.2.1), .i .i64 (.at a2x0.2.2.1), .b (.at a2x0.2.2.2.1)]), (26, [.i .i64 (.at a2x1.1)])] [] [] [K0, K3, [.i .i64]] fun x1 y1 =>
 .call (.b true) true 103 [.agg ((cellsSV K5 y0.1).take 3), .i .i64 (.at a1.1), .agg (cellsSV K0 y1.1)] [] [] [(true, [.s, .i .i64, .i .i64])] [] fun x2 y2 =>
 .ret (.tup []) [[.s (.at x2.1.1) (.at x2.1.2.1) (.at x2.1.2.2), .i .i64 (.at x2.2.1), .i .i64 (.at x2.2.2.1), .i .i64 (.at y0.1.2.2.2.1)], (cellsSV K3 y1.2.1), [.i .i64 (.at y1.2.2.1.1)]] []
theorem turnPut.run (a0 : Cells S.ty K5) (a1 : Cells S.ty [.i .i64]) (a2x0 : Cells S.ty [.i .i64, .t, .i .i64, .b]) (a2x1 : Cells S.ty [.i .i64]) : runFn Tryz.prog Tryz.f54 (bodyOf Tryz.f54) [] (turnPut.args a0 a1 a2x0 a2x1) (turnPut.giv a0 a1 a2x0 a2x1) = turnPut.T a0 a1 a2x0 a2x1 := by kernel_rfl
def cput.args (a0 : Cells S.ty K5) (a1 : Cells S.ty K3) (a2 : Cells S.ty [.i .i64]) : List (SV S.ty) := [.p 11 0, .agg (cellsSV K3 a1), .i .i64 (.at a2.1)]
def cput.giv (a0 : Cells S.ty K5) (a1 : Cells S.ty K3) (a2 : Cells S.ty [.i .i64]) : List (Nat × Own S.ty) := [(11, ⟨true, K5, some (cellsSV K5 a0)⟩)]
def cput.T (a0 : Cells S.ty K5) (a1 : Cells S.ty K3) (a2 : Cells S.ty [.i .i64]) : Tree S.ty :=
 .new 4 <|
 .new 5 <|
 .call (.b true) true 54 [.p 11 0, .i .i64 (.at a1.1), .fn (.func 101) [] [.p 4 0, .p 5 0]] [(11, (cellsSV K5 a0)), (4, (cellsSV K3 a1)), (5, [.i .i64 (.at a2.1)])] [] [] [K5, K3, [.i .i64]] fun x0 y0 =>
 .ret (.tup []) [(cellsSV K5 y0.1)] []
theorem cput.run (a0 : Cells S.ty K5) (a1 : Cells S.ty K3) (a2 : Cells S.ty [.i .i64]) : runFn Tryz.prog Tryz.f53 (bodyOf Tryz.f53) [] (cput.args a0 a1 a2) (cput.giv a0 a1 a2) = cput.T a0 a1 a2 := by kernel_rfl
def drop1.args (a0 : Cells S.ty K0) (a1 : Cells S.ty K3) : List (SV S.ty) := [.p 13 0, .p 14 0]
def drop1.giv (a0 : Cells S.ty K0) (a1 : Cells S.ty K3) : List (Nat × Own S.ty) := [(13, ⟨true, K0, some (cellsSV K0 a0)⟩), (14, ⟨true, K3, some (cellsSV K3 a1)⟩)]
def drop1.T (a0 : Cells S.ty K0) (a1 : Cells S.ty K3) : Tree S.ty :=
 .call (.b true) true 98 [.s (.at a0.2.2.2.2.2.2.2.1.1) (.at a0.2.2.2.2.2.2.2.1.2.1) (.at a0.2.2.2.2.2.2.2.1.2.2), .t (.at a1.2.1)] [] [] [(false, [.s])] [] fun x0 y0 =>
 .ret (.tup []) [((cellsSV K0 a0).set 7 (.s (.at x0.1.1) (.at x0.1.2.1) (.at x0.1.2.2))), (cellsSV K3 a1)] []
theorem drop1.run (a0 : Cells S.ty K0) (a1 : Cells S.ty K3) : runFn Tryz.prog Tryz.f97 (bodyOf Tryz.f97) [] (drop1.args a0 a1) (drop1.giv a0 a1) = drop1.T a0 a1 := by kernel_rfl
def turnDrop.args (a0 : Cells S.ty K5) (a1 : Cells S.ty [.i .i64]) (a2x0 : Cells S.ty [.i .i64, .t, .i .i64, .b]) : List (SV S.ty) := [.p 22 0, .i .i64 (.at a1.1), .fn (.func 97) [] [.p 25 0]]
def turnDrop.giv (a0 : Cells S.ty K5) (a1 : Cells S.ty [.i .i64]) (a2x0 : Cells S.ty [.i .i64, .t, .i .i64, .b]) : List (Nat × Own S.ty) := [(22, ⟨true, K5, some (cellsSV K5 a0)⟩), (25, ⟨true, K3, some [.i .i64 (.at a2x0.1), .t (.at a2x0.2.1), .i .i64 (.at a2x0.2.2.1), .b (.at a2x0.2.2.2.1)]⟩)]
def turnDrop.T (a0 : Cells S.ty K5) (a1 : Cells S.ty [.i .i64]) (a2x0 : Cells S.ty [.i .i64, .t, .i .i64, .b]) : Tree S.ty :=
 .call (.b true) true 85 [.p 22 0, .i .i64 (.at a1.1)] [(22, (cellsSV K5 a0))] [] [(true, K0)] [K5] fun x0 y0 =>
 .new 6 <|
 .call (.b true) true 97 [.p 6 0, .p 25 0] [(6, (cellsSV K0 x0)), (25, [.i .i64 (.at a2x0.1), .t (.at a2x0.2.1), .i .i64 (.at a2x0.2.2.1), .b (.at a2x0.2.2.2.1)])] [] [] [K0, K3] fun x1 y1 =>
 .call (.b true) true 103 [.agg ((cellsSV K5 y0.1).take 3), .i .i64 (.at a1.1), .agg (cellsSV K0 y1.1)] [] [] [(true, [.s, .i .i64, .i .i64])] [] fun x2 y2 =>
 .ret (.tup []) [[.s (.at x2.1.1) (.at x2.1.2.1) (.at x2.1.2.2), .i .i64 (.at x2.2.1), .i .i64 (.at x2.2.2.1), .i .i64 (.at y0.1.2.2.2.1)], (cellsSV K3 y1.2.1)] []
theorem turnDrop.run (a0 : Cells S.ty K5) (a1 : Cells S.ty [.i .i64]) (a2x0 : Cells S.ty [.i .i64, .t, .i .i64, .b]) : runFn Tryz.prog Tryz.f54 (bodyOf Tryz.f54) [] (turnDrop.args a0 a1 a2x0) (turnDrop.giv a0 a1 a2x0) = turnDrop.T a0 a1 a2x0 := by kernel_rfl
def cdrop.args (a0 : Cells S.ty K5) (a1 : Cells S.ty K3) : List (SV S.ty) := [.p 9 0, .agg (cellsSV K3 a1)]
def cdrop.giv (a0 : Cells S.ty K5) (a1 : Cells S.ty K3) : List (Nat × Own S.ty) := [(9, ⟨true, K5, some (cellsSV K5 a0)⟩)]
def cdrop.T (a0 : Cells S.ty K5) (a1 : Cells S.ty K3) : Tree S.ty :=
 .new 3 <|
 .call (.b true) true 54 [.p 9 0, .i .i64 (.at a1.1), .fn (.func 97) [] [.p 3 0]] [(9, (cellsSV K5 a0)), (3, (cellsSV K3 a1))] [] [] [K5, K3] fun x0 y0 =>
 .ret (.tup []) [(cellsSV K5 y0.1)] []
theorem cdrop.run (a0 : Cells S.ty K5) (a1 : Cells S.ty K3) : runFn Tryz.prog Tryz.f51 (bodyOf Tryz.f51) [] (cdrop.args a0 a1) (cdrop.giv a0 a1) = cdrop.T a0 a1 := by kernel_rfl
def lose1.args (a0 : Cells S.ty K0) : List (SV S.ty) := [.p 17 0]
def lose1.giv (a0 : Cells S.ty K0) : List (Nat × Own S.ty) := [(17, ⟨true, K0, some (cellsSV K0 a0)⟩)]
def lose1.T (a0 : Cells S.ty K0) : Tree S.ty :=
 .test (.cmp .eql (.at a0.1) (.i 2))
 (.ret (.tup []) [(((cellsSV K0 a0).set 3 (.i .i64 (.bin .sub .i64 (.at a0.2.2.2.1) (.i 1)))).set 5 (.i .i64 (.i 0)))] [])
 (.ret (.tup []) [((cellsSV K0 a0).set 3 (.i .i64 (.bin .sub .i64 (.at a0.2.2.2.1) (.i 1))))] [])
theorem lose1.run (a0 : Cells S.ty K0) : runFn Tryz.prog Tryz.f99 (bodyOf Tryz.f99) [] (lose1.args a0) (lose1.giv a0) = lose1.T a0 := by kernel_rfl
def turnLose.args (a0 : Cells S.ty K5) (a1 : Cells S.ty [.i .i64]) : List (SV S.ty) := [.p 22 0, .i .i64 (.at a1.1), .fn (.func 99) [] []]
def turnLose.giv (a0 : Cells S.ty K5) (a1 : Cells S.ty [.i .i64]) : List (Nat × Own S.ty) := [(22, ⟨true, K5, some (cellsSV K5 a0)⟩)]
def turnLose.T (a0 : Cells S.ty K5) (a1 : Cells S.ty [.i .i64]) : Tree S.ty :=
 .call (.b true) true 85 [.p 22 0, .i .i64 (.at a1.1)] [(22, (cellsSV K5 a0))] [] [(true, K0)] [K5] fun x0 y0 =>
 .new 6 <|
 .call (.b true) true 99 [.p 6 0] [(6, (cellsSV K0 x0))] [] [] [K0] fun x1 y1 =>
 .call (.b true) true 103 [.agg ((cellsSV K5 y0.1).take 3), .i .i64 (.at a1.1), .agg (cellsSV K0 y1.1)] [] [] [(true, [.s, .i .i64, .i .i64])] [] fun x2 y2 =>
 .ret (.tup []) [[.s (.at x2.1.1) (.at x2.1.2.1) (.at x2.1.2.2), .i .i64 (.at x2.2.1), .i .i64 (.at x2.2.2.1), .i .i64 (.at y0.1.2.2.2.1)]] []
theorem turnLose.run (a0 : Cells S.ty K5) (a1 : Cells S.ty [.i .i64]) : runFn Tryz.prog Tryz.f54 (bodyOf Tryz.f54) [] (turnLose.args a0 a1) (turnLose.giv a0 a1) = turnLose.T a0 a1 := by kernel_rfl
def lose.args (a0 : Cells S.ty K5) (a1 : Cells S.ty K3) : List (SV S.ty) := [.p 21 0, .agg (cellsSV K3 a1)]
def lose.giv (a0 : Cells S.ty K5) (a1 : Cells S.ty K3) : List (Nat × Own S.ty) := [(21, ⟨true, K5, some (cellsSV K5 a0)⟩)]
def lose.T (a0 : Cells S.ty K5) (a1 : Cells S.ty K3) : Tree S.ty :=
 .new 3 <|
 .call (.b true) true 51 [.p 21 0, .agg (cellsSV K3 a1)] [(21, (cellsSV K5 a0))] [] [] [K5] fun x0 y0 =>
 .call (.b true) true 54 [.p 21 0, .i .i64 (.at a1.2.2.1), .fn (.func 99) [] []] [(21, (cellsSV K5 y0.1))] [] [] [K5] fun x1 y1 =>
 .call (.b true) true 100 [.agg ((cellsSV K5 y1.1).take 3), .i .i64 (.at a1.2.2.1)] [] [] [(true, [.s, .i .i64, .i .i64])] [] fun x2 y2 =>
 .ret (.tup []) [[.s (.at x2.1.1) (.at x2.1.2.1) (.at x2.1.2.2), .i .i64 (.at x2.2.1), .i .i64 (.at x2.2.2.1), .i .i64 (.at y1.1.2.2.2.1)]] []
theorem lose.run (a0 : Cells S.ty K5) (a1 : Cells S.ty K3) : runFn Tryz.prog Tryz.f52 (bodyOf Tryz.f52) [] (lose.args a0 a1) (lose.giv a0 a1) = lose.T a0 a1 := by kernel_rfl
def link11.args (a0 : Cells S.ty K0) : List (SV S.ty) := [.p 9 0]
def link11.giv (a0 : Cells S.ty K0) : List (Nat × Own S.ty) := [(9, ⟨true, K0, some (cellsSV K0 a0)⟩)]
def link11.T (a0 : Cells S.ty K0) : Tree S.ty :=
 .ret (.tup []) [((cellsSV K0 a0).set 3 (.i .i64 (.bin .add .i64 (.at a0.2.2.2.1) (.i 1))))] []
theorem link11.run (a0 : Cells S.ty K0) : runFn Tryz.prog Tryz.f81 (bodyOf Tryz.f81) [] (link11.args a0) (link11.giv a0) = link11.T a0 := by kernel_rfl
def turnLink.args (a0 : Cells S.ty K5) (a1 : Cells S.ty [.i .i64]) : List (SV S.ty) := [.p 22 0, .i .i64 (.at a1.1), .fn (.func 81) [] []]
def turnLink.giv (a0 : Cells S.ty K5) (a1 : Cells S.ty [.i .i64]) : List (Nat × Own S.ty) := [(22, ⟨true, K5, some (cellsSV K5 a0)⟩)]
def turnLink.T (a0 : Cells S.ty K5) (a1 : Cells S.ty [.i .i64]) : Tree S.ty :=
 .call (.b true) true 85 [.p 22 0, .i .i64 (.at a1.1)] [(22, (cellsSV K5 a0))] [] [(true, K0)] [K5] fun x0 y0 =>
 .new 6 <|
 .call (.b true) true 81 [.p 6 0] [(6, (cellsSV K0 x0))] [] [] [K0] fun x1 y1 =>
 .call (.b true) true 103 [.agg ((cellsSV K5 y0.1).take 3), .i .i64 (.at a1.1), .agg (cellsSV K0 y1.1)] [] [] [(true, [.s, .i .i64, .i .i64])] [] fun x2 y2 =>
 .ret (.tup []) [[.s (.at x2.1.1) (.at x2.1.2.1) (.at x2.1.2.2), .i .i64 (.at x2.2.1), .i .i64 (.at x2.2.2.1), .i .i64 (.at y0.1.2.2.2.1)]] []
theorem turnLink.run (a0 : Cells S.ty K5) (a1 : Cells S.ty [.i .i64]) : runFn Tryz.prog Tryz.f54 (bodyOf Tryz.f54) [] (turnLink.args a0 a1) (turnLink.giv a0 a1) = turnLink.T a0 a1 := by kernel_rfl
def ren11.args (a0 : Cells S.ty K0) (a1 : Cells S.ty K3) : List (SV S.ty) := [.p 8 0, .p 9 0]
def ren11.giv (a0 : Cells S.ty K0) (a1 : Cells S.ty K3) : List (Nat × Own S.ty) := [(8, ⟨true, K0, some (cellsSV K0 a0)⟩), (9, ⟨true, K3, some (cellsSV K3 a1)⟩)]
def ren11.T (a0 : Cells S.ty K0) (a1 : Cells S.ty K3) : Tree S.ty :=
 .ret (.tup []) [((cellsSV K0 a0).set 5 (.i .i64 (.at a1.1))), (cellsSV K3 a1)] []
theorem ren11.run (a0 : Cells S.ty K0) (a1 : Cells S.ty K3) : runFn Tryz.prog Tryz.f55 (bodyOf Tryz.f55) [] (ren11.args a0 a1) (ren11.giv a0 a1) = ren11.T a0 a1 := by kernel_rfl
def turnRen.args (a0 : Cells S.ty K5) (a1 : Cells S.ty [.i .i64]) (a2x0 : Cells S.ty [.i .i64, .t, .i .i64, .b]) : List (SV S.ty) := [.p 22 0, .i .i64 (.at a1.1), .fn (.func 55) [] [.p 25 0]]
def turnRen.giv (a0 : Cells S.ty K5) (a1 : Cells S.ty [.i .i64]) (a2x0 : Cells S.ty [.i .i64, .t, .i .i64, .b]) : List (Nat × Own S.ty) := [(22, ⟨true, K5, some (cellsSV K5 a0)⟩), (25, ⟨true, K3, some [.i .i64 (.at a2x0.1), .t (.at a2x0.2.1), .i .i64 (.at a2x0.2.2.1), .b (.at a2x0.2.2.2.1)]⟩)]
def turnRen.T (a0 : Cells S.ty K5) (a1 : Cells S.ty [.i .i64]) (a2x0 : Cells S.ty [.i .i64, .t, .i .i64, .b]) : Tree S.ty :=
 .call (.b true) true 85 [.p 22 0, .i .i64 (.at a1.1)] [(22, (cellsSV K5 a0))] [] [(true, K0)] [K5] fun x0 y0 =>
 .new 6 <|
 .call (.b true) true 55 [.p 6 0, .p 25 0] [(6, (cellsSV K0 x0)), (25, [.i .i64 (.at a2x0.1), .t (.at a2x0.2.1), .i .i64 (.at a2x0.2.2.1), .b (.at a2x0.2.2.2.1)])] [] [] [K0, K3] fun x1 y1 =>
 .call (.b true) true 103 [.agg ((cellsSV K5 y0.1).take 3), .i .i64 (.at a1.1), .agg (cellsSV K0 y1.1)] [] [] [(true, [.s, .i .i64, .i .i64])] [] fun x2 y2 =>
 .ret (.tup []) [[.s (.at x2.1.1) (.at x2.1.2.1) (.at x2.1.2.2), .i .i64 (.at x2.2.1), .i .i64 (.at x2.2.2.1), .i .i64 (.at y0.1.2.2.2.1)], (cellsSV K3 y1.2.1)] []
theorem turnRen.run (a0 : Cells S.ty K5) (a1 : Cells S.ty [.i .i64]) (a2x0 : Cells S.ty [.i .i64, .t, .i .i64, .b]) : runFn Tryz.prog Tryz.f54 (bodyOf Tryz.f54) [] (turnRen.args a0 a1 a2x0) (turnRen.giv a0 a1 a2x0) = turnRen.T a0 a1 a2x0 := by kernel_rfl
def chm11.args (a0 : Cells S.ty K0) (a1 : Cells S.ty [.i .i64]) : List (SV S.ty) := [.p 8 0, .p 9 0]
def chm11.giv (a0 : Cells S.ty K0) (a1 : Cells S.ty [.i .i64]) : List (Nat × Own S.ty) := [(8, ⟨true, K0, some (cellsSV K0 a0)⟩), (9, ⟨true, [.i .i64], some [.i .i64 (.at a1.1)]⟩)]
def chm11.T (a0 : Cells S.ty K0) (a1 : Cells S.ty [.i .i64]) : Tree S.ty :=
 .ret (.tup []) [((cellsSV K0 a0).set 1 (.i .i64 (.bin .and .i64 (.at a1.1) (.i 63)))), [.i .i64 (.at a1.1)]] []
theorem chm11.run (a0 : Cells S.ty K0) (a1 : Cells S.ty [.i .i64]) : runFn Tryz.prog Tryz.f86 (bodyOf Tryz.f86) [] (chm11.args a0 a1) (chm11.giv a0 a1) = chm11.T a0 a1 := by kernel_rfl
def turnChm.args (a0 : Cells S.ty K5) (a1 : Cells S.ty [.i .i64]) (a2x0 : Cells S.ty [.i .i64]) : List (SV S.ty) := [.p 22 0, .i .i64 (.at a1.1), .fn (.func 86) [] [.p 25 0]]
def turnChm.giv (a0 : Cells S.ty K5) (a1 : Cells S.ty [.i .i64]) (a2x0 : Cells S.ty [.i .i64]) : List (Nat × Own S.ty) := [(22, ⟨true, K5, some (cellsSV K5 a0)⟩), (25, ⟨true, [.i .i64], some [.i .i64 (.at a2x0.1)]⟩)]
def turnChm.T (a0 : Cells S.ty K5) (a1 : Cells S.ty [.i .i64]) (a2x0 : Cells S.ty [.i .i64]) : Tree S.ty :=
 .call (.b true) true 85 [.p 22 0, .i .i64 (.at a1.1)] [(22, (cellsSV K5 a0))] [] [(true, K0)] [K5] fun x0 y0 =>
 .new 6 <|
 .call (.b true) true 86 [.p 6 0, .p 25 0] [(6, (cellsSV K0 x0)), (25, [.i .i64 (.at a2x0.1)])] [] [] [K0, [.i .i64]] fun x1 y1 =>
 .call (.b true) true 103 [.agg ((cellsSV K5 y0.1).take 3), .i .i64 (.at a1.1), .agg (cellsSV K0 y1.1)] [] [] [(true, [.s, .i .i64, .i .i64])] [] fun x2 y2 =>
 .ret (.tup []) [[.s (.at x2.1.1) (.at x2.1.2.1) (.at x2.1.2.2), .i .i64 (.at x2.2.1), .i .i64 (.at x2.2.2.1), .i .i64 (.at y0.1.2.2.2.1)], [.i .i64 (.at y1.2.1.1)]] []
theorem turnChm.run (a0 : Cells S.ty K5) (a1 : Cells S.ty [.i .i64]) (a2x0 : Cells S.ty [.i .i64]) : runFn Tryz.prog Tryz.f54 (bodyOf Tryz.f54) [] (turnChm.args a0 a1 a2x0) (turnChm.giv a0 a1 a2x0) = turnChm.T a0 a1 a2x0 := by kernel_rfl
def enter.args (a0 : Cells S.ty K5) (a1 : Cells S.ty [.i .i64, .i .i64]) (a2 : Cells S.ty [.t]) (a3 : Cells S.ty K0) (a4 : Cells S.ty [.i .i64]) : List (SV S.ty) := [.p 83 0, .agg (cellsSV [.i .i64, .i .i64] a1), .t (.at a2.1), .agg (cellsSV K0 a3), .i .i64 (.at a4.1)]
def enter.giv (a0 : Cells S.ty K5) (a1 : Cells S.ty [.i .i64, .i .i64]) (a2 : Cells S.ty [.t]) (a3 : Cells S.ty K0) (a4 : Cells S.ty [.i .i64]) : List (Nat × Own S.ty) := [(83, ⟨true, K5, some (cellsSV K5 a0)⟩)]
def enter.T (a0 : Cells S.ty K5) (a1 : Cells S.ty [.i .i64, .i .i64]) (a2 : Cells S.ty [.t]) (a3 : Cells S.ty K0) (a4 : Cells S.ty [.i .i64]) : Tree S.ty :=
 .new 6 <|
 .new 8 <|
 .call (.b true) true 46 [.p 83 0, .agg (cellsSV [.i .i64, .i .i64] a1), .t (.at a2.1)] [(83, (cellsSV K5 a0))] [] [(true, K3), (false, [.v])] [K5] fun x0 y0 =>
 .new 11 <|
 .ob (.b true) (.ifc (.at x0.2.2.2.2.1)) <|
 .test (.not (.nilV (.at x0.2.2.2.2.1)))
 (.ret (.v (.at x0.2.2.2.2.1)) [(cellsSV K5 y0.1)] [])
 (.test (.ite (.ite (.at x0.2.2.2.1) (.cmp .lss (.at x0.2.2.1) (.i 0)) (.b false)) (.cmp .neq (.at a4.1) (.i 0)) (.b false))
 (.ret (.ifc 92 (.i .i64 (.at a4.1))) [(cellsSV K5 y0.1)] [])
 (.call (.b true) true 80 [.p 83 0, .agg (cellsSV [.i .i64, .i .i64] a1), .agg ((cellsSV K7 x0).take 4)] [(83, (cellsSV K5 y0.1))] [] [(false, [.v])] [K5] fun x1 y1 =>
 .ob (.b true) (.ifc (.at x1.1)) <|
 .test (.not (.nilV (.at x1.1)))
 (.ret (.v (.at x1.1)) [(cellsSV K5 y1.1)] [])
 (.test (.cmp .eql (.at a3.1) (.i 2))
 (.call (.b true) true 107 [.agg ((cellsSV K5 y1.1).take 3), .agg ((((cellsSV K0 a3).set 2 (.i .i64 (.at a1.1))).set 3 (.i .i64 (.i 1))).set 5 (.i .i64 (.at x0.1)))] [] [] [(true, [.s, .i .i64, .i .i64]), (false, [.i .i64]), (false, [.i .i64])] [] fun x2 y2 =>
 .new 14 <|
 .test (.cmp .eql (.at x2.2.2.2.2.1) (.i 0))
 (.call (.b true) true 53 [.p 83 0, .agg ((cellsSV K7 x0).take 4), .i .i64 (.at x2.2.2.2.1)] [(83, ((cellsSV K8 x2).take 4))] [] [] [K5] fun x3 y3 =>
 .call (.b true) true 84 [.i .i64 (.at x2.2.2.2.2.1)] [] [] [(false, [.v])] [] fun x4 y4 =>
 .ret (.v (.at x4.1)) [(cellsSV K5 y3.1)] [])
 (.call (.b true) true 84 [.i .i64 (.at x2.2.2.2.2.1)] [] [] [(false, [.v])] [] fun x3 y3 =>
 .ret (.v (.at x3.1)) [(cellsSV K5 y1.1)] []))
 (.call (.b true) true 107 [.agg ((cellsSV K5 y1.1).take 3), .agg (((cellsSV K0 a3).set 2 (.i .i64 (.at a1.1))).set 3 (.i .i64 (.i 1)))] [] [] [(true, [.s, .i .i64, .i .i64]), (false, [.i .i64]), (false, [.i .i64])] [] fun x2 y2 =>
 .new 14 <|
 .test (.cmp .eql (.at x2.2.2.2.2.1) (.i 0))
 (.call (.b true) true 53 [.p 83 0, .agg ((cellsSV K7 x0).take 4), .i .i64 (.at x2.2.2.2.1)] [(83, ((cellsSV K8 x2).take 4))] [] [] [K5] fun x3 y3 =>
 .call (.b true) true 84 [.i .i64 (.at x2.2.2.2.2.1)] [] [] [(false, [.v])] [] fun x4 y4 =>
 .ret (.v (.at x4.1)) [(cellsSV K5 y3.1)] [])
 (.call (.b true) true 84 [.i .i64 (.at x2.2.2.2.2.1)] [] [] [(false, [.v])] [] fun x3 y3 =>
 .ret (.v (.at x3.1)) [(cellsSV K5 y1.1)] [])))))
theorem enter.run (a0 : Cells S.ty K5) (a1 : Cells S.ty [.i .i64, .i .i64]) (a2 : Cells S.ty [.t]) (a3 : Cells S.ty K0) (a4 : Cells S.ty [.i .i64]) : runFn Tryz.prog Tryz.f67 (bodyOf Tryz.f67) [] (enter.args a0 a1 a2 a3 a4) (enter.giv a0 a1 a2 a3 a4) = enter.T a0 a1 a2 a3 a4 := by kernel_rfl
def beneath.args (a0 : Cells S.ty K5) (a1 : Cells S.ty [.i .i64]) (a2 : Cells S.ty [.i .i64]) : List (SV S.ty) := [.p 30 0, .i .i64 (.at a1.1), .i .i64 (.at a2.1)]
def beneath.giv (a0 : Cells S.ty K5) (a1 : Cells S.ty [.i .i64]) (a2 : Cells S.ty [.i .i64]) : List (Nat × Own S.ty) := [(30, ⟨true, K5, some (cellsSV K5 a0)⟩)]
def beneath.T (a0 : Cells S.ty K5) (a1 : Cells S.ty [.i .i64]) (a2 : Cells S.ty [.i .i64]) : Tree S.ty :=
 .loop 0 [.i .i64, .i .i64] [K5] [.i .i64 (.at a1.1), .i .i64 (.i 0)] [(cellsSV K5 a0)] fun x0 y0 =>
 .test (.cmp .lss (.at x0.2.1) (.ofN (.at a0.1.2.1)))
 (.test (.ite (.cmp .eql (.at x0.1) (.at a2.1)) (.b true) (.cmp .eql (.at x0.1) (.i 0)))
 (.ret (.b (.cmp .eql (.at x0.1) (.at a2.1))) [(cellsSV K5 y0.1)] [])
 (.call (.b true) true 85 [.p 30 0, .i .i64 (.at x0.1)] [(30, (cellsSV K5 y0.1))] [] [(true, K0)] [K5] fun x1 y1 =>
 .again 0 [.i .i64 (.at x1.2.2.2.2.2.1), .i .i64 (.bin .add .i64 (.at x0.2.1) (.i 1))] [(cellsSV K5 y1.1)] []))
 (.ret (.b (.cmp .eql (.at x0.1) (.at a2.1))) [(cellsSV K5 y0.1)] [])
theorem beneath.run (a0 : Cells S.ty K5) (a1 : Cells S.ty [.i .i64]) (a2 : Cells S.ty [.i .i64]) : runFn Tryz.prog Tryz.f96 (bodyOf Tryz.f96) [⟨2, [1, 13], [30]⟩] (beneath.args a0 a1 a2) (beneath.giv a0 a1 a2) = beneath.T a0 a1 a2 := by kernel_rfl
def over.args (a0 : Cells S.ty K5) (a1 : Cells S.ty [.i .i64]) (a2 : Cells S.ty K3) : List (SV S.ty) := [.p 58 0, .i .i64 (.at a1.1), .agg (cellsSV K3 a2)]
def over.giv (a0 : Cells S.ty K5) (a1 : Cells S.ty [.i .i64]) (a2 : Cells S.ty K3) : List (Nat × Own S.ty) := [(58, ⟨true, K5, some (cellsSV K5 a0)⟩)]
def over.T (a0 : Cells S.ty K5) (a1 : Cells S.ty [.i .i64]) (a2 : Cells S.ty K3) : Tree S.ty :=
 .new 5 <|
 .call (.b true) true 95 [.p 58 0, .i .i64 (.at a2.1)] [(58, (cellsSV K5 a0))] [] [(false, [.v])] [K5] fun x0 y0 =>
 .ob (.b true) (.ifc (.at x0.1)) <|
 .test (.not (.nilV (.at x0.1)))
 (.ret (.v (.at x0.1)) [(cellsSV K5 y0.1)] [])
 (.call (.b true) false 85 [.p 58 0, .i .i64 (.at a1.1)] [(58, (cellsSV K5 y0.1))] [] [(true, K0)] [K5] fun x1 y1 =>
 .call (.b true) true 85 [.p 58 0, .i .i64 (.at a2.2.2.1)] [(58, (cellsSV K5 y1.1))] [] [(true, K0)] [K5] fun x2 y2 =>
 .new 8 <|
 .new 9 <|
 .test (.cmp .neq (.at x1.1) (.i 2))
 (.test (.cmp .eql (.at x2.1) (.i 2))
 (.ret (.ifc 92 (.i .i64 (.i 5))) [(cellsSV K5 y2.1)] [])
 (.test (.at a2.2.2.2.1)
 (.ret (.ifc 92 (.i .i64 (.i 4))) [(cellsSV K5 y2.1)] [])
 (.ret (.lit .nilIface) [(cellsSV K5 y2.1)] [])))
 (.call (.b true) true 96 [.p 58 0, .i .i64 (.at a2.1), .i .i64 (.at a1.1)] [(58, (cellsSV K5 y2.1))] [] [(false, [.b])] [K5] fun x3 y3 =>
 .test (.at x3.1)
 (.ret (.ifc 92 (.i .i64 (.i 15))) [(cellsSV K5 y3.1)] [])
 (.test (.cmp .lss (.at a2.2.2.1) (.i 0))
 (.ret (.lit .nilIface) [(cellsSV K5 y3.1)] [])
 (.test (.cmp .neq (.at x2.1) (.i 2))
 (.ret (.ifc 92 (.i .i64 (.i 4))) [(cellsSV K5 y3.1)] [])
 (.test (.cmp .gtr (.ofN (.at x2.2.2.2.2.2.2.2.1.2.1)) (.i 0))
 (.ret (.ifc 92 (.i .i64 (.i 6))) [(cellsSV K5 y3.1)] [])
 (.ret (.lit .nilIface) [(cellsSV K5 y3.1)] []))))))
theorem over.run (a0 : Cells S.ty K5) (a1 : Cells S.ty [.i .i64]) (a2 : Cells S.ty K3) : runFn Tryz.prog Tryz.f50 (bodyOf Tryz.f50) [] (over.args a0 a1 a2) (over.giv a0 a1 a2) = over.T a0 a1 a2 := by kernel_rfl
def dots.args (a0 : Cells S.ty [.t]) : List (SV S.ty) := [.t (.at a0.1)]
def dots.giv (a0 : Cells S.ty [.t]) : List (Nat × Own S.ty) := []
def dots.T (a0 : Cells S.ty [.t]) : Tree S.ty :=
 .test (.scmp .eql (.at a0.1) (.t ⟨#[]⟩))
 (.test (.scmp .eql (.at a0.1) (.t ⟨#[]⟩))
 (.ret (.b (.b true)) [] [])
 (.ret (.b (.b false)) [] []))
 (.test (.scmp .eql (.at a0.1) (.t ⟨#[46]⟩))
 (.test (.scmp .eql (.at a0.1) (.t ⟨#[46]⟩))
 (.ret (.b (.b true)) [] [])
 (.ret (.b (.b false)) [] []))
 (.test (.scmp .eql (.at a0.1) (.t ⟨#[46, 46]⟩))
 (.ret (.b (.b true)) [] [])
 (.ret (.b (.b false)) [] [])))
theorem dots.run (a0 : Cells S.ty [.t]) : runFn Tryz.prog Tryz.f47 (bodyOf Tryz.f47) [] (dots.args a0) (dots.giv a0) = dots.T a0 := by kernel_rfl
def make1.args (a0 : Cells S.ty K5) (a1 : Cells S.ty [.i .i64, .i .i64]) (a2 : Cells S.ty [.t]) (a3 : Cells S.ty [.i .i64]) (a4 : Cells S.ty [.i .i64]) : List (SV S.ty) := [.p 20 0, .p 21 0, .p 22 0, .p 23 0, .p 24 0]
def make1.giv (a0 : Cells S.ty K5) (a1 : Cells S.ty [.i .i64, .i .i64]) (a2 : Cells S.ty [.t]) (a3 : Cells S.ty [.i .i64]) (a4 : Cells S.ty [.i .i64]) : List (Nat × Own S.ty) := [(20, ⟨true, K5, some (cellsSV K5 a0)⟩), (21, ⟨true, [.i .i64, .i .i64], some (cellsSV [.i .i64, .i .i64] a1)⟩), (22, ⟨true, [.t], some [.t (.at a2.1)]⟩), (23, ⟨true, [.i .i64], some [.i .i64 (.at a3.1)]⟩), (24, ⟨true, [.i .i64], some [.i .i64 (.at a4.1)]⟩)]
def make1.T (a0 : Cells S.ty K5) (a1 : Cells S.ty [.i .i64, .i .i64]) (a2 : Cells S.ty [.t]) (a3 : Cells S.ty [.i .i64]) (a4 : Cells S.ty [.i .i64]) : Tree S.ty :=
 .call (.b true) true 67 [.p 20 0, .agg (cellsSV [.i .i64, .i .i64] a1), .t (.at a2.1), .agg [.i .i64 (.i 1), .i .i64 (.bin .and .i64 (.at a3.1) (.i 63)), .i .i64 (.i 0), .i .i64 (.i 0), .i .i64 (.i 0), .i .i64 (.i 0), .t (.t ⟨#[]⟩), .s .anil (.n 0) (.n 0)], .i .i64 (.i 5)] [(20, (cellsSV K5 a0))] [] [(false, [.v])] [K5] fun x0 y0 =>
 .ret (.v (.at x0.1)) [(cellsSV K5 y0.1), (cellsSV [.i .i64, .i .i64] a1), [.t (.at a2.1)], [.i .i64 (.at a3.1)], [.i .i64 (.at y0.1.2.2.2.1)]] []
theorem make1.run (a0 : Cells S.ty K5) (a1 : Cells S.ty [.i .i64, .i .i64]) (a2 : Cells S.ty [.t]) (a3 : Cells S.ty [.i .i64]) (a4 : Cells S.ty [.i .i64]) : runFn Tryz.prog Tryz.f66 (bodyOf Tryz.f66) [] (make1.args a0 a1 a2 a3 a4) (make1.giv a0 a1 a2 a3 a4) = make1.T a0 a1 a2 a3 a4 := by kernel_rfl
def mkdir1.args (a0 : Cells S.ty K5) (a1 : Cells S.ty [.i .i64, .i .i64]) (a2 : Cells S.ty [.t]) (a3 : Cells S.ty [.i .i64]) : List (SV S.ty) := [.p 13 0, .p 14 0, .p 15 0, .p 16 0]
def mkdir1.giv (a0 : Cells S.ty K5) (a1 : Cells S.ty [.i .i64, .i .i64]) (a2 : Cells S.ty [.t]) (a3 : Cells S.ty [.i .i64]) : List (Nat × Own S.ty) := [(13, ⟨true, K5, some (cellsSV K5 a0)⟩), (14, ⟨true, [.i .i64, .i .i64], some (cellsSV [.i .i64, .i .i64] a1)⟩), (15, ⟨true, [.t], some [.t (.at a2.1)]⟩), (16, ⟨true, [.i .i64], some [.i .i64 (.at a3.1)]⟩)]
def mkdir1.T (a0 : Cells S.ty K5) (a1 : Cells S.ty [.i .i64, .i .i64]) (a2 : Cells S.ty [.t]) (a3 : Cells S.ty [.i .i64]) : Tree S.ty :=
 .call (.b true) true 67 [.p 13 0, .agg (cellsSV [.i .i64, .i .i64] a1), .t (.at a2.1), .agg [.i .i64 (.i 2), .i .i64 (.bin .and .i64 (.at a3.1) (.i 63)), .i .i64 (.i 0), .i .i64 (.i 0), .i .i64 (.i 0), .i .i64 (.i 0), .t (.t ⟨#[]⟩), .s .anil (.n 0) (.n 0)], .i .i64 (.i 0)] [(13, (cellsSV K5 a0))] [] [(false, [.v])] [K5] fun x0 y0 =>
 .ret (.v (.at x0.1)) [(cellsSV K5 y0.1), (cellsSV [.i .i64, .i .i64] a1), [.t (.at a2.1)], [.i .i64 (.at a3.1)]] []
theorem mkdir1.run (a0 : Cells S.ty K5) (a1 : Cells S.ty [.i .i64, .i .i64]) (a2 : Cells S.ty [.t]) (a3 : Cells S.ty [.i .i64]) : runFn Tryz.prog Tryz.f68 (bodyOf Tryz.f68) [] (mkdir1.args a0 a1 a2 a3) (mkdir1.giv a0 a1 a2 a3) = mkdir1.T a0 a1 a2 a3 := by kernel_rfl
def sym1.args (a0 : Cells S.ty K5) (a1 : Cells S.ty [.t]) (a2 : Cells S.ty [.i .i64, .i .i64]) (a3 : Cells S.ty [.t]) : List (SV S.ty) := [.p 21 0, .p 22 0, .p 23 0, .p 24 0]
def sym1.giv (a0 : Cells S.ty K5) (a1 : Cells S.ty [.t]) (a2 : Cells S.ty [.i .i64, .i .i64]) (a3 : Cells S.ty [.t]) : List (Nat × Own S.ty) := [(21, ⟨true, K5, some (cellsSV K5 a0)⟩), (22, ⟨true, [.t], some [.t (.at a1.1)]⟩), (23, ⟨true, [.i .i64, .i .i64], some (cellsSV [.i .i64, .i .i64] a2)⟩), (24, ⟨true, [.t], some [.t (.at a3.1)]⟩)]
def sym1.T (a0 : Cells S.ty K5) (a1 : Cells S.ty [.t]) (a2 : Cells S.ty [.i .i64, .i .i64]) (a3 : Cells S.ty [.t]) : Tree S.ty :=
 .test (.scmp .eql (.at a1.1) (.t ⟨#[]⟩))
 (.ret (.ifc 92 (.i .i64 (.i 2))) [(cellsSV K5 a0), [.t (.at a1.1)], (cellsSV [.i .i64, .i .i64] a2), [.t (.at a3.1)]] [])
 (.test (.cmp .gtr (.len (.at a1.1)) (.i 100))
 (.ret (.ifc 92 (.i .i64 (.i 9))) [(cellsSV K5 a0), [.t (.at a1.1)], (cellsSV [.i .i64, .i .i64] a2), [.t (.at a3.1)]] [])
 (.call (.b true) true 67 [.p 21 0, .agg (cellsSV [.i .i64, .i .i64] a2), .t (.at a3.1), .agg [.i .i64 (.i 3), .i .i64 (.i 63), .i .i64 (.i 0), .i .i64 (.i 0), .i .i64 (.i 0), .i .i64 (.i 0), .t (.at a1.1), .s .anil (.n 0) (.n 0)], .i .i64 (.i 4)] [(21, (cellsSV K5 a0))] [] [(false, [.v])] [K5] fun x0 y0 =>
 .ret (.v (.at x0.1)) [(cellsSV K5 y0.1), [.t (.at a1.1)], (cellsSV [.i .i64, .i .i64] a2), [.t (.at a3.1)]] []))
theorem sym1.run (a0 : Cells S.ty K5) (a1 : Cells S.ty [.t]) (a2 : Cells S.ty [.i .i64, .i .i64]) (a3 : Cells S.ty [.t]) : runFn Tryz.prog Tryz.f78 (bodyOf Tryz.f78) [] (sym1.args a0 a1 a2 a3) (sym1.giv a0 a1 a2 a3) = sym1.T a0 a1 a2 a3 := by kernel_rfl
def link1.args (a0 : Cells S.ty K5) (a1 : Cells S.ty [.i .i64, .i .i64]) (a2 : Cells S.ty [.t]) (a3 : Cells S.ty [.t]) : List (SV S.ty) := [.p 62 0, .p 63 0, .p 64 0, .p 65 0]
def link1.giv (a0 : Cells S.ty K5) (a1 : Cells S.ty [.i .i64, .i .i64]) (a2 : Cells S.ty [.t]) (a3 : Cells S.ty [.t]) : List (Nat × Own S.ty) := [(62, ⟨true, K5, some (cellsSV K5 a0)⟩), (63, ⟨true, [.i .i64, .i .i64], some (cellsSV [.i .i64, .i .i64] a1)⟩), (64, ⟨true, [.t], some [.t (.at a2.1)]⟩), (65, ⟨true, [.t], some [.t (.at a3.1)]⟩)]
def link1.T (a0 : Cells S.ty K5) (a1 : Cells S.ty [.i .i64, .i .i64]) (a2 : Cells S.ty [.t]) (a3 : Cells S.ty [.t]) : Tree S.ty :=
 .call (.b true) true 45 [.p 62 0, .agg (cellsSV [.i .i64, .i .i64] a1), .t (.at a2.1)] [(62, (cellsSV K5 a0))] [] [(true, K3), (true, K0), (false, [.v])] [K5] fun x0 y0 =>
 .new 6 <|
 .new 7 <|
 .ob (.b true) (.ifc (.at x0.2.2.2.2.2.2.2.2.2.2.2.2.1)) <|
 .test (.not (.nilV (.at x0.2.2.2.2.2.2.2.2.2.2.2.2.1)))
 (.ret (.v (.at x0.2.2.2.2.2.2.2.2.2.2.2.2.1)) [(cellsSV K5 y0.1), (cellsSV [.i .i64, .i .i64] a1), [.t (.at a2.1)], [.t (.at a3.1)]] [])
 (.test (.cmp .eql (.at x0.2.2.2.2.1) (.i 2))
 (.ret (.ifc 92 (.i .i64 (.i 5))) [(cellsSV K5 y0.1), (cellsSV [.i .i64, .i .i64] a1), [.t (.at a2.1)], [.t (.at a3.1)]] [])
 (.test (.cmp .geq (.at x0.2.2.2.2.2.2.2.1) (.i 20))
 (.ret (.ifc 92 (.i .i64 (.i 11))) [(cellsSV K5 y0.1), (cellsSV [.i .i64, .i .i64] a1), [.t (.at a2.1)], [.t (.at a3.1)]] [])
 (.call (.b true) true 46 [.p 62 0, .agg (cellsSV [.i .i64, .i .i64] a1), .t (.at a3.1)] [(62, (cellsSV K5 y0.1))] [] [(true, K3), (false, [.v])] [K5] fun x1 y1 =>
 .new 9 <|
 .ob (.b true) (.ifc (.at x1.2.2.2.2.1)) <|
 .test (.nilV (.at x1.2.2.2.2.1))
 (.call (.b true) true 80 [.p 62 0, .agg (cellsSV [.i .i64, .i .i64] a1), .agg ((cellsSV K7 x1).take 4)] [(62, (cellsSV K5 y1.1))] [] [(false, [.v])] [K5] fun x2 y2 =>
 .ob (.b true) (.ifc (.at x2.1)) <|
 .test (.not (.nilV (.at x2.1)))
 (.ret (.v (.at x2.1)) [(cellsSV K5 y2.1), (cellsSV [.i .i64, .i .i64] a1), [.t (.at a2.1)], [.t (.at a3.1)]] [])
 (.test (.at x1.2.2.2.1)
 (.ret (.ifc 92 (.i .i64 (.i 4))) [(cellsSV K5 y2.1), (cellsSV [.i .i64, .i .i64] a1), [.t (.at a2.1)], [.t (.at a3.1)]] [])
 (.call (.b true) true 54 [.p 62 0, .i .i64 (.at x0.2.2.1), .fn (.func 81) [] []] [(62, (cellsSV K5 y2.1))] [] [] [K5] fun x3 y3 =>
 .call (.b true) true 53 [.p 62 0, .agg ((cellsSV K7 x1).take 4), .i .i64 (.at x0.2.2.1)] [(62, (cellsSV K5 y3.1))] [] [] [K5] fun x4 y4 =>
 .ret (.lit .nilIface) [(cellsSV K5 y4.1), (cellsSV [.i .i64, .i .i64] a1), [.t (.at a2.1)], [.t (.at a3.1)]] [])))
 (.ob (.b true) (.ifc (.at x1.2.2.2.2.1)) <|
 .test (.not (.nilV (.at x1.2.2.2.2.1)))
 (.ret (.v (.at x1.2.2.2.2.1)) [(cellsSV K5 y1.1), (cellsSV [.i .i64, .i .i64] a1), [.t (.at a2.1)], [.t (.at a3.1)]] [])
 (.test (.at x1.2.2.2.1)
 (.ret (.ifc 92 (.i .i64 (.i 4))) [(cellsSV K5 y1.1), (cellsSV [.i .i64, .i .i64] a1), [.t (.at a2.1)], [.t (.at a3.1)]] [])
 (.call (.b true) true 54 [.p 62 0, .i .i64 (.at x0.2.2.1), .fn (.func 81) [] []] [(62, (cellsSV K5 y1.1))] [] [] [K5] fun x2 y2 =>
 .call (.b true) true 53 [.p 62 0, .agg ((cellsSV K7 x1).take 4), .i .i64 (.at x0.2.2.1)] [(62, (cellsSV K5 y2.1))] [] [] [K5] fun x3 y3 =>
 .ret (.lit .nilIface) [(cellsSV K5 y3.1), (cellsSV [.i .i64, .i .i64] a1), [.t (.at a2.1)], [.t (.at a3.1)]] []))))))
theorem link1.run (a0 : Cells S.ty K5) (a1 : Cells S.ty [.i .i64, .i .i64]) (a2 : Cells S.ty [.t]) (a3 : Cells S.ty [.t]) : runFn Tryz.prog Tryz.f79 (bodyOf Tryz.f79) [] (link1.args a0 a1 a2 a3) (link1.giv a0 a1 a2 a3) = link1.T a0 a1 a2 a3 := by kernel_rfl
def unl1.args (a0 : Cells S.ty K5) (a1 : Cells S.ty [.i .i64, .i .i64]) (a2 : Cells S.ty [.t]) : List (SV S.ty) := [.p 38 0, .p 39 0, .p 40 0]
def unl1.giv (a0 : Cells S.ty K5) (a1 : Cells S.ty [.i .i64, .i .i64]) (a2 : Cells S.ty [.t]) : List (Nat × Own S.ty) := [(38, ⟨true, K5, some (cellsSV K5 a0)⟩), (39, ⟨true, [.i .i64, .i .i64], some (cellsSV [.i .i64, .i .i64] a1)⟩), (40, ⟨true, [.t], some [.t (.at a2.1)]⟩)]
def unl1.T (a0 : Cells S.ty K5) (a1 : Cells S.ty [.i .i64, .i .i64]) (a2 : Cells S.ty [.t]) : Tree S.ty :=
 .call (.b true) true 45 [.p 38 0, .agg (cellsSV [.i .i64, .i .i64] a1), .t (.at a2.1)] [(38, (cellsSV K5 a0))] [] [(true, K3), (true, K0), (false, [.v])] [K5] fun x0 y0 =>
 .new 5 <|
 .new 6 <|
 .ob (.b true) (.ifc (.at x0.2.2.2.2.2.2.2.2.2.2.2.2.1)) <|
 .test (.ite (.nilV (.at x0.2.2.2.2.2.2.2.2.2.2.2.2.1)) (.cmp .eql (.at x0.2.2.2.2.1) (.i 2)) (.b false))
 (.ret (.ifc 92 (.i .i64 (.i 5))) [(cellsSV K5 y0.1), (cellsSV [.i .i64, .i .i64] a1), [.t (.at a2.1)]] [])
 (.ob (.b true) (.ifc (.at x0.2.2.2.2.2.2.2.2.2.2.2.2.1)) <|
 .test (.nilV (.at x0.2.2.2.2.2.2.2.2.2.2.2.2.1))
 (.call (.b true) true 49 [.p 38 0, .i .i64 (.at a1.1), .i .i64 (.at x0.1)] [(38, (cellsSV K5 y0.1))] [] [(false, [.v])] [K5] fun x1 y1 =>
 .ob (.b true) (.ifc (.at x1.1)) <|
 .test (.nilV (.at x1.1))
 (.call (.b true) true 52 [.p 38 0, .agg ((cellsSV K9 x0).take 4)] [(38, (cellsSV K5 y1.1))] [] [] [K5] fun x2 y2 =>
 .ret (.v (.at x1.1)) [(cellsSV K5 y2.1), (cellsSV [.i .i64, .i .i64] a1), [.t (.at a2.1)]] [])
 (.ret (.v (.at x1.1)) [(cellsSV K5 y1.1), (cellsSV [.i .i64, .i .i64] a1), [.t (.at a2.1)]] []))
 (.ob (.b true) (.ifc (.at x0.2.2.2.2.2.2.2.2.2.2.2.2.1)) <|
 .test (.nilV (.at x0.2.2.2.2.2.2.2.2.2.2.2.2.1))
 (.call (.b true) true 52 [.p 38 0, .agg ((cellsSV K9 x0).take 4)] [(38, (cellsSV K5 y0.1))] [] [] [K5] fun x1 y1 =>
 .ret (.v (.at x0.2.2.2.2.2.2.2.2.2.2.2.2.1)) [(cellsSV K5 y1.1), (cellsSV [.i .i64, .i .i64] a1), [.t (.at a2.1)]] [])
 (.ret (.v (.at x0.2.2.2.2.2.2.2.2.2.2.2.2.1)) [(cellsSV K5 y0.1), (cellsSV [.i .i64, .i .i64] a1), [.t (.at a2.1)]] [])))
theorem unl1.run (a0 : Cells S.ty K5) (a1 : Cells S.ty [.i .i64, .i .i64]) (a2 : Cells S.ty [.t]) : runFn Tryz.prog Tryz.f69 (bodyOf Tryz.f69) [] (unl1.args a0 a1 a2) (unl1.giv a0 a1 a2) = unl1.T a0 a1 a2 := by kernel_rfl
def rmd1.args (a0 : Cells S.ty K5) (a1 : Cells S.ty [.i .i64, .i .i64]) (a2 : Cells S.ty [.t]) : List (SV S.ty) := [.p 53 0, .p 54 0, .p 55 0]
def rmd1.giv (a0 : Cells S.ty K5) (a1 : Cells S.ty [.i .i64, .i .i64]) (a2 : Cells S.ty [.t]) : List (Nat × Own S.ty) := [(53, ⟨true, K5, some (cellsSV K5 a0)⟩), (54, ⟨true, [.i .i64, .i .i64], some (cellsSV [.i .i64, .i .i64] a1)⟩), (55, ⟨true, [.t], some [.t (.at a2.1)]⟩)]
def rmd1.T (a0 : Cells S.ty K5) (a1 : Cells S.ty [.i .i64, .i .i64]) (a2 : Cells S.ty [.t]) : Tree S.ty :=
 .call (.b true) true 45 [.p 53 0, .agg (cellsSV [.i .i64, .i .i64] a1), .t (.at a2.1)] [(53, (cellsSV K5 a0))] [] [(true, K3), (true, K0), (false, [.v])] [K5] fun x0 y0 =>
 .new 5 <|
 .new 6 <|
 .ob (.b true) (.ifc (.at x0.2.2.2.2.2.2.2.2.2.2.2.2.1)) <|
 .test (.not (.nilV (.at x0.2.2.2.2.2.2.2.2.2.2.2.2.1)))
 (.ret (.v (.at x0.2.2.2.2.2.2.2.2.2.2.2.2.1)) [(cellsSV K5 y0.1), (cellsSV [.i .i64, .i .i64] a1), [.t (.at a2.1)]] [])
 (.test (.cmp .neq (.at x0.2.2.2.2.1) (.i 2))
 (.ret (.ifc 92 (.i .i64 (.i 4))) [(cellsSV K5 y0.1), (cellsSV [.i .i64, .i .i64] a1), [.t (.at a2.1)]] [])
 (.test (.scmp .eql (.at x0.2.1) (.t ⟨#[]⟩))
 (.ret (.ifc 92 (.i .i64 (.i 1))) [(cellsSV K5 y0.1), (cellsSV [.i .i64, .i .i64] a1), [.t (.at a2.1)]] [])
 (.test (.scmp .eql (.at x0.2.1) (.t ⟨#[46]⟩))
 (.ret (.ifc 92 (.i .i64 (.i 1))) [(cellsSV K5 y0.1), (cellsSV [.i .i64, .i .i64] a1), [.t (.at a2.1)]] [])
 (.test (.scmp .eql (.at x0.2.1) (.t ⟨#[46, 46]⟩))
 (.ret (.ifc 92 (.i .i64 (.i 6))) [(cellsSV K5 y0.1), (cellsSV [.i .i64, .i .i64] a1), [.t (.at a2.1)]] [])
 (.call (.b true) true 49 [.p 53 0, .i .i64 (.at a1.1), .i .i64 (.at x0.1)] [(53, (cellsSV K5 y0.1))] [] [(false, [.v])] [K5] fun x1 y1 =>
 .ob (.b true) (.ifc (.at x1.1)) <|
 .test (.not (.nilV (.at x1.1)))
 (.ret (.v (.at x1.1)) [(cellsSV K5 y1.1), (cellsSV [.i .i64, .i .i64] a1), [.t (.at a2.1)]] [])
 (.test (.cmp .gtr (.ofN (.at x0.2.2.2.2.2.2.2.2.2.2.2.1.2.1)) (.i 0))
 (.ret (.ifc 92 (.i .i64 (.i 6))) [(cellsSV K5 y1.1), (cellsSV [.i .i64, .i .i64] a1), [.t (.at a2.1)]] [])
 (.call (.b true) true 52 [.p 53 0, .agg ((cellsSV K9 x0).take 4)] [(53, (cellsSV K5 y1.1))] [] [] [K5] fun x2 y2 =>
 .ret (.lit .nilIface) [(cellsSV K5 y2.1), (cellsSV [.i .i64, .i .i64] a1), [.t (.at a2.1)]] [])))))))
theorem rmd1.run (a0 : Cells S.ty K5) (a1 : Cells S.ty [.i .i64, .i .i64]) (a2 : Cells S.ty [.t]) : runFn Tryz.prog Tryz.f70 (bodyOf Tryz.f70) [] (rmd1.args a0 a1 a2) (rmd1.giv a0 a1 a2) = rmd1.T a0 a1 a2 := by kernel_rfl
def ren1.args (a0 : Cells S.ty K5) (a1 : Cells S.ty [.i .i64, .i .i64]) (a2 : Cells S.ty [.t]) (a3 : Cells S.ty [.i .i64, .i .i64]) (a4 : Cells S.ty [.t]) : List (SV S.ty) := [.p 96 0, .p 97 0, .p 98 0, .p 99 0, .p 100 0]
def ren1.giv (a0 : Cells S.ty K5) (a1 : Cells S.ty [.i .i64, .i .i64]) (a2 : Cells S.ty [.t]) (a3 : Cells S.ty [.i .i64, .i .i64]) (a4 : Cells S.ty [.t]) : List (Nat × Own S.ty) := [(96, ⟨true, K5, some (cellsSV K5 a0)⟩), (97, ⟨true, [.i .i64, .i .i64], some (cellsSV [.i .i64, .i .i64] a1)⟩), (98, ⟨true, [.t], some [.t (.at a2.1)]⟩), (99, ⟨true, [.i .i64, .i .i64], some (cellsSV [.i .i64, .i .i64] a3)⟩), (100, ⟨true, [.t], some [.t (.at a4.1)]⟩)]
def ren1.T (a0 : Cells S.ty K5) (a1 : Cells S.ty [.i .i64, .i .i64]) (a2 : Cells S.ty [.t]) (a3 : Cells S.ty [.i .i64, .i .i64]) (a4 : Cells S.ty [.t]) : Tree S.ty :=
 .call (.b true) true 45 [.p 96 0, .agg (cellsSV [.i .i64, .i .i64] a1), .t (.at a2.1)] [(96, (cellsSV K5 a0))] [] [(true, K3), (true, K0), (false, [.v])] [K5] fun x0 y0 =>
 .new 7 <|
 .new 8 <|
 .ob (.b true) (.ifc (.at x0.2.2.2.2.2.2.2.2.2.2.2.2.1)) <|
 .test (.not (.nilV (.at x0.2.2.2.2.2.2.2.2.2.2.2.2.1)))
 (.ret (.v (.at x0.2.2.2.2.2.2.2.2.2.2.2.2.1)) [(cellsSV K5 y0.1), (cellsSV [.i .i64, .i .i64] a1), [.t (.at a2.1)], (cellsSV [.i .i64, .i .i64] a3), [.t (.at a4.1)]] [])
 (.call (.b true) true 46 [.p 96 0, .agg (cellsSV [.i .i64, .i .i64] a3), .t (.at a4.1)] [(96, (cellsSV K5 y0.1))] [] [(true, K3), (false, [.v])] [K5] fun x1 y1 =>
 .new 10 <|
 .ob (.b true) (.ifc (.at x1.2.2.2.2.1)) <|
 .test (.not (.nilV (.at x1.2.2.2.2.1)))
 (.ret (.v (.at x1.2.2.2.2.1)) [(cellsSV K5 y1.1), (cellsSV [.i .i64, .i .i64] a1), [.t (.at a2.1)], (cellsSV [.i .i64, .i .i64] a3), [.t (.at a4.1)]] [])
 (.call (.b true) true 47 [.t (.at x0.2.1)] [] [] [(false, [.b])] [] fun x2 y2 =>
 .call (.not (.at x2.1)) true 47 [.t (.at x1.2.1)] [] [] [(false, [.b])] [] fun x3 y3 =>
 .test (.ite (.at x2.1) (.b true) (.at x3.1))
 (.ret (.ifc 92 (.i .i64 (.i 1))) [(cellsSV K5 y1.1), (cellsSV [.i .i64, .i .i64] a1), [.t (.at a2.1)], (cellsSV [.i .i64, .i .i64] a3), [.t (.at a4.1)]] [])
 (.call (.b true) false 49 [.p 96 0, .i .i64 (.at a1.1), .i .i64 (.at x0.1)] [(96, (cellsSV K5 y1.1))] [] [(false, [.v])] [K5] fun x4 y4 =>
 .call (.b true) true 49 [.p 96 0, .i .i64 (.at a3.1), .i .i64 (.at x1.1)] [(96, (cellsSV K5 y4.1))] [] [(false, [.v])] [K5] fun x5 y5 =>
 .ob (.b true) (.one (.at x4.1)) <|
 .ob (.b true) (.one (.at x5.1)) <|
 .new 55 <|
 .call (.b true) true 48 [.os 55 0 2 2] [] [(55, [.v (.at x4.1), .v (.at x5.1)])] [(false, [.v])] [] fun x6 y6 =>
 .ob (.b true) (.ifc (.at x6.1)) <|
 .test (.not (.nilV (.at x6.1)))
 (.ret (.v (.at x6.1)) [(cellsSV K5 y5.1), (cellsSV [.i .i64, .i .i64] a1), [.t (.at a2.1)], (cellsSV [.i .i64, .i .i64] a3), [.t (.at a4.1)]] [])
 (.test (.cmp .eql (.at x0.2.2.1) (.at x1.2.2.1))
 (.uld (.b true) (.glob 0) (.n 0) [.v] fun x7 =>
 .ret (.v (.at x7.1)) [(cellsSV K5 y5.1), (cellsSV [.i .i64, .i .i64] a1), [.t (.at a2.1)], (cellsSV [.i .i64, .i .i64] a3), [.t (.at a4.1)]] [])
 (.call (.b true) true 50 [.p 96 0, .i .i64 (.at x0.2.2.1), .agg ((cellsSV K7 x1).take 4)] [(96, (cellsSV K5 y5.1))] [] [(false, [.v])] [K5] fun x7 y7 =>
 .ob (.b true) (.ifc (.at x7.1)) <|
 .test (.not (.nilV (.at x7.1)))
 (.ret (.v (.at x7.1)) [(cellsSV K5 y7.1), (cellsSV [.i .i64, .i .i64] a1), [.t (.at a2.1)], (cellsSV [.i .i64, .i .i64] a3), [.t (.at a4.1)]] [])
 (.call (.b true) true 51 [.p 96 0, .agg ((cellsSV K9 x0).take 4)] [(96, (cellsSV K5 y7.1))] [] [] [K5] fun x8 y8 =>
 .test (.cmp .geq (.at x1.2.2.1) (.i 0))
 (.call (.b true) true 52 [.p 96 0, .agg ((cellsSV K7 x1).take 4)] [(96, (cellsSV K5 y8.1))] [] [] [K5] fun x9 y9 =>
 .call (.b true) true 53 [.p 96 0, .agg ((cellsSV K7 x1).take 4), .i .i64 (.at x0.2.2.1)] [(96, (cellsSV K5 y9.1))] [] [] [K5] fun x10 y10 =>
 .test (.cmp .eql (.at x0.2.2.2.2.1) (.i 2))
 (.call (.b true) true 54 [.p 96 0, .i .i64 (.at x0.2.2.1), .fn (.func 55) [] [.p 10 0]] [(96, (cellsSV K5 y10.1)), (10, ((cellsSV K7 x1).take 4))] [] [] [K5, K3] fun x11 y11 =>
 .ret (.lit .nilIface) [(cellsSV K5 y11.1), (cellsSV [.i .i64, .i .i64] a1), [.t (.at a2.1)], (cellsSV [.i .i64, .i .i64] a3), [.t (.at a4.1)]] [])
 (.ret (.lit .nilIface) [(cellsSV K5 y10.1), (cellsSV [.i .i64, .i .i64] a1), [.t (.at a2.1)], (cellsSV [.i .i64, .i .i64] a3), [.t (.at a4.1)]] []))
 (.call (.b true) true 53 [.p 96 0, .agg ((cellsSV K7 x1).take 4), .i .i64 (.at x0.2.2.1)] [(96, (cellsSV K5 y8.1))] [] [] [K5] fun x9 y9 =>
 .test (.cmp .eql (.at x0.2.2.2.2.1) (.i 2))
 (.call (.b true) true 54 [.p 96 0, .i .i64 (.at x0.2.2.1), .fn (.func 55) [] [.p 10 0]] [(96, (cellsSV K5 y9.1)), (10, ((cellsSV K7 x1).take 4))] [] [] [K5, K3] fun x10 y10 =>
 .ret (.lit .nilIface) [(cellsSV K5 y10.1), (cellsSV [.i .i64, .i .i64] a1), [.t (.at a2.1)], (cellsSV [.i .i64, .i .i64] a3), [.t (.at a4.1)]] [])
 (.ret (.lit .nilIface) [(cellsSV K5 y9.1), (cellsSV [.i .i64, .i .i64] a1), [.t (.at a2.1)], (cellsSV [.i .i64, .i .i64] a3), [.t (.at a4.1)]] []))))))))
theorem ren1.run (a0 : Cells S.ty K5) (a1 : Cells S.ty [.i .i64, .i .i64]) (a2 : Cells S.ty [.t]) (a3 : Cells S.ty [.i .i64, .i .i64]) (a4 : Cells S.ty [.t]) : runFn Tryz.prog Tryz.f44 (bodyOf Tryz.f44) [] (ren1.args a0 a1 a2 a3 a4) (ren1.giv a0 a1 a2 a3 a4) = ren1.T a0 a1 a2 a3 a4 := by kernel_rfl
def chm1.args (a0 : Cells S.ty K5) (a1 : Cells S.ty [.i .i64, .i .i64]) (a2 : Cells S.ty [.t]) (a3 : Cells S.ty [.i .i64]) : List (SV S.ty) := [.p 42 0, .p 43 0, .p 44 0, .p 45 0]
def chm1.giv (a0 : Cells S.ty K5) (a1 : Cells S.ty [.i .i64, .i .i64]) (a2 : Cells S.ty [.t]) (a3 : Cells S.ty [.i .i64]) : List (Nat × Own S.ty) := [(42, ⟨true, K5, some (cellsSV K5 a0)⟩), (43, ⟨true, [.i .i64, .i .i64], some (cellsSV [.i .i64, .i .i64] a1)⟩), (44, ⟨true, [.t], some [.t (.at a2.1)]⟩), (45, ⟨true, [.i .i64], some [.i .i64 (.at a3.1)]⟩)]
def chm1.T (a0 : Cells S.ty K5) (a1 : Cells S.ty [.i .i64, .i .i64]) (a2 : Cells S.ty [.t]) (a3 : Cells S.ty [.i .i64]) : Tree S.ty :=
 .call (.b true) true 41 [.agg ((cellsSV K5 a0).take 3), .i .i64 (.at a1.1), .i .i64 (.at a1.2.1), .t (.at a2.1), .b (.b true)] [] [] [(false, [.i .i64]), (false, [.i .i64])] [] fun x0 y0 =>
 .test (.cmp .neq (.at x0.2.1) (.i 0))
 (.call (.b true) true 84 [.i .i64 (.at x0.2.1)] [] [] [(false, [.v])] [] fun x1 y1 =>
 .ret (.v (.at x1.1)) [(cellsSV K5 a0), (cellsSV [.i .i64, .i .i64] a1), [.t (.at a2.1)], [.i .i64 (.at a3.1)]] [])
 (.test (.cmp .neq (.at a1.1) (.i 0))
 (.call (.b true) false 85 [.p 42 0, .i .i64 (.at x0.1)] [(42, (cellsSV K5 a0))] [] [(true, K0)] [K5] fun x1 y1 =>
 .test (.ite (.cmp .neq (.at a1.1) (.i 0)) (.cmp .neq (.at a1.1) (.at x1.2.2.1)) (.b false))
 (.ret (.ifc 92 (.i .i64 (.i 7))) [(cellsSV K5 y1.1), (cellsSV [.i .i64, .i .i64] a1), [.t (.at a2.1)], [.i .i64 (.at a3.1)]] [])
 (.call (.b true) true 54 [.p 42 0, .i .i64 (.at x0.1), .fn (.func 86) [] [.p 45 0]] [(42, (cellsSV K5 y1.1)), (45, [.i .i64 (.at a3.1)])] [] [] [K5, [.i .i64]] fun x2 y2 =>
 .ret (.lit .nilIface) [(cellsSV K5 y2.1), (cellsSV [.i .i64, .i .i64] a1), [.t (.at a2.1)], [.i .i64 (.at y2.2.1.1)]] []))
 (.test (.ite (.cmp .neq (.at a1.1) (.i 0)) (.cmp .neq (.at a1.1) (.i 0)) (.b false))
 (.ret (.ifc 92 (.i .i64 (.i 7))) [(cellsSV K5 a0), (cellsSV [.i .i64, .i .i64] a1), [.t (.at a2.1)], [.i .i64 (.at a3.1)]] [])
 (.call (.b true) true 54 [.p 42 0, .i .i64 (.at x0.1), .fn (.func 86) [] [.p 45 0]] [(42, (cellsSV K5 a0)), (45, [.i .i64 (.at a3.1)])] [] [] [K5, [.i .i64]] fun x1 y1 =>
 .ret (.lit .nilIface) [(cellsSV K5 y1.1), (cellsSV [.i .i64, .i .i64] a1), [.t (.at a2.1)], [.i .i64 (.at y1.2.1.1)]] [])))
theorem chm1.run (a0 : Cells S.ty K5) (a1 : Cells S.ty [.i .i64, .i .i64]) (a2 : Cells S.ty [.t]) (a3 : Cells S.ty [.i .i64]) : runFn Tryz.prog Tryz.f83 (bodyOf Tryz.f83) [] (chm1.args a0 a1 a2 a3) (chm1.giv a0 a1 a2 a3) = chm1.T a0 a1 a2 a3 := by kernel_rfl
end Go.Proofs.YtpfbimkpcnnfkaaGreatDoor.Sx
set_option maxRecDepth 100000
set_option linter.unusedVariables false
namespace Go.Proofs.YtpfbimkpcnnfkaaGreatDoor.Sx
open Go Go.RowKit Go.Proofs.YtpfbimkpcnnfkaaGreatDoor
def doneMake.args (a0 : Cells S.ty [.s, .i .i64, .i .i64]) (a1x0 : Cells S.ty [.i .i64, .i .i64]) (a1x1 : Cells S.ty [.t]) (a1x2 : Cells S.ty [.i .i64]) (a1x3 : Cells S.ty [.i .i64]) : List (SV S.ty) := [.agg (cellsSV [.s, .i .i64, .i .i64] a0), .fn (.func 66) [] [.p 31 0, .p 32 0, .p 33 0, .p 34 0]]
def doneMake.giv (a0 : Cells S.ty [.s, .i .i64, .i .i64]) (a1x0 : Cells S.ty [.i .i64, .i .i64]) (a1x1 : Cells S.ty [.t]) (a1x2 : Cells S.ty [.i .i64]) (a1x3 : Cells S.ty [.i .i64]) : List (Nat × Own S.ty) := [(31, ⟨true, [.i .i64, .i .i64], some [.i .i64 (.at a1x0.1), .i .i64 (.at a1x0.2.1)]⟩), (32, ⟨true, [.t], some [.t (.at a1x1.1)]⟩), (33, ⟨true, [.i .i64], some [.i .i64 (.at a1x2.1)]⟩), (34, ⟨true, [.i .i64], some [.i .i64 (.at a1x3.1)]⟩)]
def doneMake.T (a0 : Cells S.ty [.s, .i .i64, .i .i64]) (a1x0 : Cells S.ty [.i .i64, .i .i64]) (a1x1 : Cells S.ty [.t]) (a1x2 : Cells S.ty [.i .i64]) (a1x3 : Cells S.ty [.i .i64]) : Tree S.ty :=
 .new 2 <|
 .new 4 <|
 .new 10 <|
 .call (.b true) true 66 [.p 10 0, .p 31 0, .p 32 0, .p 33 0, .p 34 0] [(10, [.s (.at a0.1.1) (.at a0.1.2.1) (.at a0.1.2.2), .i .i64 (.at a0.2.1), .i .i64 (.at a0.2.2.1), .i .i64 (.i 0)]), (31, [.i .i64 (.at a1x0.1), .i .i64 (.at a1x0.2.1)]), (32, [.t (.at a1x1.1)]), (33, [.i .i64 (.at a1x2.1)]), (34, [.i .i64 (.at a1x3.1)])] [] [(false, [.v])] [K5, [.i .i64, .i .i64], [.t], [.i .i64], [.i .i64]] fun x0 y0 =>
 .ob (.b true) (.ifc (.at x0.1)) <|
 .test (.nilV (.at x0.1))
 (.ret (.tup [.agg ((cellsSV K5 y0.1).take 3), .i .i64 (.i 0)]) [(cellsSV [.i .i64, .i .i64] y0.2.1), [.t (.at y0.2.2.1.1)], [.i .i64 (.at y0.2.2.2.1.1)], [.i .i64 (.at y0.2.2.2.2.1.1)]] [])
 (.uld (.b true) (.glob 0) (.n 0) [.v] fun x1 =>
 .call (.b true) true 92 [.v (.at x0.1), .v (.at x1.1)] [] [] [(false, [.b])] [] fun x2 y2 =>
 .test (.at x2.1)
 (.ret (.tup [.agg (cellsSV [.s, .i .i64, .i .i64] a0), .i .i64 (.i 0)]) [(cellsSV [.i .i64, .i .i64] y0.2.1), [.t (.at y0.2.2.1.1)], [.i .i64 (.at y0.2.2.2.1.1)], [.i .i64 (.at y0.2.2.2.2.1.1)]] [])
 (.call (.b true) false 93 [.v (.at x0.1)] [] [] [(false, [.i .i64])] [] fun x3 y3 =>
 .ret (.tup [.agg (cellsSV [.s, .i .i64, .i .i64] a0), .i .i64 (.at x3.1)]) [(cellsSV [.i .i64, .i .i64] y0.2.1), [.t (.at y0.2.2.1.1)], [.i .i64 (.at y0.2.2.2.1.1)], [.i .i64 (.at y0.2.2.2.2.1.1)]] []))
theorem doneMake.run (a0 : Cells S.ty [.s, .i .i64, .i .i64]) (a1x0 : Cells S.ty [.i .i64, .i .i64]) (a1x1 : Cells S.ty [.t]) (a1x2 : Cells S.ty [.i .i64]) (a1x3 : Cells S.ty [.i .i64]) : runFn Tryz.prog Tryz.f43 (bodyOf Tryz.f43) [] (doneMake.args a0 a1x0 a1x1 a1x2 a1x3) (doneMake.giv a0 a1x0 a1x1 a1x2 a1x3) = doneMake.T a0 a1x0 a1x1 a1x2 a1x3 := by kernel_rfl
def doneMkdir.args (a0 : Cells S.ty [.s, .i .i64, .i .i64]) (a1x0 : Cells S.ty [.i .i64, .i .i64]) (a1x1 : Cells S.ty [.t]) (a1x2 : Cells S.ty [.i .i64]) : List (SV S.ty) := [.agg (cellsSV [.s, .i .i64, .i .i64] a0), .fn (.func 68) [] [.p 31 0, .p 32 0, .p 33 0]]
def doneMkdir.giv (a0 : Cells S.ty [.s, .i .i64, .i .i64]) (a1x0 : Cells S.ty [.i .i64, .i .i64]) (a1x1 : Cells S.ty [.t]) (a1x2 : Cells S.ty [.i .i64]) : List (Nat × Own S.ty) := [(31, ⟨true, [.i .i64, .i .i64], some [.i .i64 (.at a1x0.1), .i .i64 (.at a1x0.2.1)]⟩), (32, ⟨true, [.t], some [.t (.at a1x1.1)]⟩), (33, ⟨true, [.i .i64], some [.i .i64 (.at a1x2.1)]⟩)]
def doneMkdir.T (a0 : Cells S.ty [.s, .i .i64, .i .i64]) (a1x0 : Cells S.ty [.i .i64, .i .i64]) (a1x1 : Cells S.ty [.t]) (a1x2 : Cells S.ty [.i .i64]) : Tree S.ty :=
 .new 2 <|
 .new 4 <|
 .new 10 <|
 .call (.b true) true 68 [.p 10 0, .p 31 0, .p 32 0, .p 33 0] [(10, [.s (.at a0.1.1) (.at a0.1.2.1) (.at a0.1.2.2), .i .i64 (.at a0.2.1), .i .i64 (.at a0.2.2.1), .i .i64 (.i 0)]), (31, [.i .i64 (.at a1x0.1), .i .i64 (.at a1x0.2.1)]), (32, [.t (.at a1x1.1)]), (33, [.i .i64 (.at a1x2.1)])] [] [(false, [.v])] [K5, [.i .i64, .i .i64], [.t], [.i .i64]] fun x0 y0 =>
 .ob (.b true) (.ifc (.at x0.1)) <|
 .test (.nilV (.at x0.1))
 (.ret (.tup [.agg ((cellsSV K5 y0.1).take 3), .i .i64 (.i 0)]) [(cellsSV [.i .i64, .i .i64] y0.2.1), [.t (.at y0.2.2.1.1)], [.i .i64 (.at y0.2.2.2.1.1)]] [])
 (.uld (.b true) (.glob 0) (.n 0) [.v] fun x1 =>
 .call (.b true) true 92 [.v (.at x0.1), .v (.at x1.1)] [] [] [(false, [.b])] [] fun x2 y2 =>
 .test (.at x2.1)
 (.ret (.tup [.agg (cellsSV [.s, .i .i64, .i .i64] a0), .i .i64 (.i 0)]) [(cellsSV [.i .i64, .i .i64] y0.2.1), [.t (.at y0.2.2.1.1)], [.i .i64 (.at y0.2.2.2.1.1)]] [])
 (.call (.b true) false 93 [.v (.at x0.1)] [] [] [(false, [.i .i64])] [] fun x3 y3 =>
 .ret (.tup [.agg (cellsSV [.s, .i .i64, .i .i64] a0), .i .i64 (.at x3.1)]) [(cellsSV [.i .i64, .i .i64] y0.2.1), [.t (.at y0.2.2.1.1)], [.i .i64 (.at y0.2.2.2.1.1)]] []))
theorem doneMkdir.run (a0 : Cells S.ty [.s, .i .i64, .i .i64]) (a1x0 : Cells S.ty [.i .i64, .i .i64]) (a1x1 : Cells S.ty [.t]) (a1x2 : Cells S.ty [.i .i64]) : runFn Tryz.prog Tryz.f43 (bodyOf Tryz.f43) [] (doneMkdir.args a0 a1x0 a1x1 a1x2) (doneMkdir.giv a0 a1x0 a1x1 a1x2) = doneMkdir.T a0 a1x0 a1x1 a1x2 := by kernel_rfl
def doneSym.args (a0 : Cells S.ty [.s, .i .i64, .i .i64]) (a1x0 : Cells S.ty [.t]) (a1x1 : Cells S.ty [.i .i64, .i .i64]) (a1x2 : Cells S.ty [.t]) : List (SV S.ty) := [.agg (cellsSV [.s, .i .i64, .i .i64] a0), .fn (.func 78) [] [.p 31 0, .p 32 0, .p 33 0]]
def doneSym.giv (a0 : Cells S.ty [.s, .i .i64, .i .i64]) (a1x0 : Cells S.ty [.t]) (a1x1 : Cells S.ty [.i .i64, .i .i64]) (a1x2 : Cells S.ty [.t]) : List (Nat × Own S.ty) := [(31, ⟨true, [.t], some [.t (.at a1x0.1)]⟩), (32, ⟨true, [.i .i64, .i .i64], some [.i .i64 (.at a1x1.1), .i .i64 (.at a1x1.2.1)]⟩), (33, ⟨true, [.t], some [.t (.at a1x2.1)]⟩)]
def doneSym.T (a0 : Cells S.ty [.s, .i .i64, .i .i64]) (a1x0 : Cells S.ty [.t]) (a1x1 : Cells S.ty [.i .i64, .i .i64]) (a1x2 : Cells S.ty [.t]) : Tree S.ty :=
 .new 2 <|
 .new 4 <|
 .new 10 <|
 .call (.b true) true 78 [.p 10 0, .p 31 0, .p 32 0, .p 33 0] [(10, [.s (.at a0.1.1) (.at a0.1.2.1) (.at a0.1.2.2), .i .i64 (.at a0.2.1), .i .i64 (.at a0.2.2.1), .i .i64 (.i 0)]), (31, [.t (.at a1x0.1)]), (32, [.i .i64 (.at a1x1.1), .i .i64 (.at a1x1.2.1)]), (33, [.t (.at a1x2.1)])] [] [(false, [.v])] [K5, [.t], [.i .i64, .i .i64], [.t]] fun x0 y0 =>
 .ob (.b true) (.ifc (.at x0.1)) <|
 .test (.nilV (.at x0.1))
 (.ret (.tup [.agg ((cellsSV K5 y0.1).take 3), .i .i64 (.i 0)]) [[.t (.at y0.2.1.1)], (cellsSV [.i .i64, .i .i64] y0.2.2.1), [.t (.at y0.2.2.2.1.1)]] [])
 (.uld (.b true) (.glob 0) (.n 0) [.v] fun x1 =>
 .call (.b true) true 92 [.v (.at x0.1), .v (.at x1.1)] [] [] [(false, [.b])] [] fun x2 y2 =>
 .test (.at x2.1)
 (.ret (.tup [.agg (cellsSV [.s, .i .i64, .i .i64] a0), .i .i64 (.i 0)]) [[.t (.at y0.2.1.1)], (cellsSV [.i .i64, .i .i64] y0.2.2.1), [.t (.at y0.2.2.2.1.1)]] [])
 (.call (.b true) false 93 [.v (.at x0.1)] [] [] [(false, [.i .i64])] [] fun x3 y3 =>
 .ret (.tup [.agg (cellsSV [.s, .i .i64, .i .i64] a0), .i .i64 (.at x3.1)]) [[.t (.at y0.2.1.1)], (cellsSV [.i .i64, .i .i64] y0.2.2.1), [.t (.at y0.2.2.2.1.1)]] []))
theorem doneSym.run (a0 : Cells S.ty [.s, .i .i64, .i .i64]) (a1x0 : Cells S.ty [.t]) (a1x1 : Cells S.ty [.i .i64, .i .i64]) (a1x2 : Cells S.ty [.t]) : runFn Tryz.prog Tryz.f43 (bodyOf Tryz.f43) [] (doneSym.args a0 a1x0 a1x1 a1x2) (doneSym.giv a0 a1x0 a1x1 a1x2) = doneSym.T a0 a1x0 a1x1 a1x2 := by kernel_rfl
def doneLink.args (a0 : Cells S.ty [.s, .i .i64, .i .i64]) (a1x0 : Cells S.ty [.i .i64, .i .i64]) (a1x1 : Cells S.ty [.t]) (a1x2 : Cells S.ty [.t]) : List (SV S.ty) := [.agg (cellsSV [.s, .i .i64, .i .i64] a0), .fn (.func 79) [] [.p 31 0, .p 32 0, .p 33 0]]
def doneLink.giv (a0 : Cells S.ty [.s, .i .i64, .i .i64]) (a1x0 : Cells S.ty [.i .i64, .i .i64]) (a1x1 : Cells S.ty [.t]) (a1x2 : Cells S.ty [.t]) : List (Nat × Own S.ty) := [(31, ⟨true, [.i .i64, .i .i64], some [.i .i64 (.at a1x0.1), .i .i64 (.at a1x0.2.1)]⟩), (32, ⟨true, [.t], some [.t (.at a1x1.1)]⟩), (33, ⟨true, [.t], some [.t (.at a1x2.1)]⟩)]
def doneLink.T (a0 : Cells S.ty [.s, .i .i64, .i .i64]) (a1x0 : Cells S.ty [.i .i64, .i .i64]) (a1x1 : Cells S.ty [.t]) (a1x2 : Cells S.ty [.t]) : Tree S.ty :=
 .new 2 <|
 .new 4 <|
 .new 10 <|
 .call (.b true) true 79 [.p 10 0, .p 31 0, .p 32 0, .p 33 0] [(10, [.s (.at a0.1.1) (.at a0.1.2.1) (.at a0.1.2.2), .i .i64 (.at a0.2.1), .i .i64 (.at a0.2.2.1), .i .i64 (.i 0)]), (31, [.i .i64 (.at a1x0.1), .i .i64 (.at a1x0.2.1)]), (32, [.t (.at a1x1.1)]), (33, [.t (.at a1x2.1)])] [] [(false, [.v])] [K5, [.i .i64, .i .i64], [.t], [.t]] fun x0 y0 =>
 .ob (.b true) (.ifc (.at x0.1)) <|
 .test (.nilV (.at x0.1))
 (.ret (.tup [.agg ((cellsSV K5 y0.1).take 3), .i .i64 (.i 0)]) [(cellsSV [.i .i64, .i .i64] y0.2.1), [.t (.at y0.2.2.1.1)], [.t (.at y0.2.2.2.1.1)]] [])
 (.uld (.b true) (.glob 0) (.n 0) [.v] fun x1 =>
 .call (.b true) true 92 [.v (.at x0.1), .v (.at x1.1)] [] [] [(false, [.b])] [] fun x2 y2 =>
 .test (.at x2.1)
 (.ret (.tup [.agg (cellsSV [.s, .i .i64, .i .i64] a0), .i .i64 (.i 0)]) [(cellsSV [.i .i64, .i .i64] y0.2.1), [.t (.at y0.2.2.1.1)], [.t (.at y0.2.2.2.1.1)]] [])
 (.call (.b true) false 93 [.v (.at x0.1)] [] [] [(false, [.i .i64])] [] fun x3 y3 =>
 .ret (.tup [.agg (cellsSV [.s, .i .i64, .i .i64] a0), .i .i64 (.at x3.1)]) [(cellsSV [.i .i64, .i .i64] y0.2.1), [.t (.at y0.2.2.1.1)], [.t (.at y0.2.2.2.1.1)]] []))
theorem doneLink.run (a0 : Cells S.ty [.s, .i .i64, .i .i64]) (a1x0 : Cells S.ty [.i .i64, .i .i64]) (a1x1 : Cells S.ty [.t]) (a1x2 : Cells S.ty [.t]) : runFn Tryz.prog Tryz.f43 (bodyOf Tryz.f43) [] (doneLink.args a0 a1x0 a1x1 a1x2) (doneLink.giv a0 a1x0 a1x1 a1x2) = doneLink.T a0 a1x0 a1x1 a1x2 := by kernel_rfl
def doneUnl.args (a0 : Cells S.ty [.s, .i .i64, .i .i64]) (a1x0 : Cells S.ty [.i .i64, .i .i64]) (a1x1 : Cells S.ty [.t]) : List (SV S.ty) := [.agg (cellsSV [.s, .i .i64, .i .i64] a0), .fn (.func 69) [] [.p 31 0, .p 32 0]]
def doneUnl.giv (a0 : Cells S.ty [.s, .i .i64, .i .i64]) (a1x0 : Cells S.ty [.i .i64, .i .i64]) (a1x1 : Cells S.ty [.t]) : List (Nat × Own S.ty) := [(31, ⟨true, [.i .i64, .i .i64], some [.i .i64 (.at a1x0.1), .i .i64 (.at a1x0.2.1)]⟩), (32, ⟨true, [.t], some [.t (.at a1x1.1)]⟩)]
def doneUnl.T (a0 : Cells S.ty [.s, .i .i64, .i .i64]) (a1x0 : Cells S.ty [.i .i64, .i .i64]) (a1x1 : Cells S.ty [.t]) : Tree S.ty :=
 .new 2 <|
 .new 4 <|
 .new 10 <|
 .call (.b true) true 69 [.p 10 0, .p 31 0, .p 32 0] [(10, [.s (.at a0.1.1) (.at a0.1.2.1) (.at a0.1.2.2), .i .i64 (.at a0.2.1), .i .i64 (.at a0.2.2.1), .i .i64 (.i 0)]), (31, [.i .i64 (.at a1x0.1), .i .i64 (.at a1x0.2.1)]), (32, [.t (.at a1x1.1)])] [] [(false, [.v])] [K5, [.i .i64, .i .i64], [.t]] fun x0 y0 =>
 .ob (.b true) (.ifc (.at x0.1)) <|
 .test (.nilV (.at x0.1))
 (.ret (.tup [.agg ((cellsSV K5 y0.1).take 3), .i .i64 (.i 0)]) [(cellsSV [.i .i64, .i .i64] y0.2.1), [.t (.at y0.2.2.1.1)]] [])
 (.uld (.b true) (.glob 0) (.n 0) [.v] fun x1 =>
 .call (.b true) true 92 [.v (.at x0.1), .v (.at x1.1)] [] [] [(false, [.b])] [] fun x2 y2 =>
 .test (.at x2.1)
 (.ret (.tup [.agg (cellsSV [.s, .i .i64, .i .i64] a0), .i .i64 (.i 0)]) [(cellsSV [.i .i64, .i .i64] y0.2.1), [.t (.at y0.2.2.1.1)]] [])
 (.call (.b true) false 93 [.v (.at x0.1)] [] [] [(false, [.i .i64])] [] fun x3 y3 =>
 .ret (.tup [.agg (cellsSV [.s, .i .i64, .i .i64] a0), .i .i64 (.at x3.1)]) [(cellsSV [.i .i64, .i .i64] y0.2.1), [.t (.at y0.2.2.1.1)]] []))
theorem doneUnl.run (a0 : Cells S.ty [.s, .i .i64, .i .i64]) (a1x0 : Cells S.ty [.i .i64, .i .i64]) (a1x1 : Cells S.ty [.t]) : runFn Tryz.prog Tryz.f43 (bodyOf Tryz.f43) [] (doneUnl.args a0 a1x0 a1x1) (doneUnl.giv a0 a1x0 a1x1) = doneUnl.T a0 a1x0 a1x1 := by kernel_rfl
def doneRmd.args (a0 : Cells S.ty [.s, .i .i64, .i .i64]) (a1x0 : Cells S.ty [.i .i64, .i .i64]) (a1x1 : Cells S.ty [.t]) : List (SV S.ty) := [.agg (cellsSV [.s, .i .i64, .i .i64] a0), .fn (.func 70) [] [.p 31 0, .p 32 0]]
def doneRmd.giv (a0 : Cells S.ty [.s, .i .i64, .i .i64]) (a1x0 : Cells S.ty [.i .i64, .i .i64]) (a1x1 : Cells S.ty [.t]) : List (Nat × Own S.ty) := [(31, ⟨true, [.i .i64, .i .i64], some [.i .i64 (.at a1x0.1), .i .i64 (.at a1x0.2.1)]⟩), (32, ⟨true, [.t], some [.t (.at a1x1.1)]⟩)]
def doneRmd.T (a0 : Cells S.ty [.s, .i .i64, .i .i64]) (a1x0 : Cells S.ty [.i .i64, .i .i64]) (a1x1 : Cells S.ty [.t]) : Tree S.ty :=
 .new 2 <|
 .new 4 <|
 .new 10 <|
 .call (.b true) true 70 [.p 10 0, .p 31 0, .p 32 0] [(10, [.s (.at a0.1.1) (.at a0.1.2.1) (.at a0.1.2.2), .i .i64 (.at a0.2.1), .i .i64 (.at a0.2.2.1), .i .i64 (.i 0)]), (31, [.i .i64 (.at a1x0.1), .i .i64 (.at a1x0.2.1)]), (32, [.t (.at a1x1.1)])] [] [(false, [.v])] [K5, [.i .i64, .i .i64], [.t]] fun x0 y0 =>
 .ob (.b true) (.ifc (.at x0.1)) <|
 .test (.nilV (.at x0.1))
 (.ret (.tup [.agg ((cellsSV K5 y0.1).take 3), .i .i64 (.i 0)]) [(cellsSV [.i .i64, .i .i64] y0.2.1), [.t (.at y0.2.2.1.1)]] [])
 (.uld (.b true) (.glob 0) (.n 0) [.v] fun x1 =>
 .call (.b true) true 92 [.v (.at x0.1), .v (.at x1.1)] [] [] [(false, [.b])] [] fun x2 y2 =>
 .test (.at x2.1)
 (.ret (.tup [.agg (cellsSV [.s, .i .i64, .i .i64] a0), .i .i64 (.i 0)]) [(cellsSV [.i .i64, .i .i64] y0.2.1), [.t (.at y0.2.2.1.1)]] [])
 (.call (.b true) false 93 [.v (.at x0.1)] [] [] [(false, [.i .i64])] [] fun x3 y3 =>
 .ret (.tup [.agg (cellsSV [.s, .i .i64, .i .i64] a0), .i .i64 (.at x3.1)]) [(cellsSV [.i .i64, .i .i64] y0.2.1), [.t (.at y0.2.2.1.1)]] []))
theorem doneRmd.run (a0 : Cells S.ty [.s, .i .i64, .i .i64]) (a1x0 : Cells S.ty [.i .i64, .i .i64]) (a1x1 : Cells S.ty [.t]) : runFn Tryz.prog Tryz.f43 (bodyOf Tryz.f43) [] (doneRmd.args a0 a1x0 a1x1) (doneRmd.giv a0 a1x0 a1x1) = doneRmd.T a0 a1x0 a1x1 := by kernel_rfl
def doneRen.args (a0 : Cells S.ty [.s, .i .i64, .i .i64]) (a1x0 : Cells S.ty [.i .i64, .i .i64]) (a1x1 : Cells S.ty [.t]) (a1x2 : Cells S.ty [.i .i64, .i .i64]) (a1x3 : Cells S.ty [.t]) : List (SV S.ty) := [.agg (cellsSV [.s, .i .i64, .i .i64] a0), .fn (.func 44) [] [.p 31 0, .p 32 0, .p 33 0, .p 34 0]]
def doneRen.giv (a0 : Cells S.ty [.s, .i .i64, .i .i64]) (a1x0 : Cells S.ty [.i .i64, .i .i64]) (a1x1 : Cells S.ty [.t]) (a1x2 : Cells S.ty [.i .i64, .i .i64]) (a1x3 : Cells S.ty [.t]) : List (Nat × Own S.ty) := [(31, ⟨true, [.i .i64, .i .i64], some [.i .i64 (.at a1x0.1), .i .i64 (.at a1x0.2.1)]⟩), (32, ⟨true, [.t], some [.t (.at a1x1.1)]⟩), (33, ⟨true, [.i .i64, .i .i64], some [.i .i64 (.at a1x2.1), .i .i64 (.at a1x2.2.1)]⟩), (34, ⟨true, [.t], some [.t (.at a1x3.1)]⟩)]
def doneRen.T (a0 : Cells S.ty [.s, .i .i64, .i .i64]) (a1x0 : Cells S.ty [.i .i64, .i .i64]) (a1x1 : Cells S.ty [.t]) (a1x2 : Cells S.ty [.i .i64, .i .i64]) (a1x3 : Cells S.ty [.t]) : Tree S.ty :=
 .new 2 <|
 .new 4 <|
 .new 10 <|
 .call (.b true) true 44 [.p 10 0, .p 31 0, .p 32 0, .p 33 0, .p 34 0] [(10, [.s (.at a0.1.1) (.at a0.1.2.1) (.at a0.1.2.2), .i .i64 (.at a0.2.1), .i .i64 (.at a0.2.2.1), .i .i64 (.i 0)]), (31, [.i .i64 (.at a1x0.1), .i .i64 (.at a1x0.2.1)]), (32, [.t (.at a1x1.1)]), (33, [.i .i64 (.at a1x2.1), .i .i64 (.at a1x2.2.1)]), (34, [.t (.at a1x3.1)])] [] [(false, [.v])] [K5, [.i .i64, .i .i64], [.t], [.i .i64, .i .i64], [.t]] fun x0 y0 =>
 .ob (.b true) (.ifc (.at x0.1)) <|
 .test (.nilV (.at x0.1))
 (.ret (.tup [.agg ((cellsSV K5 y0.1).take 3), .i .i64 (.i 0)]) [(cellsSV [.i .i64, .i .i64] y0.2.1), [.t (.at y0.2.2.1.1)], (cellsSV [.i .i64, .i .i64] y0.2.2.2.1), [.t (.at y0.2.2.2.2.1.1)]] [])
 (.uld (.b true) (.glob 0) (.n 0) [.v] fun x1 =>
 .call (.b true) true 92 [.v (.at x0.1), .v (.at x1.1)] [] [] [(false, [.b])] [] fun x2 y2 =>
 .test (.at x2.1)
 (.ret (.tup [.agg (cellsSV [.s, .i .i64, .i .i64] a0), .i .i64 (.i 0)]) [(cellsSV [.i .i64, .i .i64] y0.2.1), [.t (.at y0.2.2.1.1)], (cellsSV [.i .i64, .i .i64] y0.2.2.2.1), [.t (.at y0.2.2.2.2.1.1)]] [])
 (.call (.b true) false 93 [.v (.at x0.1)] [] [] [(false, [.i .i64])] [] fun x3 y3 =>
 .ret (.tup [.agg (cellsSV [.s, .i .i64, .i .i64] a0), .i .i64 (.at x3.1)]) [(cellsSV [.i .i64, .i .i64] y0.2.1), [.t (.at y0.2.2.1.1)], (cellsSV [.i .i64, .i .i64] y0.2.2.2.1), [.t (.at y0.2.2.2.2.1.1)]] []))
theorem doneRen.run (a0 : Cells S.ty [.s, .i .i64, .i .i64]) (a1x0 : Cells S.ty [.i .i64, .i .i64]) (a1x1 : Cells S.ty [.t]) (a1x2 : Cells S.ty [.i .i64, .i .i64]) (a1x3 : Cells S.ty [.t]) : runFn Tryz.prog Tryz.f43 (bodyOf Tryz.f43) [] (doneRen.args a0 a1x0 a1x1 a1x2 a1x3) (doneRen.giv a0 a1x0 a1x1 a1x2 a1x3) = doneRen.T a0 a1x0 a1x1 a1x2 a1x3 := by kernel_rfl
def doneChm.args (a0 : Cells S.ty [.s, .i .i64, .i .i64]) (a1x0 : Cells S.ty [.i .i64, .i .i64]) (a1x1 : Cells S.ty [.t]) (a1x2 : Cells S.ty [.i .i64]) : List (SV S.ty) := [.agg (cellsSV [.s, .i .i64, .i .i64] a0), .fn (.func 83) [] [.p 31 0, .p 32 0, .p 33 0]]
def doneChm.giv (a0 : Cells S.ty [.s, .i .i64, .i .i64]) (a1x0 : Cells S.ty [.i .i64, .i .i64]) (a1x1 : Cells S.ty [.t]) (a1x2 : Cells S.ty [.i .i64]) : List (Nat × Own S.ty) := [(31, ⟨true, [.i .i64, .i .i64], some [.i .i64 (.at a1x0.1), .i .i64 (.at a1x0.2.1)]⟩), (32, ⟨true, [.t], some [.t (.at a1x1.1)]⟩), (33, ⟨true, [.i .i64], some [.i .i64 (.at a1x2.1)]⟩)]
def doneChm.T (a0 : Cells S.ty [.s, .i .i64, .i .i64]) (a1x0 : Cells S.ty [.i .i64, .i .i64]) (a1x1 : Cells S.ty [.t]) (a1x2 : Cells S.ty [.i .i64]) : Tree S.ty :=
 .new 2 <|
 .new 4 <|
 .new 10 <|
 .call (.b true) true 83 [.p 10 0, .p 31 0, .p 32 0, .p 33 0] [(10, [.s (.at a0.1.1) (.at a0.1.2.1) (.at a0.1.2.2), .i .i64 (.at a0.2.1), .i .i64 (.at a0.2.2.1), .i .i64 (.i 0)]), (31, [.i .i64 (.at a1x0.1), .i .i64 (.at a1x0.2.1)]), (32, [.t (.at a1x1.1)]), (33, [.i .i64 (.at a1x2.1)])] [] [(false, [.v])] [K5, [.i .i64, .i .i64], [.t], [.i .i64]] fun x0 y0 =>
 .ob (.b true) (.ifc (.at x0.1)) <|
 .test (.nilV (.at x0.1))
 (.ret (.tup [.agg ((cellsSV K5 y0.1).take 3), .i .i64 (.i 0)]) [(cellsSV [.i .i64, .i .i64] y0.2.1), [.t (.at y0.2.2.1.1)], [.i .i64 (.at y0.2.2.2.1.1)]] [])
 (.uld (.b true) (.glob 0) (.n 0) [.v] fun x1 =>
 .call (.b true) true 92 [.v (.at x0.1), .v (.at x1.1)] [] [] [(false, [.b])] [] fun x2 y2 =>
 .test (.at x2.1)
 (.ret (.tup [.agg (cellsSV [.s, .i .i64, .i .i64] a0), .i .i64 (.i 0)]) [(cellsSV [.i .i64, .i .i64] y0.2.1), [.t (.at y0.2.2.1.1)], [.i .i64 (.at y0.2.2.2.1.1)]] [])
 (.call (.b true) false 93 [.v (.at x0.1)] [] [] [(false, [.i .i64])] [] fun x3 y3 =>
 .ret (.tup [.agg (cellsSV [.s, .i .i64, .i .i64] a0), .i .i64 (.at x3.1)]) [(cellsSV [.i .i64, .i .i64] y0.2.1), [.t (.at y0.2.2.1.1)], [.i .i64 (.at y0.2.2.2.1.1)]] []))
theorem doneChm.run (a0 : Cells S.ty [.s, .i .i64, .i .i64]) (a1x0 : Cells S.ty [.i .i64, .i .i64]) (a1x1 : Cells S.ty [.t]) (a1x2 : Cells S.ty [.i .i64]) : runFn Tryz.prog Tryz.f43 (bodyOf Tryz.f43) [] (doneChm.args a0 a1x0 a1x1 a1x2) (doneChm.giv a0 a1x0 a1x1 a1x2) = doneChm.T a0 a1x0 a1x1 a1x2 := by kernel_rfl
def make_.args (a0 : Cells S.ty [.s, .i .i64, .i .i64]) (a1 : Cells S.ty [.i .i64, .i .i64]) (a2 : Cells S.ty [.t]) (a3 : Cells S.ty [.i .i64]) : List (SV S.ty) := [.agg (cellsSV [.s, .i .i64, .i .i64] a0), .agg (cellsSV [.i .i64, .i .i64] a1), .t (.at a2.1), .i .i64 (.at a3.1)]
def make_.giv (a0 : Cells S.ty [.s, .i .i64, .i .i64]) (a1 : Cells S.ty [.i .i64, .i .i64]) (a2 : Cells S.ty [.t]) (a3 : Cells S.ty [.i .i64]) : List (Nat × Own S.ty) := []
def make_.T (a0 : Cells S.ty [.s, .i .i64, .i .i64]) (a1 : Cells S.ty [.i .i64, .i .i64]) (a2 : Cells S.ty [.t]) (a3 : Cells S.ty [.i .i64]) : Tree S.ty :=
 .new 4 <|
 .new 5 <|
 .new 6 <|
 .new 7 <|
 .new 8 <|
 .new 11 <|
 .call (.b true) true 43 [.agg (cellsSV [.s, .i .i64, .i .i64] a0), .fn (.func 66) [] [.p 5 0, .p 6 0, .p 7 0, .p 11 0]] [(5, (cellsSV [.i .i64, .i .i64] a1)), (6, [.t (.at a2.1)]), (7, [.i .i64 (.at a3.1)]), (11, [.i .i64 (.i 0)])] [] [(true, [.s, .i .i64, .i .i64]), (false, [.i .i64])] [[.i .i64, .i .i64], [.t], [.i .i64], [.i .i64]] fun x0 y0 =>
 .new 12 <|
 .ret (.tup [.agg ((cellsSV K5 x0).take 3), .i .i64 (.at y0.2.2.2.1.1), .i .i64 (.at x0.2.2.2.1)]) [] []
theorem make_.run (a0 : Cells S.ty [.s, .i .i64, .i .i64]) (a1 : Cells S.ty [.i .i64, .i .i64]) (a2 : Cells S.ty [.t]) (a3 : Cells S.ty [.i .i64]) : runFn Tryz.prog Tryz.f18 (bodyOf Tryz.f18) [] (make_.args a0 a1 a2 a3) (make_.giv a0 a1 a2 a3) = make_.T a0 a1 a2 a3 := by kernel_rfl
def mkdir_.args (a0 : Cells S.ty [.s, .i .i64, .i .i64]) (a1 : Cells S.ty [.i .i64, .i .i64]) (a2 : Cells S.ty [.t]) (a3 : Cells S.ty [.i .i64]) : List (SV S.ty) := [.agg (cellsSV [.s, .i .i64, .i .i64] a0), .agg (cellsSV [.i .i64, .i .i64] a1), .t (.at a2.1), .i .i64 (.at a3.1)]
def mkdir_.giv (a0 : Cells S.ty [.s, .i .i64, .i .i64]) (a1 : Cells S.ty [.i .i64, .i .i64]) (a2 : Cells S.ty [.t]) (a3 : Cells S.ty [.i .i64]) : List (Nat × Own S.ty) := []
def mkdir_.T (a0 : Cells S.ty [.s, .i .i64, .i .i64]) (a1 : Cells S.ty [.i .i64, .i .i64]) (a2 : Cells S.ty [.t]) (a3 : Cells S.ty [.i .i64]) : Tree S.ty :=
 .new 4 <|
 .new 5 <|
 .new 6 <|
 .new 7 <|
 .new 8 <|
 .call (.b true) true 43 [.agg (cellsSV [.s, .i .i64, .i .i64] a0), .fn (.func 68) [] [.p 5 0, .p 6 0, .p 7 0]] [(5, (cellsSV [.i .i64, .i .i64] a1)), (6, [.t (.at a2.1)]), (7, [.i .i64 (.at a3.1)])] [] [(true, [.s, .i .i64, .i .i64]), (false, [.i .i64])] [[.i .i64, .i .i64], [.t], [.i .i64]] fun x0 y0 =>
 .ret (.tup [.agg ((cellsSV K5 x0).take 3), .i .i64 (.at x0.2.2.2.1)]) [] []
theorem mkdir_.run (a0 : Cells S.ty [.s, .i .i64, .i .i64]) (a1 : Cells S.ty [.i .i64, .i .i64]) (a2 : Cells S.ty [.t]) (a3 : Cells S.ty [.i .i64]) : runFn Tryz.prog Tryz.f19 (bodyOf Tryz.f19) [] (mkdir_.args a0 a1 a2 a3) (mkdir_.giv a0 a1 a2 a3) = mkdir_.T a0 a1 a2 a3 := by kernel_rfl
def sym_.args (a0 : Cells S.ty [.s, .i .i64, .i .i64]) (a1 : Cells S.ty [.i .i64, .i .i64]) (a2 : Cells S.ty [.t]) (a3 : Cells S.ty [.t]) : List (SV S.ty) := [.agg (cellsSV [.s, .i .i64, .i .i64] a0), .agg (cellsSV [.i .i64, .i .i64] a1), .t (.at a2.1), .t (.at a3.1)]
def sym_.giv (a0 : Cells S.ty [.s, .i .i64, .i .i64]) (a1 : Cells S.ty [.i .i64, .i .i64]) (a2 : Cells S.ty [.t]) (a3 : Cells S.ty [.t]) : List (Nat × Own S.ty) := []
def sym_.T (a0 : Cells S.ty [.s, .i .i64, .i .i64]) (a1 : Cells S.ty [.i .i64, .i .i64]) (a2 : Cells S.ty [.t]) (a3 : Cells S.ty [.t]) : Tree S.ty :=
 .new 4 <|
 .new 5 <|
 .new 6 <|
 .new 7 <|
 .new 8 <|
 .call (.b true) true 43 [.agg (cellsSV [.s, .i .i64, .i .i64] a0), .fn (.func 78) [] [.p 6 0, .p 5 0, .p 7 0]] [(6, [.t (.at a2.1)]), (5, (cellsSV [.i .i64, .i .i64] a1)), (7, [.t (.at a3.1)])] [] [(true, [.s, .i .i64, .i .i64]), (false, [.i .i64])] [[.t], [.i .i64, .i .i64], [.t]] fun x0 y0 =>
 .ret (.tup [.agg ((cellsSV K5 x0).take 3), .i .i64 (.at x0.2.2.2.1)]) [] []
theorem sym_.run (a0 : Cells S.ty [.s, .i .i64, .i .i64]) (a1 : Cells S.ty [.i .i64, .i .i64]) (a2 : Cells S.ty [.t]) (a3 : Cells S.ty [.t]) : runFn Tryz.prog Tryz.f31 (bodyOf Tryz.f31) [] (sym_.args a0 a1 a2 a3) (sym_.giv a0 a1 a2 a3) = sym_.T a0 a1 a2 a3 := by kernel_rfl
def link_.args (a0 : Cells S.ty [.s, .i .i64, .i .i64]) (a1 : Cells S.ty [.i .i64, .i .i64]) (a2 : Cells S.ty [.t]) (a3 : Cells S.ty [.t]) : List (SV S.ty) := [.agg (cellsSV [.s, .i .i64, .i .i64] a0), .agg (cellsSV [.i .i64, .i .i64] a1), .t (.at a2.1), .t (.at a3.1)]
def link_.giv (a0 : Cells S.ty [.s, .i .i64, .i .i64]) (a1 : Cells S.ty [.i .i64, .i .i64]) (a2 : Cells S.ty [.t]) (a3 : Cells S.ty [.t]) : List (Nat × Own S.ty) := []
def link_.T (a0 : Cells S.ty [.s, .i .i64, .i .i64]) (a1 : Cells S.ty [.i .i64, .i .i64]) (a2 : Cells S.ty [.t]) (a3 : Cells S.ty [.t]) : Tree S.ty :=
 .new 4 <|
 .new 5 <|
 .new 6 <|
 .new 7 <|
 .new 8 <|
 .call (.b true) true 43 [.agg (cellsSV [.s, .i .i64, .i .i64] a0), .fn (.func 79) [] [.p 5 0, .p 6 0, .p 7 0]] [(5, (cellsSV [.i .i64, .i .i64] a1)), (6, [.t (.at a2.1)]), (7, [.t (.at a3.1)])] [] [(true, [.s, .i .i64, .i .i64]), (false, [.i .i64])] [[.i .i64, .i .i64], [.t], [.t]] fun x0 y0 =>
 .ret (.tup [.agg ((cellsSV K5 x0).take 3), .i .i64 (.at x0.2.2.2.1)]) [] []
theorem link_.run (a0 : Cells S.ty [.s, .i .i64, .i .i64]) (a1 : Cells S.ty [.i .i64, .i .i64]) (a2 : Cells S.ty [.t]) (a3 : Cells S.ty [.t]) : runFn Tryz.prog Tryz.f33 (bodyOf Tryz.f33) [] (link_.args a0 a1 a2 a3) (link_.giv a0 a1 a2 a3) = link_.T a0 a1 a2 a3 := by kernel_rfl
def unl_.args (a0 : Cells S.ty [.s, .i .i64, .i .i64]) (a1 : Cells S.ty [.i .i64, .i .i64]) (a2 : Cells S.ty [.t]) : List (SV S.ty) := [.agg (cellsSV [.s, .i .i64, .i .i64] a0), .agg (cellsSV [.i .i64, .i .i64] a1), .t (.at a2.1)]
def unl_.giv (a0 : Cells S.ty [.s, .i .i64, .i .i64]) (a1 : Cells S.ty [.i .i64, .i .i64]) (a2 : Cells S.ty [.t]) : List (Nat × Own S.ty) := []
def unl_.T (a0 : Cells S.ty [.s, .i .i64, .i .i64]) (a1 : Cells S.ty [.i .i64, .i .i64]) (a2 : Cells S.ty [.t]) : Tree S.ty :=
 .new 3 <|
 .new 4 <|
 .new 5 <|
 .new 6 <|
 .call (.b true) true 43 [.agg (cellsSV [.s, .i .i64, .i .i64] a0), .fn (.func 69) [] [.p 4 0, .p 5 0]] [(4, (cellsSV [.i .i64, .i .i64] a1)), (5, [.t (.at a2.1)])] [] [(true, [.s, .i .i64, .i .i64]), (false, [.i .i64])] [[.i .i64, .i .i64], [.t]] fun x0 y0 =>
 .ret (.tup [.agg ((cellsSV K5 x0).take 3), .i .i64 (.at x0.2.2.2.1)]) [] []
theorem unl_.run (a0 : Cells S.ty [.s, .i .i64, .i .i64]) (a1 : Cells S.ty [.i .i64, .i .i64]) (a2 : Cells S.ty [.t]) : runFn Tryz.prog Tryz.f20 (bodyOf Tryz.f20) [] (unl_.args a0 a1 a2) (unl_.giv a0 a1 a2) = unl_.T a0 a1 a2 := by kernel_rfl
def rmd_.args (a0 : Cells S.ty [.s, .i .i64, .i .i64]) (a1 : Cells S.ty [.i .i64, .i .i64]) (a2 : Cells S.ty [.t]) : List (SV S.ty) := [.agg (cellsSV [.s, .i .i64, .i .i64] a0), .agg (cellsSV [.i .i64, .i .i64] a1), .t (.at a2.1)]
def rmd_.giv (a0 : Cells S.ty [.s, .i .i64, .i .i64]) (a1 : Cells S.ty [.i .i64, .i .i64]) (a2 : Cells S.ty [.t]) : List (Nat × Own S.ty) := []
def rmd_.T (a0 : Cells S.ty [.s, .i .i64, .i .i64]) (a1 : Cells S.ty [.i .i64, .i .i64]) (a2 : Cells S.ty [.t]) : Tree S.ty :=
 .new 3 <|
 .new 4 <|
 .new 5 <|
 .new 6 <|
 .call (.b true) true 43 [.agg (cellsSV [.s, .i .i64, .i .i64] a0), .fn (.func 70) [] [.p 4 0, .p 5 0]] [(4, (cellsSV [.i .i64, .i .i64] a1)), (5, [.t (.at a2.1)])] [] [(true, [.s, .i .i64, .i .i64]), (false, [.i .i64])] [[.i .i64, .i .i64], [.t]] fun x0 y0 =>
 .ret (.tup [.agg ((cellsSV K5 x0).take 3), .i .i64 (.at x0.2.2.2.1)]) [] []
theorem rmd_.run (a0 : Cells S.ty [.s, .i .i64, .i .i64]) (a1 : Cells S.ty [.i .i64, .i .i64]) (a2 : Cells S.ty [.t]) : runFn Tryz.prog Tryz.f22 (bodyOf Tryz.f22) [] (rmd_.args a0 a1 a2) (rmd_.giv a0 a1 a2) = rmd_.T a0 a1 a2 := by kernel_rfl
def ren_.args (a0 : Cells S.ty [.s, .i .i64, .i .i64]) (a1 : Cells S.ty [.i .i64, .i .i64]) (a2 : Cells S.ty [.i .i64, .i .i64]) (a3 : Cells S.ty [.t]) (a4 : Cells S.ty [.t]) : List (SV S.ty) := [.agg (cellsSV [.s, .i .i64, .i .i64] a0), .agg (cellsSV [.i .i64, .i .i64] a1), .agg (cellsSV [.i .i64, .i .i64] a2), .t (.at a3.1), .t (.at a4.1)]
def ren_.giv (a0 : Cells S.ty [.s, .i .i64, .i .i64]) (a1 : Cells S.ty [.i .i64, .i .i64]) (a2 : Cells S.ty [.i .i64, .i .i64]) (a3 : Cells S.ty [.t]) (a4 : Cells S.ty [.t]) : List (Nat × Own S.ty) := []
def ren_.T (a0 : Cells S.ty [.s, .i .i64, .i .i64]) (a1 : Cells S.ty [.i .i64, .i .i64]) (a2 : Cells S.ty [.i .i64, .i .i64]) (a3 : Cells S.ty [.t]) (a4 : Cells S.ty [.t]) : Tree S.ty :=
 .new 5 <|
 .new 6 <|
 .new 7 <|
 .new 8 <|
 .new 9 <|
 .new 10 <|
 .call (.b true) true 43 [.agg (cellsSV [.s, .i .i64, .i .i64] a0), .fn (.func 44) [] [.p 6 0, .p 8 0, .p 7 0, .p 9 0]] [(6, (cellsSV [.i .i64, .i .i64] a1)), (8, [.t (.at a3.1)]), (7, (cellsSV [.i .i64, .i .i64] a2)), (9, [.t (.at a4.1)])] [] [(true, [.s, .i .i64, .i .i64]), (false, [.i .i64])] [[.i .i64, .i .i64], [.t], [.i .i64, .i .i64], [.t]] fun x0 y0 =>
 .ret (.tup [.agg ((cellsSV K5 x0).take 3), .i .i64 (.at x0.2.2.2.1)]) [] []
theorem ren_.run (a0 : Cells S.ty [.s, .i .i64, .i .i64]) (a1 : Cells S.ty [.i .i64, .i .i64]) (a2 : Cells S.ty [.i .i64, .i .i64]) (a3 : Cells S.ty [.t]) (a4 : Cells S.ty [.t]) : runFn Tryz.prog Tryz.f13 (bodyOf Tryz.f13) [] (ren_.args a0 a1 a2 a3 a4) (ren_.giv a0 a1 a2 a3 a4) = ren_.T a0 a1 a2 a3 a4 := by kernel_rfl
def chm_.args (a0 : Cells S.ty [.s, .i .i64, .i .i64]) (a1 : Cells S.ty [.i .i64, .i .i64]) (a2 : Cells S.ty [.t]) (a3 : Cells S.ty [.i .i64]) : List (SV S.ty) := [.agg (cellsSV [.s, .i .i64, .i .i64] a0), .agg (cellsSV [.i .i64, .i .i64] a1), .t (.at a2.1), .i .i64 (.at a3.1)]
def chm_.giv (a0 : Cells S.ty [.s, .i .i64, .i .i64]) (a1 : Cells S.ty [.i .i64, .i .i64]) (a2 : Cells S.ty [.t]) (a3 : Cells S.ty [.i .i64]) : List (Nat × Own S.ty) := []
def chm_.T (a0 : Cells S.ty [.s, .i .i64, .i .i64]) (a1 : Cells S.ty [.i .i64, .i .i64]) (a2 : Cells S.ty [.t]) (a3 : Cells S.ty [.i .i64]) : Tree S.ty :=
 .new 4 <|
 .new 5 <|
 .new 6 <|
 .new 7 <|
 .new 8 <|
 .call (.b true) true 43 [.agg (cellsSV [.s, .i .i64, .i .i64] a0), .fn (.func 83) [] [.p 5 0, .p 6 0, .p 7 0]] [(5, (cellsSV [.i .i64, .i .i64] a1)), (6, [.t (.at a2.1)]), (7, [.i .i64 (.at a3.1)])] [] [(true, [.s, .i .i64, .i .i64]), (false, [.i .i64])] [[.i .i64, .i .i64], [.t], [.i .i64]] fun x0 y0 =>
 .ret (.tup [.agg ((cellsSV K5 x0).take 3), .i .i64 (.at x0.2.2.2.1)]) [] []
theorem chm_.run (a0 : Cells S.ty [.s, .i .i64, .i .i64]) (a1 : Cells S.ty [.i .i64, .i .i64]) (a2 : Cells S.ty [.t]) (a3 : Cells S.ty [.i .i64]) : runFn Tryz.prog Tryz.f37 (bodyOf Tryz.f37) [] (chm_.args a0 a1 a2 a3) (chm_.giv a0 a1 a2 a3) = chm_.T a0 a1 a2 a3 := by kernel_rfl
end Go.Proofs.YtpfbimkpcnnfkaaGreatDoor.Sx
set_option maxRecDepth 100000
set_option linter.unusedVariables false
namespace Go.Proofs.YtpfbimkpcnnfkaaGreatDoor.Sx
open Go Go.RowKit Go.Proofs.YtpfbimkpcnnfkaaGreatDoor
def lshort.args (a0 : Cells S.ty [.s]) : List (SV S.ty) := [.s (.at a0.1.1) (.at a0.1.2.1) (.at a0.1.2.2)]
def lshort.giv (a0 : Cells S.ty [.s]) : List (Nat × Own S.ty) := []
def lshort.T (a0 : Cells S.ty [.s]) : Tree S.ty :=
 .loop 0 [.i .i64] [] [.i .i64 (.i 0)] [] fun x0 y0 =>
 .test (.cmp .lss (.at x0.1) (.ofN (.at a0.1.2.1)))
 (.ob (.b true) (.idx (.at x0.1) (.at a0.1.2.1) (.at a0.1.1)) <|
 .uld (.b true) (.at a0.1.1) (.mul (.toN (.at x0.1)) 1) [.t] fun x1 =>
 .test (.cmp .gtr (.len (.at x1.1)) (.i 200))
 (.ret (.b (.b false)) [] [])
 (.again 0 [.i .i64 (.bin .add .i64 (.at x0.1) (.i 1))] [] []))
 (.ret (.b (.b true)) [] [])
theorem lshort.run (a0 : Cells S.ty [.s]) : runFn Tryz.prog Tryz.f11 (bodyOf Tryz.f11) [⟨2, [3], []⟩] (lshort.args a0) (lshort.giv a0) = lshort.T a0 := by kernel_rfl
def lshown8.args : List (SV S.ty) := []
def lshown8.giv : List (Nat × Own S.ty) := []
def lshown8.T : Tree S.ty :=
 .new 1 <|
 .call (.b true) true 40 [.i .i64 (.i 9), .i .i64 (.i 9), .i .i64 (.i 63)] [] [] [(true, [.s, .i .i64, .i .i64])] [] fun x0 y0 =>
 .new 2 <|
 .call (.b true) true 19 [.agg (cellsSV [.s, .i .i64, .i .i64] x0), .agg [.i .i64 (.i 1), .i .i64 (.i 0)], .t (.t ⟨#[97]⟩), .i .i64 (.i 63)] [] [] [(true, [.s, .i .i64, .i .i64]), (false, [.i .i64])] [] fun x1 y1 =>
 .new 3 <|
 .call (.b true) true 18 [.agg ((cellsSV K5 x1).take 3), .agg [.i .i64 (.i 1), .i .i64 (.i 0)], .t (.t ⟨#[97, 47, 102]⟩), .i .i64 (.i 52)] [] [] [(true, [.s, .i .i64, .i .i64]), (false, [.i .i64]), (false, [.i .i64])] [] fun x2 y2 =>
 .new 5 <|
 .call (.b true) true 13 [.agg ((cellsSV K8 x2).take 3), .agg [.i .i64 (.i 1), .i .i64 (.i 0)], .agg [.i .i64 (.i 1), .i .i64 (.i 0)], .t (.t ⟨#[97]⟩), .t (.t ⟨#[97, 47, 98]⟩)] [] [] [(true, [.s, .i .i64, .i .i64]), (false, [.i .i64])] [] fun x3 y3 =>
 .new 8 <|
 .call (.b true) true 13 [.agg ((cellsSV K8 x2).take 3), .agg [.i .i64 (.i 1), .i .i64 (.i 0)], .agg [.i .i64 (.i 1), .i .i64 (.i 0)], .t (.t ⟨#[97, 47, 102]⟩), .t (.t ⟨#[103]⟩)] [] [] [(true, [.s, .i .i64, .i .i64]), (false, [.i .i64])] [] fun x4 y4 =>
 .new 10 <|
 .call (.b true) true 22 [.agg ((cellsSV K5 x4).take 3), .agg [.i .i64 (.i 1), .i .i64 (.i 0)], .t (.t ⟨#[97, 47]⟩)] [] [] [(true, [.s, .i .i64, .i .i64]), (false, [.i .i64])] [] fun x5 y5 =>
 .new 12 <|
 .call (.b true) true 20 [.agg ((cellsSV K5 x5).take 3), .agg [.i .i64 (.i 1), .i .i64 (.i 0)], .t (.t ⟨#[97]⟩)] [] [] [(true, [.s, .i .i64, .i .i64]), (false, [.i .i64])] [] fun x6 y6 =>
 .new 14 <|
 .call (.b true) true 41 [.agg ((cellsSV K5 x5).take 3), .i .i64 (.i 1), .i .i64 (.i 0), .t (.t ⟨#[103]⟩), .b (.b false)] [] [] [(false, [.i .i64]), (false, [.i .i64])] [] fun x7 y7 =>
 .call (.ite (.ite (.ite (.ite (.ite (.ite (.ite (.ite (.cmp .eql (.at x1.2.2.2.1) (.i 0)) (.cmp .eql (.at x2.2.2.2.1) (.i 2)) (.b false)) (.cmp .eql (.at x2.2.2.2.2.1) (.i 0)) (.b false)) (.cmp .eql (.at x3.2.2.2.1) (.i 15)) (.b false)) (.cmp .eql (.at x4.2.2.2.1) (.i 0)) (.b false)) (.cmp .eql (.at x5.2.2.2.1) (.i 0)) (.b false)) (.cmp .eql (.at x6.2.2.2.1) (.i 2)) (.b false)) (.cmp .eql (.at x7.1) (.i 2)) (.b false)) (.cmp .eql (.at x7.2.1) (.i 0)) (.b false)) true 42 [.agg ((cellsSV K5 x5).take 3)] [] [] [(false, [.i .i64])] [] fun x8 y8 =>
 .ret (.b (.ite (.ite (.ite (.ite (.ite (.ite (.ite (.ite (.ite (.cmp .eql (.at x1.2.2.2.1) (.i 0)) (.cmp .eql (.at x2.2.2.2.1) (.i 2)) (.b false)) (.cmp .eql (.at x2.2.2.2.2.1) (.i 0)) (.b false)) (.cmp .eql (.at x3.2.2.2.1) (.i 15)) (.b false)) (.cmp .eql (.at x4.2.2.2.1) (.i 0)) (.b false)) (.cmp .eql (.at x5.2.2.2.1) (.i 0)) (.b false)) (.cmp .eql (.at x6.2.2.2.1) (.i 2)) (.b false)) (.cmp .eql (.at x7.1) (.i 2)) (.b false)) (.cmp .eql (.at x7.2.1) (.i 0)) (.b false)) (.cmp .eql (.at x8.1) (.i 2)) (.b false))) [] []
theorem lshown8.run : runFn Tryz.prog Tryz.f12 (bodyOf Tryz.f12) [] (lshown8.args) (lshown8.giv) = lshown8.T := by kernel_rfl
end Go.Proofs.YtpfbimkpcnnfkaaGreatDoor.Sx
