/- By Sx: ChangeRight. -/
import Derived.Test.YtpfbimkpcnnfkaaGreatDoorSxTh
import Derived.Test.YtpfbimkpcnnfkaaGreatDoorSzQ
/- Trees, printed by program. -/
set_option maxRecDepth 100000
set_option linter.unusedVariables false
namespace Go.Proofs.YtpfbimkpcnnfkaaGreatDoor.Sx
open Go Go.RowKit Go.Proofs.YtpfbimkpcnnfkaaGreatDoor
def lRight.args (a0 : Cells S.ty [.s, .i .i64, .i .i64]) (a1 : Cells S.ty [.i .i64, .i .i64]) (a2 : Cells S.ty [.i .i64, .i .i64]) (a3 : Cells S.ty [.t]) (a4 : Cells S.ty [.t]) (a5 : Cells S.ty [.i .i64]) : List (SV S.ty) := [.agg (cellsSV [.s, .i .i64, .i .i64] a0), .agg (cellsSV [.i .i64, .i .i64] a1), .agg (cellsSV [.i .i64, .i .i64] a2), .t (.at a3.1), .t (.at a4.1), .i .i64 (.at a5.1)]
def lRight.giv (a0 : Cells S.ty [.s, .i .i64, .i .i64]) (a1 : Cells S.ty [.i .i64, .i .i64]) (a2 : Cells S.ty [.i .i64, .i .i64]) (a3 : Cells S.ty [.t]) (a4 : Cells S.ty [.t]) (a5 : Cells S.ty [.i .i64]) : List (Nat × Own S.ty) := []
def lRight.T (a0 : Cells S.ty [.s, .i .i64, .i .i64]) (a1 : Cells S.ty [.i .i64, .i .i64]) (a2 : Cells S.ty [.i .i64, .i .i64]) (a3 : Cells S.ty [.t]) (a4 : Cells S.ty [.t]) (a5 : Cells S.ty [.i .i64]) : Tree S.ty :=
 .new 6 <|
 .new 7 <|
 .new 8 <|
 .call (.b true) true 10 [.agg (cellsSV [.s, .i .i64, .i .i64] a0)] [] [] [(false, [.b])] [] fun x0 y0 =>
 .test (.not (.not (.at x0.1)))
 (.new 21 <|
 .test (.not (.not (.at x0.1)))
 (.call (.b true) true 11 [.os 21 0 2 2] [] [(21, [.t (.at a4.1), .t (.at a3.1)])] [(false, [.b])] [] fun x1 y1 =>
 .call (.not (.ite (.not (.at x0.1)) (.b true) (.not (.at x1.1)))) true 12 [] [] [] [(false, [.b])] [] fun x2 y2 =>
 .test (.ite (.ite (.not (.at x0.1)) (.b true) (.not (.at x1.1))) (.b true) (.not (.at x2.1)))
 (.call (.b true) true 12 [] [] [] [(false, [.b])] [] fun x3 y3 =>
 .ret (.b (.at x3.1)) [] [])
 (.bi (.b true) (.mk 75) [.i .i64 (.i 8), .i .i64 (.i 8)] [] [(false, [.s])] fun x3 =>
 .call (.b true) true 18 [.agg (cellsSV [.s, .i .i64, .i .i64] a0), .agg (cellsSV [.i .i64, .i .i64] a1), .t (.at a4.1), .i .i64 (.at a5.1)] [] [] [(true, [.s, .i .i64, .i .i64]), (false, [.i .i64]), (false, [.i .i64])] [] fun x4 y4 =>
 .ob (.b true) (.idx (.i 0) (.at x3.1.2.1) (.at x3.1.1)) <|
 .ust (.at x3.1.1) (.mul (.n 0) 3) ((cellsSV K8 x4).take 3) <|
 .call (.b true) true 19 [.agg (cellsSV [.s, .i .i64, .i .i64] a0), .agg (cellsSV [.i .i64, .i .i64] a1), .t (.at a4.1), .i .i64 (.at a5.1)] [] [] [(true, [.s, .i .i64, .i .i64]), (false, [.i .i64])] [] fun x5 y5 =>
 .ob (.b true) (.idx (.i 1) (.at x3.1.2.1) (.at x3.1.1)) <|
 .ust (.at x3.1.1) (.mul (.n 1) 3) ((cellsSV K5 x5).take 3) <|
 .call (.b true) true 31 [.agg (cellsSV [.s, .i .i64, .i .i64] a0), .agg (cellsSV [.i .i64, .i .i64] a1), .t (.at a3.1), .t (.at a4.1)] [] [] [(true, [.s, .i .i64, .i .i64]), (false, [.i .i64])] [] fun x6 y6 =>
 .ob (.b true) (.idx (.i 2) (.at x3.1.2.1) (.at x3.1.1)) <|
 .ust (.at x3.1.1) (.mul (.n 2) 3) ((cellsSV K5 x6).take 3) <|
 .call (.b true) true 33 [.agg (cellsSV [.s, .i .i64, .i .i64] a0), .agg (cellsSV [.i .i64, .i .i64] a1), .t (.at a3.1), .t (.at a4.1)] [] [] [(true, [.s, .i .i64, .i .i64]), (false, [.i .i64])] [] fun x7 y7 =>
 .ob (.b true) (.idx (.i 3) (.at x3.1.2.1) (.at x3.1.1)) <|
 .ust (.at x3.1.1) (.mul (.n 3) 3) ((cellsSV K5 x7).take 3) <|
 .call (.b true) true 20 [.agg (cellsSV [.s, .i .i64, .i .i64] a0), .agg (cellsSV [.i .i64, .i .i64] a1), .t (.at a4.1)] [] [] [(true, [.s, .i .i64, .i .i64]), (false, [.i .i64])] [] fun x8 y8 =>
 .ob (.b true) (.idx (.i 4) (.at x3.1.2.1) (.at x3.1.1)) <|
 .ust (.at x3.1.1) (.mul (.n 4) 3) ((cellsSV K5 x8).take 3) <|
 .call (.b true) true 22 [.agg (cellsSV [.s, .i .i64, .i .i64] a0), .agg (cellsSV [.i .i64, .i .i64] a1), .t (.at a4.1)] [] [] [(true, [.s, .i .i64, .i .i64]), (false, [.i .i64])] [] fun x9 y9 =>
 .ob (.b true) (.idx (.i 5) (.at x3.1.2.1) (.at x3.1.1)) <|
 .ust (.at x3.1.1) (.mul (.n 5) 3) ((cellsSV K5 x9).take 3) <|
 .call (.b true) true 13 [.agg (cellsSV [.s, .i .i64, .i .i64] a0), .agg (cellsSV [.i .i64, .i .i64] a1), .agg (cellsSV [.i .i64, .i .i64] a2), .t (.at a3.1), .t (.at a4.1)] [] [] [(true, [.s, .i .i64, .i .i64]), (false, [.i .i64])] [] fun x10 y10 =>
 .ob (.b true) (.idx (.i 6) (.at x3.1.2.1) (.at x3.1.1)) <|
 .ust (.at x3.1.1) (.mul (.n 6) 3) ((cellsSV K5 x10).take 3) <|
 .call (.b true) true 37 [.agg (cellsSV [.s, .i .i64, .i .i64] a0), .agg (cellsSV [.i .i64, .i .i64] a1), .t (.at a4.1), .i .i64 (.at a5.1)] [] [] [(true, [.s, .i .i64, .i .i64]), (false, [.i .i64])] [] fun x11 y11 =>
 .ob (.b true) (.idx (.i 7) (.at x3.1.2.1) (.at x3.1.1)) <|
 .ust (.at x3.1.1) (.mul (.n 7) 3) ((cellsSV K5 x11).take 3) <|
 .loop 0 [.i .i64] [] [.i .i64 (.i 0)] [] fun x12 y12 =>
 .test (.cmp .lss (.at x12.1) (.i 8))
 (.ob (.b true) (.idx (.at x12.1) (.at x3.1.2.1) (.at x3.1.1)) <|
 .ob (.b true) (.here (.at x3.1.1)) <|
 .uld (.b true) (.at x3.1.1) (.add (.mul (.toN (.at x12.1)) 3) (.n 0)) [.s] fun x13 =>
 .ob (.not (.cmp .gtr (.ofN (.at x13.1.2.1)) (.i 1000))) (.idx (.at x12.1) (.at x3.1.2.1) (.at x3.1.1)) <|
 .uld (.not (.cmp .gtr (.ofN (.at x13.1.2.1)) (.i 1000))) (.at x3.1.1) (.mul (.toN (.at x12.1)) 3) [.s, .i .i64, .i .i64] fun x14 =>
 .call (.not (.cmp .gtr (.ofN (.at x13.1.2.1)) (.i 1000))) true 15 [.agg (cellsSV [.s, .i .i64, .i .i64] x14)] [] [] [(true, [.s, .i .i64, .i .i64])] [] fun x15 y15 =>
 .call (.not (.cmp .gtr (.ofN (.at x13.1.2.1)) (.i 1000))) true 39 [.agg (cellsSV [.s, .i .i64, .i .i64] x15)] [] [] [(false, [.b])] [] fun x16 y16 =>
 .test (.ite (.cmp .gtr (.ofN (.at x13.1.2.1)) (.i 1000)) (.b true) (.not (.at x16.1)))
 (.ret (.b (.b false)) [] [])
 (.again 0 [.i .i64 (.bin .add .i64 (.at x12.1) (.i 1))] [] [(.s (.at a0.1.1) (.at a0.1.2.1) (.at a0.1.2.2), .s (.at a0.1.1) (.at a0.1.2.1) (.at a0.1.2.2)), (.i .i64 (.at a0.2.1), .i .i64 (.at a0.2.1)), (.i .i64 (.at a0.2.2.1), .i .i64 (.at a0.2.2.1)), (.i .i64 (.at a1.1), .i .i64 (.at a1.1)), (.i .i64 (.at a1.2.1), .i .i64 (.at a1.2.1)), (.i .i64 (.at a2.1), .i .i64 (.at a2.1)), (.i .i64 (.at a2.2.1), .i .i64 (.at a2.2.1))]))
 (.ret (.b (.b true)) [] [])))
 (.call (.not (.ite (.not (.at x0.1)) (.b true) (.not (.b false)))) true 12 [] [] [] [(false, [.b])] [] fun x1 y1 =>
 .test (.ite (.ite (.not (.at x0.1)) (.b true) (.not (.b false))) (.b true) (.not (.at x1.1)))
 (.call (.b true) true 12 [] [] [] [(false, [.b])] [] fun x2 y2 =>
 .ret (.b (.at x2.1)) [] [])
 (.bi (.b true) (.mk 75) [.i .i64 (.i 8), .i .i64 (.i 8)] [] [(false, [.s])] fun x2 =>
 .call (.b true) true 18 [.agg (cellsSV [.s, .i .i64, .i .i64] a0), .agg (cellsSV [.i .i64, .i .i64] a1), .t (.at a4.1), .i .i64 (.at a5.1)] [] [] [(true, [.s, .i .i64, .i .i64]), (false, [.i .i64]), (false, [.i .i64])] [] fun x3 y3 =>
 .ob (.b true) (.idx (.i 0) (.at x2.1.2.1) (.at x2.1.1)) <|
 .ust (.at x2.1.1) (.mul (.n 0) 3) ((cellsSV K8 x3).take 3) <|
 .call (.b true) true 19 [.agg (cellsSV [.s, .i .i64, .i .i64] a0), .agg (cellsSV [.i .i64, .i .i64] a1), .t (.at a4.1), .i .i64 (.at a5.1)] [] [] [(true, [.s, .i .i64, .i .i64]), (false, [.i .i64])] [] fun x4 y4 =>
 .ob (.b true) (.idx (.i 1) (.at x2.1.2.1) (.at x2.1.1)) <|
 .ust (.at x2.1.1) (.mul (.n 1) 3) ((cellsSV K5 x4).take 3) <|
 .call (.b true) true 31 [.agg (cellsSV [.s, .i .i64, .i .i64] a0), .agg (cellsSV [.i .i64, .i .i64] a1), .t (.at a3.1), .t (.at a4.1)] [] [] [(true, [.s, .i .i64, .i .i64]), (false, [.i .i64])] [] fun x5 y5 =>
 .ob (.b true) (.idx (.i 2) (.at x2.1.2.1) (.at x2.1.1)) <|
 .ust (.at x2.1.1) (.mul (.n 2) 3) ((cellsSV K5 x5).take 3) <|
 .call (.b true) true 33 [.agg (cellsSV [.s, .i .i64, .i .i64] a0), .agg (cellsSV [.i .i64, .i .i64] a1), .t (.at a3.1), .t (.at a4.1)] [] [] [(true, [.s, .i .i64, .i .i64]), (false, [.i .i64])] [] fun x6 y6 =>
 .ob (.b true) (.idx (.i 3) (.at x2.1.2.1) (.at x2.1.1)) <|
 .ust (.at x2.1.1) (.mul (.n 3) 3) ((cellsSV K5 x6).take 3) <|
 .call (.b true) true 20 [.agg (cellsSV [.s, .i .i64, .i .i64] a0), .agg (cellsSV [.i .i64, .i .i64] a1), .t (.at a4.1)] [] [] [(true, [.s, .i .i64, .i .i64]), (false, [.i .i64])] [] fun x7 y7 =>
 .ob (.b true) (.idx (.i 4) (.at x2.1.2.1) (.at x2.1.1)) <|
 .ust (.at x2.1.1) (.mul (.n 4) 3) ((cellsSV K5 x7).take 3) <|
 .call (.b true) true 22 [.agg (cellsSV [.s, .i .i64, .i .i64] a0), .agg (cellsSV [.i .i64, .i .i64] a1), .t (.at a4.1)] [] [] [(true, [.s, .i .i64, .i .i64]), (false, [.i .i64])] [] fun x8 y8 =>
 .ob (.b true) (.idx (.i 5) (.at x2.1.2.1) (.at x2.1.1)) <|
 .ust (.at x2.1.1) (.mul (.n 5) 3) ((cellsSV K5 x8).take 3) <|
 .call (.b true) true 13 [.agg (cellsSV [.s, .i .i64, .i .i64] a0), .agg (cellsSV [.i .i64, .i .i64] a1), .agg (cellsSV [.i .i64, .i .i64] a2), .t (.at a3.1), .t (.at a4.1)] [] [] [(true, [.s, .i .i64, .i .i64]), (false, [.i .i64])] [] fun x9 y9 =>
 .ob (.b true) (.idx (.i 6) (.at x2.1.2.1) (.at x2.1.1)) <|
 .ust (.at x2.1.1) (.mul (.n 6) 3) ((cellsSV K5 x9).take 3) <|
 .call (.b true) true 37 [.agg (cellsSV [.s, .i .i64, .i .i64] a0), .agg (cellsSV [.i .i64, .i .i64] a1), .t (.at a4.1), .i .i64 (.at a5.1)] [] [] [(true, [.s, .i .i64, .i .i64]), (false, [.i .i64])] [] fun x10 y10 =>
 .ob (.b true) (.idx (.i 7) (.at x2.1.2.1) (.at x2.1.1)) <|
 .ust (.at x2.1.1) (.mul (.n 7) 3) ((cellsSV K5 x10).take 3) <|
 .loop 0 [.i .i64] [] [.i .i64 (.i 0)] [] fun x11 y11 =>
 .test (.cmp .lss (.at x11.1) (.i 8))
 (.ob (.b true) (.idx (.at x11.1) (.at x2.1.2.1) (.at x2.1.1)) <|
 .ob (.b true) (.here (.at x2.1.1)) <|
 .uld (.b true) (.at x2.1.1) (.add (.mul (.toN (.at x11.1)) 3) (.n 0)) [.s] fun x12 =>
 .ob (.not (.cmp .gtr (.ofN (.at x12.1.2.1)) (.i 1000))) (.idx (.at x11.1) (.at x2.1.2.1) (.at x2.1.1)) <|
 .uld (.not (.cmp .gtr (.ofN (.at x12.1.2.1)) (.i 1000))) (.at x2.1.1) (.mul (.toN (.at x11.1)) 3) [.s, .i .i64, .i .i64] fun x13 =>
 .call (.not (.cmp .gtr (.ofN (.at x12.1.2.1)) (.i 1000))) true 15 [.agg (cellsSV [.s, .i .i64, .i .i64] x13)] [] [] [(true, [.s, .i .i64, .i .i64])] [] fun x14 y14 =>
 .call (.not (.cmp .gtr (.ofN (.at x12.1.2.1)) (.i 1000))) true 39 [.agg (cellsSV [.s, .i .i64, .i .i64] x14)] [] [] [(false, [.b])] [] fun x15 y15 =>
 .test (.ite (.cmp .gtr (.ofN (.at x12.1.2.1)) (.i 1000)) (.b true) (.not (.at x15.1)))
 (.ret (.b (.b false)) [] [])
 (.again 0 [.i .i64 (.bin .add .i64 (.at x11.1) (.i 1))] [] [(.s (.at a0.1.1) (.at a0.1.2.1) (.at a0.1.2.2), .s (.at a0.1.1) (.at a0.1.2.1) (.at a0.1.2.2)), (.i .i64 (.at a0.2.1), .i .i64 (.at a0.2.1)), (.i .i64 (.at a0.2.2.1), .i .i64 (.at a0.2.2.1)), (.i .i64 (.at a1.1), .i .i64 (.at a1.1)), (.i .i64 (.at a1.2.1), .i .i64 (.at a1.2.1)), (.i .i64 (.at a2.1), .i .i64 (.at a2.1)), (.i .i64 (.at a2.2.1), .i .i64 (.at a2.2.1)), (.t (.at a4.1), .t (.at a4.1)), (.t (.at a3.1), .t (.at a3.1))]))
 (.ret (.b (.b true)) [] []))))
 (.call (.not (.not (.at x0.1))) true 11 [.s .anil (.n 0) (.n 0)] [] [] [(false, [.b])] [] fun x1 y1 =>
 .call (.not (.ite (.not (.at x0.1)) (.b true) (.not (.at x1.1)))) true 12 [] [] [] [(false, [.b])] [] fun x2 y2 =>
 .test (.ite (.ite (.not (.at x0.1)) (.b true) (.not (.at x1.1))) (.b true) (.not (.at x2.1)))
 (.call (.b true) true 12 [] [] [] [(false, [.b])] [] fun x3 y3 =>
 .ret (.b (.at x3.1)) [] [])
 (.bi (.b true) (.mk 75) [.i .i64 (.i 8), .i .i64 (.i 8)] [] [(false, [.s])] fun x3 =>
 .call (.b true) true 18 [.agg (cellsSV [.s, .i .i64, .i .i64] a0), .agg (cellsSV [.i .i64, .i .i64] a1), .t (.at a4.1), .i .i64 (.at a5.1)] [] [] [(true, [.s, .i .i64, .i .i64]), (false, [.i .i64]), (false, [.i .i64])] [] fun x4 y4 =>
 .ob (.b true) (.idx (.i 0) (.at x3.1.2.1) (.at x3.1.1)) <|
 .ust (.at x3.1.1) (.mul (.n 0) 3) ((cellsSV K8 x4).take 3) <|
 .call (.b true) true 19 [.agg (cellsSV [.s, .i .i64, .i .i64] a0), .agg (cellsSV [.i .i64, .i .i64] a1), .t (.at a4.1), .i .i64 (.at a5.1)] [] [] [(true, [.s, .i .i64, .i .i64]), (false, [.i .i64])] [] fun x5 y5 =>
 .ob (.b true) (.idx (.i 1) (.at x3.1.2.1) (.at x3.1.1)) <|
 .ust (.at x3.1.1) (.mul (.n 1) 3) ((cellsSV K5 x5).take 3) <|
 .call (.b true) true 31 [.agg (cellsSV [.s, .i .i64, .i .i64] a0), .agg (cellsSV [.i .i64, .i .i64] a1), .t (.at a3.1), .t (.at a4.1)] [] [] [(true, [.s, .i .i64, .i .i64]), (false, [.i .i64])] [] fun x6 y6 =>
 .ob (.b true) (.idx (.i 2) (.at x3.1.2.1) (.at x3.1.1)) <|
 .ust (.at x3.1.1) (.mul (.n 2) 3) ((cellsSV K5 x6).take 3) <|
 .call (.b true) true 33 [.agg (cellsSV [.s, .i .i64, .i .i64] a0), .agg (cellsSV [.i .i64, .i .i64] a1), .t (.at a3.1), .t (.at a4.1)] [] [] [(true, [.s, .i .i64, .i .i64]), (false, [.i .i64])] [] fun x7 y7 =>
 .ob (.b true) (.idx (.i 3) (.at x3.1.2.1) (.at x3.1.1)) <|
 .ust (.at x3.1.1) (.mul (.n 3) 3) ((cellsSV K5 x7).take 3) <|
 .call (.b true) true 20 [.agg (cellsSV [.s, .i .i64, .i .i64] a0), .agg (cellsSV [.i .i64, .i .i64] a1), .t (.at a4.1)] [] [] [(true, [.s, .i .i64, .i .i64]), (false, [.i .i64])] [] fun x8 y8 =>
 .ob (.b true) (.idx (.i 4) (.at x3.1.2.1) (.at x3.1.1)) <|
 .ust (.at x3.1.1) (.mul (.n 4) 3) ((cellsSV K5 x8).take 3) <|
 .call (.b true) true 22 [.agg (cellsSV [.s, .i .i64, .i .i64] a0), .agg (cellsSV [.i .i64, .i .i64] a1), .t (.at a4.1)] [] [] [(true, [.s, .i .i64, .i .i64]), (false, [.i .i64])] [] fun x9 y9 =>
 .ob (.b true) (.idx (.i 5) (.at x3.1.2.1) (.at x3.1.1)) <|
 .ust (.at x3.1.1) (.mul (.n 5) 3) ((cellsSV K5 x9).take 3) <|
 .call (.b true) true 13 [.agg (cellsSV [.s, .i .i64, .i .i64] a0), .agg (cellsSV [.i .i64, .i .i64] a1), .agg (cellsSV [.i .i64, .i .i64] a2), .t (.at a3.1), .t (.at a4.1)] [] [] [(true, [.s, .i .i64, .i .i64]), (false, [.i .i64])] [] fun x10 y10 =>
 .ob (.b true) (.idx (.i 6) (.at x3.1.2.1) (.at x3.1.1)) <|
 .ust (.at x3.1.1) (.mul (.n 6) 3) ((cellsSV K5 x10).take 3) <|
 .call (.b true) true 37 [.agg (cellsSV [.s, .i .i64, .i .i64] a0), .agg (cellsSV [.i .i64, .i .i64] a1), .t (.at a4.1), .i .i64 (.at a5.1)] [] [] [(true, [.s, .i .i64, .i .i64]), (false, [.i .i64])] [] fun x11 y11 =>
 .ob (.b true) (.idx (.i 7) (.at x3.1.2.1) (.at x3.1.1)) <|
 .ust (.at x3.1.1) (.mul (.n 7) 3) ((cellsSV K5 x11).take 3) <|
 .loop 0 [.i .i64] [] [.i .i64 (.i 0)] [] fun x12 y12 =>
 .test (.cmp .lss (.at x12.1) (.i 8))
 (.ob (.b true) (.idx (.at x12.1) (.at x3.1.2.1) (.at x3.1.1)) <|
 .ob (.b true) (.here (.at x3.1.1)) <|
 .uld (.b true) (.at x3.1.1) (.add (.mul (.toN (.at x12.1)) 3) (.n 0)) [.s] fun x13 =>
 .ob (.not (.cmp .gtr (.ofN (.at x13.1.2.1)) (.i 1000))) (.idx (.at x12.1) (.at x3.1.2.1) (.at x3.1.1)) <|
 .uld (.not (.cmp .gtr (.ofN (.at x13.1.2.1)) (.i 1000))) (.at x3.1.1) (.mul (.toN (.at x12.1)) 3) [.s, .i .i64, .i .i64] fun x14 =>
 .call (.not (.cmp .gtr (.ofN (.at x13.1.2.1)) (.i 1000))) true 15 [.agg (cellsSV [.s, .i .i64, .i .i64] x14)] [] [] [(true, [.s, .i .i64, .i .i64])] [] fun x15 y15 =>
 .call (.not (.cmp .gtr (.ofN (.at x13.1.2.1)) (.i 1000))) true 39 [.agg (cellsSV [.s, .i .i64, .i .i64] x15)] [] [] [(false, [.b])] [] fun x16 y16 =>
 .test (.ite (.cmp .gtr (.ofN (.at x13.1.2.1)) (.i 1000)) (.b true) (.not (.at x16.1)))
 (.ret (.b (.b false)) [] [])
 (.again 0 [.i .i64 (.bin .add .i64 (.at x12.1) (.i 1))] [] [(.s (.at a0.1.1) (.at a0.1.2.1) (.at a0.1.2.2), .s (.at a0.1.1) (.at a0.1.2.1) (.at a0.1.2.2)), (.i .i64 (.at a0.2.1), .i .i64 (.at a0.2.1)), (.i .i64 (.at a0.2.2.1), .i .i64 (.at a0.2.2.1)), (.i .i64 (.at a1.1), .i .i64 (.at a1.1)), (.i .i64 (.at a1.2.1), .i .i64 (.at a1.2.1)), (.i .i64 (.at a2.1), .i .i64 (.at a2.1)), (.i .i64 (.at a2.2.1), .i .i64 (.at a2.2.1))]))
 (.ret (.b (.b true)) [] [])))
theorem lRight.run (a0 : Cells S.ty [.s, .i .i64, .i .i64]) (a1 : Cells S.ty [.i .i64, .i .i64]) (a2 : Cells S.ty [.i .i64, .i .i64]) (a3 : Cells S.ty [.t]) (a4 : Cells S.ty [.t]) (a5 : Cells S.ty [.i .i64]) : runFn Tryz.prog Tryz.f9 (bodyOf Tryz.f9) [⟨13, [14], []⟩] (lRight.args a0 a1 a2 a3 a4 a5) (lRight.giv a0 a1 a2 a3 a4 a5) = lRight.T a0 a1 a2 a3 a4 a5 := by kernel_rfl
end Go.Proofs.YtpfbimkpcnnfkaaGreatDoor.Sx
set_option maxRecDepth 100000
set_option linter.unusedVariables false
set_option linter.unusedSimpArgs false
namespace Go.Proofs.YtpfbimkpcnnfkaaGreatDoor.Sx
open Go Go.RowKit Go.Proofs.YtpfbimkpcnnfkaaGreatDoor Go.Proofs.YtpfbimkpcnnfkaaGreatDoor.Ext
structure Ok3 (m r : Int) (x : List Nd) : Prop where
 right : rightF x m r = true
 dat : Dat x
 nsl : NsL 100001 x
 len : x.length ≤ 1000
theorem enter_nsl {ns : List Nd} (h : Ok8 ns) (m r who from_ : Int) (path : ByteArray) {n : Nd} (hn : NdR n) (slash : Int) : NsL 100001 (enterF ns m r who from_ path n slash).1 ∧ (enterF ns m r who from_ path n slash).1.length ≤ ns.length + 1 := by
 have h0 : NsL 100001 ns ∧ ns.length ≤ ns.length + 1 := ⟨h.nsl.up (by decide), Nat.le_succ _⟩
 unfold enterF
 split
 ·exact h0
 unfold enterAt
 split
 ·exact h0
 split
 ·exact h0
 split
 ·exact h0
 have hl := add_len ns m r (newNd who (walkF ns who from_ path false).1.f0 n)
 refine ⟨NsL.put (k := 100000) ⟨?_, fun x hx => ?_⟩ _ _, by unfold putN; rw [turn_len]; exact hl⟩
 ·have := h.len; omega
 ·exact (h.ris.add (m := m) (r := r) (n := newNd who (walkF ns who from_ path false).1.f0 n) ⟨hn.rise, hn.len⟩ x hx).len
theorem link_len (ns : List Nd) (who from_ : Int) (old path : ByteArray) : (linkF ns who from_ old path).1.length = ns.length := by
 unfold linkF linkAt
 repeat' split
 all_goals first | rfl | (unfold putN; rw [turn_len, turn_len])
theorem unl_len (ns : List Nd) (who from_ : Int) (path : ByteArray) : (unlF ns who from_ path).1.length = ns.length := by
 unfold unlF
 repeat' split
 all_goals first | rfl | exact lose_len _ _
theorem rmd_len (ns : List Nd) (who from_ : Int) (path : ByteArray) : (rmdF ns who from_ path).1.length = ns.length := by
 unfold rmdF rmdAt
 repeat' split
 all_goals first | rfl | exact lose_len _ _
theorem chm_len (ns : List Nd) (who from_ : Int) (path : ByteArray) (mode : Int) : (chmF ns who from_ path mode).1.length = ns.length := by
 unfold chmF
 repeat' split
 all_goals first | rfl | exact turn_len _ _ _
theorem ren_len (ns : List Nd) (wa fa wb fb : Int) (old path : ByteArray) : (renF ns wa fa wb fb old path).1.length = ns.length := by
 have key : ∀ s t, (renAt ns s t).length = ns.length := fun s t => by
  have h2 : (if 0 ≤ t.f2 then loseN (dropN ns s) t else dropN ns s).length = ns.length := by
   split
   ·rw [lose_len]; exact turn_len _ _ _
   ·exact turn_len _ _ _
  unfold renAt
  simp only
  split
  ·rw [turn_len]; exact (turn_len _ _ _).trans h2
  ·exact (turn_len _ _ _).trans h2
 unfold renF renSp
 repeat' split
 all_goals first | rfl | exact key _ _
theorem none_le {u v : Mem} {b : Nat} (h : u.le v) (hv : ∀ o, v b o = none) : ∀ o, u b o = none := fun o => by
 cases hx : u b o with
 | none => rfl
 | some y => have := h _ _ _ hx; rw [hv o] at this; cases this
set_option maxHeartbeats 2000000 in
theorem ChangeRight.cv (A : Option Addr) (c : Nat) (ns : List Nd) (m r who from_ whob fromb : Int) (old path : ByteArray) (mode : Int) (u : Mem) (hd : DiskAt u A ns) (hnm : ∀ n ∈ ns, ∀ e ∈ n.f7, e.f0.size ≤ 1000000000000000) (hg : EgM u) (s : Addr) (hs : EsM s u) :
  CV Tryz.prog 9 [.agg #[.slice A ns.length c, .int .i64 m, .int .i64 r], .agg #[.int .i64 who, .int .i64 from_], .agg #[.int .i64 whob, .int .i64 fromb], .string old, .string path, .int .i64 mode] [] u fun v cs _ => cs = [] ∧ v = .bool true := by
 refine cv_of names draws (fn := Tryz.f9) (b := bodyOf Tryz.f9) rfl rfl [⟨13, [14], []⟩] (lRight.args ((A, ns.length, c), m, r, ()) (who, from_, ()) (whob, fromb, ()) (old, ()) (path, ()) (mode, ())) (lRight.giv _ _ _ _ _ _) (fun _ => 0) (lRight.run _ _ _ _ _ _) (by kernel_rfl) rfl rfl ?_
 unfold lRight.T
 intro b6 hb6 b7 hb7 b8 hb8
 refine hold_call ((lright.cv A c ns m r u hd hnm).mono fun v cs u1 hu1 ⟨hc, hv⟩ => ⟨(okF ns m r, ()), (), hv, hc, ?_⟩)
 refine hold_open (l := [path, old]) (s := s) (hg.mono hu1) (hs.mono hu1) rfl (by decide) (fun _ => rfl) fun hok hsh b21 x2 u2 hu12 => ?_
 obtain ⟨hp, ho⟩ := short_two hsh
 have L0 := Mem.le_trans hu1 hu12
 have h8 := ok8_of hok
 have hL := h8.nsl
 have hRi := right_ok hok
 refine hold_bi ((bv_mk (P := Tryz.prog) (t := 75) (e := 24) (z := .agg #[.slice none 0 0, .int .i64 0, .int .i64 0]) (size := 3) (bytes := 40) (by kernel_rfl) (by kernel_rfl) rfl (u0 := u) (kl := .i64) (kc := .i64) (l := 8) (c := 8) (by decide) (by decide) (by decide) (by decide)).mono fun v u3 ⟨s0, hv0, hs0, hg0⟩ => ⟨(s0, ()), hv0, ?_⟩)
 obtain ⟨sa, sn, sc⟩ := s0
 obtain rfl : sn = 8 := hs0
 generalize ((madeCells _ _).toList.take _) = es0 at hg0
 have g0 : Grow u2 u3 (sa, 8, sc) 3 es0 := hg0
 have F0 : Fil m r u2 es0 [] := ⟨g0.len, fun j d hj => by simp at hj⟩
 refine hold_call ((CV.beside (make_.cv A c ns m r u2 (hd.mono L0) h8 (hg.mono L0) s (hs.mono L0) who from_ path mode (by omega)) g0.le).mono fun x cs w0 hw0 ⟨v1, a0, b0, ⟨hc, A0, c0, hv, hd0⟩, z0⟩ => ⟨((A0, (makeF ns m r who from_ path mode).1.length, c0), m, r, (if (makeF ns m r who from_ path mode).2.2 = 0 then (makeF ns m r who from_ path mode).2.1 else 0), (makeF ns m r who from_ path mode).2.2, ()), (), hv, hc, ?_⟩)
 have L1 := Mem.le_trans L0 a0
 have gg0 := g0.beside (by decide) (Nat.lt_of_lt_of_le (by decide : 0 < 8) g0.cap) hw0 b0 z0
 obtain ⟨B0, p0, q0, r0, g1⟩ := gg0.put (i := 0) (vs := dCells m r (A0, c0, (makeF ns m r who from_ path mode).1)) (by show 0 < 8; decide) (by decide) rfl
 have F1 := F0.put a0 (d := (A0, c0, (makeF ns m r who from_ path mode).1)) hd0 (k := 0) rfl (by decide)
 refine ⟨fun _ => (⟨by decide, by decide, by show sa.isSome = true; rw [show sa = _ from p0]; rfl⟩ : (0 : Int) ≤ 0 ∧ (0 : Int) < ((8 : Nat) : Int) ∧ sa.isSome = true), B0, 0, p0, none_le L1 q0, fun j hj => r0 j hj, ?_⟩
 refine hold_call ((CV.beside (mkdir_.cv A c ns m r v1 (hd.mono L1) h8 (hg.mono L1) s (hs.mono L1) who from_ path mode (by omega)) g1.le).mono fun x cs w1 hw1 ⟨v2, a1, b1, ⟨hc, A1, c1, hv, hd1⟩, z1⟩ => ⟨((A1, (mkdirF ns m r who from_ path mode).1.length, c1), m, r, (mkdirF ns m r who from_ path mode).2.2, ()), (), hv, hc, ?_⟩)
 have L2 := Mem.le_trans L1 a1
 have gg1 := g1.beside (by decide) (Nat.lt_of_lt_of_le (by decide : 0 < 8) g1.cap) hw1 b1 z1
 obtain ⟨B1, p1, q1, r1, g2⟩ := gg1.put (i := 1) (vs := dCells m r (A1, c1, (mkdirF ns m r who from_ path mode).1)) (by show 1 < 8; decide) (by decide) rfl
 have F2 := F1.put a1 (d := (A1, c1, (mkdirF ns m r who from_ path mode).1)) hd1 (k := 1) rfl (by decide)
 refine ⟨fun _ => (⟨by decide, by decide, by show sa.isSome = true; rw [show sa = _ from p1]; rfl⟩ : (0 : Int) ≤ 1 ∧ (1 : Int) < ((8 : Nat) : Int) ∧ sa.isSome = true), B1, 0, p1, none_le L2 q1, fun j hj => r1 j hj, ?_⟩
 refine hold_call ((CV.beside (sym_.cv A c ns m r v2 (hd.mono L2) h8 (hg.mono L2) s (hs.mono L2) who from_ old path (by omega)) g2.le).mono fun x cs w2 hw2 ⟨v3, a2, b2, ⟨hc, A2, c2, hv, hd2⟩, z2⟩ => ⟨((A2, (symF ns m r who from_ old path).1.length, c2), m, r, (symF ns m r who from_ old path).2.2, ()), (), hv, hc, ?_⟩)
 have L3 := Mem.le_trans L2 a2
 have gg2 := g2.beside (by decide) (Nat.lt_of_lt_of_le (by decide : 0 < 8) g2.cap) hw2 b2 z2
 obtain ⟨B2, p2, q2, r2, g3⟩ := gg2.put (i := 2) (vs := dCells m r (A2, c2, (symF ns m r who from_ old path).1)) (by show 2 < 8; decide) (by decide) rfl
 have F3 := F2.put a2 (d := (A2, c2, (symF ns m r who from_ old path).1)) hd2 (k := 2) rfl (by decide)
 refine ⟨fun _ => (⟨by decide, by decide, by show sa.isSome = true; rw [show sa = _ from p2]; rfl⟩ : (0 : Int) ≤ 2 ∧ (2 : Int) < ((8 : Nat) : Int) ∧ sa.isSome = true), B2, 0, p2, none_le L3 q2, fun j hj => r2 j hj, ?_⟩
 refine hold_call ((CV.beside (link_.cv A c ns m r v3 (hd.mono L3) h8 (hg.mono L3) s (hs.mono L3) who from_ old path (by omega) (by omega)) g3.le).mono fun x cs w3 hw3 ⟨v4, a3, b3, ⟨hc, A3, c3, hv, hd3⟩, z3⟩ => ⟨((A3, (linkF ns who from_ old path).1.length, c3), m, r, (linkF ns who from_ old path).2, ()), (), hv, hc, ?_⟩)
 have L4 := Mem.le_trans L3 a3
 have gg3 := g3.beside (by decide) (Nat.lt_of_lt_of_le (by decide : 0 < 8) g3.cap) hw3 b3 z3
 obtain ⟨B3, p3, q3, r3, g4⟩ := gg3.put (i := 3) (vs := dCells m r (A3, c3, (linkF ns who from_ old path).1)) (by show 3 < 8; decide) (by decide) rfl
 have F4 := F3.put a3 (d := (A3, c3, (linkF ns who from_ old path).1)) hd3 (k := 3) rfl (by decide)
 refine ⟨fun _ => (⟨by decide, by decide, by show sa.isSome = true; rw [show sa = _ from p3]; rfl⟩ : (0 : Int) ≤ 3 ∧ (3 : Int) < ((8 : Nat) : Int) ∧ sa.isSome = true), B3, 0, p3, none_le L4 q3, fun j hj => r3 j hj, ?_⟩
 refine hold_call ((CV.beside (unl_.cv A c ns m r v4 (hd.mono L4) h8 (hg.mono L4) s (hs.mono L4) who from_ path (by omega)) g4.le).mono fun x cs w4 hw4 ⟨v5, a4, b4, ⟨hc, A4, c4, hv, hd4⟩, z4⟩ => ⟨((A4, (unlF ns who from_ path).1.length, c4), m, r, (unlF ns who from_ path).2, ()), (), hv, hc, ?_⟩)
 have L5 := Mem.le_trans L4 a4
 have gg4 := g4.beside (by decide) (Nat.lt_of_lt_of_le (by decide : 0 < 8) g4.cap) hw4 b4 z4
 obtain ⟨B4, p4, q4, r4, g5⟩ := gg4.put (i := 4) (vs := dCells m r (A4, c4, (unlF ns who from_ path).1)) (by show 4 < 8; decide) (by decide) rfl
 have F5 := F4.put a4 (d := (A4, c4, (unlF ns who from_ path).1)) hd4 (k := 4) rfl (by decide)
 refine ⟨fun _ => (⟨by decide, by decide, by show sa.isSome = true; rw [show sa = _ from p4]; rfl⟩ : (0 : Int) ≤ 4 ∧ (4 : Int) < ((8 : Nat) : Int) ∧ sa.isSome = true), B4, 0, p4, none_le L5 q4, fun j hj => r4 j hj, ?_⟩
 refine hold_call ((CV.beside (rmd_.cv A c ns m r v5 (hd.mono L5) h8 (hg.mono L5) s (hs.mono L5) who from_ path (by omega)) g5.le).mono fun x cs w5 hw5 ⟨v6, a5, b5, ⟨hc, A5, c5, hv, hd5⟩, z5⟩ => ⟨((A5, (rmdF ns who from_ path).1.length, c5), m, r, (rmdF ns who from_ path).2, ()), (), hv, hc, ?_⟩)
 have L6 := Mem.le_trans L5 a5
 have gg5 := g5.beside (by decide) (Nat.lt_of_lt_of_le (by decide : 0 < 8) g5.cap) hw5 b5 z5
 obtain ⟨B5, p5, q5, r5, g6⟩ := gg5.put (i := 5) (vs := dCells m r (A5, c5, (rmdF ns who from_ path).1)) (by show 5 < 8; decide) (by decide) rfl
 have F6 := F5.put a5 (d := (A5, c5, (rmdF ns who from_ path).1)) hd5 (k := 5) rfl (by decide)
 refine ⟨fun _ => (⟨by decide, by decide, by show sa.isSome = true; rw [show sa = _ from p5]; rfl⟩ : (0 : Int) ≤ 5 ∧ (5 : Int) < ((8 : Nat) : Int) ∧ sa.isSome = true), B5, 0, p5, none_le L6 q5, fun j hj => r5 j hj, ?_⟩
 refine hold_call ((CV.beside (ren_.cv A c ns m r v6 (hd.mono L6) h8 (hg.mono L6) s (hs.mono L6) who from_ whob fromb old path (by omega) (by omega)) g6.le).mono fun x cs w6 hw6 ⟨v7, a6, b6, ⟨hc, A6, c6, hv, hd6⟩, z6⟩ => ⟨((A6, (renF ns who from_ whob fromb old path).1.length, c6), m, r, (renF ns who from_ whob fromb old path).2, ()), (), hv, hc, ?_⟩)
 have L7 := Mem.le_trans L6 a6
 have gg6 := g6.beside (by decide) (Nat.lt_of_lt_of_le (by decide : 0 < 8) g6.cap) hw6 b6 z6
 obtain ⟨B6, p6, q6, r6, g7⟩ := gg6.put (i := 6) (vs := dCells m r (A6, c6, (renF ns who from_ whob fromb old path).1)) (by show 6 < 8; decide) (by decide) rfl
 have F7 := F6.put a6 (d := (A6, c6, (renF ns who from_ whob fromb old path).1)) hd6 (k := 6) rfl (by decide)
 refine ⟨fun _ => (⟨by decide, by decide, by show sa.isSome = true; rw [show sa = _ from p6]; rfl⟩ : (0 : Int) ≤ 6 ∧ (6 : Int) < ((8 : Nat) : Int) ∧ sa.isSome = true), B6, 0, p6, none_le L7 q6, fun j hj => r6 j hj, ?_⟩
 refine hold_call ((CV.beside (chm_.cv A c ns m r v7 (hd.mono L7) h8 (hg.mono L7) s (hs.mono L7) who from_ path mode (by omega)) g7.le).mono fun x cs w7 hw7 ⟨v8, a7, b7, ⟨hc, A7, c7, hv, hd7⟩, z7⟩ => ⟨((A7, (chmF ns who from_ path mode).1.length, c7), m, r, (chmF ns who from_ path mode).2, ()), (), hv, hc, ?_⟩)
 have L8 := Mem.le_trans L7 a7
 have gg7 := g7.beside (by decide) (Nat.lt_of_lt_of_le (by decide : 0 < 8) g7.cap) hw7 b7 z7
 obtain ⟨B7, p7, q7, r7, g8⟩ := gg7.put (i := 7) (vs := dCells m r (A7, c7, (chmF ns who from_ path mode).1)) (by show 7 < 8; decide) (by decide) rfl
 have F8 := F7.put a7 (d := (A7, c7, (chmF ns who from_ path mode).1)) hd7 (k := 7) rfl (by decide)
 refine ⟨fun _ => (⟨by decide, by decide, by show sa.isSome = true; rw [show sa = _ from p7]; rfl⟩ : (0 : Int) ≤ 7 ∧ (7 : Int) < ((8 : Nat) : Int) ∧ sa.isSome = true), B7, 0, p7, none_le L8 q7, fun j hj => r7 j hj, ?_⟩
 have hDat : Dat ns := fun n hn => by
  have h := hok
  unfold okF at h; rw [Bool.and_eq_true, Bool.and_eq_true] at h
  exact (okF.sizes h.1 (of_decide_eq_true h.2.1) n hn).1
 have few := hRi.few
 have N1 := enter_nsl (n := fileN mode) h8 m r who from_ path ⟨zNd_r.rise, zNd_r.len⟩ 5
 have N2 := enter_nsl (n := dirN mode) h8 m r who from_ path ⟨zNd_r.rise, zNd_r.len⟩ 0
 have N3 := enter_nsl (n := linkN old) h8 m r who from_ path ⟨zNd_r.rise, zNd_r.len⟩ 4
 have K0 : Ok3 m r (makeF ns m r who from_ path mode).1 := ⟨make_right hRi _ _ _ _, hDat.enter m r who from_ path (n := fileN mode) (by show (⟨#[]⟩ : ByteArray).size ≤ 300; decide) 5, N1.1, Nat.le_trans N1.2 (by omega)⟩
 have K1 : Ok3 m r (mkdirF ns m r who from_ path mode).1 := ⟨mkdir_right hRi _ _ _ _, hDat.enter m r who from_ path (n := dirN mode) (by show (⟨#[]⟩ : ByteArray).size ≤ 300; decide) 0, N2.1, Nat.le_trans N2.2 (by omega)⟩
 have K2 : Ok3 m r (symF ns m r who from_ old path).1 := by
  refine ⟨sym_right hRi _ _ _ _, hDat.sym m r who from_ old path, ?_, ?_⟩
  ·unfold symF
   split
   ·exact hL.up (by decide)
   split
   ·exact hL.up (by decide)
   exact N3.1
  ·unfold symF
   split
   ·show ns.length ≤ 1000; omega
   split
   ·show ns.length ≤ 1000; omega
   exact Nat.le_trans N3.2 (by omega)
 have K3 : Ok3 m r (linkF ns who from_ old path).1 := ⟨link_right hRi _ _ _ _, hDat.link _ _ _ _, hL.link _ _ _ _, by rw [link_len]; omega⟩
 have K4 : Ok3 m r (unlF ns who from_ path).1 := ⟨unl_right hRi _ _ _, hDat.unl _ _ _, (hL.unl _ _ _).up (by decide), by rw [unl_len]; omega⟩
 have K5 : Ok3 m r (rmdF ns who from_ path).1 := ⟨rmd_right hRi _ _ _, hDat.rmd _ _ _, (hL.rmd _ _ _).up (by decide), by rw [rmd_len]; omega⟩
 have K6 : Ok3 m r (renF ns who from_ whob fromb old path).1 := ⟨ren_right hRi _ _ _ _ _ _, hDat.ren _ _ _ _ _ _, hL.ren _ _ _ _ _ _, by rw [ren_len]; omega⟩
 have K7 : Ok3 m r (chmF ns who from_ path mode).1 := ⟨chm_right hRi _ _ _ _, hDat.chm _ _ _ _, (hL.chm _ _ _ _).up (by decide), by rw [chm_len]; omega⟩
 generalize hD : ((([] : List (Option Addr × Nat × List Nd)) ++ [(A0, c0, (makeF ns m r who from_ path mode).1)] ++ [(A1, c1, (mkdirF ns m r who from_ path mode).1)] ++ [(A2, c2, (symF ns m r who from_ old path).1)] ++ [(A3, c3, (linkF ns who from_ old path).1)] ++ [(A4, c4, (unlF ns who from_ path).1)] ++ [(A5, c5, (rmdF ns who from_ path).1)] ++ [(A6, c6, (renF ns who from_ whob fromb old path).1)] ++ [(A7, c7, (chmF ns who from_ path mode).1)])) = D at F8
 have hDl : D.length = 8 := by rw [← hD]; rfl
 have hDk : ∀ d ∈ D, Ok3 m r d.2.2 := fun d h => by
  rw [← hD] at h
  simp only [List.nil_append, List.cons_append, List.mem_cons, List.mem_nil_iff, or_false, List.not_mem_nil] at h
  rcases h with rfl | rfl | rfl | rfl | rfl | rfl | rfl | rfl
  ·exact K0
  ·exact K1
  ·exact K2
  ·exact K3
  ·exact K4
  ·exact K5
  ·exact K6
  ·exact K7
 clear hD K0 K1 K2 K3 K4 K5 K6 K7
 refine hold_count 8 (fun i u' => Mem.le (Mem.set w7 B7 (0 + 7 * 3) (dCells m r (A7, c7, (chmF ns who from_ path mode).1))) u') (Mem.le_refl _) ?_
 rintro i u' hi hu'
 refine ⟨fun hlt => ?_, fun hge => ⟨rfl, rfl⟩⟩
 simp only [E.den, cT_lss] at hlt
 have hlt : (i : Int) < 8 := hlt
 obtain ⟨d, hdj⟩ : ∃ d, D[i]? = some d := ⟨_, List.getElem?_eq_getElem (by omega)⟩
 obtain ⟨dA, dc, dn⟩ := d
 have hK := hDk _ (List.mem_of_getElem? hdj)
 obtain ⟨f1, f2⟩ := F8.at_ i _ hdj
 have hdd : DiskAt u' dA dn := f2.mono (Mem.le_trans g8.le hu')
 have rr : Reads u' sa ((i : Int).toNat * 3) (dCells m r (dA, dc, dn)) := by
  rw [Int.toNat_natCast]
  exact ((g8.up hu').reads (k := 0) (by show 0 < 3; decide) f1)
 have k1 : (0 : Int) ≤ (i : Int) ∧ (i : Int) < ((8 : Nat) : Int) ∧ sa.isSome = true := ⟨by omega, by omega, rr.some⟩
 have hlen : dn.length ≤ 1000 := hK.len
 have hgt : (!cmpI .gtr (dn.length : Int) 1000) = true := by rw [cD_gtr, decide_eq_false (by omega)]; rfl
 refine ⟨fun _ => k1, fun _ => k1.2.2, fun _ => ⟨((dA, dn.length, dc), ()), rr.part 0 1, fun _ => k1, fun _ => ⟨((dA, dn.length, dc), m, r, ()), rr, ?_⟩, fun hh => ?_⟩, fun hh => by cases hh⟩
 rotate_left
 ·exact absurd (hgt.symm.trans hh) (by decide)
 refine hold_callg (fun xs _ u1 => u'.le u1 ∧ ∃ a1 k1, xs = ((a1, dn.length, k1), m, r, ()) ∧ DiskAt u1 a1 dn) (fun _ => (its_same (by decide) dA dc dn m r u' hdd hK.nsl).mono fun v cs v1 hv1 ⟨hc, a1, k1, hv, hd1⟩ => ⟨((a1, dn.length, k1), m, r, ()), (), hv, hc, hv1, a1, k1, rfl, hd1⟩) (fun hh => absurd (hgt.symm.trans hh) (by decide)) ?_
 rintro _ _ y1 ⟨hy1, a1, k1, rfl, hd1⟩
 refine hold_callg (fun xs _ u1 => y1.le u1 ∧ xs.1 = true) (fun _ => (rright.cv a1 k1 dn m r y1 hd1 (szs_of hK.right hK.dat hK.nsl (by decide))).mono fun v cs v2 hv2 ⟨hc, hv⟩ => ⟨(rightF dn m r, ()), (), hv, hc, hv2, hK.right⟩) (fun hh => absurd (hgt.symm.trans hh) (by decide)) ?_
 rintro ⟨x16, _⟩ _ y2 ⟨hy2, hx16⟩
 obtain rfl : x16 = true := hx16
 refine ⟨fun hh => ?_, fun _ => ?_⟩
 ·exfalso
  have hh : (bif cmpI .gtr (dn.length : Int) 1000 then true else !true) = true := hh
  rw [cD_gtr, decide_eq_false (by omega)] at hh
  cases hh
 ·refine ⟨by simp, ?_⟩
  simp only [if_true]
  exact ⟨by rw [← wrap_succ (show i < 4611686018427387904 by omega)]; rfl, rfl, by omega, Mem.le_trans hu' (Mem.le_trans hy1 hy2)⟩
end Go.Proofs.YtpfbimkpcnnfkaaGreatDoor.Sx
