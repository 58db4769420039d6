/- By Sx: ChangeEnters. -/
import Derived.Test.YtpfbimkpcnnfkaaGreatDoorSxTh
import Derived.Test.YtpfbimkpcnnfkaaGreatDoorSyW
import Derived.Test.YtpfbimkpcnnfkaaGreatDoorSyZ
/- Trees, printed by program. -/
set_option maxRecDepth 100000
set_option linter.unusedVariables false
namespace Go.Proofs.YtpfbimkpcnnfkaaGreatDoor.Sx
open Go Go.RowKit Go.Proofs.YtpfbimkpcnnfkaaGreatDoor
def lEnters.args (a0 : Cells S.ty [.s, .i .i64, .i .i64]) (a1 : Cells S.ty [.i .i64, .i .i64]) (a2 : Cells S.ty [.t]) (a3 : Cells S.ty [.t]) (a4 : Cells S.ty [.i .i64]) : List (SV S.ty) := [.agg (cellsSV [.s, .i .i64, .i .i64] a0), .agg (cellsSV [.i .i64, .i .i64] a1), .t (.at a2.1), .t (.at a3.1), .i .i64 (.at a4.1)]
def lEnters.giv (a0 : Cells S.ty [.s, .i .i64, .i .i64]) (a1 : Cells S.ty [.i .i64, .i .i64]) (a2 : Cells S.ty [.t]) (a3 : Cells S.ty [.t]) (a4 : Cells S.ty [.i .i64]) : List (Nat × Own S.ty) := []
def lEnters.T (a0 : Cells S.ty [.s, .i .i64, .i .i64]) (a1 : Cells S.ty [.i .i64, .i .i64]) (a2 : Cells S.ty [.t]) (a3 : Cells S.ty [.t]) (a4 : Cells S.ty [.i .i64]) : Tree S.ty :=
 .new 5 <|
 .new 6 <|
 .call (.b true) true 10 [.agg (cellsSV [.s, .i .i64, .i .i64] a0)] [] [] [(false, [.b])] [] fun x0 y0 =>
 .test (.not (.not (.at x0.1)))
 (.new 32 <|
 .test (.not (.not (.at x0.1)))
 (.call (.b true) true 11 [.os 32 0 2 2] [] [(32, [.t (.at a2.1), .t (.at a3.1)])] [(false, [.b])] [] fun x1 y1 =>
 .call (.not (.ite (.not (.at x0.1)) (.b true) (.not (.at x1.1)))) true 12 [] [] [] [(false, [.b])] [] fun x2 y2 =>
 .test (.ite (.ite (.not (.at x0.1)) (.b true) (.not (.at x1.1))) (.b true) (.not (.at x2.1)))
 (.call (.b true) true 12 [] [] [] [(false, [.b])] [] fun x3 y3 =>
 .ret (.b (.at x3.1)) [] [])
 (.call (.b true) true 15 [.agg (cellsSV [.s, .i .i64, .i .i64] a0)] [] [] [(true, [.s, .i .i64, .i .i64])] [] fun x3 y3 =>
 .new 11 <|
 .call (.b true) true 18 [.agg (cellsSV [.s, .i .i64, .i .i64] a0), .agg (cellsSV [.i .i64, .i .i64] a1), .t (.at a2.1), .i .i64 (.at a4.1)] [] [] [(true, [.s, .i .i64, .i .i64]), (false, [.i .i64]), (false, [.i .i64])] [] fun x4 y4 =>
 .new 12 <|
 .call (.b true) false 16 [.agg (cellsSV [.i .i64, .i .i64] a1)] [] [] [(true, [.i .i64, .i .i64])] [] fun x5 y5 =>
 .call (.b true) true 29 [.agg (cellsSV [.s, .i .i64, .i .i64] x3), .agg (cellsSV [.i .i64, .i .i64] x5), .t (.at a2.1), .i .i64 (.at a4.1)] [] [] [(true, [.s, .i .i64, .i .i64]), (false, [.i .i64]), (false, [.i .i64])] [] fun x6 y6 =>
 .new 15 <|
 .call (.b true) true 19 [.agg (cellsSV [.s, .i .i64, .i .i64] a0), .agg (cellsSV [.i .i64, .i .i64] a1), .t (.at a2.1), .i .i64 (.at a4.1)] [] [] [(true, [.s, .i .i64, .i .i64]), (false, [.i .i64])] [] fun x7 y7 =>
 .new 18 <|
 .call (.b true) false 16 [.agg (cellsSV [.i .i64, .i .i64] a1)] [] [] [(true, [.i .i64, .i .i64])] [] fun x8 y8 =>
 .call (.b true) true 30 [.agg (cellsSV [.s, .i .i64, .i .i64] x3), .agg (cellsSV [.i .i64, .i .i64] x8), .t (.at a2.1), .i .i64 (.at a4.1)] [] [] [(true, [.s, .i .i64, .i .i64]), (false, [.i .i64])] [] fun x9 y9 =>
 .new 20 <|
 .call (.b true) true 31 [.agg (cellsSV [.s, .i .i64, .i .i64] a0), .agg (cellsSV [.i .i64, .i .i64] a1), .t (.at a3.1), .t (.at a2.1)] [] [] [(true, [.s, .i .i64, .i .i64]), (false, [.i .i64])] [] fun x10 y10 =>
 .new 22 <|
 .call (.b true) false 16 [.agg (cellsSV [.i .i64, .i .i64] a1)] [] [] [(true, [.i .i64, .i .i64])] [] fun x11 y11 =>
 .call (.b true) true 32 [.agg (cellsSV [.s, .i .i64, .i .i64] x3), .agg (cellsSV [.i .i64, .i .i64] x11), .t (.at a3.1), .t (.at a2.1)] [] [] [(true, [.s, .i .i64, .i .i64]), (false, [.i .i64])] [] fun x12 y12 =>
 .new 24 <|
 .call (.b true) false 15 [.agg ((cellsSV K8 x4).take 3)] [] [] [(true, [.s, .i .i64, .i .i64])] [] fun x13 y13 =>
 .call (.b true) true 17 [.agg (cellsSV [.s, .i .i64, .i .i64] x13), .agg ((cellsSV K8 x6).take 3)] [] [] [(false, [.b])] [] fun x14 y14 =>
 .call (.ite (.ite (.at x14.1) (.cmp .eql (.at x4.2.2.2.1) (.at x6.2.2.2.1)) (.b false)) (.cmp .eql (.at x4.2.2.2.2.1) (.at x6.2.2.2.2.1)) (.b false)) false 15 [.agg ((cellsSV K5 x7).take 3)] [] [] [(true, [.s, .i .i64, .i .i64])] [] fun x15 y15 =>
 .call (.ite (.ite (.at x14.1) (.cmp .eql (.at x4.2.2.2.1) (.at x6.2.2.2.1)) (.b false)) (.cmp .eql (.at x4.2.2.2.2.1) (.at x6.2.2.2.2.1)) (.b false)) true 17 [.agg (cellsSV [.s, .i .i64, .i .i64] x15), .agg ((cellsSV K5 x9).take 3)] [] [] [(false, [.b])] [] fun x16 y16 =>
 .call (.ite (.ite (.ite (.ite (.at x14.1) (.cmp .eql (.at x4.2.2.2.1) (.at x6.2.2.2.1)) (.b false)) (.cmp .eql (.at x4.2.2.2.2.1) (.at x6.2.2.2.2.1)) (.b false)) (.at x16.1) (.b false)) (.cmp .eql (.at x7.2.2.2.1) (.at x9.2.2.2.1)) (.b false)) false 15 [.agg ((cellsSV K5 x10).take 3)] [] [] [(true, [.s, .i .i64, .i .i64])] [] fun x17 y17 =>
 .call (.ite (.ite (.ite (.ite (.at x14.1) (.cmp .eql (.at x4.2.2.2.1) (.at x6.2.2.2.1)) (.b false)) (.cmp .eql (.at x4.2.2.2.2.1) (.at x6.2.2.2.2.1)) (.b false)) (.at x16.1) (.b false)) (.cmp .eql (.at x7.2.2.2.1) (.at x9.2.2.2.1)) (.b false)) true 17 [.agg (cellsSV [.s, .i .i64, .i .i64] x17), .agg ((cellsSV K5 x12).take 3)] [] [] [(false, [.b])] [] fun x18 y18 =>
 .call (.ite (.ite (.ite (.ite (.ite (.ite (.at x14.1) (.cmp .eql (.at x4.2.2.2.1) (.at x6.2.2.2.1)) (.b false)) (.cmp .eql (.at x4.2.2.2.2.1) (.at x6.2.2.2.2.1)) (.b false)) (.at x16.1) (.b false)) (.cmp .eql (.at x7.2.2.2.1) (.at x9.2.2.2.1)) (.b false)) (.at x18.1) (.b false)) (.cmp .eql (.at x10.2.2.2.1) (.at x12.2.2.2.1)) (.b false)) false 15 [.agg (cellsSV [.s, .i .i64, .i .i64] a0)] [] [] [(true, [.s, .i .i64, .i .i64])] [] fun x19 y19 =>
 .call (.ite (.ite (.ite (.ite (.ite (.ite (.at x14.1) (.cmp .eql (.at x4.2.2.2.1) (.at x6.2.2.2.1)) (.b false)) (.cmp .eql (.at x4.2.2.2.2.1) (.at x6.2.2.2.2.1)) (.b false)) (.at x16.1) (.b false)) (.cmp .eql (.at x7.2.2.2.1) (.at x9.2.2.2.1)) (.b false)) (.at x18.1) (.b false)) (.cmp .eql (.at x10.2.2.2.1) (.at x12.2.2.2.1)) (.b false)) true 17 [.agg (cellsSV [.s, .i .i64, .i .i64] x19), .agg (cellsSV [.s, .i .i64, .i .i64] x3)] [] [] [(false, [.b])] [] fun x20 y20 =>
 .ret (.b (.ite (.ite (.ite (.ite (.ite (.ite (.ite (.at x14.1) (.cmp .eql (.at x4.2.2.2.1) (.at x6.2.2.2.1)) (.b false)) (.cmp .eql (.at x4.2.2.2.2.1) (.at x6.2.2.2.2.1)) (.b false)) (.at x16.1) (.b false)) (.cmp .eql (.at x7.2.2.2.1) (.at x9.2.2.2.1)) (.b false)) (.at x18.1) (.b false)) (.cmp .eql (.at x10.2.2.2.1) (.at x12.2.2.2.1)) (.b false)) (.at x20.1) (.b false))) [] []))
 (.call (.not (.ite (.not (.at x0.1)) (.b true) (.not (.b false)))) true 12 [] [] [] [(false, [.b])] [] fun x1 y1 =>
 .test (.ite (.ite (.not (.at x0.1)) (.b true) (.not (.b false))) (.b true) (.not (.at x1.1)))
 (.call (.b true) true 12 [] [] [] [(false, [.b])] [] fun x2 y2 =>
 .ret (.b (.at x2.1)) [] [])
 (.call (.b true) true 15 [.agg (cellsSV [.s, .i .i64, .i .i64] a0)] [] [] [(true, [.s, .i .i64, .i .i64])] [] fun x2 y2 =>
 .new 11 <|
 .call (.b true) true 18 [.agg (cellsSV [.s, .i .i64, .i .i64] a0), .agg (cellsSV [.i .i64, .i .i64] a1), .t (.at a2.1), .i .i64 (.at a4.1)] [] [] [(true, [.s, .i .i64, .i .i64]), (false, [.i .i64]), (false, [.i .i64])] [] fun x3 y3 =>
 .new 12 <|
 .call (.b true) false 16 [.agg (cellsSV [.i .i64, .i .i64] a1)] [] [] [(true, [.i .i64, .i .i64])] [] fun x4 y4 =>
 .call (.b true) true 29 [.agg (cellsSV [.s, .i .i64, .i .i64] x2), .agg (cellsSV [.i .i64, .i .i64] x4), .t (.at a2.1), .i .i64 (.at a4.1)] [] [] [(true, [.s, .i .i64, .i .i64]), (false, [.i .i64]), (false, [.i .i64])] [] fun x5 y5 =>
 .new 15 <|
 .call (.b true) true 19 [.agg (cellsSV [.s, .i .i64, .i .i64] a0), .agg (cellsSV [.i .i64, .i .i64] a1), .t (.at a2.1), .i .i64 (.at a4.1)] [] [] [(true, [.s, .i .i64, .i .i64]), (false, [.i .i64])] [] fun x6 y6 =>
 .new 18 <|
 .call (.b true) false 16 [.agg (cellsSV [.i .i64, .i .i64] a1)] [] [] [(true, [.i .i64, .i .i64])] [] fun x7 y7 =>
 .call (.b true) true 30 [.agg (cellsSV [.s, .i .i64, .i .i64] x2), .agg (cellsSV [.i .i64, .i .i64] x7), .t (.at a2.1), .i .i64 (.at a4.1)] [] [] [(true, [.s, .i .i64, .i .i64]), (false, [.i .i64])] [] fun x8 y8 =>
 .new 20 <|
 .call (.b true) true 31 [.agg (cellsSV [.s, .i .i64, .i .i64] a0), .agg (cellsSV [.i .i64, .i .i64] a1), .t (.at a3.1), .t (.at a2.1)] [] [] [(true, [.s, .i .i64, .i .i64]), (false, [.i .i64])] [] fun x9 y9 =>
 .new 22 <|
 .call (.b true) false 16 [.agg (cellsSV [.i .i64, .i .i64] a1)] [] [] [(true, [.i .i64, .i .i64])] [] fun x10 y10 =>
 .call (.b true) true 32 [.agg (cellsSV [.s, .i .i64, .i .i64] x2), .agg (cellsSV [.i .i64, .i .i64] x10), .t (.at a3.1), .t (.at a2.1)] [] [] [(true, [.s, .i .i64, .i .i64]), (false, [.i .i64])] [] fun x11 y11 =>
 .new 24 <|
 .call (.b true) false 15 [.agg ((cellsSV K8 x3).take 3)] [] [] [(true, [.s, .i .i64, .i .i64])] [] fun x12 y12 =>
 .call (.b true) true 17 [.agg (cellsSV [.s, .i .i64, .i .i64] x12), .agg ((cellsSV K8 x5).take 3)] [] [] [(false, [.b])] [] fun x13 y13 =>
 .call (.ite (.ite (.at x13.1) (.cmp .eql (.at x3.2.2.2.1) (.at x5.2.2.2.1)) (.b false)) (.cmp .eql (.at x3.2.2.2.2.1) (.at x5.2.2.2.2.1)) (.b false)) false 15 [.agg ((cellsSV K5 x6).take 3)] [] [] [(true, [.s, .i .i64, .i .i64])] [] fun x14 y14 =>
 .call (.ite (.ite (.at x13.1) (.cmp .eql (.at x3.2.2.2.1) (.at x5.2.2.2.1)) (.b false)) (.cmp .eql (.at x3.2.2.2.2.1) (.at x5.2.2.2.2.1)) (.b false)) true 17 [.agg (cellsSV [.s, .i .i64, .i .i64] x14), .agg ((cellsSV K5 x8).take 3)] [] [] [(false, [.b])] [] fun x15 y15 =>
 .call (.ite (.ite (.ite (.ite (.at x13.1) (.cmp .eql (.at x3.2.2.2.1) (.at x5.2.2.2.1)) (.b false)) (.cmp .eql (.at x3.2.2.2.2.1) (.at x5.2.2.2.2.1)) (.b false)) (.at x15.1) (.b false)) (.cmp .eql (.at x6.2.2.2.1) (.at x8.2.2.2.1)) (.b false)) false 15 [.agg ((cellsSV K5 x9).take 3)] [] [] [(true, [.s, .i .i64, .i .i64])] [] fun x16 y16 =>
 .call (.ite (.ite (.ite (.ite (.at x13.1) (.cmp .eql (.at x3.2.2.2.1) (.at x5.2.2.2.1)) (.b false)) (.cmp .eql (.at x3.2.2.2.2.1) (.at x5.2.2.2.2.1)) (.b false)) (.at x15.1) (.b false)) (.cmp .eql (.at x6.2.2.2.1) (.at x8.2.2.2.1)) (.b false)) true 17 [.agg (cellsSV [.s, .i .i64, .i .i64] x16), .agg ((cellsSV K5 x11).take 3)] [] [] [(false, [.b])] [] fun x17 y17 =>
 .call (.ite (.ite (.ite (.ite (.ite (.ite (.at x13.1) (.cmp .eql (.at x3.2.2.2.1) (.at x5.2.2.2.1)) (.b false)) (.cmp .eql (.at x3.2.2.2.2.1) (.at x5.2.2.2.2.1)) (.b false)) (.at x15.1) (.b false)) (.cmp .eql (.at x6.2.2.2.1) (.at x8.2.2.2.1)) (.b false)) (.at x17.1) (.b false)) (.cmp .eql (.at x9.2.2.2.1) (.at x11.2.2.2.1)) (.b false)) false 15 [.agg (cellsSV [.s, .i .i64, .i .i64] a0)] [] [] [(true, [.s, .i .i64, .i .i64])] [] fun x18 y18 =>
 .call (.ite (.ite (.ite (.ite (.ite (.ite (.at x13.1) (.cmp .eql (.at x3.2.2.2.1) (.at x5.2.2.2.1)) (.b false)) (.cmp .eql (.at x3.2.2.2.2.1) (.at x5.2.2.2.2.1)) (.b false)) (.at x15.1) (.b false)) (.cmp .eql (.at x6.2.2.2.1) (.at x8.2.2.2.1)) (.b false)) (.at x17.1) (.b false)) (.cmp .eql (.at x9.2.2.2.1) (.at x11.2.2.2.1)) (.b false)) true 17 [.agg (cellsSV [.s, .i .i64, .i .i64] x18), .agg (cellsSV [.s, .i .i64, .i .i64] x2)] [] [] [(false, [.b])] [] fun x19 y19 =>
 .ret (.b (.ite (.ite (.ite (.ite (.ite (.ite (.ite (.at x13.1) (.cmp .eql (.at x3.2.2.2.1) (.at x5.2.2.2.1)) (.b false)) (.cmp .eql (.at x3.2.2.2.2.1) (.at x5.2.2.2.2.1)) (.b false)) (.at x15.1) (.b false)) (.cmp .eql (.at x6.2.2.2.1) (.at x8.2.2.2.1)) (.b false)) (.at x17.1) (.b false)) (.cmp .eql (.at x9.2.2.2.1) (.at x11.2.2.2.1)) (.b false)) (.at x19.1) (.b false))) [] [])))
 (.call (.not (.not (.at x0.1))) true 11 [.s .anil (.n 0) (.n 0)] [] [] [(false, [.b])] [] fun x1 y1 =>
 .call (.not (.ite (.not (.at x0.1)) (.b true) (.not (.at x1.1)))) true 12 [] [] [] [(false, [.b])] [] fun x2 y2 =>
 .test (.ite (.ite (.not (.at x0.1)) (.b true) (.not (.at x1.1))) (.b true) (.not (.at x2.1)))
 (.call (.b true) true 12 [] [] [] [(false, [.b])] [] fun x3 y3 =>
 .ret (.b (.at x3.1)) [] [])
 (.call (.b true) true 15 [.agg (cellsSV [.s, .i .i64, .i .i64] a0)] [] [] [(true, [.s, .i .i64, .i .i64])] [] fun x3 y3 =>
 .new 11 <|
 .call (.b true) true 18 [.agg (cellsSV [.s, .i .i64, .i .i64] a0), .agg (cellsSV [.i .i64, .i .i64] a1), .t (.at a2.1), .i .i64 (.at a4.1)] [] [] [(true, [.s, .i .i64, .i .i64]), (false, [.i .i64]), (false, [.i .i64])] [] fun x4 y4 =>
 .new 12 <|
 .call (.b true) false 16 [.agg (cellsSV [.i .i64, .i .i64] a1)] [] [] [(true, [.i .i64, .i .i64])] [] fun x5 y5 =>
 .call (.b true) true 29 [.agg (cellsSV [.s, .i .i64, .i .i64] x3), .agg (cellsSV [.i .i64, .i .i64] x5), .t (.at a2.1), .i .i64 (.at a4.1)] [] [] [(true, [.s, .i .i64, .i .i64]), (false, [.i .i64]), (false, [.i .i64])] [] fun x6 y6 =>
 .new 15 <|
 .call (.b true) true 19 [.agg (cellsSV [.s, .i .i64, .i .i64] a0), .agg (cellsSV [.i .i64, .i .i64] a1), .t (.at a2.1), .i .i64 (.at a4.1)] [] [] [(true, [.s, .i .i64, .i .i64]), (false, [.i .i64])] [] fun x7 y7 =>
 .new 18 <|
 .call (.b true) false 16 [.agg (cellsSV [.i .i64, .i .i64] a1)] [] [] [(true, [.i .i64, .i .i64])] [] fun x8 y8 =>
 .call (.b true) true 30 [.agg (cellsSV [.s, .i .i64, .i .i64] x3), .agg (cellsSV [.i .i64, .i .i64] x8), .t (.at a2.1), .i .i64 (.at a4.1)] [] [] [(true, [.s, .i .i64, .i .i64]), (false, [.i .i64])] [] fun x9 y9 =>
 .new 20 <|
 .call (.b true) true 31 [.agg (cellsSV [.s, .i .i64, .i .i64] a0), .agg (cellsSV [.i .i64, .i .i64] a1), .t (.at a3.1), .t (.at a2.1)] [] [] [(true, [.s, .i .i64, .i .i64]), (false, [.i .i64])] [] fun x10 y10 =>
 .new 22 <|
 .call (.b true) false 16 [.agg (cellsSV [.i .i64, .i .i64] a1)] [] [] [(true, [.i .i64, .i .i64])] [] fun x11 y11 =>
 .call (.b true) true 32 [.agg (cellsSV [.s, .i .i64, .i .i64] x3), .agg (cellsSV [.i .i64, .i .i64] x11), .t (.at a3.1), .t (.at a2.1)] [] [] [(true, [.s, .i .i64, .i .i64]), (false, [.i .i64])] [] fun x12 y12 =>
 .new 24 <|
 .call (.b true) false 15 [.agg ((cellsSV K8 x4).take 3)] [] [] [(true, [.s, .i .i64, .i .i64])] [] fun x13 y13 =>
 .call (.b true) true 17 [.agg (cellsSV [.s, .i .i64, .i .i64] x13), .agg ((cellsSV K8 x6).take 3)] [] [] [(false, [.b])] [] fun x14 y14 =>
 .call (.ite (.ite (.at x14.1) (.cmp .eql (.at x4.2.2.2.1) (.at x6.2.2.2.1)) (.b false)) (.cmp .eql (.at x4.2.2.2.2.1) (.at x6.2.2.2.2.1)) (.b false)) false 15 [.agg ((cellsSV K5 x7).take 3)] [] [] [(true, [.s, .i .i64, .i .i64])] [] fun x15 y15 =>
 .call (.ite (.ite (.at x14.1) (.cmp .eql (.at x4.2.2.2.1) (.at x6.2.2.2.1)) (.b false)) (.cmp .eql (.at x4.2.2.2.2.1) (.at x6.2.2.2.2.1)) (.b false)) true 17 [.agg (cellsSV [.s, .i .i64, .i .i64] x15), .agg ((cellsSV K5 x9).take 3)] [] [] [(false, [.b])] [] fun x16 y16 =>
 .call (.ite (.ite (.ite (.ite (.at x14.1) (.cmp .eql (.at x4.2.2.2.1) (.at x6.2.2.2.1)) (.b false)) (.cmp .eql (.at x4.2.2.2.2.1) (.at x6.2.2.2.2.1)) (.b false)) (.at x16.1) (.b false)) (.cmp .eql (.at x7.2.2.2.1) (.at x9.2.2.2.1)) (.b false)) false 15 [.agg ((cellsSV K5 x10).take 3)] [] [] [(true, [.s, .i .i64, .i .i64])] [] fun x17 y17 =>
 .call (.ite (.ite (.ite (.ite (.at x14.1) (.cmp .eql (.at x4.2.2.2.1) (.at x6.2.2.2.1)) (.b false)) (.cmp .eql (.at x4.2.2.2.2.1) (.at x6.2.2.2.2.1)) (.b false)) (.at x16.1) (.b false)) (.cmp .eql (.at x7.2.2.2.1) (.at x9.2.2.2.1)) (.b false)) true 17 [.agg (cellsSV [.s, .i .i64, .i .i64] x17), .agg ((cellsSV K5 x12).take 3)] [] [] [(false, [.b])] [] fun x18 y18 =>
 .call (.ite (.ite (.ite (.ite (.ite (.ite (.at x14.1) (.cmp .eql (.at x4.2.2.2.1) (.at x6.2.2.2.1)) (.b false)) (.cmp .eql (.at x4.2.2.2.2.1) (.at x6.2.2.2.2.1)) (.b false)) (.at x16.1) (.b false)) (.cmp .eql (.at x7.2.2.2.1) (.at x9.2.2.2.1)) (.b false)) (.at x18.1) (.b false)) (.cmp .eql (.at x10.2.2.2.1) (.at x12.2.2.2.1)) (.b false)) false 15 [.agg (cellsSV [.s, .i .i64, .i .i64] a0)] [] [] [(true, [.s, .i .i64, .i .i64])] [] fun x19 y19 =>
 .call (.ite (.ite (.ite (.ite (.ite (.ite (.at x14.1) (.cmp .eql (.at x4.2.2.2.1) (.at x6.2.2.2.1)) (.b false)) (.cmp .eql (.at x4.2.2.2.2.1) (.at x6.2.2.2.2.1)) (.b false)) (.at x16.1) (.b false)) (.cmp .eql (.at x7.2.2.2.1) (.at x9.2.2.2.1)) (.b false)) (.at x18.1) (.b false)) (.cmp .eql (.at x10.2.2.2.1) (.at x12.2.2.2.1)) (.b false)) true 17 [.agg (cellsSV [.s, .i .i64, .i .i64] x19), .agg (cellsSV [.s, .i .i64, .i .i64] x3)] [] [] [(false, [.b])] [] fun x20 y20 =>
 .ret (.b (.ite (.ite (.ite (.ite (.ite (.ite (.ite (.at x14.1) (.cmp .eql (.at x4.2.2.2.1) (.at x6.2.2.2.1)) (.b false)) (.cmp .eql (.at x4.2.2.2.2.1) (.at x6.2.2.2.2.1)) (.b false)) (.at x16.1) (.b false)) (.cmp .eql (.at x7.2.2.2.1) (.at x9.2.2.2.1)) (.b false)) (.at x18.1) (.b false)) (.cmp .eql (.at x10.2.2.2.1) (.at x12.2.2.2.1)) (.b false)) (.at x20.1) (.b false))) [] []))
theorem lEnters.run (a0 : Cells S.ty [.s, .i .i64, .i .i64]) (a1 : Cells S.ty [.i .i64, .i .i64]) (a2 : Cells S.ty [.t]) (a3 : Cells S.ty [.t]) (a4 : Cells S.ty [.i .i64]) : runFn Tryz.prog Tryz.f7 (bodyOf Tryz.f7) [] (lEnters.args a0 a1 a2 a3 a4) (lEnters.giv a0 a1 a2 a3 a4) = lEnters.T a0 a1 a2 a3 a4 := by kernel_rfl
end Go.Proofs.YtpfbimkpcnnfkaaGreatDoor.Sx
set_option maxRecDepth 100000
set_option linter.unusedVariables false
set_option linter.unusedSimpArgs false
namespace Go.Proofs.YtpfbimkpcnnfkaaGreatDoor.Sx
open Go Go.RowKit Go.Proofs.YtpfbimkpcnnfkaaGreatDoor Go.Proofs.YtpfbimkpcnnfkaaGreatDoor.Ext
theorem cc_args {P : Program} {f : FuncId} {a b : List Value} {q : Bool} {O : List (Nat × List Value)} {u0 u : Mem} {R : Value → List (List Value) → Mem → Prop} (h : a = b) (hc : CC P f b q O u0 u R) : CC P f a q O u0 u R := h ▸ hc
theorem enterF_nsl {ns : List Nd} (h : Ok8 ns) (m r who from_ : Int) (path : ByteArray) {n : Nd} (hn : NdR n) (slash : Int) : NsL 100001 (enterF ns m r who from_ path n slash).1 := by
 have h0 : NsL 100001 ns := h.nsl.up (by decide)
 unfold enterF
 split
 ·exact h0
 unfold enterAt
 split
 ·exact h0
 split
 ·exact h0
 split
 ·exact h0
 refine NsL.put (k := 100000) ⟨?_, fun x hx => ?_⟩ _ _
 ·have := add_len ns m r (newNd who (walkF ns who from_ path false).1.f0 n)
  have := h.len; omega
 ·exact (h.ris.add (m := m) (r := r) (n := newNd who (walkF ns who from_ path false).1.f0 n) ⟨hn.rise, hn.len⟩ x hx).len
theorem enterF_no (ns : List Nd) (m r who from_ : Int) (path : ByteArray) (n : Nd) (slash : Int) : (if (enterF ns m r who from_ path n slash).2.2 = 0 then (enterF ns m r who from_ path n slash).2.1 else 0) = (enterF ns m r who from_ path n slash).2.1 := by
 split
 ·rfl
 ·rename_i h
  unfold enterF enterAt at *
  split at h
  ·rename_i h1; rw [if_pos h1]
  rename_i h1
  rw [if_neg h1]
  split at h
  ·rename_i h2; rw [if_pos h2]
  rename_i h2
  rw [if_neg h2]
  split at h
  ·rename_i h3; rw [if_pos h3]
  rename_i h3
  rw [if_neg h3]
  split at h
  ·rename_i h4; rw [if_pos h4]
  ·exact absurd rfl h
theorem ChangeEnters.cv (A : Option Addr) (c : Nat) (ns : List Nd) (m r who from_ : Int) (path text : ByteArray) (mode : Int) (u : Mem) (hd : DiskAt u A ns) (hnm : ∀ n ∈ ns, ∀ e ∈ n.f7, e.f0.size ≤ 1000000000000000) (hg : EgM u) (s : Addr) (hs : EsM s u) :
  CV Tryz.prog 7 [.agg #[.slice A ns.length c, .int .i64 m, .int .i64 r], .agg #[.int .i64 who, .int .i64 from_], .string path, .string text, .int .i64 mode] [] u fun v cs _ => cs = [] ∧ v = .bool true := by
 refine cv_of names draws (fn := Tryz.f7) (b := bodyOf Tryz.f7) rfl rfl [] (lEnters.args ((A, ns.length, c), m, r, ()) (who, from_, ()) (path, ()) (text, ()) (mode, ())) (lEnters.giv _ _ _ _ _) (fun _ => 0) (lEnters.run _ _ _ _ _) (by kernel_rfl) rfl rfl ?_
 unfold lEnters.T
 intro b5 hb5 b6 hb6
 refine hold_call ((lright.cv A c ns m r u hd hnm).mono fun v cs u1 hu1 ⟨hc, hv⟩ => ⟨(okF ns m r, ()), (), hv, hc, ?_⟩)
 refine hold_open (l := [path, text]) (s := s) (hg.mono hu1) (hs.mono hu1) rfl (by decide) (fun _ => rfl) fun hok hsh b21 x2 u2 hu12 => ?_
 obtain ⟨hp, ho⟩ := short_two hsh
 have hu2 := Mem.le_trans hu1 hu12
 have h8 := ok8_of hok
 have hL := h8.nsl
 refine hold_call ((its_same (by decide) A c ns m r u2 (hd.mono hu2) hL).mono fun v cs u3 hu3 ⟨hc, A3, c3, hv, hd3⟩ => ⟨((A3, ns.length, c3), m, r, ()), (), hv, hc, fun b11 hb11 => ?_⟩)
 have hu3 := Mem.le_trans hu2 hu3
 -- Make
 have hL1 : NsL 100001 (makeF ns m r who from_ path mode).1 := enterF_nsl (n := fileN mode) h8 m r who from_ path ⟨zNd_r.rise, zNd_r.len⟩ 5
 have h1 := make_.cv A c ns m r u3 (hd.mono hu3) h8 (hg.mono hu3) s (hs.mono hu3) who from_ path mode (by omega)
 rw [show (if (makeF ns m r who from_ path mode).2.2 = 0 then (makeF ns m r who from_ path mode).2.1 else 0) = (makeF ns m r who from_ path mode).2.1 from enterF_no ns m r who from_ path (fileN mode) 5] at h1
 have h2 := fun u hd => r8make.cv A3 c3 ns m r u hd h8 who from_ path mode (by omega)
 generalize makeF ns m r who from_ path mode = w1 at hL1 h1 h2
 obtain ⟨n1, i1, e1⟩ := w1
 refine hold_call (h1.mono fun v cs u4 hu4 ⟨hc, A4, c4, hv, hd4⟩ => ⟨((A4, n1.length, c4), m, r, i1, e1, ()), (), hv, hc, fun b12 hb12 => ?_⟩)
 refine hold_call ((las.cv u4 who from_).mono fun v cs u5 hu5 ⟨hc, hv⟩ => ⟨(who, from_, ()), (), hv, hc, ?_⟩)
 have hu35 := Mem.le_trans hu4 hu5
 refine hold_call ((h2 u5 (hd3.mono hu35)).mono fun v cs u6 hu6 ⟨hc, A6, c6, hv, hd6⟩ => ⟨((A6, n1.length, c6), m, r, i1, e1, ()), (), hv, hc, fun b14 hb14 => ?_⟩)
 have hu36 := Mem.le_trans hu35 hu6
 have hu6' := Mem.le_trans hu3 hu36
 -- Mkdir
 have hL2 : NsL 100001 (mkdirF ns m r who from_ path mode).1 := enterF_nsl (n := dirN mode) h8 m r who from_ path ⟨zNd_r.rise, zNd_r.len⟩ 0
 have h3 := mkdir_.cv A c ns m r u6 (hd.mono hu6') h8 (hg.mono hu6') s (hs.mono hu6') who from_ path mode (by omega)
 have h4 := fun u hd => r8mkdir.cv A3 c3 ns m r u hd h8 who from_ path mode (by omega)
 generalize mkdirF ns m r who from_ path mode = w2 at hL2 h3 h4
 obtain ⟨n2, i2, e2⟩ := w2
 refine hold_call (h3.mono fun v cs u7 hu7 ⟨hc, A7, c7, hv, hd7⟩ => ⟨((A7, n2.length, c7), m, r, e2, ()), (), hv, hc, fun b16 hb16 => ?_⟩)
 refine hold_call ((las.cv u7 who from_).mono fun v cs u8 hu8 ⟨hc, hv⟩ => ⟨(who, from_, ()), (), hv, hc, ?_⟩)
 have hu38 := Mem.le_trans hu36 (Mem.le_trans hu7 hu8)
 refine hold_call ((h4 u8 (hd3.mono hu38)).mono fun v cs u9 hu9 ⟨hc, A9, c9, hv, hd9⟩ => ⟨((A9, n2.length, c9), m, r, e2, ()), (), hv, hc, fun b18 hb18 => ?_⟩)
 have hu39 := Mem.le_trans hu38 hu9
 have hu9' := Mem.le_trans hu3 hu39
 -- Symlink
 have hL3 : NsL 100001 (symF ns m r who from_ text path).1 := by
  unfold symF
  split
  ·exact hL.up (by decide)
  split
  ·exact hL.up (by decide)
  exact enterF_nsl (n := linkN text) h8 m r who from_ path ⟨zNd_r.rise, zNd_r.len⟩ 4
 have h5 := sym_.cv A c ns m r u9 (hd.mono hu9') h8 (hg.mono hu9') s (hs.mono hu9') who from_ text path (by omega)
 have h6 := fun u hd => r8sym.cv A3 c3 ns m r u hd h8 who from_ text path (by omega)
 generalize symF ns m r who from_ text path = w3 at hL3 h5 h6
 obtain ⟨n3, i3, e3⟩ := w3
 refine hold_call (h5.mono fun v cs u10 hu10 ⟨hc, A10, c10, hv, hd10⟩ => ⟨((A10, n3.length, c10), m, r, e3, ()), (), hv, hc, fun b20 hb20 => ?_⟩)
 refine hold_call ((las.cv u10 who from_).mono fun v cs u11 hu11 ⟨hc, hv⟩ => ⟨(who, from_, ()), (), hv, hc, ?_⟩)
 have hu311 := Mem.le_trans hu39 (Mem.le_trans hu10 hu11)
 refine hold_call ((h6 u11 (hd3.mono hu311)).mono fun v cs u12 hu12 ⟨hc, A12, c12, hv, hd12⟩ => ⟨((A12, n3.length, c12), m, r, e3, ()), (), hv, hc, fun b22 hb22 => ?_⟩)
 have hu312 := Mem.le_trans hu311 hu12
 have hu12' := Mem.le_trans hu3 hu312
 -- all the same
 have q4 : u4.le u12 := Mem.le_trans hu5 (Mem.le_trans hu6 (Mem.le_trans hu7 (Mem.le_trans hu8 (Mem.le_trans hu9 (Mem.le_trans hu10 (Mem.le_trans hu11 hu12))))))
 have q6 : u6.le u12 := Mem.le_trans hu7 (Mem.le_trans hu8 (Mem.le_trans hu9 (Mem.le_trans hu10 (Mem.le_trans hu11 hu12))))
 have q7 : u7.le u12 := Mem.le_trans hu8 (Mem.le_trans hu9 (Mem.le_trans hu10 (Mem.le_trans hu11 hu12)))
 have q9 : u9.le u12 := Mem.le_trans hu10 (Mem.le_trans hu11 hu12)
 have q10 : u10.le u12 := Mem.le_trans hu11 hu12
 have step : ∀ {g : E S.ty .B} {k : Cells S.ty (RT.ks [(false, [.b])]) → CellsL S.ty [] → Tree S.ty} {bk : Nat → Nat} {um : Mem} {X Y : Option Addr} {cx cy kk : Nat} {N : List Nd} {args args2 : List (SV S.ty)} {Ag}, kk ≤ 1000000 → NsL kk N → DiskAt um X N → (∀ u', um.le u' → DiskAt u' Y N) → (g.den = true) →
   denL bk args = [.agg #[.slice X N.length cx, .int .i64 m, .int .i64 r]] → (∀ X' cx' , denL bk (.agg (cellsSV [.s, .i .i64, .i .i64] ((X', N.length, cx'), m, r, ())) :: args2) = [.agg #[.slice X' N.length cx', .int .i64 m, .int .i64 r], .agg #[.slice Y N.length cy, .int .i64 m, .int .i64 r]]) →
   (∀ u', um.le u' → Hold Tryz.prog u (fun v cs _ => cs = [] ∧ v = .bool true) (k (true, ()) ()) bk u' Ag) →
   Hold Tryz.prog u (fun v cs _ => cs = [] ∧ v = .bool true) (.call g false 15 args [] [] [(true, [.s, .i .i64, .i .i64])] [] fun x y => .call g true 17 (.agg (cellsSV [.s, .i .i64, .i .i64] x) :: args2) [] [] [(false, [.b])] [] k) bk um Ag := by
  intro g k bk um X Y cx cy kk N args args2 Ag hk hN hX hY hgt hA hA2 hK
  refine ⟨fun _ => ?_, fun h => by rw [hgt] at h; cases h⟩
  show CC _ _ (denL bk args) false [] u um _
  refine cc_args hA <| CV.mono (its_same hk X cx N m r um hX hN) fun v cs u1 hu1 ⟨hc, A1, c1, hv, hd1⟩ => ⟨((A1, N.length, c1), m, r, ()), (), hv, hc, ?_⟩
  refine ⟨fun _ => ?_, fun h => by rw [hgt] at h; cases h⟩
  show CC _ _ (denL bk (_ :: args2)) true [] u u1 _
  exact cc_args (hA2 A1 c1) <| CV.mono (same_self hk A1 Y c1 cy N m r u1 hd1 (hY u1 hu1) hN) fun v cs u2 hu2 ⟨hc, hv⟩ => ⟨(true, ()), (), hv, hc, hK u2 (Mem.le_trans hu1 hu2)⟩
 have ee : ∀ e : Int, cmpI .eql e e = true := fun e => cT_self
 refine step (kk := 100001) (Y := A6) (cy := c6) (by decide) hL1 (hd4.mono q4) (fun u' h => hd6.mono (Mem.le_trans q6 h)) rfl rfl (fun _ _ => rfl) fun u16 hu16 => ?_
 refine step (kk := 100001) (Y := A9) (cy := c9) (by decide) hL2 (hd7.mono (Mem.le_trans q7 hu16)) (fun u' h => hd9.mono (Mem.le_trans q9 (Mem.le_trans hu16 h))) (by simp only [E.den, ee, cond_true]) rfl (fun _ _ => rfl) fun u17 hu17 => ?_
 have hu167 := Mem.le_trans hu16 hu17
 refine step (kk := 100001) (Y := A12) (cy := c12) (by decide) hL3 (hd10.mono (Mem.le_trans q10 hu167)) (fun u' h => hd12.mono (Mem.le_trans hu167 h)) (by simp only [E.den, ee, cond_true]) rfl (fun _ _ => rfl) fun u18 hu18 => ?_
 have hu168 := Mem.le_trans hu167 hu18
 refine step (kk := 100000) (Y := A3) (cy := c3) (by decide) hL (hd.mono (Mem.le_trans hu3 (Mem.le_trans hu312 hu168))) (fun u' h => hd3.mono (Mem.le_trans hu312 (Mem.le_trans hu168 h))) (by simp only [E.den, ee, cond_true]) rfl (fun _ _ => rfl) fun u20 hu20 => ?_
 exact ⟨rfl, by simp only [SV.den, E.den, ee, cond_true]⟩
end Go.Proofs.YtpfbimkpcnnfkaaGreatDoor.Sx
