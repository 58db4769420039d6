/- By Sx: ChangeDrops. -/
import Derived.Test.YtpfbimkpcnnfkaaGreatDoorSxTh
import Derived.Test.YtpfbimkpcnnfkaaGreatDoorSyW
import Derived.Test.YtpfbimkpcnnfkaaGreatDoorSyY
/- Trees, printed by program. -/
set_option maxRecDepth 100000
set_option linter.unusedVariables false
namespace Go.Proofs.YtpfbimkpcnnfkaaGreatDoor.Sx
open Go Go.RowKit Go.Proofs.YtpfbimkpcnnfkaaGreatDoor
def lDrops.args (a0 : Cells S.ty [.s, .i .i64, .i .i64]) (a1 : Cells S.ty [.i .i64, .i .i64]) (a2 : Cells S.ty [.t]) (a3 : Cells S.ty [.t]) (a4 : Cells S.ty [.i .i64]) : List (SV S.ty) := [.agg (cellsSV [.s, .i .i64, .i .i64] a0), .agg (cellsSV [.i .i64, .i .i64] a1), .t (.at a2.1), .t (.at a3.1), .i .i64 (.at a4.1)]
def lDrops.giv (a0 : Cells S.ty [.s, .i .i64, .i .i64]) (a1 : Cells S.ty [.i .i64, .i .i64]) (a2 : Cells S.ty [.t]) (a3 : Cells S.ty [.t]) (a4 : Cells S.ty [.i .i64]) : List (Nat × Own S.ty) := []
def lDrops.T (a0 : Cells S.ty [.s, .i .i64, .i .i64]) (a1 : Cells S.ty [.i .i64, .i .i64]) (a2 : Cells S.ty [.t]) (a3 : Cells S.ty [.t]) (a4 : Cells S.ty [.i .i64]) : Tree S.ty :=
 .new 5 <|
 .new 6 <|
 .call (.b true) true 10 [.agg (cellsSV [.s, .i .i64, .i .i64] a0)] [] [] [(false, [.b])] [] fun x0 y0 =>
 .test (.not (.not (.at x0.1)))
 (.new 34 <|
 .test (.not (.not (.at x0.1)))
 (.call (.b true) true 11 [.os 34 0 2 2] [] [(34, [.t (.at a3.1), .t (.at a2.1)])] [(false, [.b])] [] fun x1 y1 =>
 .call (.not (.ite (.not (.at x0.1)) (.b true) (.not (.at x1.1)))) true 12 [] [] [] [(false, [.b])] [] fun x2 y2 =>
 .test (.ite (.ite (.not (.at x0.1)) (.b true) (.not (.at x1.1))) (.b true) (.not (.at x2.1)))
 (.call (.b true) true 12 [] [] [] [(false, [.b])] [] fun x3 y3 =>
 .ret (.b (.at x3.1)) [] [])
 (.call (.b true) true 15 [.agg (cellsSV [.s, .i .i64, .i .i64] a0)] [] [] [(true, [.s, .i .i64, .i .i64])] [] fun x3 y3 =>
 .new 11 <|
 .call (.b true) true 33 [.agg (cellsSV [.s, .i .i64, .i .i64] a0), .agg (cellsSV [.i .i64, .i .i64] a1), .t (.at a2.1), .t (.at a3.1)] [] [] [(true, [.s, .i .i64, .i .i64]), (false, [.i .i64])] [] fun x4 y4 =>
 .new 12 <|
 .call (.b true) false 16 [.agg (cellsSV [.i .i64, .i .i64] a1)] [] [] [(true, [.i .i64, .i .i64])] [] fun x5 y5 =>
 .call (.b true) true 34 [.agg (cellsSV [.s, .i .i64, .i .i64] x3), .agg (cellsSV [.i .i64, .i .i64] x5), .t (.at a2.1), .t (.at a3.1)] [] [] [(true, [.s, .i .i64, .i .i64]), (false, [.i .i64])] [] fun x6 y6 =>
 .new 14 <|
 .call (.b true) true 20 [.agg (cellsSV [.s, .i .i64, .i .i64] a0), .agg (cellsSV [.i .i64, .i .i64] a1), .t (.at a3.1)] [] [] [(true, [.s, .i .i64, .i .i64]), (false, [.i .i64])] [] fun x7 y7 =>
 .new 16 <|
 .call (.b true) false 16 [.agg (cellsSV [.i .i64, .i .i64] a1)] [] [] [(true, [.i .i64, .i .i64])] [] fun x8 y8 =>
 .call (.b true) true 35 [.agg (cellsSV [.s, .i .i64, .i .i64] x3), .agg (cellsSV [.i .i64, .i .i64] x8), .t (.at a3.1)] [] [] [(true, [.s, .i .i64, .i .i64]), (false, [.i .i64])] [] fun x9 y9 =>
 .new 18 <|
 .call (.b true) true 22 [.agg (cellsSV [.s, .i .i64, .i .i64] a0), .agg (cellsSV [.i .i64, .i .i64] a1), .t (.at a3.1)] [] [] [(true, [.s, .i .i64, .i .i64]), (false, [.i .i64])] [] fun x10 y10 =>
 .new 20 <|
 .call (.b true) false 16 [.agg (cellsSV [.i .i64, .i .i64] a1)] [] [] [(true, [.i .i64, .i .i64])] [] fun x11 y11 =>
 .call (.b true) true 36 [.agg (cellsSV [.s, .i .i64, .i .i64] x3), .agg (cellsSV [.i .i64, .i .i64] x11), .t (.at a3.1)] [] [] [(true, [.s, .i .i64, .i .i64]), (false, [.i .i64])] [] fun x12 y12 =>
 .new 22 <|
 .call (.b true) true 37 [.agg (cellsSV [.s, .i .i64, .i .i64] a0), .agg (cellsSV [.i .i64, .i .i64] a1), .t (.at a3.1), .i .i64 (.at a4.1)] [] [] [(true, [.s, .i .i64, .i .i64]), (false, [.i .i64])] [] fun x13 y13 =>
 .new 24 <|
 .call (.b true) false 16 [.agg (cellsSV [.i .i64, .i .i64] a1)] [] [] [(true, [.i .i64, .i .i64])] [] fun x14 y14 =>
 .call (.b true) true 38 [.agg (cellsSV [.s, .i .i64, .i .i64] x3), .agg (cellsSV [.i .i64, .i .i64] x14), .t (.at a3.1), .i .i64 (.at a4.1)] [] [] [(true, [.s, .i .i64, .i .i64]), (false, [.i .i64])] [] fun x15 y15 =>
 .new 26 <|
 .call (.b true) false 15 [.agg ((cellsSV K5 x4).take 3)] [] [] [(true, [.s, .i .i64, .i .i64])] [] fun x16 y16 =>
 .call (.b true) true 17 [.agg (cellsSV [.s, .i .i64, .i .i64] x16), .agg ((cellsSV K5 x6).take 3)] [] [] [(false, [.b])] [] fun x17 y17 =>
 .call (.ite (.at x17.1) (.cmp .eql (.at x4.2.2.2.1) (.at x6.2.2.2.1)) (.b false)) false 15 [.agg ((cellsSV K5 x7).take 3)] [] [] [(true, [.s, .i .i64, .i .i64])] [] fun x18 y18 =>
 .call (.ite (.at x17.1) (.cmp .eql (.at x4.2.2.2.1) (.at x6.2.2.2.1)) (.b false)) true 17 [.agg (cellsSV [.s, .i .i64, .i .i64] x18), .agg ((cellsSV K5 x9).take 3)] [] [] [(false, [.b])] [] fun x19 y19 =>
 .call (.ite (.ite (.ite (.at x17.1) (.cmp .eql (.at x4.2.2.2.1) (.at x6.2.2.2.1)) (.b false)) (.at x19.1) (.b false)) (.cmp .eql (.at x7.2.2.2.1) (.at x9.2.2.2.1)) (.b false)) false 15 [.agg ((cellsSV K5 x10).take 3)] [] [] [(true, [.s, .i .i64, .i .i64])] [] fun x20 y20 =>
 .call (.ite (.ite (.ite (.at x17.1) (.cmp .eql (.at x4.2.2.2.1) (.at x6.2.2.2.1)) (.b false)) (.at x19.1) (.b false)) (.cmp .eql (.at x7.2.2.2.1) (.at x9.2.2.2.1)) (.b false)) true 17 [.agg (cellsSV [.s, .i .i64, .i .i64] x20), .agg ((cellsSV K5 x12).take 3)] [] [] [(false, [.b])] [] fun x21 y21 =>
 .call (.ite (.ite (.ite (.ite (.ite (.at x17.1) (.cmp .eql (.at x4.2.2.2.1) (.at x6.2.2.2.1)) (.b false)) (.at x19.1) (.b false)) (.cmp .eql (.at x7.2.2.2.1) (.at x9.2.2.2.1)) (.b false)) (.at x21.1) (.b false)) (.cmp .eql (.at x10.2.2.2.1) (.at x12.2.2.2.1)) (.b false)) false 15 [.agg ((cellsSV K5 x13).take 3)] [] [] [(true, [.s, .i .i64, .i .i64])] [] fun x22 y22 =>
 .call (.ite (.ite (.ite (.ite (.ite (.at x17.1) (.cmp .eql (.at x4.2.2.2.1) (.at x6.2.2.2.1)) (.b false)) (.at x19.1) (.b false)) (.cmp .eql (.at x7.2.2.2.1) (.at x9.2.2.2.1)) (.b false)) (.at x21.1) (.b false)) (.cmp .eql (.at x10.2.2.2.1) (.at x12.2.2.2.1)) (.b false)) true 17 [.agg (cellsSV [.s, .i .i64, .i .i64] x22), .agg ((cellsSV K5 x15).take 3)] [] [] [(false, [.b])] [] fun x23 y23 =>
 .call (.ite (.ite (.ite (.ite (.ite (.ite (.ite (.at x17.1) (.cmp .eql (.at x4.2.2.2.1) (.at x6.2.2.2.1)) (.b false)) (.at x19.1) (.b false)) (.cmp .eql (.at x7.2.2.2.1) (.at x9.2.2.2.1)) (.b false)) (.at x21.1) (.b false)) (.cmp .eql (.at x10.2.2.2.1) (.at x12.2.2.2.1)) (.b false)) (.at x23.1) (.b false)) (.cmp .eql (.at x13.2.2.2.1) (.at x15.2.2.2.1)) (.b false)) false 15 [.agg (cellsSV [.s, .i .i64, .i .i64] a0)] [] [] [(true, [.s, .i .i64, .i .i64])] [] fun x24 y24 =>
 .call (.ite (.ite (.ite (.ite (.ite (.ite (.ite (.at x17.1) (.cmp .eql (.at x4.2.2.2.1) (.at x6.2.2.2.1)) (.b false)) (.at x19.1) (.b false)) (.cmp .eql (.at x7.2.2.2.1) (.at x9.2.2.2.1)) (.b false)) (.at x21.1) (.b false)) (.cmp .eql (.at x10.2.2.2.1) (.at x12.2.2.2.1)) (.b false)) (.at x23.1) (.b false)) (.cmp .eql (.at x13.2.2.2.1) (.at x15.2.2.2.1)) (.b false)) true 17 [.agg (cellsSV [.s, .i .i64, .i .i64] x24), .agg (cellsSV [.s, .i .i64, .i .i64] x3)] [] [] [(false, [.b])] [] fun x25 y25 =>
 .ret (.b (.ite (.ite (.ite (.ite (.ite (.ite (.ite (.ite (.at x17.1) (.cmp .eql (.at x4.2.2.2.1) (.at x6.2.2.2.1)) (.b false)) (.at x19.1) (.b false)) (.cmp .eql (.at x7.2.2.2.1) (.at x9.2.2.2.1)) (.b false)) (.at x21.1) (.b false)) (.cmp .eql (.at x10.2.2.2.1) (.at x12.2.2.2.1)) (.b false)) (.at x23.1) (.b false)) (.cmp .eql (.at x13.2.2.2.1) (.at x15.2.2.2.1)) (.b false)) (.at x25.1) (.b false))) [] []))
 (.call (.not (.ite (.not (.at x0.1)) (.b true) (.not (.b false)))) true 12 [] [] [] [(false, [.b])] [] fun x1 y1 =>
 .test (.ite (.ite (.not (.at x0.1)) (.b true) (.not (.b false))) (.b true) (.not (.at x1.1)))
 (.call (.b true) true 12 [] [] [] [(false, [.b])] [] fun x2 y2 =>
 .ret (.b (.at x2.1)) [] [])
 (.call (.b true) true 15 [.agg (cellsSV [.s, .i .i64, .i .i64] a0)] [] [] [(true, [.s, .i .i64, .i .i64])] [] fun x2 y2 =>
 .new 11 <|
 .call (.b true) true 33 [.agg (cellsSV [.s, .i .i64, .i .i64] a0), .agg (cellsSV [.i .i64, .i .i64] a1), .t (.at a2.1), .t (.at a3.1)] [] [] [(true, [.s, .i .i64, .i .i64]), (false, [.i .i64])] [] fun x3 y3 =>
 .new 12 <|
 .call (.b true) false 16 [.agg (cellsSV [.i .i64, .i .i64] a1)] [] [] [(true, [.i .i64, .i .i64])] [] fun x4 y4 =>
 .call (.b true) true 34 [.agg (cellsSV [.s, .i .i64, .i .i64] x2), .agg (cellsSV [.i .i64, .i .i64] x4), .t (.at a2.1), .t (.at a3.1)] [] [] [(true, [.s, .i .i64, .i .i64]), (false, [.i .i64])] [] fun x5 y5 =>
 .new 14 <|
 .call (.b true) true 20 [.agg (cellsSV [.s, .i .i64, .i .i64] a0), .agg (cellsSV [.i .i64, .i .i64] a1), .t (.at a3.1)] [] [] [(true, [.s, .i .i64, .i .i64]), (false, [.i .i64])] [] fun x6 y6 =>
 .new 16 <|
 .call (.b true) false 16 [.agg (cellsSV [.i .i64, .i .i64] a1)] [] [] [(true, [.i .i64, .i .i64])] [] fun x7 y7 =>
 .call (.b true) true 35 [.agg (cellsSV [.s, .i .i64, .i .i64] x2), .agg (cellsSV [.i .i64, .i .i64] x7), .t (.at a3.1)] [] [] [(true, [.s, .i .i64, .i .i64]), (false, [.i .i64])] [] fun x8 y8 =>
 .new 18 <|
 .call (.b true) true 22 [.agg (cellsSV [.s, .i .i64, .i .i64] a0), .agg (cellsSV [.i .i64, .i .i64] a1), .t (.at a3.1)] [] [] [(true, [.s, .i .i64, .i .i64]), (false, [.i .i64])] [] fun x9 y9 =>
 .new 20 <|
 .call (.b true) false 16 [.agg (cellsSV [.i .i64, .i .i64] a1)] [] [] [(true, [.i .i64, .i .i64])] [] fun x10 y10 =>
 .call (.b true) true 36 [.agg (cellsSV [.s, .i .i64, .i .i64] x2), .agg (cellsSV [.i .i64, .i .i64] x10), .t (.at a3.1)] [] [] [(true, [.s, .i .i64, .i .i64]), (false, [.i .i64])] [] fun x11 y11 =>
 .new 22 <|
 .call (.b true) true 37 [.agg (cellsSV [.s, .i .i64, .i .i64] a0), .agg (cellsSV [.i .i64, .i .i64] a1), .t (.at a3.1), .i .i64 (.at a4.1)] [] [] [(true, [.s, .i .i64, .i .i64]), (false, [.i .i64])] [] fun x12 y12 =>
 .new 24 <|
 .call (.b true) false 16 [.agg (cellsSV [.i .i64, .i .i64] a1)] [] [] [(true, [.i .i64, .i .i64])] [] fun x13 y13 =>
 .call (.b true) true 38 [.agg (cellsSV [.s, .i .i64, .i .i64] x2), .agg (cellsSV [.i .i64, .i .i64] x13), .t (.at a3.1), .i .i64 (.at a4.1)] [] [] [(true, [.s, .i .i64, .i .i64]), (false, [.i .i64])] [] fun x14 y14 =>
 .new 26 <|
 .call (.b true) false 15 [.agg ((cellsSV K5 x3).take 3)] [] [] [(true, [.s, .i .i64, .i .i64])] [] fun x15 y15 =>
 .call (.b true) true 17 [.agg (cellsSV [.s, .i .i64, .i .i64] x15), .agg ((cellsSV K5 x5).take 3)] [] [] [(false, [.b])] [] fun x16 y16 =>
 .call (.ite (.at x16.1) (.cmp .eql (.at x3.2.2.2.1) (.at x5.2.2.2.1)) (.b false)) false 15 [.agg ((cellsSV K5 x6).take 3)] [] [] [(true, [.s, .i .i64, .i .i64])] [] fun x17 y17 =>
 .call (.ite (.at x16.1) (.cmp .eql (.at x3.2.2.2.1) (.at x5.2.2.2.1)) (.b false)) true 17 [.agg (cellsSV [.s, .i .i64, .i .i64] x17), .agg ((cellsSV K5 x8).take 3)] [] [] [(false, [.b])] [] fun x18 y18 =>
 .call (.ite (.ite (.ite (.at x16.1) (.cmp .eql (.at x3.2.2.2.1) (.at x5.2.2.2.1)) (.b false)) (.at x18.1) (.b false)) (.cmp .eql (.at x6.2.2.2.1) (.at x8.2.2.2.1)) (.b false)) false 15 [.agg ((cellsSV K5 x9).take 3)] [] [] [(true, [.s, .i .i64, .i .i64])] [] fun x19 y19 =>
 .call (.ite (.ite (.ite (.at x16.1) (.cmp .eql (.at x3.2.2.2.1) (.at x5.2.2.2.1)) (.b false)) (.at x18.1) (.b false)) (.cmp .eql (.at x6.2.2.2.1) (.at x8.2.2.2.1)) (.b false)) true 17 [.agg (cellsSV [.s, .i .i64, .i .i64] x19), .agg ((cellsSV K5 x11).take 3)] [] [] [(false, [.b])] [] fun x20 y20 =>
 .call (.ite (.ite (.ite (.ite (.ite (.at x16.1) (.cmp .eql (.at x3.2.2.2.1) (.at x5.2.2.2.1)) (.b false)) (.at x18.1) (.b false)) (.cmp .eql (.at x6.2.2.2.1) (.at x8.2.2.2.1)) (.b false)) (.at x20.1) (.b false)) (.cmp .eql (.at x9.2.2.2.1) (.at x11.2.2.2.1)) (.b false)) false 15 [.agg ((cellsSV K5 x12).take 3)] [] [] [(true, [.s, .i .i64, .i .i64])] [] fun x21 y21 =>
 .call (.ite (.ite (.ite (.ite (.ite (.at x16.1) (.cmp .eql (.at x3.2.2.2.1) (.at x5.2.2.2.1)) (.b false)) (.at x18.1) (.b false)) (.cmp .eql (.at x6.2.2.2.1) (.at x8.2.2.2.1)) (.b false)) (.at x20.1) (.b false)) (.cmp .eql (.at x9.2.2.2.1) (.at x11.2.2.2.1)) (.b false)) true 17 [.agg (cellsSV [.s, .i .i64, .i .i64] x21), .agg ((cellsSV K5 x14).take 3)] [] [] [(false, [.b])] [] fun x22 y22 =>
 .call (.ite (.ite (.ite (.ite (.ite (.ite (.ite (.at x16.1) (.cmp .eql (.at x3.2.2.2.1) (.at x5.2.2.2.1)) (.b false)) (.at x18.1) (.b false)) (.cmp .eql (.at x6.2.2.2.1) (.at x8.2.2.2.1)) (.b false)) (.at x20.1) (.b false)) (.cmp .eql (.at x9.2.2.2.1) (.at x11.2.2.2.1)) (.b false)) (.at x22.1) (.b false)) (.cmp .eql (.at x12.2.2.2.1) (.at x14.2.2.2.1)) (.b false)) false 15 [.agg (cellsSV [.s, .i .i64, .i .i64] a0)] [] [] [(true, [.s, .i .i64, .i .i64])] [] fun x23 y23 =>
 .call (.ite (.ite (.ite (.ite (.ite (.ite (.ite (.at x16.1) (.cmp .eql (.at x3.2.2.2.1) (.at x5.2.2.2.1)) (.b false)) (.at x18.1) (.b false)) (.cmp .eql (.at x6.2.2.2.1) (.at x8.2.2.2.1)) (.b false)) (.at x20.1) (.b false)) (.cmp .eql (.at x9.2.2.2.1) (.at x11.2.2.2.1)) (.b false)) (.at x22.1) (.b false)) (.cmp .eql (.at x12.2.2.2.1) (.at x14.2.2.2.1)) (.b false)) true 17 [.agg (cellsSV [.s, .i .i64, .i .i64] x23), .agg (cellsSV [.s, .i .i64, .i .i64] x2)] [] [] [(false, [.b])] [] fun x24 y24 =>
 .ret (.b (.ite (.ite (.ite (.ite (.ite (.ite (.ite (.ite (.at x16.1) (.cmp .eql (.at x3.2.2.2.1) (.at x5.2.2.2.1)) (.b false)) (.at x18.1) (.b false)) (.cmp .eql (.at x6.2.2.2.1) (.at x8.2.2.2.1)) (.b false)) (.at x20.1) (.b false)) (.cmp .eql (.at x9.2.2.2.1) (.at x11.2.2.2.1)) (.b false)) (.at x22.1) (.b false)) (.cmp .eql (.at x12.2.2.2.1) (.at x14.2.2.2.1)) (.b false)) (.at x24.1) (.b false))) [] [])))
 (.call (.not (.not (.at x0.1))) true 11 [.s .anil (.n 0) (.n 0)] [] [] [(false, [.b])] [] fun x1 y1 =>
 .call (.not (.ite (.not (.at x0.1)) (.b true) (.not (.at x1.1)))) true 12 [] [] [] [(false, [.b])] [] fun x2 y2 =>
 .test (.ite (.ite (.not (.at x0.1)) (.b true) (.not (.at x1.1))) (.b true) (.not (.at x2.1)))
 (.call (.b true) true 12 [] [] [] [(false, [.b])] [] fun x3 y3 =>
 .ret (.b (.at x3.1)) [] [])
 (.call (.b true) true 15 [.agg (cellsSV [.s, .i .i64, .i .i64] a0)] [] [] [(true, [.s, .i .i64, .i .i64])] [] fun x3 y3 =>
 .new 11 <|
 .call (.b true) true 33 [.agg (cellsSV [.s, .i .i64, .i .i64] a0), .agg (cellsSV [.i .i64, .i .i64] a1), .t (.at a2.1), .t (.at a3.1)] [] [] [(true, [.s, .i .i64, .i .i64]), (false, [.i .i64])] [] fun x4 y4 =>
 .new 12 <|
 .call (.b true) false 16 [.agg (cellsSV [.i .i64, .i .i64] a1)] [] [] [(true, [.i .i64, .i .i64])] [] fun x5 y5 =>
 .call (.b true) true 34 [.agg (cellsSV [.s, .i .i64, .i .i64] x3), .agg (cellsSV [.i .i64, .i .i64] x5), .t (.at a2.1), .t (.at a3.1)] [] [] [(true, [.s, .i .i64, .i .i64]), (false, [.i .i64])] [] fun x6 y6 =>
 .new 14 <|
 .call (.b true) true 20 [.agg (cellsSV [.s, .i .i64, .i .i64] a0), .agg (cellsSV [.i .i64, .i .i64] a1), .t (.at a3.1)] [] [] [(true, [.s, .i .i64, .i .i64]), (false, [.i .i64])] [] fun x7 y7 =>
 .new 16 <|
 .call (.b true) false 16 [.agg (cellsSV [.i .i64, .i .i64] a1)] [] [] [(true, [.i .i64, .i .i64])] [] fun x8 y8 =>
 .call (.b true) true 35 [.agg (cellsSV [.s, .i .i64, .i .i64] x3), .agg (cellsSV [.i .i64, .i .i64] x8), .t (.at a3.1)] [] [] [(true, [.s, .i .i64, .i .i64]), (false, [.i .i64])] [] fun x9 y9 =>
 .new 18 <|
 .call (.b true) true 22 [.agg (cellsSV [.s, .i .i64, .i .i64] a0), .agg (cellsSV [.i .i64, .i .i64] a1), .t (.at a3.1)] [] [] [(true, [.s, .i .i64, .i .i64]), (false, [.i .i64])] [] fun x10 y10 =>
 .new 20 <|
 .call (.b true) false 16 [.agg (cellsSV [.i .i64, .i .i64] a1)] [] [] [(true, [.i .i64, .i .i64])] [] fun x11 y11 =>
 .call (.b true) true 36 [.agg (cellsSV [.s, .i .i64, .i .i64] x3), .agg (cellsSV [.i .i64, .i .i64] x11), .t (.at a3.1)] [] [] [(true, [.s, .i .i64, .i .i64]), (false, [.i .i64])] [] fun x12 y12 =>
 .new 22 <|
 .call (.b true) true 37 [.agg (cellsSV [.s, .i .i64, .i .i64] a0), .agg (cellsSV [.i .i64, .i .i64] a1), .t (.at a3.1), .i .i64 (.at a4.1)] [] [] [(true, [.s, .i .i64, .i .i64]), (false, [.i .i64])] [] fun x13 y13 =>
 .new 24 <|
 .call (.b true) false 16 [.agg (cellsSV [.i .i64, .i .i64] a1)] [] [] [(true, [.i .i64, .i .i64])] [] fun x14 y14 =>
 .call (.b true) true 38 [.agg (cellsSV [.s, .i .i64, .i .i64] x3), .agg (cellsSV [.i .i64, .i .i64] x14), .t (.at a3.1), .i .i64 (.at a4.1)] [] [] [(true, [.s, .i .i64, .i .i64]), (false, [.i .i64])] [] fun x15 y15 =>
 .new 26 <|
 .call (.b true) false 15 [.agg ((cellsSV K5 x4).take 3)] [] [] [(true, [.s, .i .i64, .i .i64])] [] fun x16 y16 =>
 .call (.b true) true 17 [.agg (cellsSV [.s, .i .i64, .i .i64] x16), .agg ((cellsSV K5 x6).take 3)] [] [] [(false, [.b])] [] fun x17 y17 =>
 .call (.ite (.at x17.1) (.cmp .eql (.at x4.2.2.2.1) (.at x6.2.2.2.1)) (.b false)) false 15 [.agg ((cellsSV K5 x7).take 3)] [] [] [(true, [.s, .i .i64, .i .i64])] [] fun x18 y18 =>
 .call (.ite (.at x17.1) (.cmp .eql (.at x4.2.2.2.1) (.at x6.2.2.2.1)) (.b false)) true 17 [.agg (cellsSV [.s, .i .i64, .i .i64] x18), .agg ((cellsSV K5 x9).take 3)] [] [] [(false, [.b])] [] fun x19 y19 =>
 .call (.ite (.ite (.ite (.at x17.1) (.cmp .eql (.at x4.2.2.2.1) (.at x6.2.2.2.1)) (.b false)) (.at x19.1) (.b false)) (.cmp .eql (.at x7.2.2.2.1) (.at x9.2.2.2.1)) (.b false)) false 15 [.agg ((cellsSV K5 x10).take 3)] [] [] [(true, [.s, .i .i64, .i .i64])] [] fun x20 y20 =>
 .call (.ite (.ite (.ite (.at x17.1) (.cmp .eql (.at x4.2.2.2.1) (.at x6.2.2.2.1)) (.b false)) (.at x19.1) (.b false)) (.cmp .eql (.at x7.2.2.2.1) (.at x9.2.2.2.1)) (.b false)) true 17 [.agg (cellsSV [.s, .i .i64, .i .i64] x20), .agg ((cellsSV K5 x12).take 3)] [] [] [(false, [.b])] [] fun x21 y21 =>
 .call (.ite (.ite (.ite (.ite (.ite (.at x17.1) (.cmp .eql (.at x4.2.2.2.1) (.at x6.2.2.2.1)) (.b false)) (.at x19.1) (.b false)) (.cmp .eql (.at x7.2.2.2.1) (.at x9.2.2.2.1)) (.b false)) (.at x21.1) (.b false)) (.cmp .eql (.at x10.2.2.2.1) (.at x12.2.2.2.1)) (.b false)) false 15 [.agg ((cellsSV K5 x13).take 3)] [] [] [(true, [.s, .i .i64, .i .i64])] [] fun x22 y22 =>
 .call (.ite (.ite (.ite (.ite (.ite (.at x17.1) (.cmp .eql (.at x4.2.2.2.1) (.at x6.2.2.2.1)) (.b false)) (.at x19.1) (.b false)) (.cmp .eql (.at x7.2.2.2.1) (.at x9.2.2.2.1)) (.b false)) (.at x21.1) (.b false)) (.cmp .eql (.at x10.2.2.2.1) (.at x12.2.2.2.1)) (.b false)) true 17 [.agg (cellsSV [.s, .i .i64, .i .i64] x22), .agg ((cellsSV K5 x15).take 3)] [] [] [(false, [.b])] [] fun x23 y23 =>
 .call (.ite (.ite (.ite (.ite (.ite (.ite (.ite (.at x17.1) (.cmp .eql (.at x4.2.2.2.1) (.at x6.2.2.2.1)) (.b false)) (.at x19.1) (.b false)) (.cmp .eql (.at x7.2.2.2.1) (.at x9.2.2.2.1)) (.b false)) (.at x21.1) (.b false)) (.cmp .eql (.at x10.2.2.2.1) (.at x12.2.2.2.1)) (.b false)) (.at x23.1) (.b false)) (.cmp .eql (.at x13.2.2.2.1) (.at x15.2.2.2.1)) (.b false)) false 15 [.agg (cellsSV [.s, .i .i64, .i .i64] a0)] [] [] [(true, [.s, .i .i64, .i .i64])] [] fun x24 y24 =>
 .call (.ite (.ite (.ite (.ite (.ite (.ite (.ite (.at x17.1) (.cmp .eql (.at x4.2.2.2.1) (.at x6.2.2.2.1)) (.b false)) (.at x19.1) (.b false)) (.cmp .eql (.at x7.2.2.2.1) (.at x9.2.2.2.1)) (.b false)) (.at x21.1) (.b false)) (.cmp .eql (.at x10.2.2.2.1) (.at x12.2.2.2.1)) (.b false)) (.at x23.1) (.b false)) (.cmp .eql (.at x13.2.2.2.1) (.at x15.2.2.2.1)) (.b false)) true 17 [.agg (cellsSV [.s, .i .i64, .i .i64] x24), .agg (cellsSV [.s, .i .i64, .i .i64] x3)] [] [] [(false, [.b])] [] fun x25 y25 =>
 .ret (.b (.ite (.ite (.ite (.ite (.ite (.ite (.ite (.ite (.at x17.1) (.cmp .eql (.at x4.2.2.2.1) (.at x6.2.2.2.1)) (.b false)) (.at x19.1) (.b false)) (.cmp .eql (.at x7.2.2.2.1) (.at x9.2.2.2.1)) (.b false)) (.at x21.1) (.b false)) (.cmp .eql (.at x10.2.2.2.1) (.at x12.2.2.2.1)) (.b false)) (.at x23.1) (.b false)) (.cmp .eql (.at x13.2.2.2.1) (.at x15.2.2.2.1)) (.b false)) (.at x25.1) (.b false))) [] []))
theorem lDrops.run (a0 : Cells S.ty [.s, .i .i64, .i .i64]) (a1 : Cells S.ty [.i .i64, .i .i64]) (a2 : Cells S.ty [.t]) (a3 : Cells S.ty [.t]) (a4 : Cells S.ty [.i .i64]) : runFn Tryz.prog Tryz.f8 (bodyOf Tryz.f8) [] (lDrops.args a0 a1 a2 a3 a4) (lDrops.giv a0 a1 a2 a3 a4) = lDrops.T a0 a1 a2 a3 a4 := by kernel_rfl
end Go.Proofs.YtpfbimkpcnnfkaaGreatDoor.Sx
set_option maxRecDepth 100000
set_option linter.unusedVariables false
set_option linter.unusedSimpArgs false
namespace Go.Proofs.YtpfbimkpcnnfkaaGreatDoor.Sx
open Go Go.RowKit Go.Proofs.YtpfbimkpcnnfkaaGreatDoor Go.Proofs.YtpfbimkpcnnfkaaGreatDoor.Ext
theorem cc_args {P : Program} {f : FuncId} {a b : List Value} {q : Bool} {O : List (Nat × List Value)} {u0 u : Mem} {R : Value → List (List Value) → Mem → Prop} (h : a = b) (hc : CC P f b q O u0 u R) : CC P f a q O u0 u R := h ▸ hc
theorem ChangeDrops.cv (A : Option Addr) (c : Nat) (ns : List Nd) (m r who from_ : Int) (old path : ByteArray) (mode : Int) (u : Mem) (hd : DiskAt u A ns) (hnm : ∀ n ∈ ns, ∀ e ∈ n.f7, e.f0.size ≤ 1000000000000000) (hg : EgM u) (s : Addr) (hs : EsM s u) :
  CV Tryz.prog 8 [.agg #[.slice A ns.length c, .int .i64 m, .int .i64 r], .agg #[.int .i64 who, .int .i64 from_], .string old, .string path, .int .i64 mode] [] u fun v cs _ => cs = [] ∧ v = .bool true := by
 refine cv_of names draws (fn := Tryz.f8) (b := bodyOf Tryz.f8) rfl rfl [] (lDrops.args ((A, ns.length, c), m, r, ()) (who, from_, ()) (old, ()) (path, ()) (mode, ())) (lDrops.giv _ _ _ _ _) (fun _ => 0) (lDrops.run _ _ _ _ _) (by kernel_rfl) rfl rfl ?_
 unfold lDrops.T
 intro b5 hb5 b6 hb6
 refine hold_call ((lright.cv A c ns m r u hd hnm).mono fun v cs u1 hu1 ⟨hc, hv⟩ => ⟨(okF ns m r, ()), (), hv, hc, ?_⟩)
 refine hold_open (l := [path, old]) (s := s) (hg.mono hu1) (hs.mono hu1) rfl (by decide) (fun _ => rfl) fun hok hsh b21 x2 u2 hu12 => ?_
 obtain ⟨hp, ho⟩ := short_two hsh
 have hu2 := Mem.le_trans hu1 hu12
 have h8 := ok8_of hok
 have hL := h8.nsl
 have hRt : Rt ns := rt_of (by unfold okF at hok; rw [Bool.and_eq_true, Bool.and_eq_true] at hok; exact hok.2.2)
 refine hold_call ((its_same (by decide) A c ns m r u2 (hd.mono hu2) hL).mono fun v cs u3 hu3 ⟨hc, A3, c3, hv, hd3⟩ => ⟨((A3, ns.length, c3), m, r, ()), (), hv, hc, fun b11 hb11 => ?_⟩)
 have hu3 := Mem.le_trans hu2 hu3
 -- Link
 have hL1 := hL.link who from_ old path
 have h1 := link_.cv A c ns m r u3 (hd.mono hu3) h8 (hg.mono hu3) s (hs.mono hu3) who from_ old path (by omega) (by omega)
 have hE := link_eq hRt who from_ old path
 generalize linkF ns who from_ old path = w1 at hL1 h1 hE
 obtain ⟨n1, e1⟩ := w1
 refine hold_call (h1.mono fun v cs u4 hu4 ⟨hc, A4, c4, hv, hd4⟩ => ⟨((A4, n1.length, c4), m, r, e1, ()), (), hv, hc, fun b12 hb12 => ?_⟩)
 refine hold_call ((las.cv u4 who from_).mono fun v cs u5 hu5 ⟨hc, hv⟩ => ⟨(who, from_, ()), (), hv, hc, ?_⟩)
 have hu35 := Mem.le_trans hu4 hu5
 have h2 := r8link.cv A3 c3 ns m r u5 (hd3.mono hu35) h8 who from_ old path (by omega) (by omega)
 rw [hE] at h2
 refine hold_call (h2.mono fun v cs u6 hu6 ⟨hc, A6, c6, hv, hd6⟩ => ⟨((A6, n1.length, c6), m, r, e1, ()), (), hv, hc, fun b14 hb14 => ?_⟩)
 have hu36 := Mem.le_trans hu35 hu6
 have hu6' := Mem.le_trans hu3 hu36
 -- Unlink
 have hL2 := hL.unl who from_ path
 have h3 := unl_.cv A c ns m r u6 (hd.mono hu6') h8 (hg.mono hu6') s (hs.mono hu6') who from_ path (by omega)
 have h4 := fun u hd => r8unl.cv A3 c3 ns m r u hd h8 who from_ path (by omega)
 generalize unlF ns who from_ path = w2 at hL2 h3 h4
 obtain ⟨n2, e2⟩ := w2
 refine hold_call (h3.mono fun v cs u7 hu7 ⟨hc, A7, c7, hv, hd7⟩ => ⟨((A7, n2.length, c7), m, r, e2, ()), (), hv, hc, fun b16 hb16 => ?_⟩)
 refine hold_call ((las.cv u7 who from_).mono fun v cs u8 hu8 ⟨hc, hv⟩ => ⟨(who, from_, ()), (), hv, hc, ?_⟩)
 have hu38 := Mem.le_trans hu36 (Mem.le_trans hu7 hu8)
 refine hold_call ((h4 u8 (hd3.mono hu38)).mono fun v cs u9 hu9 ⟨hc, A9, c9, hv, hd9⟩ => ⟨((A9, n2.length, c9), m, r, e2, ()), (), hv, hc, fun b18 hb18 => ?_⟩)
 have hu39 := Mem.le_trans hu38 hu9
 have hu9' := Mem.le_trans hu3 hu39
 -- Rmdir
 have hL3 := hL.rmd who from_ path
 have h5 := rmd_.cv A c ns m r u9 (hd.mono hu9') h8 (hg.mono hu9') s (hs.mono hu9') who from_ path (by omega)
 have h6 := fun u hd => r8rmd.cv A3 c3 ns m r u hd h8 who from_ path (by omega)
 generalize rmdF ns who from_ path = w3 at hL3 h5 h6
 obtain ⟨n3, e3⟩ := w3
 refine hold_call (h5.mono fun v cs u10 hu10 ⟨hc, A10, c10, hv, hd10⟩ => ⟨((A10, n3.length, c10), m, r, e3, ()), (), hv, hc, fun b20 hb20 => ?_⟩)
 refine hold_call ((las.cv u10 who from_).mono fun v cs u11 hu11 ⟨hc, hv⟩ => ⟨(who, from_, ()), (), hv, hc, ?_⟩)
 have hu311 := Mem.le_trans hu39 (Mem.le_trans hu10 hu11)
 refine hold_call ((h6 u11 (hd3.mono hu311)).mono fun v cs u12 hu12 ⟨hc, A12, c12, hv, hd12⟩ => ⟨((A12, n3.length, c12), m, r, e3, ()), (), hv, hc, fun b22 hb22 => ?_⟩)
 have hu312 := Mem.le_trans hu311 hu12
 have hu12' := Mem.le_trans hu3 hu312
 -- Chmod
 have hL4 := hL.chm who from_ path mode
 have h7 := chm_.cv A c ns m r u12 (hd.mono hu12') h8 (hg.mono hu12') s (hs.mono hu12') who from_ path mode (by omega)
 have h9 := fun u hd => r8chm.cv A3 c3 ns m r u hd h8 who from_ path mode (by omega)
 generalize chmF ns who from_ path mode = w4 at hL4 h7 h9
 obtain ⟨n4, e4⟩ := w4
 refine hold_call (h7.mono fun v cs u13 hu13 ⟨hc, A13, c13, hv, hd13⟩ => ⟨((A13, n4.length, c13), m, r, e4, ()), (), hv, hc, fun b24 hb24 => ?_⟩)
 refine hold_call ((las.cv u13 who from_).mono fun v cs u14 hu14 ⟨hc, hv⟩ => ⟨(who, from_, ()), (), hv, hc, ?_⟩)
 have hu314 := Mem.le_trans hu312 (Mem.le_trans hu13 hu14)
 refine hold_call ((h9 u14 (hd3.mono hu314)).mono fun v cs u15 hu15 ⟨hc, A15, c15, hv, hd15⟩ => ⟨((A15, n4.length, c15), m, r, e4, ()), (), hv, hc, fun b26 hb26 => ?_⟩)
 have hu315 := Mem.le_trans hu314 hu15
 -- all the same
 have q4 : u4.le u15 := Mem.le_trans hu5 (Mem.le_trans hu6 (Mem.le_trans hu7 (Mem.le_trans hu8 (Mem.le_trans hu9 (Mem.le_trans hu10 (Mem.le_trans hu11 (Mem.le_trans hu12 (Mem.le_trans hu13 (Mem.le_trans hu14 hu15)))))))))
 have q6 : u6.le u15 := Mem.le_trans hu7 (Mem.le_trans hu8 (Mem.le_trans hu9 (Mem.le_trans hu10 (Mem.le_trans hu11 (Mem.le_trans hu12 (Mem.le_trans hu13 (Mem.le_trans hu14 hu15)))))))
 have q7 : u7.le u15 := Mem.le_trans hu8 (Mem.le_trans hu9 (Mem.le_trans hu10 (Mem.le_trans hu11 (Mem.le_trans hu12 (Mem.le_trans hu13 (Mem.le_trans hu14 hu15))))))
 have q9 : u9.le u15 := Mem.le_trans hu10 (Mem.le_trans hu11 (Mem.le_trans hu12 (Mem.le_trans hu13 (Mem.le_trans hu14 hu15))))
 have q10 : u10.le u15 := Mem.le_trans hu11 (Mem.le_trans hu12 (Mem.le_trans hu13 (Mem.le_trans hu14 hu15)))
 have q12 : u12.le u15 := Mem.le_trans hu13 (Mem.le_trans hu14 hu15)
 have q13 : u13.le u15 := Mem.le_trans hu14 hu15
 have step : ∀ {g : E S.ty .B} {k : Cells S.ty (RT.ks [(false, [.b])]) → CellsL S.ty [] → Tree S.ty} {bk : Nat → Nat} {um : Mem} {X Y : Option Addr} {cx cy kk : Nat} {N : List Nd} {args args2 : List (SV S.ty)} {Ag}, kk ≤ 1000000 → NsL kk N → DiskAt um X N → (∀ u', um.le u' → DiskAt u' Y N) → (g.den = true) →
   denL bk args = [.agg #[.slice X N.length cx, .int .i64 m, .int .i64 r]] → (∀ X' cx' , denL bk (.agg (cellsSV [.s, .i .i64, .i .i64] ((X', N.length, cx'), m, r, ())) :: args2) = [.agg #[.slice X' N.length cx', .int .i64 m, .int .i64 r], .agg #[.slice Y N.length cy, .int .i64 m, .int .i64 r]]) →
   (∀ u', um.le u' → Hold Tryz.prog u (fun v cs _ => cs = [] ∧ v = .bool true) (k (true, ()) ()) bk u' Ag) →
   Hold Tryz.prog u (fun v cs _ => cs = [] ∧ v = .bool true) (.call g false 15 args [] [] [(true, [.s, .i .i64, .i .i64])] [] fun x y => .call g true 17 (.agg (cellsSV [.s, .i .i64, .i .i64] x) :: args2) [] [] [(false, [.b])] [] k) bk um Ag := by
  intro g k bk um X Y cx cy kk N args args2 Ag hk hN hX hY hgt hA hA2 hK
  refine ⟨fun _ => ?_, fun h => by rw [hgt] at h; cases h⟩
  show CC _ _ (denL bk args) false [] u um _
  refine cc_args hA <| CV.mono (its_same hk X cx N m r um hX hN) fun v cs u1 hu1 ⟨hc, A1, c1, hv, hd1⟩ => ⟨((A1, N.length, c1), m, r, ()), (), hv, hc, ?_⟩
  refine ⟨fun _ => ?_, fun h => by rw [hgt] at h; cases h⟩
  show CC _ _ (denL bk (_ :: args2)) true [] u u1 _
  exact cc_args (hA2 A1 c1) <| CV.mono (same_self hk A1 Y c1 cy N m r u1 hd1 (hY u1 hu1) hN) fun v cs u2 hu2 ⟨hc, hv⟩ => ⟨(true, ()), (), hv, hc, hK u2 (Mem.le_trans hu1 hu2)⟩
 have ee : ∀ e : Int, cmpI .eql e e = true := fun e => cT_self
 refine step (kk := 100001) (Y := A6) (cy := c6) (by decide) hL1 (hd4.mono q4) (fun u' h => hd6.mono (Mem.le_trans q6 h)) rfl rfl (fun _ _ => rfl) fun u16 hu16 => ?_
 refine step (kk := 100000) (Y := A9) (cy := c9) (by decide) hL2 (hd7.mono (Mem.le_trans q7 hu16)) (fun u' h => hd9.mono (Mem.le_trans q9 (Mem.le_trans hu16 h))) (by simp only [E.den, ee, cond_true]) rfl (fun _ _ => rfl) fun u17 hu17 => ?_
 have hu167 := Mem.le_trans hu16 hu17
 refine step (kk := 100000) (Y := A12) (cy := c12) (by decide) hL3 (hd10.mono (Mem.le_trans q10 hu167)) (fun u' h => hd12.mono (Mem.le_trans q12 (Mem.le_trans hu167 h))) (by simp only [E.den, ee, cond_true]) rfl (fun _ _ => rfl) fun u18 hu18 => ?_
 have hu168 := Mem.le_trans hu167 hu18
 refine step (kk := 100000) (Y := A15) (cy := c15) (by decide) hL4 (hd13.mono (Mem.le_trans q13 hu168)) (fun u' h => hd15.mono (Mem.le_trans hu168 h)) (by simp only [E.den, ee, cond_true]) rfl (fun _ _ => rfl) fun u19 hu19 => ?_
 have hu169 := Mem.le_trans hu168 hu19
 refine step (kk := 100000) (Y := A3) (cy := c3) (by decide) hL (hd.mono (Mem.le_trans hu3 (Mem.le_trans hu315 hu169))) (fun u' h => hd3.mono (Mem.le_trans hu315 (Mem.le_trans hu169 h))) (by simp only [E.den, ee, cond_true]) rfl (fun _ _ => rfl) fun u20 hu20 => ?_
 exact ⟨rfl, by simp only [SV.den, E.den, ee, cond_true]⟩
end Go.Proofs.YtpfbimkpcnnfkaaGreatDoor.Sx
