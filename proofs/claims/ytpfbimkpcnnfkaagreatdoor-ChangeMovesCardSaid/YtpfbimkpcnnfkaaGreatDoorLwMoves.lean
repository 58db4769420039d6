/- By Sx: ChangeMoves. -/
import Derived.Test.YtpfbimkpcnnfkaaGreatDoorSxTh
import Derived.Test.YtpfbimkpcnnfkaaGreatDoorSyW
import Derived.Test.YtpfbimkpcnnfkaaGreatDoorSzC
/- Trees, printed by program. -/
set_option maxRecDepth 100000
set_option linter.unusedVariables false
namespace Go.Proofs.YtpfbimkpcnnfkaaGreatDoor.Sx
open Go Go.RowKit Go.Proofs.YtpfbimkpcnnfkaaGreatDoor
def lMoves.args (a0 : Cells S.ty [.s, .i .i64, .i .i64]) (a1 : Cells S.ty [.i .i64, .i .i64]) (a2 : Cells S.ty [.t]) (a3 : Cells S.ty [.t]) : List (SV S.ty) := [.agg (cellsSV [.s, .i .i64, .i .i64] a0), .agg (cellsSV [.i .i64, .i .i64] a1), .t (.at a2.1), .t (.at a3.1)]
def lMoves.giv (a0 : Cells S.ty [.s, .i .i64, .i .i64]) (a1 : Cells S.ty [.i .i64, .i .i64]) (a2 : Cells S.ty [.t]) (a3 : Cells S.ty [.t]) : List (Nat × Own S.ty) := []
def lMoves.T (a0 : Cells S.ty [.s, .i .i64, .i .i64]) (a1 : Cells S.ty [.i .i64, .i .i64]) (a2 : Cells S.ty [.t]) (a3 : Cells S.ty [.t]) : Tree S.ty :=
 .new 4 <|
 .new 5 <|
 .call (.b true) true 10 [.agg (cellsSV [.s, .i .i64, .i .i64] a0)] [] [] [(false, [.b])] [] fun x0 y0 =>
 .test (.not (.not (.at x0.1)))
 (.new 33 <|
 .test (.not (.not (.at x0.1)))
 (.call (.b true) true 11 [.os 33 0 2 2] [] [(33, [.t (.at a3.1), .t (.at a2.1)])] [(false, [.b])] [] fun x1 y1 =>
 .call (.not (.ite (.not (.at x0.1)) (.b true) (.not (.at x1.1)))) true 12 [] [] [] [(false, [.b])] [] fun x2 y2 =>
 .test (.ite (.ite (.not (.at x0.1)) (.b true) (.not (.at x1.1))) (.b true) (.not (.at x2.1)))
 (.call (.b true) true 12 [] [] [] [(false, [.b])] [] fun x3 y3 =>
 .ret (.b (.at x3.1)) [] [])
 (.call (.b true) false 15 [.agg (cellsSV [.s, .i .i64, .i .i64] a0)] [] [] [(true, [.s, .i .i64, .i .i64])] [] fun x3 y3 =>
 .call (.b true) true 25 [.agg (cellsSV [.s, .i .i64, .i .i64] x3), .i .i64 (.at a1.1), .i .i64 (.at a1.2.1), .t (.at a2.1), .b (.b false)] [] [] [(true, K3), (false, [.i .i64])] [] fun x4 y4 =>
 .new 9 <|
 .call (.b true) false 15 [.agg (cellsSV [.s, .i .i64, .i .i64] a0)] [] [] [(true, [.s, .i .i64, .i .i64])] [] fun x5 y5 =>
 .call (.b true) true 25 [.agg (cellsSV [.s, .i .i64, .i .i64] x5), .i .i64 (.at a1.1), .i .i64 (.at a1.2.1), .t (.at a3.1), .b (.b false)] [] [] [(true, K3), (false, [.i .i64])] [] fun x6 y6 =>
 .new 11 <|
 .call (.b true) true 13 [.agg (cellsSV [.s, .i .i64, .i .i64] a0), .agg (cellsSV [.i .i64, .i .i64] a1), .agg (cellsSV [.i .i64, .i .i64] a1), .t (.at a2.1), .t (.at a3.1)] [] [] [(true, [.s, .i .i64, .i .i64]), (false, [.i .i64])] [] fun x7 y7 =>
 .new 13 <|
 .test (.cmp .neq (.at x7.2.2.2.1) (.i 0))
 (.call (.b true) false 15 [.agg ((cellsSV K5 x7).take 3)] [] [] [(true, [.s, .i .i64, .i .i64])] [] fun x8 y8 =>
 .call (.b true) true 15 [.agg (cellsSV [.s, .i .i64, .i .i64] a0)] [] [] [(true, [.s, .i .i64, .i .i64])] [] fun x9 y9 =>
 .call (.b true) true 17 [.agg (cellsSV [.s, .i .i64, .i .i64] x8), .agg (cellsSV [.s, .i .i64, .i .i64] x9)] [] [] [(false, [.b])] [] fun x10 y10 =>
 .ret (.b (.at x10.1)) [] [])
 (.test (.ite (.ite (.cmp .neq (.at x4.2.2.2.2.1) (.i 0)) (.b true) (.cmp .neq (.at x6.2.2.2.2.1) (.i 0))) (.b true) (.cmp .lss (.at x4.2.2.1) (.i 0)))
 (.ret (.b (.b false)) [] [])
 (.test (.cmp .eql (.at x4.2.2.1) (.at x6.2.2.1))
 (.call (.b true) false 15 [.agg ((cellsSV K5 x7).take 3)] [] [] [(true, [.s, .i .i64, .i .i64])] [] fun x8 y8 =>
 .call (.b true) true 15 [.agg (cellsSV [.s, .i .i64, .i .i64] a0)] [] [] [(true, [.s, .i .i64, .i .i64])] [] fun x9 y9 =>
 .call (.b true) true 17 [.agg (cellsSV [.s, .i .i64, .i .i64] x8), .agg (cellsSV [.s, .i .i64, .i .i64] x9)] [] [] [(false, [.b])] [] fun x10 y10 =>
 .ret (.b (.at x10.1)) [] [])
 (.call (.b true) true 24 [.agg (cellsSV [.s, .i .i64, .i .i64] a0), .i .i64 (.at x4.2.2.1)] [] [] [(true, K0), (false, [.b])] [] fun x8 y8 =>
 .new 15 <|
 .call (.b true) true 24 [.agg ((cellsSV K5 x7).take 3), .i .i64 (.at x4.2.2.1)] [] [] [(true, K0), (false, [.b])] [] fun x9 y9 =>
 .new 17 <|
 .call (.b true) true 24 [.agg ((cellsSV K5 x7).take 3), .i .i64 (.at x6.1)] [] [] [(true, K0), (false, [.b])] [] fun x10 y10 =>
 .new 19 <|
 .call (.b true) true 24 [.agg ((cellsSV K5 x7).take 3), .i .i64 (.at x4.1)] [] [] [(true, K0), (false, [.b])] [] fun x11 y11 =>
 .new 21 <|
 .call (.b true) false 27 [.agg ((cellsSV K2 x10).take 8)] [] [] [(true, K0)] [] fun x12 y12 =>
 .call (.b true) true 26 [.s (.at x12.2.2.2.2.2.2.2.1.1) (.at x12.2.2.2.2.2.2.2.1.2.1) (.at x12.2.2.2.2.2.2.2.1.2.2), .t (.at x6.2.1)] [] [] [(false, [.i .i64]), (false, [.b])] [] fun x13 y13 =>
 .call (.b true) false 27 [.agg ((cellsSV K2 x11).take 8)] [] [] [(true, K0)] [] fun x14 y14 =>
 .call (.b true) true 26 [.s (.at x14.2.2.2.2.2.2.2.1.1) (.at x14.2.2.2.2.2.2.2.1.2.1) (.at x14.2.2.2.2.2.2.2.1.2.2), .t (.at x4.2.1)] [] [] [(false, [.i .i64]), (false, [.b])] [] fun x15 y15 =>
 .test (.ite (.ite (.ite (.not (.at x9.2.2.2.2.2.2.2.2.1)) (.b true) (.not (.at x13.2.1))) (.b true) (.cmp .neq (.at x13.1) (.at x4.2.2.1))) (.b true) (.ite (.at x15.2.1) (.not (.ite (.cmp .eql (.at x4.1) (.at x6.1)) (.scmp .eql (.at x4.2.1) (.at x6.2.1)) (.b false))) (.b false)))
 (.ret (.b (.b false)) [] [])
 (.call (.ite (.ite (.ite (.cmp .eql (.at x9.1) (.at x8.1)) (.scmp .eql (.at x9.2.2.2.2.2.2.1) (.at x8.2.2.2.2.2.2.1)) (.b false)) (.cmp .eql (.at x9.2.1) (.at x8.2.1)) (.b false)) (.cmp .eql (.at x9.2.2.2.1) (.at x8.2.2.2.1)) (.b false)) false 27 [.agg ((cellsSV K2 x9).take 8)] [] [] [(true, K0)] [] fun x16 y16 =>
 .call (.ite (.ite (.ite (.cmp .eql (.at x9.1) (.at x8.1)) (.scmp .eql (.at x9.2.2.2.2.2.2.1) (.at x8.2.2.2.2.2.2.1)) (.b false)) (.cmp .eql (.at x9.2.1) (.at x8.2.1)) (.b false)) (.cmp .eql (.at x9.2.2.2.1) (.at x8.2.2.2.1)) (.b false)) true 27 [.agg ((cellsSV K2 x8).take 8)] [] [] [(true, K0)] [] fun x17 y17 =>
 .call (.ite (.ite (.ite (.cmp .eql (.at x9.1) (.at x8.1)) (.scmp .eql (.at x9.2.2.2.2.2.2.1) (.at x8.2.2.2.2.2.2.1)) (.b false)) (.cmp .eql (.at x9.2.1) (.at x8.2.1)) (.b false)) (.cmp .eql (.at x9.2.2.2.1) (.at x8.2.2.2.1)) (.b false)) true 28 [.s (.at x16.2.2.2.2.2.2.2.1.1) (.at x16.2.2.2.2.2.2.2.1.2.1) (.at x16.2.2.2.2.2.2.2.1.2.2), .s (.at x17.2.2.2.2.2.2.2.1.1) (.at x17.2.2.2.2.2.2.2.1.2.1) (.at x17.2.2.2.2.2.2.2.1.2.2)] [] [] [(false, [.b])] [] fun x18 y18 =>
 .ret (.b (.ite (.ite (.ite (.ite (.ite (.cmp .eql (.at x9.1) (.at x8.1)) (.scmp .eql (.at x9.2.2.2.2.2.2.1) (.at x8.2.2.2.2.2.2.1)) (.b false)) (.cmp .eql (.at x9.2.1) (.at x8.2.1)) (.b false)) (.cmp .eql (.at x9.2.2.2.1) (.at x8.2.2.2.1)) (.b false)) (.at x18.1) (.b false)) (.ite (.cmp .neq (.at x9.1) (.i 2)) (.b true) (.cmp .eql (.at x9.2.2.2.2.2.1) (.at x6.1))) (.b false))) [] []))))))
 (.call (.not (.ite (.not (.at x0.1)) (.b true) (.not (.b false)))) true 12 [] [] [] [(false, [.b])] [] fun x1 y1 =>
 .test (.ite (.ite (.not (.at x0.1)) (.b true) (.not (.b false))) (.b true) (.not (.at x1.1)))
 (.call (.b true) true 12 [] [] [] [(false, [.b])] [] fun x2 y2 =>
 .ret (.b (.at x2.1)) [] [])
 (.call (.b true) false 15 [.agg (cellsSV [.s, .i .i64, .i .i64] a0)] [] [] [(true, [.s, .i .i64, .i .i64])] [] fun x2 y2 =>
 .call (.b true) true 25 [.agg (cellsSV [.s, .i .i64, .i .i64] x2), .i .i64 (.at a1.1), .i .i64 (.at a1.2.1), .t (.at a2.1), .b (.b false)] [] [] [(true, K3), (false, [.i .i64])] [] fun x3 y3 =>
 .new 9 <|
 .call (.b true) false 15 [.agg (cellsSV [.s, .i .i64, .i .i64] a0)] [] [] [(true, [.s, .i .i64, .i .i64])] [] fun x4 y4 =>
 .call (.b true) true 25 [.agg (cellsSV [.s, .i .i64, .i .i64] x4), .i .i64 (.at a1.1), .i .i64 (.at a1.2.1), .t (.at a3.1), .b (.b false)] [] [] [(true, K3), (false, [.i .i64])] [] fun x5 y5 =>
 .new 11 <|
 .call (.b true) true 13 [.agg (cellsSV [.s, .i .i64, .i .i64] a0), .agg (cellsSV [.i .i64, .i .i64] a1), .agg (cellsSV [.i .i64, .i .i64] a1), .t (.at a2.1), .t (.at a3.1)] [] [] [(true, [.s, .i .i64, .i .i64]), (false, [.i .i64])] [] fun x6 y6 =>
 .new 13 <|
 .test (.cmp .neq (.at x6.2.2.2.1) (.i 0))
 (.call (.b true) false 15 [.agg ((cellsSV K5 x6).take 3)] [] [] [(true, [.s, .i .i64, .i .i64])] [] fun x7 y7 =>
 .call (.b true) true 15 [.agg (cellsSV [.s, .i .i64, .i .i64] a0)] [] [] [(true, [.s, .i .i64, .i .i64])] [] fun x8 y8 =>
 .call (.b true) true 17 [.agg (cellsSV [.s, .i .i64, .i .i64] x7), .agg (cellsSV [.s, .i .i64, .i .i64] x8)] [] [] [(false, [.b])] [] fun x9 y9 =>
 .ret (.b (.at x9.1)) [] [])
 (.test (.ite (.ite (.cmp .neq (.at x3.2.2.2.2.1) (.i 0)) (.b true) (.cmp .neq (.at x5.2.2.2.2.1) (.i 0))) (.b true) (.cmp .lss (.at x3.2.2.1) (.i 0)))
 (.ret (.b (.b false)) [] [])
 (.test (.cmp .eql (.at x3.2.2.1) (.at x5.2.2.1))
 (.call (.b true) false 15 [.agg ((cellsSV K5 x6).take 3)] [] [] [(true, [.s, .i .i64, .i .i64])] [] fun x7 y7 =>
 .call (.b true) true 15 [.agg (cellsSV [.s, .i .i64, .i .i64] a0)] [] [] [(true, [.s, .i .i64, .i .i64])] [] fun x8 y8 =>
 .call (.b true) true 17 [.agg (cellsSV [.s, .i .i64, .i .i64] x7), .agg (cellsSV [.s, .i .i64, .i .i64] x8)] [] [] [(false, [.b])] [] fun x9 y9 =>
 .ret (.b (.at x9.1)) [] [])
 (.call (.b true) true 24 [.agg (cellsSV [.s, .i .i64, .i .i64] a0), .i .i64 (.at x3.2.2.1)] [] [] [(true, K0), (false, [.b])] [] fun x7 y7 =>
 .new 15 <|
 .call (.b true) true 24 [.agg ((cellsSV K5 x6).take 3), .i .i64 (.at x3.2.2.1)] [] [] [(true, K0), (false, [.b])] [] fun x8 y8 =>
 .new 17 <|
 .call (.b true) true 24 [.agg ((cellsSV K5 x6).take 3), .i .i64 (.at x5.1)] [] [] [(true, K0), (false, [.b])] [] fun x9 y9 =>
 .new 19 <|
 .call (.b true) true 24 [.agg ((cellsSV K5 x6).take 3), .i .i64 (.at x3.1)] [] [] [(true, K0), (false, [.b])] [] fun x10 y10 =>
 .new 21 <|
 .call (.b true) false 27 [.agg ((cellsSV K2 x9).take 8)] [] [] [(true, K0)] [] fun x11 y11 =>
 .call (.b true) true 26 [.s (.at x11.2.2.2.2.2.2.2.1.1) (.at x11.2.2.2.2.2.2.2.1.2.1) (.at x11.2.2.2.2.2.2.2.1.2.2), .t (.at x5.2.1)] [] [] [(false, [.i .i64]), (false, [.b])] [] fun x12 y12 =>
 .call (.b true) false 27 [.agg ((cellsSV K2 x10).take 8)] [] [] [(true, K0)] [] fun x13 y13 =>
 .call (.b true) true 26 [.s (.at x13.2.2.2.2.2.2.2.1.1) (.at x13.2.2.2.2.2.2.2.1.2.1) (.at x13.2.2.2.2.2.2.2.1.2.2), .t (.at x3.2.1)] [] [] [(false, [.i .i64]), (false, [.b])] [] fun x14 y14 =>
 .test (.ite (.ite (.ite (.not (.at x8.2.2.2.2.2.2.2.2.1)) (.b true) (.not (.at x12.2.1))) (.b true) (.cmp .neq (.at x12.1) (.at x3.2.2.1))) (.b true) (.ite (.at x14.2.1) (.not (.ite (.cmp .eql (.at x3.1) (.at x5.1)) (.scmp .eql (.at x3.2.1) (.at x5.2.1)) (.b false))) (.b false)))
 (.ret (.b (.b false)) [] [])
 (.call (.ite (.ite (.ite (.cmp .eql (.at x8.1) (.at x7.1)) (.scmp .eql (.at x8.2.2.2.2.2.2.1) (.at x7.2.2.2.2.2.2.1)) (.b false)) (.cmp .eql (.at x8.2.1) (.at x7.2.1)) (.b false)) (.cmp .eql (.at x8.2.2.2.1) (.at x7.2.2.2.1)) (.b false)) false 27 [.agg ((cellsSV K2 x8).take 8)] [] [] [(true, K0)] [] fun x15 y15 =>
 .call (.ite (.ite (.ite (.cmp .eql (.at x8.1) (.at x7.1)) (.scmp .eql (.at x8.2.2.2.2.2.2.1) (.at x7.2.2.2.2.2.2.1)) (.b false)) (.cmp .eql (.at x8.2.1) (.at x7.2.1)) (.b false)) (.cmp .eql (.at x8.2.2.2.1) (.at x7.2.2.2.1)) (.b false)) true 27 [.agg ((cellsSV K2 x7).take 8)] [] [] [(true, K0)] [] fun x16 y16 =>
 .call (.ite (.ite (.ite (.cmp .eql (.at x8.1) (.at x7.1)) (.scmp .eql (.at x8.2.2.2.2.2.2.1) (.at x7.2.2.2.2.2.2.1)) (.b false)) (.cmp .eql (.at x8.2.1) (.at x7.2.1)) (.b false)) (.cmp .eql (.at x8.2.2.2.1) (.at x7.2.2.2.1)) (.b false)) true 28 [.s (.at x15.2.2.2.2.2.2.2.1.1) (.at x15.2.2.2.2.2.2.2.1.2.1) (.at x15.2.2.2.2.2.2.2.1.2.2), .s (.at x16.2.2.2.2.2.2.2.1.1) (.at x16.2.2.2.2.2.2.2.1.2.1) (.at x16.2.2.2.2.2.2.2.1.2.2)] [] [] [(false, [.b])] [] fun x17 y17 =>
 .ret (.b (.ite (.ite (.ite (.ite (.ite (.cmp .eql (.at x8.1) (.at x7.1)) (.scmp .eql (.at x8.2.2.2.2.2.2.1) (.at x7.2.2.2.2.2.2.1)) (.b false)) (.cmp .eql (.at x8.2.1) (.at x7.2.1)) (.b false)) (.cmp .eql (.at x8.2.2.2.1) (.at x7.2.2.2.1)) (.b false)) (.at x17.1) (.b false)) (.ite (.cmp .neq (.at x8.1) (.i 2)) (.b true) (.cmp .eql (.at x8.2.2.2.2.2.1) (.at x5.1))) (.b false))) [] [])))))))
 (.call (.not (.not (.at x0.1))) true 11 [.s .anil (.n 0) (.n 0)] [] [] [(false, [.b])] [] fun x1 y1 =>
 .call (.not (.ite (.not (.at x0.1)) (.b true) (.not (.at x1.1)))) true 12 [] [] [] [(false, [.b])] [] fun x2 y2 =>
 .test (.ite (.ite (.not (.at x0.1)) (.b true) (.not (.at x1.1))) (.b true) (.not (.at x2.1)))
 (.call (.b true) true 12 [] [] [] [(false, [.b])] [] fun x3 y3 =>
 .ret (.b (.at x3.1)) [] [])
 (.call (.b true) false 15 [.agg (cellsSV [.s, .i .i64, .i .i64] a0)] [] [] [(true, [.s, .i .i64, .i .i64])] [] fun x3 y3 =>
 .call (.b true) true 25 [.agg (cellsSV [.s, .i .i64, .i .i64] x3), .i .i64 (.at a1.1), .i .i64 (.at a1.2.1), .t (.at a2.1), .b (.b false)] [] [] [(true, K3), (false, [.i .i64])] [] fun x4 y4 =>
 .new 9 <|
 .call (.b true) false 15 [.agg (cellsSV [.s, .i .i64, .i .i64] a0)] [] [] [(true, [.s, .i .i64, .i .i64])] [] fun x5 y5 =>
 .call (.b true) true 25 [.agg (cellsSV [.s, .i .i64, .i .i64] x5), .i .i64 (.at a1.1), .i .i64 (.at a1.2.1), .t (.at a3.1), .b (.b false)] [] [] [(true, K3), (false, [.i .i64])] [] fun x6 y6 =>
 .new 11 <|
 .call (.b true) true 13 [.agg (cellsSV [.s, .i .i64, .i .i64] a0), .agg (cellsSV [.i .i64, .i .i64] a1), .agg (cellsSV [.i .i64, .i .i64] a1), .t (.at a2.1), .t (.at a3.1)] [] [] [(true, [.s, .i .i64, .i .i64]), (false, [.i .i64])] [] fun x7 y7 =>
 .new 13 <|
 .test (.cmp .neq (.at x7.2.2.2.1) (.i 0))
 (.call (.b true) false 15 [.agg ((cellsSV K5 x7).take 3)] [] [] [(true, [.s, .i .i64, .i .i64])] [] fun x8 y8 =>
 .call (.b true) true 15 [.agg (cellsSV [.s, .i .i64, .i .i64] a0)] [] [] [(true, [.s, .i .i64, .i .i64])] [] fun x9 y9 =>
 .call (.b true) true 17 [.agg (cellsSV [.s, .i .i64, .i .i64] x8), .agg (cellsSV [.s, .i .i64, .i .i64] x9)] [] [] [(false, [.b])] [] fun x10 y10 =>
 .ret (.b (.at x10.1)) [] [])
 (.test (.ite (.ite (.cmp .neq (.at x4.2.2.2.2.1) (.i 0)) (.b true) (.cmp .neq (.at x6.2.2.2.2.1) (.i 0))) (.b true) (.cmp .lss (.at x4.2.2.1) (.i 0)))
 (.ret (.b (.b false)) [] [])
 (.test (.cmp .eql (.at x4.2.2.1) (.at x6.2.2.1))
 (.call (.b true) false 15 [.agg ((cellsSV K5 x7).take 3)] [] [] [(true, [.s, .i .i64, .i .i64])] [] fun x8 y8 =>
 .call (.b true) true 15 [.agg (cellsSV [.s, .i .i64, .i .i64] a0)] [] [] [(true, [.s, .i .i64, .i .i64])] [] fun x9 y9 =>
 .call (.b true) true 17 [.agg (cellsSV [.s, .i .i64, .i .i64] x8), .agg (cellsSV [.s, .i .i64, .i .i64] x9)] [] [] [(false, [.b])] [] fun x10 y10 =>
 .ret (.b (.at x10.1)) [] [])
 (.call (.b true) true 24 [.agg (cellsSV [.s, .i .i64, .i .i64] a0), .i .i64 (.at x4.2.2.1)] [] [] [(true, K0), (false, [.b])] [] fun x8 y8 =>
 .new 15 <|
 .call (.b true) true 24 [.agg ((cellsSV K5 x7).take 3), .i .i64 (.at x4.2.2.1)] [] [] [(true, K0), (false, [.b])] [] fun x9 y9 =>
 .new 17 <|
 .call (.b true) true 24 [.agg ((cellsSV K5 x7).take 3), .i .i64 (.at x6.1)] [] [] [(true, K0), (false, [.b])] [] fun x10 y10 =>
 .new 19 <|
 .call (.b true) true 24 [.agg ((cellsSV K5 x7).take 3), .i .i64 (.at x4.1)] [] [] [(true, K0), (false, [.b])] [] fun x11 y11 =>
 .new 21 <|
 .call (.b true) false 27 [.agg ((cellsSV K2 x10).take 8)] [] [] [(true, K0)] [] fun x12 y12 =>
 .call (.b true) true 26 [.s (.at x12.2.2.2.2.2.2.2.1.1) (.at x12.2.2.2.2.2.2.2.1.2.1) (.at x12.2.2.2.2.2.2.2.1.2.2), .t (.at x6.2.1)] [] [] [(false, [.i .i64]), (false, [.b])] [] fun x13 y13 =>
 .call (.b true) false 27 [.agg ((cellsSV K2 x11).take 8)] [] [] [(true, K0)] [] fun x14 y14 =>
 .call (.b true) true 26 [.s (.at x14.2.2.2.2.2.2.2.1.1) (.at x14.2.2.2.2.2.2.2.1.2.1) (.at x14.2.2.2.2.2.2.2.1.2.2), .t (.at x4.2.1)] [] [] [(false, [.i .i64]), (false, [.b])] [] fun x15 y15 =>
 .test (.ite (.ite (.ite (.not (.at x9.2.2.2.2.2.2.2.2.1)) (.b true) (.not (.at x13.2.1))) (.b true) (.cmp .neq (.at x13.1) (.at x4.2.2.1))) (.b true) (.ite (.at x15.2.1) (.not (.ite (.cmp .eql (.at x4.1) (.at x6.1)) (.scmp .eql (.at x4.2.1) (.at x6.2.1)) (.b false))) (.b false)))
 (.ret (.b (.b false)) [] [])
 (.call (.ite (.ite (.ite (.cmp .eql (.at x9.1) (.at x8.1)) (.scmp .eql (.at x9.2.2.2.2.2.2.1) (.at x8.2.2.2.2.2.2.1)) (.b false)) (.cmp .eql (.at x9.2.1) (.at x8.2.1)) (.b false)) (.cmp .eql (.at x9.2.2.2.1) (.at x8.2.2.2.1)) (.b false)) false 27 [.agg ((cellsSV K2 x9).take 8)] [] [] [(true, K0)] [] fun x16 y16 =>
 .call (.ite (.ite (.ite (.cmp .eql (.at x9.1) (.at x8.1)) (.scmp .eql (.at x9.2.2.2.2.2.2.1) (.at x8.2.2.2.2.2.2.1)) (.b false)) (.cmp .eql (.at x9.2.1) (.at x8.2.1)) (.b false)) (.cmp .eql (.at x9.2.2.2.1) (.at x8.2.2.2.1)) (.b false)) true 27 [.agg ((cellsSV K2 x8).take 8)] [] [] [(true, K0)] [] fun x17 y17 =>
 .call (.ite (.ite (.ite (.cmp .eql (.at x9.1) (.at x8.1)) (.scmp .eql (.at x9.2.2.2.2.2.2.1) (.at x8.2.2.2.2.2.2.1)) (.b false)) (.cmp .eql (.at x9.2.1) (.at x8.2.1)) (.b false)) (.cmp .eql (.at x9.2.2.2.1) (.at x8.2.2.2.1)) (.b false)) true 28 [.s (.at x16.2.2.2.2.2.2.2.1.1) (.at x16.2.2.2.2.2.2.2.1.2.1) (.at x16.2.2.2.2.2.2.2.1.2.2), .s (.at x17.2.2.2.2.2.2.2.1.1) (.at x17.2.2.2.2.2.2.2.1.2.1) (.at x17.2.2.2.2.2.2.2.1.2.2)] [] [] [(false, [.b])] [] fun x18 y18 =>
 .ret (.b (.ite (.ite (.ite (.ite (.ite (.cmp .eql (.at x9.1) (.at x8.1)) (.scmp .eql (.at x9.2.2.2.2.2.2.1) (.at x8.2.2.2.2.2.2.1)) (.b false)) (.cmp .eql (.at x9.2.1) (.at x8.2.1)) (.b false)) (.cmp .eql (.at x9.2.2.2.1) (.at x8.2.2.2.1)) (.b false)) (.at x18.1) (.b false)) (.ite (.cmp .neq (.at x9.1) (.i 2)) (.b true) (.cmp .eql (.at x9.2.2.2.2.2.1) (.at x6.1))) (.b false))) [] []))))))
theorem lMoves.run (a0 : Cells S.ty [.s, .i .i64, .i .i64]) (a1 : Cells S.ty [.i .i64, .i .i64]) (a2 : Cells S.ty [.t]) (a3 : Cells S.ty [.t]) : runFn Tryz.prog Tryz.f6 (bodyOf Tryz.f6) [] (lMoves.args a0 a1 a2 a3) (lMoves.giv a0 a1 a2 a3) = lMoves.T a0 a1 a2 a3 := by kernel_rfl
end Go.Proofs.YtpfbimkpcnnfkaaGreatDoor.Sx
set_option maxRecDepth 100000
set_option linter.unusedVariables false
set_option linter.unusedSimpArgs false
namespace Go.Proofs.YtpfbimkpcnnfkaaGreatDoor.Sx
open Go Go.RowKit Go.Proofs.YtpfbimkpcnnfkaaGreatDoor Go.Proofs.YtpfbimkpcnnfkaaGreatDoor.Ext
theorem node_again (n : Nd) (a7 : Option Addr) (c7 : Nat) (u : Mem) (hd : EntAt u a7 n.f7) (hn : n.f7.length ≤ 1000000) :
  CV Tryz.prog 27 [.agg (Sx.cv K0 (n.row a7 c7)).toArray] [] u fun v cs u' => cs = [] ∧ ∃ a8 c8, v = .agg (Sx.cv K0 (n.row a8 c8)).toArray ∧ EntAt u' a8 n.f7 :=
 (lnode.cv n a7 c7 u hd hn).mono' fun v cs u' _ ⟨hc, s, hv, hs, hg⟩ => ⟨hc, s.1, s.2.2, hv, grow_ent hg⟩
theorem ChangeMoves.cv (A : Option Addr) (c : Nat) (ns : List Nd) (m r who from_ : Int) (old path : ByteArray) (u : Mem) (hd : DiskAt u A ns) (hnm : ∀ n ∈ ns, ∀ e ∈ n.f7, e.f0.size ≤ 1000000000000000) (hg : EgM u) (s : Addr) (hs : EsM s u) :
  CV Tryz.prog 6 [.agg #[.slice A ns.length c, .int .i64 m, .int .i64 r], .agg #[.int .i64 who, .int .i64 from_], .string old, .string path] [] u fun v cs _ => cs = [] ∧ v = .bool true := by
 refine cv_of names draws (fn := Tryz.f6) (b := bodyOf Tryz.f6) rfl rfl [] (lMoves.args ((A, ns.length, c), m, r, ()) (who, from_, ()) (old, ()) (path, ())) (lMoves.giv _ _ _ _) (fun _ => 0) (lMoves.run _ _ _ _) (by kernel_rfl) rfl rfl ?_
 unfold lMoves.T
 intro b5 hb5 b6 hb6
 refine hold_call ((lright.cv A c ns m r u hd hnm).mono fun v cs u1 hu1 ⟨hc, hv⟩ => ⟨(okF ns m r, ()), (), hv, hc, ?_⟩)
 refine hold_open (l := [path, old]) (s := s) (hg.mono hu1) (hs.mono hu1) rfl (by decide) (fun _ => rfl) fun hok hsh b21 x2 u2 hu12 => ?_
 obtain ⟨hp, ho⟩ := short_two hsh
 have hu2 := Mem.le_trans hu1 hu12
 have h8 := ok8_of hok
 have hL := h8.nsl
 have hRt : Rt ns := rt_of (by unfold okF at hok; rw [Bool.and_eq_true, Bool.and_eq_true] at hok; exact hok.2.2)
 have hw1 := fun A c u hd => rwalk.cv A c ns m r who from_ old false u hd h8.ok (by omega)
 have hw2 := fun A c u hd => rwalk.cv A c ns m r who from_ path false u hd h8.ok (by omega)
 have hok7 := fun s t e f hs ht h => ren_ok (ns := ns) (wa := who) (fa := from_) (wb := who) (fb := from_) (old := old) (path := path) (s := s) (t := t) (e := e) (f := f) hs ht h
 have hwalk1 := fun s => hRt.walk (who := who) (from_ := from_) (path := old) (follow := false) (s := s)
 have hwalk2 := fun s => hRt.walk (who := who) (from_ := from_) (path := path) (follow := false) (s := s)
 have hspot1 := fun s => hRt.spot (who := who) (from_ := from_) (path := old) (follow := false) (s := s)
 have hspot2 := fun s => hRt.spot (who := who) (from_ := from_) (path := path) (follow := false) (s := s)
 have hLr := hL.ren who from_ who from_ old path
 have herr := renF_err (ns := ns) (wa := who) (fa := from_) (wb := who) (fb := from_) (old := old) (path := path)
 generalize hq1 : walkF ns who from_ old false = w1 at hw1 hok7 hwalk1 hspot1
 generalize hq2 : walkF ns who from_ path false = w2 at hw2 hok7 hwalk2 hspot2
 obtain ⟨sp, e1⟩ := w1
 obtain ⟨tp, e2⟩ := w2
 refine hold_call ((its_same (by decide) A c ns m r u2 (hd.mono hu2) hL).mono fun v cs u3 hu3 ⟨hc, A3, c3, hv, hd3⟩ => ⟨((A3, ns.length, c3), m, r, ()), (), hv, hc, ?_⟩)
 refine hold_call ((hw1 A3 c3 u3 hd3).mono fun v cs u4 hu4 ⟨hc, hv⟩ => ⟨(sp.f0, sp.f1, sp.f2, sp.f3, e1, ()), (), hv, hc, fun b9 hb9 => ?_⟩)
 have hu4 := Mem.le_trans hu2 (Mem.le_trans hu3 hu4)
 refine hold_call ((its_same (by decide) A c ns m r u4 (hd.mono hu4) hL).mono fun v cs u5 hu5 ⟨hc, A5, c5, hv, hd5⟩ => ⟨((A5, ns.length, c5), m, r, ()), (), hv, hc, ?_⟩)
 refine hold_call ((hw2 A5 c5 u5 hd5).mono fun v cs u6 hu6 ⟨hc, hv⟩ => ⟨(tp.f0, tp.f1, tp.f2, tp.f3, e2, ()), (), hv, hc, fun b11 hb11 => ?_⟩)
 have hu6 := Mem.le_trans hu4 (Mem.le_trans hu5 hu6)
 have hren := ren_.cv A c ns m r u6 (hd.mono hu6) h8 (hg.mono hu6) s (hs.mono hu6) who from_ who from_ old path (by omega) (by omega)
 have hok7 := hok7 sp tp e1 e2 rfl rfl
 generalize renF ns who from_ who from_ old path = w at hLr hren herr hok7
 obtain ⟨x, e⟩ := w
 refine hold_call (hren.mono fun v cs u7 hu7 ⟨hc, A7, c7, hv, hd7⟩ => ⟨((A7, x.length, c7), m, r, e, ()), (), hv, hc, fun b13 hb13 => ?_⟩)
 have hu7 := Mem.le_trans hu6 hu7
 have hxl : x.length ≤ 1000000 := by have := hLr.1; simp only at this; omega
 have hnl : ns.length ≤ 1000000 := h8.ok.len
 refine ⟨fun h => ?_, fun h => ?_⟩
 ·simp only [E.den, cT_neq] at h
  have h : ¬ e = 0 := h
  have hx : x = ns := herr h
  subst hx
  refine hold_call ((its_same (by decide) A7 c7 x m r u7 hd7 hL).mono fun v cs u8 hu8 ⟨hc, A8, c8, hv, hd8⟩ => ⟨((A8, x.length, c8), m, r, ()), (), hv, hc, ?_⟩)
  refine hold_call ((its_same (by decide) A c x m r u8 (hd.mono (Mem.le_trans hu7 hu8)) hL).mono fun v cs u9 hu9 ⟨hc, A9, c9, hv, hd9⟩ => ⟨((A9, x.length, c9), m, r, ()), (), hv, hc, ?_⟩)
  exact hold_call ((same_self (by decide) A8 A9 c8 c9 x m r u9 (hd8.mono hu9) hd9 hL).mono fun v cs u10 hu10 ⟨hc, hv⟩ => ⟨(true, ()), (), hv, hc, rfl, rfl⟩)
 simp only [E.den, cF_neq] at h
 have h : e = 0 := h
 subst h
 obtain ⟨he1, h0, he2, hcase⟩ := hok7 rfl
 subst he1 he2
 refine ⟨fun h => ?_, fun _ => ?_⟩
 ·exfalso
  have h : (bif bif cmpI .neq (0 : Int) 0 then true else cmpI .neq (0 : Int) 0 then true else cmpI .lss sp.f2 0) = true := h
  rw [show cmpI .neq (0 : Int) 0 = false from rfl, cond_false, cond_false, cT_lss] at h
  omega
 refine ⟨fun h => ?_, fun h => ?_⟩
 ·simp only [E.den, cT_eql] at h
  have h : sp.f2 = tp.f2 := h
  have hx : x = ns := by
   rcases hcase with h' | h'
   ·exact h'.2
   ·exact absurd h h'.1
  subst hx
  refine hold_call ((its_same (by decide) A7 c7 x m r u7 hd7 hL).mono fun v cs u8 hu8 ⟨hc, A8, c8, hv, hd8⟩ => ⟨((A8, x.length, c8), m, r, ()), (), hv, hc, ?_⟩)
  refine hold_call ((its_same (by decide) A c x m r u8 (hd.mono (Mem.le_trans hu7 hu8)) hL).mono fun v cs u9 hu9 ⟨hc, A9, c9, hv, hd9⟩ => ⟨((A9, x.length, c9), m, r, ()), (), hv, hc, ?_⟩)
  exact hold_call ((same_self (by decide) A8 A9 c8 c9 x m r u9 (hd8.mono hu9) hd9 hL).mono fun v cs u10 hu10 ⟨hc, hv⟩ => ⟨(true, ()), (), hv, hc, rfl, rfl⟩)
 simp only [E.den, cF_eql] at h
 have h : ¬ sp.f2 = tp.f2 := h
 obtain ⟨_, d1, d2, hov, hx⟩ := hcase.resolve_left fun h' => h h'.1
 have hx : x = renAt ns sp tp := hx
 have hsb : getB ns sp.f2 = true := (hwalk1 sp rfl).resolve_left (by omega)
 have hM : MovesP ns x sp tp := by rw [hx]; exact moves_plain hRt (hspot1 sp rfl) (hspot2 tp rfl) hsb (hwalk2 tp rfl) h d1 d2 hov
 have gl : ∀ i, (getL x i).f7.length ≤ 1000000 := fun i => Nat.le_trans (hLr.get i) (by decide)
 have gn : ∀ i, (getL ns i).f7.length ≤ 1000000 := fun i => Nat.le_trans (hL.get i) (by decide)
 refine hold_call ((get.cv A c ns m r sp.f2 u7 (hd.mono hu7) hnl).mono fun v cs u8 hu8 ⟨hc, a8, k8, hv, _, he8⟩ => ⟨fls (getL ns sp.f2) a8 k8 (getB ns sp.f2), (), hv, hc, fun b15 hb15 => ?_⟩)
 refine hold_call ((get.cv A7 c7 x m r sp.f2 u8 (hd7.mono hu8) hxl).mono fun v cs u9 hu9 ⟨hc, a9, k9, hv, _, he9⟩ => ⟨fls (getL x sp.f2) a9 k9 (getB x sp.f2), (), hv, hc, fun b17 hb17 => ?_⟩)
 have hu79 := Mem.le_trans hu8 hu9
 refine hold_call ((get.cv A7 c7 x m r tp.f0 u9 (hd7.mono hu79) hxl).mono fun v cs u10 hu10 ⟨hc, a10, k10, hv, _, he10⟩ => ⟨fls (getL x tp.f0) a10 k10 (getB x tp.f0), (), hv, hc, fun b19 hb19 => ?_⟩)
 have hu710 := Mem.le_trans hu79 hu10
 refine hold_call ((get.cv A7 c7 x m r sp.f0 u10 (hd7.mono hu710) hxl).mono fun v cs u11 hu11 ⟨hc, a11, k11, hv, _, he11⟩ => ⟨fls (getL x sp.f0) a11 k11 (getB x sp.f0), (), hv, hc, fun b21 hb21 => ?_⟩)
 refine hold_call ((node_again (getL x tp.f0) a10 k10 u11 (he10.mono hu11) (gl _)).mono fun v cs u12 hu12 ⟨hc, a12, k12, hv, he12⟩ => ⟨(getL x tp.f0).row a12 k12, (), hv, hc, ?_⟩)
 refine hold_call ((rfind.cv a12 k12 (getL x tp.f0).f7 tp.f1 u12 he12 (gl _)).mono fun v cs u13 hu13 ⟨hc, hv⟩ => ⟨(inoL (getL x tp.f0).f7 tp.f1, (findL (getL x tp.f0).f7 tp.f1).isSome, ()), (), hv, hc, ?_⟩)
 refine hold_call ((node_again (getL x sp.f0) a11 k11 u13 (he11.mono (Mem.le_trans hu12 hu13)) (gl _)).mono fun v cs u14 hu14 ⟨hc, a14, k14, hv, he14⟩ => ⟨(getL x sp.f0).row a14 k14, (), hv, hc, ?_⟩)
 refine hold_call ((rfind.cv a14 k14 (getL x sp.f0).f7 sp.f1 u14 he14 (gl _)).mono fun v cs u15 hu15 ⟨hc, hv⟩ => ⟨(inoL (getL x sp.f0).f7 sp.f1, (findL (getL x sp.f0).f7 sp.f1).isSome, ()), (), hv, hc, ?_⟩)
 obtain ⟨en, hn1, hn2⟩ := hM.named
 have hino : inoL (getL x tp.f0).f7 tp.f1 = sp.f2 := by unfold inoL; rw [hn1]; exact hn2
 have hfind : (findL (getL x tp.f0).f7 tp.f1).isSome = true := by rw [hn1]; rfl
 refine ⟨fun hh => ?_, fun _ => ?_⟩
 ·exfalso
  have hh : (bif bif bif !getB x sp.f2 then true else !(findL (getL x tp.f0).f7 tp.f1).isSome then true else cmpI .neq (inoL (getL x tp.f0).f7 tp.f1) sp.f2 then true else bif (findL (getL x sp.f0).f7 sp.f1).isSome then !bif cmpI .eql sp.f0 tp.f0 then cmpT .eql sp.f1 tp.f1 else false else false) = true := hh
  rw [hM.there, hfind, hino, cD_neq, cD_eql] at hh
  simp only [Bool.not_true, cond_false, not_true, decide_false] at hh
  by_cases hsame : sp.f0 = tp.f0 ∧ sp.f1.toList = tp.f1.toList
  ·rw [decide_eq_true hsame.1, cond_true, show cmpT .eql sp.f1 tp.f1 = true by rw [tT_eql]; exact hsame.2] at hh
   cases hx : (findL (getL x sp.f0).f7 sp.f1).isSome <;> rw [hx] at hh <;> cases hh
  ·rw [hM.gone hsame] at hh; cases hh
 obtain ⟨q0, q6, q1, q3, q7⟩ := hM.kept
 have hgt : (bif bif bif cmpI .eql (getL x sp.f2).f0 (getL ns sp.f2).f0 then cmpT .eql (getL x sp.f2).f6 (getL ns sp.f2).f6 else false then cmpI .eql (getL x sp.f2).f1 (getL ns sp.f2).f1 else false then cmpI .eql (getL x sp.f2).f3 (getL ns sp.f2).f3 else false) = true := by
  rw [q0, q6, q1, q3, cT_self, tT_self, cT_self, cT_self]; rfl
 have hu1015 := Mem.le_trans hu11 (Mem.le_trans hu12 (Mem.le_trans hu13 (Mem.le_trans hu14 hu15)))
 refine hold_callg (fun xs _ u16 => u15.le u16 ∧ ∃ a16 k16, xs = (getL x sp.f2).row a16 k16 ∧ EntAt u16 a16 (getL x sp.f2).f7) (fun _ => (node_again (getL x sp.f2) a9 k9 u15 (he9.mono (Mem.le_trans hu10 hu1015)) (gl _)).mono fun v cs u16 hu16 ⟨hc, a16, k16, hv, he16⟩ => ⟨(getL x sp.f2).row a16 k16, (), hv, hc, hu16, a16, k16, rfl, he16⟩) (fun hh => by have hh : _ = false := hh; exact absurd (hgt.symm.trans hh) (by decide)) ?_
 rintro _ _ u16 ⟨hu16, a16, k16, rfl, he16⟩
 refine hold_callg (fun xs _ u17 => u16.le u17 ∧ ∃ a17 k17, xs = (getL ns sp.f2).row a17 k17 ∧ EntAt u17 a17 (getL ns sp.f2).f7) (fun _ => (node_again (getL ns sp.f2) a8 k8 u16 (he8.mono (Mem.le_trans hu9 (Mem.le_trans hu10 (Mem.le_trans hu1015 hu16)))) (gn _)).mono fun v cs u17 hu17 ⟨hc, a17, k17, hv, he17⟩ => ⟨(getL ns sp.f2).row a17 k17, (), hv, hc, hu17, a17, k17, rfl, he17⟩) (fun hh => by have hh : _ = false := hh; exact absurd (hgt.symm.trans hh) (by decide)) ?_
 rintro _ _ u17 ⟨hu17, a17, k17, rfl, he17⟩
 refine hold_callg (fun xs _ u18 => xs.1 = true) (fun _ => (resame.cv a16 a17 k16 k17 (getL x sp.f2).f7 (getL ns sp.f2).f7 u17 (he16.mono hu17) he17 (gl _)).mono fun v cs u18 hu18 ⟨hc, hv⟩ => ⟨(decide ((getL x sp.f2).f7 = (getL ns sp.f2).f7), ()), (), hv, hc, by rw [decide_eq_true q7]⟩) (fun hh => by have hh : _ = false := hh; exact absurd (hgt.symm.trans hh) (by decide)) ?_
 rintro ⟨x18, _⟩ _ u18 hx18
 obtain rfl : x18 = true := hx18
 refine ⟨rfl, ?_⟩
 show Value.bool (bif bif (bif bif bif cmpI .eql (getL x sp.f2).f0 (getL ns sp.f2).f0 then cmpT .eql (getL x sp.f2).f6 (getL ns sp.f2).f6 else false then cmpI .eql (getL x sp.f2).f1 (getL ns sp.f2).f1 else false then cmpI .eql (getL x sp.f2).f3 (getL ns sp.f2).f3 else false) then true else false then bif cmpI .neq (getL x sp.f2).f0 2 then true else cmpI .eql (getL x sp.f2).f5 tp.f0 else false) = _
 rw [hgt]
 by_cases hk : (getL x sp.f2).f0 = 2
 ·rw [hM.up hk, cT_self]; simp
 ·rw [show cmpI .neq (getL x sp.f2).f0 2 = true by rw [cT_neq]; exact hk]; rfl
end Go.Proofs.YtpfbimkpcnnfkaaGreatDoor.Sx
