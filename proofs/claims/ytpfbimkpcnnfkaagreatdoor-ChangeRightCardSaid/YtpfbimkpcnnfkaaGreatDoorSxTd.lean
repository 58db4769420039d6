/- Trees, printed by program. -/
import Derived.Test.YtpfbimkpcnnfkaaGreatDoorSxX
/- Trees, printed by program. -/
/- Trees, printed by program. -/
/- Trees, printed by program. -/
set_option maxRecDepth 100000
set_option linter.unusedVariables false
namespace Go.Proofs.YtpfbimkpcnnfkaaGreatDoor.Sx
open Go Go.RowKit Go.Proofs.YtpfbimkpcnnfkaaGreatDoor
abbrev K0 : List CK := [.i .i64, .i .i64, .i .i64, .i .i64, .i .i64, .i .i64, .t, .s]
abbrev K1 : List CK := [.s, .i .i64, .i .i64, .i .i64, .i .i64, .s, .b, .b, .i .i64, .i .i64, .t, .i .i64, .b, .b]
abbrev K2 : List CK := [.i .i64, .i .i64, .i .i64, .i .i64, .i .i64, .i .i64, .t, .s, .b]
abbrev K3 : List CK := [.i .i64, .t, .i .i64, .b]
abbrev K4 : List CK := [.i .i64, .i .i64, .i .i64, .i .i64, .i .i64, .i .i64, .t, .s, .v]
def betw.args (a0 : Cells S.ty [.i .i64]) (a1 : Cells S.ty [.i .i64]) (a2 : Cells S.ty [.i .i64]) : List (SV S.ty) := [.i .i64 (.at a0.1), .i .i64 (.at a1.1), .i .i64 (.at a2.1)]
def betw.giv (a0 : Cells S.ty [.i .i64]) (a1 : Cells S.ty [.i .i64]) (a2 : Cells S.ty [.i .i64]) : List (Nat × Own S.ty) := []
def betw.T (a0 : Cells S.ty [.i .i64]) (a1 : Cells S.ty [.i .i64]) (a2 : Cells S.ty [.i .i64]) : Tree S.ty :=
 .ret (.b (.ite (.cmp .leq (.at a1.1) (.at a0.1)) (.cmp .leq (.at a0.1) (.at a2.1)) (.b false))) [] []
theorem betw.run (a0 : Cells S.ty [.i .i64]) (a1 : Cells S.ty [.i .i64]) (a2 : Cells S.ty [.i .i64]) : runFn Tryz.prog Tryz.f71 (bodyOf Tryz.f71) [] (betw.args a0 a1 a2) (betw.giv a0 a1 a2) = betw.T a0 a1 a2 := by kernel_rfl
def get.args (a0 : Cells S.ty [.s, .i .i64, .i .i64]) (a1 : Cells S.ty [.i .i64]) : List (SV S.ty) := [.agg (cellsSV [.s, .i .i64, .i .i64] a0), .i .i64 (.at a1.1)]
def get.giv (a0 : Cells S.ty [.s, .i .i64, .i .i64]) (a1 : Cells S.ty [.i .i64]) : List (Nat × Own S.ty) := []
def get.T (a0 : Cells S.ty [.s, .i .i64, .i .i64]) (a1 : Cells S.ty [.i .i64]) : Tree S.ty :=
 .new 2 <|
 .new 4 <|
 .call (.b true) true 71 [.i .i64 (.at a1.1), .i .i64 (.i 0), .i .i64 (.bin .sub .i64 (.ofN (.at a0.1.2.1)) (.i 1))] [] [] [(false, [.b])] [] fun x0 y0 =>
 .ob (.not (.not (.at x0.1))) (.idx (.at a1.1) (.at a0.1.2.1) (.at a0.1.1)) <|
 .ob (.not (.not (.at x0.1))) (.here (.at a0.1.1)) <|
 .uld (.not (.not (.at x0.1))) (.at a0.1.1) (.add (.mul (.toN (.at a1.1)) 8) (.n 0)) [.i .i64] fun x1 =>
 .test (.ite (.not (.at x0.1)) (.b true) (.cmp .eql (.at x1.1) (.i 0)))
 (.ret (.tup [.agg [.i .i64 (.i 0), .i .i64 (.i 0), .i .i64 (.i 0), .i .i64 (.i 0), .i .i64 (.i 0), .i .i64 (.i 0), .t (.t ⟨#[]⟩), .s .anil (.n 0) (.n 0)], .b (.b false)]) [] [])
 (.ob (.b true) (.idx (.at a1.1) (.at a0.1.2.1) (.at a0.1.1)) <|
 .uld (.b true) (.at a0.1.1) (.mul (.toN (.at a1.1)) 8) K0 fun x2 =>
 .ret (.tup [.agg (cellsSV K0 x2), .b (.b true)]) [] [])
theorem get.run (a0 : Cells S.ty [.s, .i .i64, .i .i64]) (a1 : Cells S.ty [.i .i64]) : runFn Tryz.prog Tryz.f24 (bodyOf Tryz.f24) [] (get.args a0 a1) (get.giv a0 a1) = get.T a0 a1 := by kernel_rfl
def may.args (a0 : Cells S.ty [.i .i64]) (a1 : Cells S.ty [.i .i64]) (a2 : Cells S.ty [.i .i64]) (a3 : Cells S.ty [.i .i64]) : List (SV S.ty) := [.i .i64 (.at a0.1), .i .i64 (.at a1.1), .i .i64 (.at a2.1), .i .i64 (.at a3.1)]
def may.giv (a0 : Cells S.ty [.i .i64]) (a1 : Cells S.ty [.i .i64]) (a2 : Cells S.ty [.i .i64]) (a3 : Cells S.ty [.i .i64]) : List (Nat × Own S.ty) := []
def may.T (a0 : Cells S.ty [.i .i64]) (a1 : Cells S.ty [.i .i64]) (a2 : Cells S.ty [.i .i64]) (a3 : Cells S.ty [.i .i64]) : Tree S.ty :=
 .test (.cmp .eql (.at a2.1) (.i 0))
 (.ret (.b (.b true)) [] [])
 (.test (.cmp .eql (.at a2.1) (.at a1.1))
 (.ret (.b (.cmp .eql (.bin .andNot .i64 (.bin .and .i64 (.at a3.1) (.i 7)) (.shf .shr .i64 (.at a0.1) 3)) (.i 0))) [] [])
 (.ret (.b (.cmp .eql (.bin .andNot .i64 (.bin .and .i64 (.at a3.1) (.i 7)) (.at a0.1)) (.i 0))) [] []))
theorem may.run (a0 : Cells S.ty [.i .i64]) (a1 : Cells S.ty [.i .i64]) (a2 : Cells S.ty [.i .i64]) (a3 : Cells S.ty [.i .i64]) : runFn Tryz.prog Tryz.f94 (bodyOf Tryz.f94) [] (may.args a0 a1 a2 a3) (may.giv a0 a1 a2 a3) = may.T a0 a1 a2 a3 := by kernel_rfl
def here.args (a0 : Cells S.ty K1) : List (SV S.ty) := [.p 34 0]
def here.giv (a0 : Cells S.ty K1) : List (Nat × Own S.ty) := [(34, ⟨true, K1, some (cellsSV K1 a0)⟩)]
def here.T (a0 : Cells S.ty K1) : Tree S.ty :=
 .new 2 <|
 .call (.b true) true 24 [.agg ((cellsSV K1 a0).take 3), .i .i64 (.at a0.2.2.2.2.1)] [] [] [(true, K0), (false, [.b])] [] fun x0 y0 =>
 .new 4 <|
 .test (.not (.at x0.2.2.2.2.2.2.2.2.1))
 (.new 23 <|
 .ret (.tup [.agg ((cellsSV K2 x0).take 8), .ifc 164 (.p 23 0)]) [(cellsSV K1 a0)] [(23, [.i .i64 (.i 2)])])
 (.test (.cmp .neq (.at x0.1) (.i 2))
 (.new 31 <|
 .ret (.tup [.agg ((cellsSV K2 x0).take 8), .ifc 164 (.p 31 0)]) [(cellsSV K1 a0)] [(31, [.i .i64 (.i 4)])])
 (.ret (.tup [.agg ((cellsSV K2 x0).take 8), .lit .nilIface]) [(cellsSV K1 a0)] []))
theorem here.run (a0 : Cells S.ty K1) : runFn Tryz.prog Tryz.f133 (bodyOf Tryz.f133) [] (here.args a0) (here.giv a0) = here.T a0 := by kernel_rfl
def end_.args (a0 : Cells S.ty K1) (a1 : Cells S.ty K3) : List (SV S.ty) := [.p 11 0, .agg (cellsSV K3 a1)]
def end_.giv (a0 : Cells S.ty K1) (a1 : Cells S.ty K3) : List (Nat × Own S.ty) := [(11, ⟨true, K1, some (cellsSV K1 a0)⟩)]
def end_.T (a0 : Cells S.ty K1) (a1 : Cells S.ty K3) : Tree S.ty :=
 .new 3 <|
 .ret (.tup []) [((((((cellsSV K1 a0).set 9 (.i .i64 (.at a1.1))).set 10 (.t (.at a1.2.1))).set 11 (.i .i64 (.at a1.2.2.1))).set 12 (.b (.at a1.2.2.2.1))).set 13 (.b (.b true)))] []
theorem end_.run (a0 : Cells S.ty K1) (a1 : Cells S.ty K3) : runFn Tryz.prog Tryz.f134 (bodyOf Tryz.f134) [] (end_.args a0 a1) (end_.giv a0 a1) = end_.T a0 a1 := by kernel_rfl
def named.args (a0 : Cells S.ty K1) (a1 : Cells S.ty K0) (a2 : Cells S.ty [.t]) : List (SV S.ty) := [.p 28 0, .agg (cellsSV K0 a1), .t (.at a2.1)]
def named.giv (a0 : Cells S.ty K1) (a1 : Cells S.ty K0) (a2 : Cells S.ty [.t]) : List (Nat × Own S.ty) := [(28, ⟨true, K1, some (cellsSV K1 a0)⟩)]
def named.T (a0 : Cells S.ty K1) (a1 : Cells S.ty K0) (a2 : Cells S.ty [.t]) : Tree S.ty :=
 .new 4 <|
 .test (.scmp .eql (.at a2.1) (.t ⟨#[46]⟩))
 (.ret (.i .i64 (.at a0.2.2.2.2.1)) [(cellsSV K1 a0)] [])
 (.test (.scmp .eql (.at a2.1) (.t ⟨#[46, 46]⟩))
 (.ret (.i .i64 (.at a1.2.2.2.2.2.1)) [(cellsSV K1 a0)] [])
 (.call (.b true) true 160 [.s (.at a1.2.2.2.2.2.2.2.1.1) (.at a1.2.2.2.2.2.2.2.1.2.1) (.at a1.2.2.2.2.2.2.2.1.2.2), .t (.at a2.1)] [] [] [(false, [.i .i64]), (false, [.b])] [] fun x0 y0 =>
 .ret (.i .i64 (.at x0.1)) [(cellsSV K1 a0)] []))
theorem named.run (a0 : Cells S.ty K1) (a1 : Cells S.ty K0) (a2 : Cells S.ty [.t]) : runFn Tryz.prog Tryz.f149 (bodyOf Tryz.f149) [] (named.args a0 a1 a2) (named.giv a0 a1 a2) = named.T a0 a1 a2 := by kernel_rfl
def halted.args (a0 : Cells S.ty [.i .i64]) : List (SV S.ty) := [.i .i64 (.at a0.1)]
def halted.giv (a0 : Cells S.ty [.i .i64]) : List (Nat × Own S.ty) := []
def halted.T (a0 : Cells S.ty [.i .i64]) : Tree S.ty :=
 .test (.cmp .eql (.at a0.1) (.i 0))
 (.ret (.lit .nilIface) [] [])
 (.new 7 <|
 .ret (.ifc 164 (.p 7 0)) [] [(7, [.i .i64 (.at a0.1)])])
theorem halted.run (a0 : Cells S.ty [.i .i64]) : runFn Tryz.prog Tryz.f161 (bodyOf Tryz.f161) [] (halted.args a0) (halted.giv a0) = halted.T a0 := by kernel_rfl
def hop.args (a0 : Cells S.ty K1) (a1 : Cells S.ty [.t]) (a2 : Cells S.ty [.s]) : List (SV S.ty) := [.p 61 0, .t (.at a1.1), .s (.at a2.1.1) (.at a2.1.2.1) (.at a2.1.2.2)]
def hop.giv (a0 : Cells S.ty K1) (a1 : Cells S.ty [.t]) (a2 : Cells S.ty [.s]) : List (Nat × Own S.ty) := [(61, ⟨true, K1, some (cellsSV K1 a0)⟩)]
def hop.T (a0 : Cells S.ty K1) (a1 : Cells S.ty [.t]) (a2 : Cells S.ty [.s]) : Tree S.ty :=
 .test (.cmp .eql (.at a0.2.2.2.2.2.2.2.2.1) (.i 8))
 (.new 17 <|
 .ret (.ifc 164 (.p 17 0)) [(cellsSV K1 a0)] [(17, [.i .i64 (.i 8)])])
 (.call (.b true) true 113 [.t (.at a1.1)] [] [] [(false, [.i .i64])] [] fun x0 y0 =>
 .call (.b true) true 161 [.i .i64 (.at x0.1)] [] [] [(false, [.v])] [] fun x1 y1 =>
 .ob (.b true) (.ifc (.at x1.1)) <|
 .test (.not (.nilV (.at x1.1)))
 (.ret (.v (.at x1.1)) [(cellsSV K1 a0)] [])
 (.call (.b true) true 114 [.t (.at a1.1)] [] [] [(false, [.s]), (false, [.b]), (false, [.b])] [] fun x2 y2 =>
 .test (.at x2.2.1)
 (.bi (.b true) (.bi .append #[78, 78] 78) [.s (.at x2.1.1) (.at x2.1.2.1) (.at x2.1.2.2), .s (.at a2.1.1) (.at a2.1.2.1) (.at a2.1.2.2)] [] [(false, [.s])] fun x3 =>
 .test (.cmp .eql (.ofN (.at x3.1.2.1)) (.i 0))
 (.call (.b true) true 134 [.p 61 0, .agg [.i .i64 (.i 0), .t (.t ⟨#[]⟩), .i .i64 (.i 0), .b (.at a0.2.2.2.2.2.2.2.1)]] [(61, ((((cellsSV K1 a0).set 4 (.i .i64 (.i 0))).set 5 (.s (.at x3.1.1) (.at x3.1.2.1) (.at x3.1.2.2))).set 8 (.i .i64 (.bin .add .i64 (.at a0.2.2.2.2.2.2.2.2.1) (.i 1)))))] [] [] [K1] fun x4 y4 =>
 .ret (.lit .nilIface) [(cellsSV K1 y4.1)] [])
 (.ret (.lit .nilIface) [((((cellsSV K1 a0).set 4 (.i .i64 (.i 0))).set 5 (.s (.at x3.1.1) (.at x3.1.2.1) (.at x3.1.2.2))).set 8 (.i .i64 (.bin .add .i64 (.at a0.2.2.2.2.2.2.2.2.1) (.i 1))))] []))
 (.bi (.b true) (.bi .append #[78, 78] 78) [.s (.at x2.1.1) (.at x2.1.2.1) (.at x2.1.2.2), .s (.at a2.1.1) (.at a2.1.2.1) (.at a2.1.2.2)] [] [(false, [.s])] fun x3 =>
 .test (.cmp .eql (.ofN (.at x3.1.2.1)) (.i 0))
 (.call (.b true) true 134 [.p 61 0, .agg [.i .i64 (.i 0), .t (.t ⟨#[]⟩), .i .i64 (.i 0), .b (.at a0.2.2.2.2.2.2.2.1)]] [(61, (((cellsSV K1 a0).set 5 (.s (.at x3.1.1) (.at x3.1.2.1) (.at x3.1.2.2))).set 8 (.i .i64 (.bin .add .i64 (.at a0.2.2.2.2.2.2.2.2.1) (.i 1)))))] [] [] [K1] fun x4 y4 =>
 .ret (.lit .nilIface) [(cellsSV K1 y4.1)] [])
 (.ret (.lit .nilIface) [(((cellsSV K1 a0).set 5 (.s (.at x3.1.1) (.at x3.1.2.1) (.at x3.1.2.2))).set 8 (.i .i64 (.bin .add .i64 (.at a0.2.2.2.2.2.2.2.2.1) (.i 1))))] []))))
theorem hop.run (a0 : Cells S.ty K1) (a1 : Cells S.ty [.t]) (a2 : Cells S.ty [.s]) : runFn Tryz.prog Tryz.f150 (bodyOf Tryz.f150) [] (hop.args a0 a1 a2) (hop.giv a0 a1 a2) = hop.T a0 a1 a2 := by kernel_rfl
def step.args (a0 : Cells S.ty K1) : List (SV S.ty) := [.p 147 0]
def step.giv (a0 : Cells S.ty K1) : List (Nat × Own S.ty) := [(147, ⟨true, K1, some (cellsSV K1 a0)⟩)]
def step.T (a0 : Cells S.ty K1) : Tree S.ty :=
 .call (.b true) true 133 [.p 147 0] [(147, (cellsSV K1 a0))] [] [(true, K0), (false, [.v])] [K1] fun x0 y0 =>
 .new 3 <|
 .ob (.b true) (.ifc (.at x0.2.2.2.2.2.2.2.2.1)) <|
 .test (.not (.nilV (.at x0.2.2.2.2.2.2.2.2.1)))
 (.ret (.v (.at x0.2.2.2.2.2.2.2.2.1)) [(cellsSV K1 y0.1)] [])
 (.call (.b true) true 94 [.i .i64 (.at x0.2.1), .i .i64 (.at x0.2.2.1), .i .i64 (.at y0.1.2.2.2.1), .i .i64 (.i 1)] [] [] [(false, [.b])] [] fun x1 y1 =>
 .test (.not (.at x1.1))
 (.new 30 <|
 .ret (.ifc 164 (.p 30 0)) [(cellsSV K1 y0.1)] [(30, [.i .i64 (.i 7)])])
 (.ob (.b true) (.idx (.i 0) (.at y0.1.2.2.2.2.2.1.2.1) (.at y0.1.2.2.2.2.2.1.1)) <|
 .uld (.b true) (.at y0.1.2.2.2.2.2.1.1) (.mul (.n 0) 1) [.t] fun x2 =>
 .ob (.b true) (.bnds (.i 1) (.ofN (.at y0.1.2.2.2.2.2.1.2.1)) (.ofN (.at y0.1.2.2.2.2.2.1.2.2))) <|
 .call (.b true) true 149 [.p 147 0, .agg ((cellsSV K4 x0).take 8), .t (.at x2.1)] [(147, (cellsSV K1 y0.1))] [] [(false, [.i .i64])] [K1] fun x3 y3 =>
 .call (.b true) true 24 [.agg ((cellsSV K1 y3.1).take 3), .i .i64 (.at x3.1)] [] [] [(true, K0), (false, [.b])] [] fun x4 y4 =>
 .new 9 <|
 .test (.ite (.cmp .eql (.at x3.1) (.i (-1))) (.cmp .eql (.ofN (.sub (.at y0.1.2.2.2.2.2.1.2.1) (.n 1))) (.i 0)) (.b false))
 (.call (.b true) true 134 [.p 147 0, .agg [.i .i64 (.at y3.1.2.2.2.2.1), .t (.at x2.1), .i .i64 (.i (-1)), .b (.at y3.1.2.2.2.2.2.2.2.1)]] [(147, (cellsSV K1 y3.1))] [] [] [K1] fun x5 y5 =>
 .ret (.lit .nilIface) [(cellsSV K1 y5.1)] [])
 (.test (.cmp .eql (.at x3.1) (.i (-1)))
 (.new 116 <|
 .ret (.ifc 164 (.p 116 0)) [(cellsSV K1 y3.1)] [(116, [.i .i64 (.i 2)])])
 (.test (.ite (.cmp .eql (.at x4.1) (.i 3)) (.ite (.ite (.not (.cmp .eql (.ofN (.sub (.at y0.1.2.2.2.2.2.1.2.1) (.n 1))) (.i 0))) (.b true) (.at y3.1.2.2.2.2.2.2.1)) (.b true) (.at y3.1.2.2.2.2.2.2.2.1)) (.b false))
 (.call (.b true) true 150 [.p 147 0, .t (.at x4.2.2.2.2.2.2.1), .s (.adv (.at y0.1.2.2.2.2.2.1.1) (.at y0.1.2.2.2.2.2.1.2.2) (.n 1) 1) (.sub (.at y0.1.2.2.2.2.2.1.2.1) (.n 1)) (.sub (.at y0.1.2.2.2.2.2.1.2.2) (.n 1))] [(147, (cellsSV K1 y3.1))] [] [(false, [.v])] [K1] fun x5 y5 =>
 .ret (.v (.at x5.1)) [(cellsSV K1 y5.1)] [])
 (.test (.ite (.ite (.cmp .eql (.ofN (.sub (.at y0.1.2.2.2.2.2.1.2.1) (.n 1))) (.i 0)) (.at y3.1.2.2.2.2.2.2.2.1) (.b false)) (.cmp .neq (.at x4.1) (.i 2)) (.b false))
 (.new 124 <|
 .ret (.ifc 164 (.p 124 0)) [(cellsSV K1 y3.1)] [(124, [.i .i64 (.i 4)])])
 (.test (.cmp .eql (.ofN (.sub (.at y0.1.2.2.2.2.2.1.2.1) (.n 1))) (.i 0))
 (.call (.b true) true 134 [.p 147 0, .agg [.i .i64 (.at y3.1.2.2.2.2.1), .t (.at x2.1), .i .i64 (.at x3.1), .b (.at y3.1.2.2.2.2.2.2.2.1)]] [(147, (cellsSV K1 y3.1))] [] [] [K1] fun x5 y5 =>
 .ret (.lit .nilIface) [(((cellsSV K1 y5.1).set 4 (.i .i64 (.at x3.1))).set 5 (.s (.adv (.at y0.1.2.2.2.2.2.1.1) (.at y0.1.2.2.2.2.2.1.2.2) (.n 1) 1) (.sub (.at y0.1.2.2.2.2.2.1.2.1) (.n 1)) (.sub (.at y0.1.2.2.2.2.2.1.2.2) (.n 1))))] [])
 (.ret (.lit .nilIface) [(((cellsSV K1 y3.1).set 4 (.i .i64 (.at x3.1))).set 5 (.s (.adv (.at y0.1.2.2.2.2.2.1.1) (.at y0.1.2.2.2.2.2.1.2.2) (.n 1) 1) (.sub (.at y0.1.2.2.2.2.2.1.2.1) (.n 1)) (.sub (.at y0.1.2.2.2.2.2.1.2.2) (.n 1))))] [])))))))
theorem step.run (a0 : Cells S.ty K1) : runFn Tryz.prog Tryz.f135 (bodyOf Tryz.f135) [] (step.args a0) (step.giv a0) = step.T a0 := by kernel_rfl
end Go.Proofs.YtpfbimkpcnnfkaaGreatDoor.Sx
set_option maxRecDepth 100000
set_option linter.unusedVariables false
namespace Go.Proofs.YtpfbimkpcnnfkaaGreatDoor.Sx
open Go Go.RowKit Go.Proofs.YtpfbimkpcnnfkaaGreatDoor
def find.args (a0 : Cells S.ty [.s]) (a1 : Cells S.ty [.t]) : List (SV S.ty) := [.s (.at a0.1.1) (.at a0.1.2.1) (.at a0.1.2.2), .t (.at a1.1)]
def find.giv (a0 : Cells S.ty [.s]) (a1 : Cells S.ty [.t]) : List (Nat × Own S.ty) := []
def find.T (a0 : Cells S.ty [.s]) (a1 : Cells S.ty [.t]) : Tree S.ty :=
 .call (.b true) true 120 [.s (.at a0.1.1) (.at a0.1.2.1) (.at a0.1.2.2), .t (.at a1.1)] [] [] [(false, [.i .i64]), (false, [.b])] [] fun x0 y0 =>
 .test (.at x0.2.1)
 (.ob (.b true) (.idx (.at x0.1) (.at a0.1.2.1) (.at a0.1.1)) <|
 .ob (.b true) (.here (.at a0.1.1)) <|
 .uld (.b true) (.at a0.1.1) (.add (.mul (.toN (.at x0.1)) 2) (.n 1)) [.i .i64] fun x1 =>
 .ret (.tup [.i .i64 (.at x1.1), .b (.b true)]) [] [])
 (.ret (.tup [.i .i64 (.i (-1)), .b (.b false)]) [] [])
theorem find.run (a0 : Cells S.ty [.s]) (a1 : Cells S.ty [.t]) : runFn Tryz.prog Tryz.f160 (bodyOf Tryz.f160) [] (find.args a0 a1) (find.giv a0 a1) = find.T a0 a1 := by kernel_rfl
def place.args (a0 : Cells S.ty [.s]) (a1 : Cells S.ty [.t]) : List (SV S.ty) := [.s (.at a0.1.1) (.at a0.1.2.1) (.at a0.1.2.2), .t (.at a1.1)]
def place.giv (a0 : Cells S.ty [.s]) (a1 : Cells S.ty [.t]) : List (Nat × Own S.ty) := []
def place.T (a0 : Cells S.ty [.s]) (a1 : Cells S.ty [.t]) : Tree S.ty :=
 .call (.b true) true 140 [.s (.at a0.1.1) (.at a0.1.2.1) (.at a0.1.2.2), .t (.at a1.1), .fn (.func 141) [] []] [] [] [(false, [.i .i64]), (false, [.b])] [] fun x0 y0 =>
 .ret (.tup (cellsSV [.i .i64, .b] x0)) [] []
theorem place.run (a0 : Cells S.ty [.s]) (a1 : Cells S.ty [.t]) : runFn Tryz.prog Tryz.f120 (bodyOf Tryz.f120) [] (place.args a0 a1) (place.giv a0 a1) = place.T a0 a1 := by kernel_rfl
def place1.args (a0 : Cells S.ty [.t, .i .i64]) (a1 : Cells S.ty [.t]) : List (SV S.ty) := [.agg (cellsSV [.t, .i .i64] a0), .t (.at a1.1)]
def place1.giv (a0 : Cells S.ty [.t, .i .i64]) (a1 : Cells S.ty [.t]) : List (Nat × Own S.ty) := []
def place1.T (a0 : Cells S.ty [.t, .i .i64]) (a1 : Cells S.ty [.t]) : Tree S.ty :=
 .new 2 <|
 .call (.b true) true 142 [.t (.at a0.1), .t (.at a1.1)] [] [] [(false, [.i .i64])] [] fun x0 y0 =>
 .ret (.i .i64 (.at x0.1)) [] []
theorem place1.run (a0 : Cells S.ty [.t, .i .i64]) (a1 : Cells S.ty [.t]) : runFn Tryz.prog Tryz.f141 (bodyOf Tryz.f141) [] (place1.args a0 a1) (place1.giv a0 a1) = place1.T a0 a1 := by kernel_rfl
def bsf.args (a0 : Cells S.ty [.s]) (a1 : Cells S.ty [.t]) : List (SV S.ty) := [.s (.at a0.1.1) (.at a0.1.2.1) (.at a0.1.2.2), .t (.at a1.1), .fn (.func 141) [] []]
def bsf.giv (a0 : Cells S.ty [.s]) (a1 : Cells S.ty [.t]) : List (Nat × Own S.ty) := []
def bsf.T (a0 : Cells S.ty [.s]) (a1 : Cells S.ty [.t]) : Tree S.ty :=
 .loop 0 [.i .i64, .i .i64] [] [.i .i64 (.i 0), .i .i64 (.ofN (.at a0.1.2.1))] [] fun x0 y0 =>
 .test (.cmp .lss (.at x0.1) (.at x0.2.1))
 (.ob (.b true) (.idx (.conv .i64 (.shf .shr .u64 (.conv .u64 (.bin .add .i64 (.at x0.1) (.at x0.2.1))) 1)) (.at a0.1.2.1) (.at a0.1.1)) <|
 .uld (.b true) (.at a0.1.1) (.mul (.toN (.conv .i64 (.shf .shr .u64 (.conv .u64 (.bin .add .i64 (.at x0.1) (.at x0.2.1))) 1))) 2) [.t, .i .i64] fun x1 =>
 .call (.b true) true 141 [.agg (cellsSV [.t, .i .i64] x1), .t (.at a1.1)] [] [] [(false, [.i .i64])] [] fun x2 y2 =>
 .test (.cmp .lss (.at x2.1) (.i 0))
 (.again 0 [.i .i64 (.bin .add .i64 (.conv .i64 (.shf .shr .u64 (.conv .u64 (.bin .add .i64 (.at x0.1) (.at x0.2.1))) 1)) (.i 1)), .i .i64 (.at x0.2.1)] [] [])
 (.again 0 [.i .i64 (.at x0.1), .i .i64 (.conv .i64 (.shf .shr .u64 (.conv .u64 (.bin .add .i64 (.at x0.1) (.at x0.2.1))) 1))] [] []))
 (.ob (.cmp .lss (.at x0.1) (.ofN (.at a0.1.2.1))) (.idx (.at x0.1) (.at a0.1.2.1) (.at a0.1.1)) <|
 .uld (.cmp .lss (.at x0.1) (.ofN (.at a0.1.2.1))) (.at a0.1.1) (.mul (.toN (.at x0.1)) 2) [.t, .i .i64] fun x1 =>
 .call (.cmp .lss (.at x0.1) (.ofN (.at a0.1.2.1))) true 141 [.agg (cellsSV [.t, .i .i64] x1), .t (.at a1.1)] [] [] [(false, [.i .i64])] [] fun x2 y2 =>
 .ret (.tup [.i .i64 (.at x0.1), .b (.ite (.cmp .lss (.at x0.1) (.ofN (.at a0.1.2.1))) (.cmp .eql (.at x2.1) (.i 0)) (.b false))]) [] [])
theorem bsf.run (a0 : Cells S.ty [.s]) (a1 : Cells S.ty [.t]) : runFn Tryz.prog Tryz.f140 (bodyOf Tryz.f140) [⟨3, [9, 10], []⟩] (bsf.args a0 a1) (bsf.giv a0 a1) = bsf.T a0 a1 := by kernel_rfl
end Go.Proofs.YtpfbimkpcnnfkaaGreatDoor.Sx
set_option maxRecDepth 100000
set_option linter.unusedVariables false
namespace Go.Proofs.YtpfbimkpcnnfkaaGreatDoor.Sx
open Go Go.RowKit Go.Proofs.YtpfbimkpcnnfkaaGreatDoor
def all.args (a0 : Cells S.ty K1) : List (SV S.ty) := [.p 50 0]
def all.giv (a0 : Cells S.ty K1) : List (Nat × Own S.ty) := [(50, ⟨true, K1, some (cellsSV K1 a0)⟩)]
def all.T (a0 : Cells S.ty K1) : Tree S.ty :=
 .test (.cmp .eql (.ofN (.at a0.2.2.2.2.2.1.2.1)) (.i 0))
 (.call (.b true) true 133 [.p 50 0] [(50, (cellsSV K1 a0))] [] [(true, K0), (false, [.v])] [K1] fun x0 y0 =>
 .new 3 <|
 .call (.b true) true 134 [.p 50 0, .agg [.i .i64 (.at y0.1.2.2.2.2.1), .t (.t ⟨#[]⟩), .i .i64 (.at y0.1.2.2.2.2.1), .b (.b true)]] [(50, (cellsSV K1 y0.1))] [] [] [K1] fun x1 y1 =>
 .ret (.v (.at x0.2.2.2.2.2.2.2.2.1)) [(cellsSV K1 y1.1)] [])
 (.loop 0 [] [K1] [] [(cellsSV K1 a0)] fun x0 y0 =>
 .test (.not (.at y0.1.2.2.2.2.2.2.2.2.2.2.2.2.2.1))
 (.ob (.b true) (.idx (.i 0) (.at y0.1.2.2.2.2.2.1.2.1) (.at y0.1.2.2.2.2.2.1.1)) <|
 .uld (.b true) (.at y0.1.2.2.2.2.2.1.1) (.mul (.n 0) 1) [.t] fun x1 =>
 .call (.b true) true 135 [.p 50 0] [(50, (cellsSV K1 y0.1))] [] [(false, [.v])] [K1] fun x2 y2 =>
 .ob (.b true) (.ifc (.at x2.1)) <|
 .test (.not (.nilV (.at x2.1)))
 (.ob (.b true) (.one (.at x2.1)) <|
 .new 48 <|
 .ret (.ifc 187 (.p 48 0)) [(cellsSV K1 y2.1)] [(48, [.t (.at x1.1), .v (.at x2.1)])])
 (.again 0 [] [(cellsSV K1 y2.1)] []))
 (.ret (.lit .nilIface) [(cellsSV K1 y0.1)] []))
theorem all.run (a0 : Cells S.ty K1) : runFn Tryz.prog Tryz.f116 (bodyOf Tryz.f116) [⟨5, [], [50]⟩] (all.args a0) (all.giv a0) = all.T a0 := by kernel_rfl
def walk.args (a0 : Cells S.ty [.s, .i .i64, .i .i64]) (a1 : Cells S.ty [.i .i64]) (a2 : Cells S.ty [.i .i64]) (a3 : Cells S.ty [.t]) (a4 : Cells S.ty [.b]) : List (SV S.ty) := [.agg (cellsSV [.s, .i .i64, .i .i64] a0), .i .i64 (.at a1.1), .i .i64 (.at a2.1), .t (.at a3.1), .b (.at a4.1)]
def walk.giv (a0 : Cells S.ty [.s, .i .i64, .i .i64]) (a1 : Cells S.ty [.i .i64]) (a2 : Cells S.ty [.i .i64]) (a3 : Cells S.ty [.t]) (a4 : Cells S.ty [.b]) : List (Nat × Own S.ty) := []
def walk.T (a0 : Cells S.ty [.s, .i .i64, .i .i64]) (a1 : Cells S.ty [.i .i64]) (a2 : Cells S.ty [.i .i64]) (a3 : Cells S.ty [.t]) (a4 : Cells S.ty [.b]) : Tree S.ty :=
 .new 5 <|
 .new 10 <|
 .call (.b true) true 113 [.t (.at a3.1)] [] [] [(false, [.i .i64])] [] fun x0 y0 =>
 .test (.cmp .neq (.at x0.1) (.i 0))
 (.ret (.tup [.agg [.i .i64 (.i 0), .t (.t ⟨#[]⟩), .i .i64 (.i 0), .b (.b false)], .i .i64 (.at x0.1)]) [] [])
 (.new 27 <|
 .call (.b true) true 114 [.t (.at a3.1)] [] [] [(false, [.s]), (false, [.b]), (false, [.b])] [] fun x1 y1 =>
 .call (.b true) true 115 [.t (.at a3.1), .t (.t ⟨#[47]⟩)] [] [] [(false, [.b])] [] fun x2 y2 =>
 .test (.at x2.1)
 (.new 14 <|
 .call (.b true) true 116 [.p 27 0] [(27, [.s (.at a0.1.1) (.at a0.1.2.1) (.at a0.1.2.2), .i .i64 (.at a0.2.1), .i .i64 (.at a0.2.2.1), .i .i64 (.at a1.1), .i .i64 (.i 0), .s (.at x1.1.1) (.at x1.1.2.1) (.at x1.1.2.2), .b (.at a4.1), .b (.at x1.2.2.1), .i .i64 (.i 0), .i .i64 (.i 0), .t (.t ⟨#[]⟩), .i .i64 (.i 0), .b (.b false), .b (.b false)])] [] [(false, [.v])] [K1] fun x3 y3 =>
 .call (.b true) true 117 [.v (.at x3.1), .ifc 167 (.p 14 0)] [(14, [.lit (.pointer .none)])] [] [(false, [.b])] [[.v]] fun x4 y4 =>
 .test (.at x4.1)
 (.ob (.b true) (.here (.ptr (.at y4.1.1))) <|
 .ob (.b true) (.here (.ptr (.at y4.1.1))) <|
 .uld (.b true) (.ptr (.at y4.1.1)) (.add (.n 0) (.n 0)) [.i .i64] fun x5 =>
 .ret (.tup [.agg [.i .i64 (.i 0), .t (.t ⟨#[]⟩), .i .i64 (.i 0), .b (.b false)], .i .i64 (.at x5.1)]) [] [])
 (.ret (.tup [.agg (((cellsSV K1 y3.1).drop 9).take 4), .i .i64 (.i 0)]) [] []))
 (.new 14 <|
 .call (.b true) true 116 [.p 27 0] [(27, [.s (.at a0.1.1) (.at a0.1.2.1) (.at a0.1.2.2), .i .i64 (.at a0.2.1), .i .i64 (.at a0.2.2.1), .i .i64 (.at a1.1), .i .i64 (.at a2.1), .s (.at x1.1.1) (.at x1.1.2.1) (.at x1.1.2.2), .b (.at a4.1), .b (.at x1.2.2.1), .i .i64 (.i 0), .i .i64 (.i 0), .t (.t ⟨#[]⟩), .i .i64 (.i 0), .b (.b false), .b (.b false)])] [] [(false, [.v])] [K1] fun x3 y3 =>
 .call (.b true) true 117 [.v (.at x3.1), .ifc 167 (.p 14 0)] [(14, [.lit (.pointer .none)])] [] [(false, [.b])] [[.v]] fun x4 y4 =>
 .test (.at x4.1)
 (.ob (.b true) (.here (.ptr (.at y4.1.1))) <|
 .ob (.b true) (.here (.ptr (.at y4.1.1))) <|
 .uld (.b true) (.ptr (.at y4.1.1)) (.add (.n 0) (.n 0)) [.i .i64] fun x5 =>
 .ret (.tup [.agg [.i .i64 (.i 0), .t (.t ⟨#[]⟩), .i .i64 (.i 0), .b (.b false)], .i .i64 (.at x5.1)]) [] [])
 (.ret (.tup [.agg (((cellsSV K1 y3.1).drop 9).take 4), .i .i64 (.i 0)]) [] [])))
theorem walk.run (a0 : Cells S.ty [.s, .i .i64, .i .i64]) (a1 : Cells S.ty [.i .i64]) (a2 : Cells S.ty [.i .i64]) (a3 : Cells S.ty [.t]) (a4 : Cells S.ty [.b]) : runFn Tryz.prog Tryz.f89 (bodyOf Tryz.f89) [] (walk.args a0 a1 a2 a3 a4) (walk.giv a0 a1 a2 a3 a4) = walk.T a0 a1 a2 a3 a4 := by kernel_rfl
def node.args (a0 : Cells S.ty [.s, .i .i64, .i .i64]) (a1 : Cells S.ty [.i .i64]) (a2 : Cells S.ty [.i .i64]) (a3 : Cells S.ty [.t]) (a4 : Cells S.ty [.b]) : List (SV S.ty) := [.agg (cellsSV [.s, .i .i64, .i .i64] a0), .i .i64 (.at a1.1), .i .i64 (.at a2.1), .t (.at a3.1), .b (.at a4.1)]
def node.giv (a0 : Cells S.ty [.s, .i .i64, .i .i64]) (a1 : Cells S.ty [.i .i64]) (a2 : Cells S.ty [.i .i64]) (a3 : Cells S.ty [.t]) (a4 : Cells S.ty [.b]) : List (Nat × Own S.ty) := []
def node.T (a0 : Cells S.ty [.s, .i .i64, .i .i64]) (a1 : Cells S.ty [.i .i64]) (a2 : Cells S.ty [.i .i64]) (a3 : Cells S.ty [.t]) (a4 : Cells S.ty [.b]) : Tree S.ty :=
 .new 5 <|
 .call (.b true) true 89 [.agg (cellsSV [.s, .i .i64, .i .i64] a0), .i .i64 (.at a1.1), .i .i64 (.at a2.1), .t (.at a3.1), .b (.at a4.1)] [] [] [(true, K3), (false, [.i .i64])] [] fun x0 y0 =>
 .new 12 <|
 .test (.cmp .neq (.at x0.2.2.2.2.1) (.i 0))
 (.ret (.tup [.i .i64 (.i 0), .i .i64 (.at x0.2.2.2.2.1)]) [] [])
 (.test (.cmp .eql (.at x0.2.2.1) (.i (-1)))
 (.ret (.tup [.i .i64 (.i 0), .i .i64 (.i 2)]) [] [])
 (.ret (.tup [.i .i64 (.at x0.2.2.1), .i .i64 (.i 0)]) [] []))
theorem node.run (a0 : Cells S.ty [.s, .i .i64, .i .i64]) (a1 : Cells S.ty [.i .i64]) (a2 : Cells S.ty [.i .i64]) (a3 : Cells S.ty [.t]) (a4 : Cells S.ty [.b]) : runFn Tryz.prog Tryz.f41 (bodyOf Tryz.f41) [] (node.args a0 a1 a2 a3 a4) (node.giv a0 a1 a2 a3 a4) = node.T a0 a1 a2 a3 a4 := by kernel_rfl
end Go.Proofs.YtpfbimkpcnnfkaaGreatDoor.Sx
set_option maxRecDepth 100000
set_option linter.unusedVariables false
namespace Go.Proofs.YtpfbimkpcnnfkaaGreatDoor.Sx
open Go Go.RowKit Go.Proofs.YtpfbimkpcnnfkaaGreatDoor
def rget.args (a0 : Cells S.ty [.s, .i .i64, .i .i64]) (a1 : Cells S.ty [.i .i64]) : List (SV S.ty) := [.agg (cellsSV [.s, .i .i64, .i .i64] a0), .i .i64 (.at a1.1)]
def rget.giv (a0 : Cells S.ty [.s, .i .i64, .i .i64]) (a1 : Cells S.ty [.i .i64]) : List (Nat × Own S.ty) := []
def rget.T (a0 : Cells S.ty [.s, .i .i64, .i .i64]) (a1 : Cells S.ty [.i .i64]) : Tree S.ty :=
 .new 2 <|
 .new 4 <|
 .ob (.not (.ite (.cmp .lss (.at a1.1) (.i 0)) (.b true) (.cmp .geq (.at a1.1) (.ofN (.at a0.1.2.1))))) (.idx (.at a1.1) (.at a0.1.2.1) (.at a0.1.1)) <|
 .ob (.not (.ite (.cmp .lss (.at a1.1) (.i 0)) (.b true) (.cmp .geq (.at a1.1) (.ofN (.at a0.1.2.1))))) (.here (.at a0.1.1)) <|
 .uld (.not (.ite (.cmp .lss (.at a1.1) (.i 0)) (.b true) (.cmp .geq (.at a1.1) (.ofN (.at a0.1.2.1))))) (.at a0.1.1) (.add (.mul (.toN (.at a1.1)) 8) (.n 0)) [.i .i64] fun x0 =>
 .test (.ite (.ite (.cmp .lss (.at a1.1) (.i 0)) (.b true) (.cmp .geq (.at a1.1) (.ofN (.at a0.1.2.1)))) (.b true) (.cmp .eql (.at x0.1) (.i 0)))
 (.ret (.tup [.agg [.i .i64 (.i 0), .i .i64 (.i 0), .i .i64 (.i 0), .i .i64 (.i 0), .i .i64 (.i 0), .i .i64 (.i 0), .t (.t ⟨#[]⟩), .s .anil (.n 0) (.n 0)], .b (.b false)]) [] [])
 (.ob (.b true) (.idx (.at a1.1) (.at a0.1.2.1) (.at a0.1.1)) <|
 .uld (.b true) (.at a0.1.1) (.mul (.toN (.at a1.1)) 8) K0 fun x1 =>
 .ret (.tup [.agg (cellsSV K0 x1), .b (.b true)]) [] [])
theorem rget.run (a0 : Cells S.ty [.s, .i .i64, .i .i64]) (a1 : Cells S.ty [.i .i64]) : runFn Tryz.prog Tryz.f60 (bodyOf Tryz.f60) [] (rget.args a0 a1) (rget.giv a0 a1) = rget.T a0 a1 := by kernel_rfl
def rlegal.args (a0 : Cells S.ty [.t]) : List (SV S.ty) := [.t (.at a0.1)]
def rlegal.giv (a0 : Cells S.ty [.t]) : List (Nat × Own S.ty) := []
def rlegal.T (a0 : Cells S.ty [.t]) : Tree S.ty :=
 .test (.ite (.ite (.scmp .eql (.at a0.1) (.t ⟨#[]⟩)) (.b true) (.scmp .eql (.at a0.1) (.t ⟨#[46]⟩))) (.b true) (.scmp .eql (.at a0.1) (.t ⟨#[46, 46]⟩)))
 (.ret (.i .i64 (.i 1)) [] [])
 (.loop 0 [.i .i64] [] [.i .i64 (.i 0)] [] fun x0 y0 =>
 .test (.cmp .lss (.at x0.1) (.len (.at a0.1)))
 (.ob (.b true) (.byte (.at x0.1) (.at a0.1)) <|
 .ob (.not (.cmp .eql (.byte (.at a0.1) (.at x0.1)) (.i 47))) (.byte (.at x0.1) (.at a0.1)) <|
 .test (.ite (.cmp .eql (.byte (.at a0.1) (.at x0.1)) (.i 47)) (.b true) (.cmp .eql (.byte (.at a0.1) (.at x0.1)) (.i 0)))
 (.ret (.i .i64 (.i 1)) [] [])
 (.again 0 [.i .i64 (.bin .add .i64 (.at x0.1) (.i 1))] [] []))
 (.test (.cmp .gtr (.len (.at a0.1)) (.i 12))
 (.ret (.i .i64 (.i 9)) [] [])
 (.ret (.i .i64 (.i 0)) [] [])))
theorem rlegal.run (a0 : Cells S.ty [.t]) : runFn Tryz.prog Tryz.f128 (bodyOf Tryz.f128) [⟨4, [3], []⟩] (rlegal.args a0) (rlegal.giv a0) = rlegal.T a0 := by kernel_rfl
def rsorted.args (a0 : Cells S.ty [.s]) : List (SV S.ty) := [.s (.at a0.1.1) (.at a0.1.2.1) (.at a0.1.2.2)]
def rsorted.giv (a0 : Cells S.ty [.s]) : List (Nat × Own S.ty) := []
def rsorted.T (a0 : Cells S.ty [.s]) : Tree S.ty :=
 .loop 0 [.i .i64] [] [.i .i64 (.i 0)] [] fun x0 y0 =>
 .test (.cmp .lss (.at x0.1) (.ofN (.at a0.1.2.1)))
 (.ob (.b true) (.idx (.at x0.1) (.at a0.1.2.1) (.at a0.1.1)) <|
 .ob (.b true) (.here (.at a0.1.1)) <|
 .uld (.b true) (.at a0.1.1) (.add (.mul (.toN (.at x0.1)) 2) (.n 0)) [.t] fun x1 =>
 .call (.b true) true 128 [.t (.at x1.1)] [] [] [(false, [.i .i64])] [] fun x2 y2 =>
 .ob (.ite (.not (.cmp .neq (.at x2.1) (.i 0))) (.cmp .gtr (.at x0.1) (.i 0)) (.b false)) (.idx (.at x0.1) (.at a0.1.2.1) (.at a0.1.1)) <|
 .ob (.ite (.not (.cmp .neq (.at x2.1) (.i 0))) (.cmp .gtr (.at x0.1) (.i 0)) (.b false)) (.here (.at a0.1.1)) <|
 .uld (.ite (.not (.cmp .neq (.at x2.1) (.i 0))) (.cmp .gtr (.at x0.1) (.i 0)) (.b false)) (.at a0.1.1) (.add (.mul (.toN (.at x0.1)) 2) (.n 0)) [.t] fun x3 =>
 .ob (.ite (.not (.cmp .neq (.at x2.1) (.i 0))) (.cmp .gtr (.at x0.1) (.i 0)) (.b false)) (.idx (.bin .sub .i64 (.at x0.1) (.i 1)) (.at a0.1.2.1) (.at a0.1.1)) <|
 .ob (.ite (.not (.cmp .neq (.at x2.1) (.i 0))) (.cmp .gtr (.at x0.1) (.i 0)) (.b false)) (.here (.at a0.1.1)) <|
 .uld (.ite (.not (.cmp .neq (.at x2.1) (.i 0))) (.cmp .gtr (.at x0.1) (.i 0)) (.b false)) (.at a0.1.1) (.add (.mul (.toN (.bin .sub .i64 (.at x0.1) (.i 1))) 2) (.n 0)) [.t] fun x4 =>
 .test (.ite (.cmp .neq (.at x2.1) (.i 0)) (.b true) (.ite (.cmp .gtr (.at x0.1) (.i 0)) (.scmp .leq (.at x3.1) (.at x4.1)) (.b false)))
 (.ret (.b (.b false)) [] [])
 (.again 0 [.i .i64 (.bin .add .i64 (.at x0.1) (.i 1))] [] []))
 (.ret (.b (.b true)) [] [])
theorem rsorted.run (a0 : Cells S.ty [.s]) : runFn Tryz.prog Tryz.f110 (bodyOf Tryz.f110) [⟨2, [3], []⟩] (rsorted.args a0) (rsorted.giv a0) = rsorted.T a0 := by kernel_rfl
def resame.args (a0 : Cells S.ty [.s]) (a1 : Cells S.ty [.s]) : List (SV S.ty) := [.s (.at a0.1.1) (.at a0.1.2.1) (.at a0.1.2.2), .s (.at a1.1.1) (.at a1.1.2.1) (.at a1.1.2.2)]
def resame.giv (a0 : Cells S.ty [.s]) (a1 : Cells S.ty [.s]) : List (Nat × Own S.ty) := []
def resame.T (a0 : Cells S.ty [.s]) (a1 : Cells S.ty [.s]) : Tree S.ty :=
 .test (.cmp .neq (.ofN (.at a0.1.2.1)) (.ofN (.at a1.1.2.1)))
 (.ret (.b (.b false)) [] [])
 (.loop 0 [.i .i64] [] [.i .i64 (.i 0)] [] fun x0 y0 =>
 .test (.cmp .lss (.at x0.1) (.ofN (.at a0.1.2.1)))
 (.ob (.b true) (.idx (.at x0.1) (.at a0.1.2.1) (.at a0.1.1)) <|
 .uld (.b true) (.at a0.1.1) (.mul (.toN (.at x0.1)) 2) [.t, .i .i64] fun x1 =>
 .ob (.b true) (.idx (.at x0.1) (.at a1.1.2.1) (.at a1.1.1)) <|
 .uld (.b true) (.at a1.1.1) (.mul (.toN (.at x0.1)) 2) [.t, .i .i64] fun x2 =>
 .test (.not (.ite (.scmp .eql (.at x1.1) (.at x2.1)) (.ite (.cmp .eql (.at x1.2.1) (.at x2.2.1)) (.b true) (.b false)) (.b false)))
 (.ret (.b (.b false)) [] [])
 (.again 0 [.i .i64 (.bin .add .i64 (.at x0.1) (.i 1))] [] []))
 (.ret (.b (.b true)) [] []))
theorem resame.run (a0 : Cells S.ty [.s]) (a1 : Cells S.ty [.s]) : runFn Tryz.prog Tryz.f28 (bodyOf Tryz.f28) [⟨4, [5], []⟩] (resame.args a0 a1) (resame.giv a0 a1) = resame.T a0 a1 := by kernel_rfl
def ralike.args (a0 : Cells S.ty K0) (a1 : Cells S.ty K0) : List (SV S.ty) := [.agg (cellsSV K0 a0), .agg (cellsSV K0 a1)]
def ralike.giv (a0 : Cells S.ty K0) (a1 : Cells S.ty K0) : List (Nat × Own S.ty) := []
def ralike.T (a0 : Cells S.ty K0) (a1 : Cells S.ty K0) : Tree S.ty :=
 .new 2 <|
 .new 3 <|
 .call (.ite (.ite (.ite (.ite (.ite (.ite (.cmp .eql (.at a0.1) (.at a1.1)) (.cmp .eql (.at a0.2.1) (.at a1.2.1)) (.b false)) (.cmp .eql (.at a0.2.2.1) (.at a1.2.2.1)) (.b false)) (.cmp .eql (.at a0.2.2.2.1) (.at a1.2.2.2.1)) (.b false)) (.cmp .eql (.at a0.2.2.2.2.1) (.at a1.2.2.2.2.1)) (.b false)) (.cmp .eql (.at a0.2.2.2.2.2.1) (.at a1.2.2.2.2.2.1)) (.b false)) (.scmp .eql (.at a0.2.2.2.2.2.2.1) (.at a1.2.2.2.2.2.2.1)) (.b false)) true 28 [.s (.at a0.2.2.2.2.2.2.2.1.1) (.at a0.2.2.2.2.2.2.2.1.2.1) (.at a0.2.2.2.2.2.2.2.1.2.2), .s (.at a1.2.2.2.2.2.2.2.1.1) (.at a1.2.2.2.2.2.2.2.1.2.1) (.at a1.2.2.2.2.2.2.2.1.2.2)] [] [] [(false, [.b])] [] fun x0 y0 =>
 .ret (.b (.ite (.ite (.ite (.ite (.ite (.ite (.ite (.cmp .eql (.at a0.1) (.at a1.1)) (.cmp .eql (.at a0.2.1) (.at a1.2.1)) (.b false)) (.cmp .eql (.at a0.2.2.1) (.at a1.2.2.1)) (.b false)) (.cmp .eql (.at a0.2.2.2.1) (.at a1.2.2.2.1)) (.b false)) (.cmp .eql (.at a0.2.2.2.2.1) (.at a1.2.2.2.2.1)) (.b false)) (.cmp .eql (.at a0.2.2.2.2.2.1) (.at a1.2.2.2.2.2.1)) (.b false)) (.scmp .eql (.at a0.2.2.2.2.2.2.1) (.at a1.2.2.2.2.2.2.1)) (.b false)) (.at x0.1) (.b false))) [] []
theorem ralike.run (a0 : Cells S.ty K0) (a1 : Cells S.ty K0) : runFn Tryz.prog Tryz.f65 (bodyOf Tryz.f65) [] (ralike.args a0 a1) (ralike.giv a0 a1) = ralike.T a0 a1 := by kernel_rfl
def rnames.args (a0 : Cells S.ty [.s, .i .i64, .i .i64]) (a1 : Cells S.ty [.i .i64]) : List (SV S.ty) := [.agg (cellsSV [.s, .i .i64, .i .i64] a0), .i .i64 (.at a1.1)]
def rnames.giv (a0 : Cells S.ty [.s, .i .i64, .i .i64]) (a1 : Cells S.ty [.i .i64]) : List (Nat × Own S.ty) := []
def rnames.T (a0 : Cells S.ty [.s, .i .i64, .i .i64]) (a1 : Cells S.ty [.i .i64]) : Tree S.ty :=
 .new 2 <|
 .loop 0 [.i .i64, .i .i64, .i .i64] [] [.i .i64 (.i 0), .i .i64 (.i (-1)), .i .i64 (.i 0)] [] fun x0 y0 =>
 .test (.cmp .lss (.at x0.2.2.1) (.ofN (.at a0.1.2.1)))
 (.loop 1 [.i .i64, .i .i64, .i .i64] [] [.i .i64 (.at x0.1), .i .i64 (.at x0.2.1), .i .i64 (.i 0)] [] fun x1 y1 =>
 .ob (.b true) (.idx (.at x0.2.2.1) (.at a0.1.2.1) (.at a0.1.1)) <|
 .ob (.b true) (.here (.at a0.1.1)) <|
 .uld (.b true) (.at a0.1.1) (.add (.mul (.toN (.at x0.2.2.1)) 8) (.n 7)) [.s] fun x2 =>
 .test (.cmp .lss (.at x1.2.2.1) (.ofN (.at x2.1.2.1)))
 (.ob (.b true) (.idx (.at x0.2.2.1) (.at a0.1.2.1) (.at a0.1.1)) <|
 .ob (.b true) (.here (.at a0.1.1)) <|
 .uld (.b true) (.at a0.1.1) (.add (.mul (.toN (.at x0.2.2.1)) 8) (.n 7)) [.s] fun x3 =>
 .ob (.b true) (.idx (.at x1.2.2.1) (.at x3.1.2.1) (.at x3.1.1)) <|
 .ob (.b true) (.here (.at x3.1.1)) <|
 .uld (.b true) (.at x3.1.1) (.add (.mul (.toN (.at x1.2.2.1)) 2) (.n 1)) [.i .i64] fun x4 =>
 .test (.cmp .eql (.at x4.1) (.at a1.1))
 (.again 1 [.i .i64 (.bin .add .i64 (.at x1.1) (.i 1)), .i .i64 (.at x0.2.2.1), .i .i64 (.bin .add .i64 (.at x1.2.2.1) (.i 1))] [] [(.s (.at a0.1.1) (.at a0.1.2.1) (.at a0.1.2.2), .s (.at a0.1.1) (.at a0.1.2.1) (.at a0.1.2.2)), (.i .i64 (.at a0.2.1), .i .i64 (.at a0.2.1)), (.i .i64 (.at a0.2.2.1), .i .i64 (.at a0.2.2.1))])
 (.again 1 [.i .i64 (.at x1.1), .i .i64 (.at x1.2.1), .i .i64 (.bin .add .i64 (.at x1.2.2.1) (.i 1))] [] [(.s (.at a0.1.1) (.at a0.1.2.1) (.at a0.1.2.2), .s (.at a0.1.1) (.at a0.1.2.1) (.at a0.1.2.2)), (.i .i64 (.at a0.2.1), .i .i64 (.at a0.2.1)), (.i .i64 (.at a0.2.2.1), .i .i64 (.at a0.2.2.1))]))
 (.again 0 [.i .i64 (.at x1.1), .i .i64 (.at x1.2.1), .i .i64 (.bin .add .i64 (.at x0.2.2.1) (.i 1))] [] [(.s (.at a0.1.1) (.at a0.1.2.1) (.at a0.1.2.2), .s (.at a0.1.1) (.at a0.1.2.1) (.at a0.1.2.2)), (.i .i64 (.at a0.2.1), .i .i64 (.at a0.2.1)), (.i .i64 (.at a0.2.2.1), .i .i64 (.at a0.2.2.1))]))
 (.ret (.tup [.i .i64 (.at x0.1), .i .i64 (.at x0.2.1)]) [] [])
theorem rnames.run (a0 : Cells S.ty [.s, .i .i64, .i .i64]) (a1 : Cells S.ty [.i .i64]) : runFn Tryz.prog Tryz.f111 (bodyOf Tryz.f111) [⟨4, [6, 7, 8], []⟩, ⟨7, [6, 7, 9], []⟩] (rnames.args a0 a1) (rnames.giv a0 a1) = rnames.T a0 a1 := by kernel_rfl
def rrooted.args (a0 : Cells S.ty [.s, .i .i64, .i .i64]) (a1 : Cells S.ty [.i .i64]) : List (SV S.ty) := [.agg (cellsSV [.s, .i .i64, .i .i64] a0), .i .i64 (.at a1.1)]
def rrooted.giv (a0 : Cells S.ty [.s, .i .i64, .i .i64]) (a1 : Cells S.ty [.i .i64]) : List (Nat × Own S.ty) := []
def rrooted.T (a0 : Cells S.ty [.s, .i .i64, .i .i64]) (a1 : Cells S.ty [.i .i64]) : Tree S.ty :=
 .new 2 <|
 .loop 0 [.i .i64, .i .i64] [] [.i .i64 (.at a1.1), .i .i64 (.i 0)] [] fun x0 y0 =>
 .test (.cmp .leq (.at x0.2.1) (.ofN (.at a0.1.2.1)))
 (.test (.cmp .eql (.at x0.1) (.i 0))
 (.ret (.b (.b true)) [] [])
 (.call (.b true) true 60 [.agg (cellsSV [.s, .i .i64, .i .i64] a0), .i .i64 (.at x0.1)] [] [] [(true, K0), (false, [.b])] [] fun x1 y1 =>
 .new 6 <|
 .test (.ite (.not (.at x1.2.2.2.2.2.2.2.2.1)) (.b true) (.cmp .neq (.at x1.1) (.i 2)))
 (.ret (.b (.b false)) [] [])
 (.again 0 [.i .i64 (.at x1.2.2.2.2.2.1), .i .i64 (.bin .add .i64 (.at x0.2.1) (.i 1))] [] [(.s (.at a0.1.1) (.at a0.1.2.1) (.at a0.1.2.2), .s (.at a0.1.1) (.at a0.1.2.1) (.at a0.1.2.2)), (.i .i64 (.at a0.2.1), .i .i64 (.at a0.2.1)), (.i .i64 (.at a0.2.2.1), .i .i64 (.at a0.2.2.1))])))
 (.ret (.b (.b false)) [] [])
theorem rrooted.run (a0 : Cells S.ty [.s, .i .i64, .i .i64]) (a1 : Cells S.ty [.i .i64]) : runFn Tryz.prog Tryz.f112 (bodyOf Tryz.f112) [⟨2, [1, 5], []⟩] (rrooted.args a0 a1) (rrooted.giv a0 a1) = rrooted.T a0 a1 := by kernel_rfl
def rweight.args (a0 : Cells S.ty K0) : List (SV S.ty) := [.agg (cellsSV K0 a0)]
def rweight.giv (a0 : Cells S.ty K0) : List (Nat × Own S.ty) := []
def rweight.T (a0 : Cells S.ty K0) : Tree S.ty :=
 .new 1 <|
 .test (.ite (.cmp .eql (.at a0.1) (.i 1)) (.b true) (.cmp .eql (.at a0.1) (.i 3)))
 (.ret (.i .i64 (.len (.at a0.2.2.2.2.2.2.1))) [] [])
 (.ret (.i .i64 (.i 0)) [] [])
theorem rweight.run (a0 : Cells S.ty K0) : runFn Tryz.prog Tryz.f109 (bodyOf Tryz.f109) [] (rweight.args a0) (rweight.giv a0) = rweight.T a0 := by kernel_rfl
def rbytes.args (a0 : Cells S.ty [.s, .i .i64, .i .i64]) : List (SV S.ty) := [.agg (cellsSV [.s, .i .i64, .i .i64] a0)]
def rbytes.giv (a0 : Cells S.ty [.s, .i .i64, .i .i64]) : List (Nat × Own S.ty) := []
def rbytes.T (a0 : Cells S.ty [.s, .i .i64, .i .i64]) : Tree S.ty :=
 .new 1 <|
 .loop 0 [.i .i64, .i .i64] [] [.i .i64 (.i 0), .i .i64 (.i 0)] [] fun x0 y0 =>
 .test (.cmp .lss (.at x0.2.1) (.ofN (.at a0.1.2.1)))
 (.ob (.b true) (.idx (.at x0.2.1) (.at a0.1.2.1) (.at a0.1.1)) <|
 .uld (.b true) (.at a0.1.1) (.mul (.toN (.at x0.2.1)) 8) K0 fun x1 =>
 .call (.b true) true 109 [.agg (cellsSV K0 x1)] [] [] [(false, [.i .i64])] [] fun x2 y2 =>
 .again 0 [.i .i64 (.bin .add .i64 (.at x0.1) (.at x2.1)), .i .i64 (.bin .add .i64 (.at x0.2.1) (.i 1))] [] [(.s (.at a0.1.1) (.at a0.1.2.1) (.at a0.1.2.2), .s (.at a0.1.1) (.at a0.1.2.1) (.at a0.1.2.2)), (.i .i64 (.at a0.2.1), .i .i64 (.at a0.2.1)), (.i .i64 (.at a0.2.2.1), .i .i64 (.at a0.2.2.1))])
 (.ret (.i .i64 (.at x0.1)) [] [])
theorem rbytes.run (a0 : Cells S.ty [.s, .i .i64, .i .i64]) : runFn Tryz.prog Tryz.f87 (bodyOf Tryz.f87) [⟨3, [3, 4], []⟩] (rbytes.args a0) (rbytes.giv a0) = rbytes.T a0 := by kernel_rfl
def rright1.args (a0 : Cells S.ty [.s, .i .i64, .i .i64]) (a1 : Cells S.ty [.i .i64]) : List (SV S.ty) := [.agg (cellsSV [.s, .i .i64, .i .i64] a0), .i .i64 (.at a1.1)]
def rright1.giv (a0 : Cells S.ty [.s, .i .i64, .i .i64]) (a1 : Cells S.ty [.i .i64]) : List (Nat × Own S.ty) := []
def rright1.T (a0 : Cells S.ty [.s, .i .i64, .i .i64]) (a1 : Cells S.ty [.i .i64]) : Tree S.ty :=
 .new 2 <|
 .ob (.b true) (.idx (.at a1.1) (.at a0.1.2.1) (.at a0.1.1)) <|
 .uld (.b true) (.at a0.1.1) (.mul (.toN (.at a1.1)) 8) K0 fun x0 =>
 .new 5 <|
 .test (.cmp .eql (.at x0.1) (.i 0))
 (.call (.b true) true 65 [.agg (cellsSV K0 x0), .agg [.i .i64 (.i 0), .i .i64 (.i 0), .i .i64 (.i 0), .i .i64 (.i 0), .i .i64 (.i 0), .i .i64 (.i 0), .t (.t ⟨#[]⟩), .s .anil (.n 0) (.n 0)]] [] [] [(false, [.b])] [] fun x1 y1 =>
 .ret (.b (.at x1.1)) [] [])
 (.test (.ite (.ite (.ite (.ite (.cmp .lss (.at x0.1) (.i 1)) (.b true) (.cmp .gtr (.at x0.1) (.i 3))) (.b true) (.cmp .lss (.at x0.2.1) (.i 0))) (.b true) (.cmp .gtr (.at x0.2.1) (.i 63))) (.b true) (.cmp .lss (.at x0.2.2.2.2.1) (.i 0)))
 (.ret (.b (.b false)) [] [])
 (.call (.not (.ite (.ite (.cmp .neq (.at x0.1) (.i 2)) (.cmp .gtr (.ofN (.at x0.2.2.2.2.2.2.2.1.2.1)) (.i 0)) (.b false)) (.b true) (.ite (.cmp .eql (.at x0.1) (.i 2)) (.scmp .neq (.at x0.2.2.2.2.2.2.1) (.t ⟨#[]⟩)) (.b false)))) true 110 [.s (.at x0.2.2.2.2.2.2.2.1.1) (.at x0.2.2.2.2.2.2.2.1.2.1) (.at x0.2.2.2.2.2.2.2.1.2.2)] [] [] [(false, [.b])] [] fun x1 y1 =>
 .test (.ite (.ite (.ite (.cmp .neq (.at x0.1) (.i 2)) (.cmp .gtr (.ofN (.at x0.2.2.2.2.2.2.2.1.2.1)) (.i 0)) (.b false)) (.b true) (.ite (.cmp .eql (.at x0.1) (.i 2)) (.scmp .neq (.at x0.2.2.2.2.2.2.1) (.t ⟨#[]⟩)) (.b false))) (.b true) (.not (.at x1.1)))
 (.ret (.b (.b false)) [] [])
 (.loop 0 [.i .i64] [] [.i .i64 (.i 0)] [] fun x2 y2 =>
 .test (.cmp .lss (.at x2.1) (.ofN (.at x0.2.2.2.2.2.2.2.1.2.1)))
 (.ob (.b true) (.idx (.at x2.1) (.at x0.2.2.2.2.2.2.2.1.2.1) (.at x0.2.2.2.2.2.2.2.1.1)) <|
 .ob (.b true) (.here (.at x0.2.2.2.2.2.2.2.1.1)) <|
 .uld (.b true) (.at x0.2.2.2.2.2.2.2.1.1) (.add (.mul (.toN (.at x2.1)) 2) (.n 1)) [.i .i64] fun x3 =>
 .call (.b true) true 60 [.agg (cellsSV [.s, .i .i64, .i .i64] a0), .i .i64 (.at x3.1)] [] [] [(true, K0), (false, [.b])] [] fun x4 y4 =>
 .new 7 <|
 .ob (.not (.not (.at x4.2.2.2.2.2.2.2.2.1))) (.idx (.at x2.1) (.at x0.2.2.2.2.2.2.2.1.2.1) (.at x0.2.2.2.2.2.2.2.1.1)) <|
 .ob (.not (.not (.at x4.2.2.2.2.2.2.2.2.1))) (.here (.at x0.2.2.2.2.2.2.2.1.1)) <|
 .uld (.not (.not (.at x4.2.2.2.2.2.2.2.2.1))) (.at x0.2.2.2.2.2.2.2.1.1) (.add (.mul (.toN (.at x2.1)) 2) (.n 1)) [.i .i64] fun x5 =>
 .test (.ite (.not (.at x4.2.2.2.2.2.2.2.2.1)) (.b true) (.cmp .eql (.at x5.1) (.i 0)))
 (.ret (.b (.b false)) [] [])
 (.again 0 [.i .i64 (.bin .add .i64 (.at x2.1) (.i 1))] [] [(.s (.at a0.1.1) (.at a0.1.2.1) (.at a0.1.2.2), .s (.at a0.1.1) (.at a0.1.2.1) (.at a0.1.2.2)), (.i .i64 (.at a0.2.1), .i .i64 (.at a0.2.1)), (.i .i64 (.at a0.2.2.1), .i .i64 (.at a0.2.2.1)), (.i .i64 (.at x0.1), .i .i64 (.at x0.1)), (.i .i64 (.at x0.2.1), .i .i64 (.at x0.2.1)), (.i .i64 (.at x0.2.2.1), .i .i64 (.at x0.2.2.1)), (.i .i64 (.at x0.2.2.2.1), .i .i64 (.at x0.2.2.2.1)), (.i .i64 (.at x0.2.2.2.2.1), .i .i64 (.at x0.2.2.2.2.1)), (.i .i64 (.at x0.2.2.2.2.2.1), .i .i64 (.at x0.2.2.2.2.2.1)), (.t (.at x0.2.2.2.2.2.2.1), .t (.at x0.2.2.2.2.2.2.1)), (.s (.at x0.2.2.2.2.2.2.2.1.1) (.at x0.2.2.2.2.2.2.2.1.2.1) (.at x0.2.2.2.2.2.2.2.1.2.2), .s (.at x0.2.2.2.2.2.2.2.1.1) (.at x0.2.2.2.2.2.2.2.1.2.1) (.at x0.2.2.2.2.2.2.2.1.2.2))]))
 (.call (.b true) true 111 [.agg (cellsSV [.s, .i .i64, .i .i64] a0), .i .i64 (.at a1.1)] [] [] [(false, [.i .i64]), (false, [.i .i64])] [] fun x3 y3 =>
 .test (.cmp .eql (.at a1.1) (.i 0))
 (.ret (.b (.ite (.ite (.cmp .eql (.at x0.1) (.i 2)) (.cmp .eql (.at x0.2.2.2.2.2.1) (.i 0)) (.b false)) (.cmp .eql (.at x0.2.2.2.1) (.i 1)) (.b false))) [] [])
 (.test (.ite (.cmp .neq (.at x0.2.2.2.1) (.at x3.1)) (.b true) (.ite (.cmp .eql (.at x3.1) (.i 0)) (.cmp .lss (.at x0.2.2.2.2.1) (.i 1)) (.b false)))
 (.ret (.b (.b false)) [] [])
 (.test (.cmp .neq (.at x0.1) (.i 2))
 (.ret (.b (.b true)) [] [])
 (.test (.cmp .eql (.at x3.1) (.i 0))
 (.ret (.b (.ite (.cmp .eql (.ofN (.at x0.2.2.2.2.2.2.2.1.2.1)) (.i 0)) (.cmp .eql (.at x0.2.2.2.2.2.1) (.i 0)) (.b false))) [] [])
 (.call (.ite (.cmp .eql (.at x3.1) (.i 1)) (.cmp .eql (.at x0.2.2.2.2.2.1) (.at x3.2.1)) (.b false)) true 112 [.agg (cellsSV [.s, .i .i64, .i .i64] a0), .i .i64 (.at a1.1)] [] [] [(false, [.b])] [] fun x4 y4 =>
 .ret (.b (.ite (.ite (.cmp .eql (.at x3.1) (.i 1)) (.cmp .eql (.at x0.2.2.2.2.2.1) (.at x3.2.1)) (.b false)) (.at x4.1) (.b false))) [] []))))))))
theorem rright1.run (a0 : Cells S.ty [.s, .i .i64, .i .i64]) (a1 : Cells S.ty [.i .i64]) : runFn Tryz.prog Tryz.f88 (bodyOf Tryz.f88) [⟨9, [6], []⟩] (rright1.args a0 a1) (rright1.giv a0 a1) = rright1.T a0 a1 := by kernel_rfl
def rright.args (a0 : Cells S.ty [.s, .i .i64, .i .i64]) : List (SV S.ty) := [.agg (cellsSV [.s, .i .i64, .i .i64] a0)]
def rright.giv (a0 : Cells S.ty [.s, .i .i64, .i .i64]) : List (Nat × Own S.ty) := []
def rright.T (a0 : Cells S.ty [.s, .i .i64, .i .i64]) : Tree S.ty :=
 .new 1 <|
 .call (.not (.ite (.cmp .eql (.ofN (.at a0.1.2.1)) (.i 0)) (.b true) (.cmp .gtr (.ofN (.at a0.1.2.1)) (.at a0.2.1)))) false 87 [.agg (cellsSV [.s, .i .i64, .i .i64] a0)] [] [] [(false, [.i .i64])] [] fun x0 y0 =>
 .ob (.not (.ite (.ite (.cmp .eql (.ofN (.at a0.1.2.1)) (.i 0)) (.b true) (.cmp .gtr (.ofN (.at a0.1.2.1)) (.at a0.2.1))) (.b true) (.cmp .gtr (.at x0.1) (.at a0.2.2.1)))) (.idx (.i 0) (.at a0.1.2.1) (.at a0.1.1)) <|
 .ob (.not (.ite (.ite (.cmp .eql (.ofN (.at a0.1.2.1)) (.i 0)) (.b true) (.cmp .gtr (.ofN (.at a0.1.2.1)) (.at a0.2.1))) (.b true) (.cmp .gtr (.at x0.1) (.at a0.2.2.1)))) (.here (.at a0.1.1)) <|
 .uld (.not (.ite (.ite (.cmp .eql (.ofN (.at a0.1.2.1)) (.i 0)) (.b true) (.cmp .gtr (.ofN (.at a0.1.2.1)) (.at a0.2.1))) (.b true) (.cmp .gtr (.at x0.1) (.at a0.2.2.1)))) (.at a0.1.1) (.add (.mul (.n 0) 8) (.n 0)) [.i .i64] fun x1 =>
 .test (.ite (.ite (.ite (.cmp .eql (.ofN (.at a0.1.2.1)) (.i 0)) (.b true) (.cmp .gtr (.ofN (.at a0.1.2.1)) (.at a0.2.1))) (.b true) (.cmp .gtr (.at x0.1) (.at a0.2.2.1))) (.b true) (.cmp .neq (.at x1.1) (.i 2)))
 (.ret (.b (.b false)) [] [])
 (.loop 0 [.i .i64] [] [.i .i64 (.i 0)] [] fun x2 y2 =>
 .test (.cmp .lss (.at x2.1) (.ofN (.at a0.1.2.1)))
 (.call (.b true) true 88 [.agg (cellsSV [.s, .i .i64, .i .i64] a0), .i .i64 (.at x2.1)] [] [] [(false, [.b])] [] fun x3 y3 =>
 .test (.not (.at x3.1))
 (.ret (.b (.b false)) [] [])
 (.again 0 [.i .i64 (.bin .add .i64 (.at x2.1) (.i 1))] [] [(.s (.at a0.1.1) (.at a0.1.2.1) (.at a0.1.2.2), .s (.at a0.1.1) (.at a0.1.2.1) (.at a0.1.2.2)), (.i .i64 (.at a0.2.1), .i .i64 (.at a0.2.1)), (.i .i64 (.at a0.2.2.1), .i .i64 (.at a0.2.2.1))]))
 (.ret (.b (.b true)) [] []))
theorem rright.run (a0 : Cells S.ty [.s, .i .i64, .i .i64]) : runFn Tryz.prog Tryz.f39 (bodyOf Tryz.f39) [⟨4, [3], []⟩] (rright.args a0) (rright.giv a0) = rright.T a0 := by kernel_rfl
def lnode.args (a0 : Cells S.ty K0) : List (SV S.ty) := [.agg (cellsSV K0 a0)]
def lnode.giv (a0 : Cells S.ty K0) : List (Nat × Own S.ty) := []
def lnode.T (a0 : Cells S.ty K0) : Tree S.ty :=
 .new 1 <|
 .new 2 <|
 .new 3 <|
 .loop 0 [.i .i64] [K0] [.i .i64 (.i 0)] [((cellsSV K0 a0).set 7 (.s .anil (.n 0) (.n 0)))] fun x0 y0 =>
 .test (.cmp .lss (.at x0.1) (.ofN (.at a0.2.2.2.2.2.2.2.1.2.1)))
 (.ob (.b true) (.idx (.at x0.1) (.at a0.2.2.2.2.2.2.2.1.2.1) (.at a0.2.2.2.2.2.2.2.1.1)) <|
 .uld (.b true) (.at a0.2.2.2.2.2.2.2.1.1) (.mul (.toN (.at x0.1)) 2) [.t, .i .i64] fun x1 =>
 .new 34 <|
 .bi (.b true) (.bi .append #[62, 62] 62) [.s (.at y0.1.2.2.2.2.2.2.2.1.1) (.at y0.1.2.2.2.2.2.2.2.1.2.1) (.at y0.1.2.2.2.2.2.2.2.1.2.2), .os 34 0 1 1] [(34, (cellsSV [.t, .i .i64] x1))] [(false, [.s])] fun x2 =>
 .again 0 [.i .i64 (.bin .add .i64 (.at x0.1) (.i 1))] [((cellsSV K0 y0.1).set 7 (.s (.at x2.1.1) (.at x2.1.2.1) (.at x2.1.2.2)))] [(.i .i64 (.at a0.1), .i .i64 (.at a0.1)), (.i .i64 (.at a0.2.1), .i .i64 (.at a0.2.1)), (.i .i64 (.at a0.2.2.1), .i .i64 (.at a0.2.2.1)), (.i .i64 (.at a0.2.2.2.1), .i .i64 (.at a0.2.2.2.1)), (.i .i64 (.at a0.2.2.2.2.1), .i .i64 (.at a0.2.2.2.2.1)), (.i .i64 (.at a0.2.2.2.2.2.1), .i .i64 (.at a0.2.2.2.2.2.1)), (.t (.at a0.2.2.2.2.2.2.1), .t (.at a0.2.2.2.2.2.2.1)), (.s (.at a0.2.2.2.2.2.2.2.1.1) (.at a0.2.2.2.2.2.2.2.1.2.1) (.at a0.2.2.2.2.2.2.2.1.2.2), .s (.at a0.2.2.2.2.2.2.2.1.1) (.at a0.2.2.2.2.2.2.2.1.2.1) (.at a0.2.2.2.2.2.2.2.1.2.2)), (.i .i64 (.i 0), .i .i64 (.i 0)), (.i .i64 (.i 0), .i .i64 (.i 0)), (.i .i64 (.i 0), .i .i64 (.i 0)), (.i .i64 (.i 0), .i .i64 (.i 0)), (.i .i64 (.i 0), .i .i64 (.i 0)), (.i .i64 (.i 0), .i .i64 (.i 0)), (.t (.t ⟨#[]⟩), .t (.t ⟨#[]⟩)), (.s .anil (.n 0) (.n 0), .s .anil (.n 0) (.n 0))])
 (.ret (.agg (cellsSV K0 y0.1)) [] [])
theorem lnode.run (a0 : Cells S.ty K0) : runFn Tryz.prog Tryz.f27 (bodyOf Tryz.f27) [⟨3, [4], [3]⟩] (lnode.args a0) (lnode.giv a0) = lnode.T a0 := by kernel_rfl
def lits.args (a0 : Cells S.ty [.s, .i .i64, .i .i64]) : List (SV S.ty) := [.agg (cellsSV [.s, .i .i64, .i .i64] a0)]
def lits.giv (a0 : Cells S.ty [.s, .i .i64, .i .i64]) : List (Nat × Own S.ty) := []
def lits.T (a0 : Cells S.ty [.s, .i .i64, .i .i64]) : Tree S.ty :=
 .new 1 <|
 .new 2 <|
 .new 3 <|
 .loop 0 [.i .i64] [[.s, .i .i64, .i .i64]] [.i .i64 (.i 0)] [((cellsSV [.s, .i .i64, .i .i64] a0).set 0 (.s .anil (.n 0) (.n 0)))] fun x0 y0 =>
 .test (.cmp .lss (.at x0.1) (.ofN (.at a0.1.2.1)))
 (.ob (.b true) (.idx (.at x0.1) (.at a0.1.2.1) (.at a0.1.1)) <|
 .uld (.b true) (.at a0.1.1) (.mul (.toN (.at x0.1)) 8) K0 fun x1 =>
 .call (.b true) false 27 [.agg (cellsSV K0 x1)] [] [] [(true, K0)] [] fun x2 y2 =>
 .new 25 <|
 .bi (.b true) (.bi .append #[33, 33] 33) [.s (.at y0.1.1.1) (.at y0.1.1.2.1) (.at y0.1.1.2.2), .os 25 0 1 1] [(25, (cellsSV K0 x2))] [(false, [.s])] fun x3 =>
 .again 0 [.i .i64 (.bin .add .i64 (.at x0.1) (.i 1))] [((cellsSV [.s, .i .i64, .i .i64] y0.1).set 0 (.s (.at x3.1.1) (.at x3.1.2.1) (.at x3.1.2.2)))] [(.s (.at a0.1.1) (.at a0.1.2.1) (.at a0.1.2.2), .s (.at a0.1.1) (.at a0.1.2.1) (.at a0.1.2.2)), (.i .i64 (.at a0.2.1), .i .i64 (.at a0.2.1)), (.i .i64 (.at a0.2.2.1), .i .i64 (.at a0.2.2.1)), (.s .anil (.n 0) (.n 0), .s .anil (.n 0) (.n 0)), (.i .i64 (.i 0), .i .i64 (.i 0)), (.i .i64 (.i 0), .i .i64 (.i 0))])
 (.ret (.agg (cellsSV [.s, .i .i64, .i .i64] y0.1)) [] [])
theorem lits.run (a0 : Cells S.ty [.s, .i .i64, .i .i64]) : runFn Tryz.prog Tryz.f15 (bodyOf Tryz.f15) [⟨3, [4], [3]⟩] (lits.args a0) (lits.giv a0) = lits.T a0 := by kernel_rfl
def lright.args (a0 : Cells S.ty [.s, .i .i64, .i .i64]) : List (SV S.ty) := [.agg (cellsSV [.s, .i .i64, .i .i64] a0)]
def lright.giv (a0 : Cells S.ty [.s, .i .i64, .i .i64]) : List (Nat × Own S.ty) := []
def lright.T (a0 : Cells S.ty [.s, .i .i64, .i .i64]) : Tree S.ty :=
 .new 1 <|
 .loop 0 [.i .i64] [] [.i .i64 (.i 0)] [] fun x0 y0 =>
 .test (.ite (.cmp .lss (.at x0.1) (.ofN (.at a0.1.2.1))) (.cmp .lss (.at x0.1) (.i 110)) (.b false))
 (.ob (.b true) (.idx (.at x0.1) (.at a0.1.2.1) (.at a0.1.1)) <|
 .ob (.b true) (.here (.at a0.1.1)) <|
 .uld (.b true) (.at a0.1.1) (.add (.mul (.toN (.at x0.1)) 8) (.n 6)) [.t] fun x1 =>
 .ob (.not (.cmp .gtr (.len (.at x1.1)) (.i 300))) (.idx (.at x0.1) (.at a0.1.2.1) (.at a0.1.1)) <|
 .ob (.not (.cmp .gtr (.len (.at x1.1)) (.i 300))) (.here (.at a0.1.1)) <|
 .uld (.not (.cmp .gtr (.len (.at x1.1)) (.i 300))) (.at a0.1.1) (.add (.mul (.toN (.at x0.1)) 8) (.n 7)) [.s] fun x2 =>
 .test (.ite (.cmp .gtr (.len (.at x1.1)) (.i 300)) (.b true) (.cmp .gtr (.ofN (.at x2.1.2.1)) (.i 60)))
 (.ret (.b (.b false)) [] [])
 (.again 0 [.i .i64 (.bin .add .i64 (.at x0.1) (.i 1))] [] [(.s (.at a0.1.1) (.at a0.1.2.1) (.at a0.1.2.2), .s (.at a0.1.1) (.at a0.1.2.1) (.at a0.1.2.2)), (.i .i64 (.at a0.2.1), .i .i64 (.at a0.2.1)), (.i .i64 (.at a0.2.2.1), .i .i64 (.at a0.2.2.1))]))
 (.call (.cmp .leq (.ofN (.at a0.1.2.1)) (.i 100)) true 15 [.agg (cellsSV [.s, .i .i64, .i .i64] a0)] [] [] [(true, [.s, .i .i64, .i .i64])] [] fun x1 y1 =>
 .call (.cmp .leq (.ofN (.at a0.1.2.1)) (.i 100)) true 39 [.agg (cellsSV [.s, .i .i64, .i .i64] x1)] [] [] [(false, [.b])] [] fun x2 y2 =>
 .ret (.b (.ite (.cmp .leq (.ofN (.at a0.1.2.1)) (.i 100)) (.at x2.1) (.b false))) [] [])
theorem lright.run (a0 : Cells S.ty [.s, .i .i64, .i .i64]) : runFn Tryz.prog Tryz.f10 (bodyOf Tryz.f10) [⟨2, [3], []⟩] (lright.args a0) (lright.giv a0) = lright.T a0 := by kernel_rfl
end Go.Proofs.YtpfbimkpcnnfkaaGreatDoor.Sx
