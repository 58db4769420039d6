/- By Sx: ChangeRenames. -/
import Derived.Test.YtpfbimkpcnnfkaaGreatDoorSxTh
import Derived.Test.YtpfbimkpcnnfkaaGreatDoorSyW
/- Trees, printed by program. -/
set_option maxRecDepth 100000
set_option linter.unusedVariables false
namespace Go.Proofs.YtpfbimkpcnnfkaaGreatDoor.Sx
open Go Go.RowKit Go.Proofs.YtpfbimkpcnnfkaaGreatDoor
def lRenames.args (a0 : Cells S.ty [.s, .i .i64, .i .i64]) (a1 : Cells S.ty [.i .i64, .i .i64]) (a2 : Cells S.ty [.i .i64, .i .i64]) (a3 : Cells S.ty [.t]) (a4 : Cells S.ty [.t]) : List (SV S.ty) := [.agg (cellsSV [.s, .i .i64, .i .i64] a0), .agg (cellsSV [.i .i64, .i .i64] a1), .agg (cellsSV [.i .i64, .i .i64] a2), .t (.at a3.1), .t (.at a4.1)]
def lRenames.giv (a0 : Cells S.ty [.s, .i .i64, .i .i64]) (a1 : Cells S.ty [.i .i64, .i .i64]) (a2 : Cells S.ty [.i .i64, .i .i64]) (a3 : Cells S.ty [.t]) (a4 : Cells S.ty [.t]) : List (Nat × Own S.ty) := []
def lRenames.T (a0 : Cells S.ty [.s, .i .i64, .i .i64]) (a1 : Cells S.ty [.i .i64, .i .i64]) (a2 : Cells S.ty [.i .i64, .i .i64]) (a3 : Cells S.ty [.t]) (a4 : Cells S.ty [.t]) : Tree S.ty :=
 .new 5 <|
 .new 6 <|
 .new 7 <|
 .call (.b true) true 10 [.agg (cellsSV [.s, .i .i64, .i .i64] a0)] [] [] [(false, [.b])] [] fun x0 y0 =>
 .test (.not (.not (.at x0.1)))
 (.new 21 <|
 .test (.not (.not (.at x0.1)))
 (.call (.b true) true 11 [.os 21 0 2 2] [] [(21, [.t (.at a4.1), .t (.at a3.1)])] [(false, [.b])] [] fun x1 y1 =>
 .call (.not (.ite (.not (.at x0.1)) (.b true) (.not (.at x1.1)))) true 12 [] [] [] [(false, [.b])] [] fun x2 y2 =>
 .test (.ite (.ite (.not (.at x0.1)) (.b true) (.not (.at x1.1))) (.b true) (.not (.at x2.1)))
 (.call (.b true) true 12 [] [] [] [(false, [.b])] [] fun x3 y3 =>
 .ret (.b (.at x3.1)) [] [])
 (.call (.b true) true 13 [.agg (cellsSV [.s, .i .i64, .i .i64] a0), .agg (cellsSV [.i .i64, .i .i64] a1), .agg (cellsSV [.i .i64, .i .i64] a2), .t (.at a3.1), .t (.at a4.1)] [] [] [(true, [.s, .i .i64, .i .i64]), (false, [.i .i64])] [] fun x3 y3 =>
 .new 11 <|
 .call (.b true) false 15 [.agg (cellsSV [.s, .i .i64, .i .i64] a0)] [] [] [(true, [.s, .i .i64, .i .i64])] [] fun x4 y4 =>
 .call (.b true) false 16 [.agg (cellsSV [.i .i64, .i .i64] a1)] [] [] [(true, [.i .i64, .i .i64])] [] fun x5 y5 =>
 .call (.b true) true 16 [.agg (cellsSV [.i .i64, .i .i64] a2)] [] [] [(true, [.i .i64, .i .i64])] [] fun x6 y6 =>
 .call (.b true) true 14 [.agg (cellsSV [.s, .i .i64, .i .i64] x4), .agg (cellsSV [.i .i64, .i .i64] x5), .agg (cellsSV [.i .i64, .i .i64] x6), .t (.at a3.1), .t (.at a4.1)] [] [] [(true, [.s, .i .i64, .i .i64]), (false, [.i .i64])] [] fun x7 y7 =>
 .new 13 <|
 .call (.b true) false 15 [.agg ((cellsSV K5 x3).take 3)] [] [] [(true, [.s, .i .i64, .i .i64])] [] fun x8 y8 =>
 .call (.b true) true 17 [.agg (cellsSV [.s, .i .i64, .i .i64] x8), .agg ((cellsSV K5 x7).take 3)] [] [] [(false, [.b])] [] fun x9 y9 =>
 .ret (.b (.ite (.at x9.1) (.cmp .eql (.at x3.2.2.2.1) (.at x7.2.2.2.1)) (.b false))) [] []))
 (.call (.not (.ite (.not (.at x0.1)) (.b true) (.not (.b false)))) true 12 [] [] [] [(false, [.b])] [] fun x1 y1 =>
 .test (.ite (.ite (.not (.at x0.1)) (.b true) (.not (.b false))) (.b true) (.not (.at x1.1)))
 (.call (.b true) true 12 [] [] [] [(false, [.b])] [] fun x2 y2 =>
 .ret (.b (.at x2.1)) [] [])
 (.call (.b true) true 13 [.agg (cellsSV [.s, .i .i64, .i .i64] a0), .agg (cellsSV [.i .i64, .i .i64] a1), .agg (cellsSV [.i .i64, .i .i64] a2), .t (.at a3.1), .t (.at a4.1)] [] [] [(true, [.s, .i .i64, .i .i64]), (false, [.i .i64])] [] fun x2 y2 =>
 .new 11 <|
 .call (.b true) false 15 [.agg (cellsSV [.s, .i .i64, .i .i64] a0)] [] [] [(true, [.s, .i .i64, .i .i64])] [] fun x3 y3 =>
 .call (.b true) false 16 [.agg (cellsSV [.i .i64, .i .i64] a1)] [] [] [(true, [.i .i64, .i .i64])] [] fun x4 y4 =>
 .call (.b true) true 16 [.agg (cellsSV [.i .i64, .i .i64] a2)] [] [] [(true, [.i .i64, .i .i64])] [] fun x5 y5 =>
 .call (.b true) true 14 [.agg (cellsSV [.s, .i .i64, .i .i64] x3), .agg (cellsSV [.i .i64, .i .i64] x4), .agg (cellsSV [.i .i64, .i .i64] x5), .t (.at a3.1), .t (.at a4.1)] [] [] [(true, [.s, .i .i64, .i .i64]), (false, [.i .i64])] [] fun x6 y6 =>
 .new 13 <|
 .call (.b true) false 15 [.agg ((cellsSV K5 x2).take 3)] [] [] [(true, [.s, .i .i64, .i .i64])] [] fun x7 y7 =>
 .call (.b true) true 17 [.agg (cellsSV [.s, .i .i64, .i .i64] x7), .agg ((cellsSV K5 x6).take 3)] [] [] [(false, [.b])] [] fun x8 y8 =>
 .ret (.b (.ite (.at x8.1) (.cmp .eql (.at x2.2.2.2.1) (.at x6.2.2.2.1)) (.b false))) [] [])))
 (.call (.not (.not (.at x0.1))) true 11 [.s .anil (.n 0) (.n 0)] [] [] [(false, [.b])] [] fun x1 y1 =>
 .call (.not (.ite (.not (.at x0.1)) (.b true) (.not (.at x1.1)))) true 12 [] [] [] [(false, [.b])] [] fun x2 y2 =>
 .test (.ite (.ite (.not (.at x0.1)) (.b true) (.not (.at x1.1))) (.b true) (.not (.at x2.1)))
 (.call (.b true) true 12 [] [] [] [(false, [.b])] [] fun x3 y3 =>
 .ret (.b (.at x3.1)) [] [])
 (.call (.b true) true 13 [.agg (cellsSV [.s, .i .i64, .i .i64] a0), .agg (cellsSV [.i .i64, .i .i64] a1), .agg (cellsSV [.i .i64, .i .i64] a2), .t (.at a3.1), .t (.at a4.1)] [] [] [(true, [.s, .i .i64, .i .i64]), (false, [.i .i64])] [] fun x3 y3 =>
 .new 11 <|
 .call (.b true) false 15 [.agg (cellsSV [.s, .i .i64, .i .i64] a0)] [] [] [(true, [.s, .i .i64, .i .i64])] [] fun x4 y4 =>
 .call (.b true) false 16 [.agg (cellsSV [.i .i64, .i .i64] a1)] [] [] [(true, [.i .i64, .i .i64])] [] fun x5 y5 =>
 .call (.b true) true 16 [.agg (cellsSV [.i .i64, .i .i64] a2)] [] [] [(true, [.i .i64, .i .i64])] [] fun x6 y6 =>
 .call (.b true) true 14 [.agg (cellsSV [.s, .i .i64, .i .i64] x4), .agg (cellsSV [.i .i64, .i .i64] x5), .agg (cellsSV [.i .i64, .i .i64] x6), .t (.at a3.1), .t (.at a4.1)] [] [] [(true, [.s, .i .i64, .i .i64]), (false, [.i .i64])] [] fun x7 y7 =>
 .new 13 <|
 .call (.b true) false 15 [.agg ((cellsSV K5 x3).take 3)] [] [] [(true, [.s, .i .i64, .i .i64])] [] fun x8 y8 =>
 .call (.b true) true 17 [.agg (cellsSV [.s, .i .i64, .i .i64] x8), .agg ((cellsSV K5 x7).take 3)] [] [] [(false, [.b])] [] fun x9 y9 =>
 .ret (.b (.ite (.at x9.1) (.cmp .eql (.at x3.2.2.2.1) (.at x7.2.2.2.1)) (.b false))) [] []))
theorem lRenames.run (a0 : Cells S.ty [.s, .i .i64, .i .i64]) (a1 : Cells S.ty [.i .i64, .i .i64]) (a2 : Cells S.ty [.i .i64, .i .i64]) (a3 : Cells S.ty [.t]) (a4 : Cells S.ty [.t]) : runFn Tryz.prog Tryz.f3 (bodyOf Tryz.f3) [] (lRenames.args a0 a1 a2 a3 a4) (lRenames.giv a0 a1 a2 a3 a4) = lRenames.T a0 a1 a2 a3 a4 := by kernel_rfl
end Go.Proofs.YtpfbimkpcnnfkaaGreatDoor.Sx
set_option maxRecDepth 100000
set_option linter.unusedVariables false
set_option linter.unusedSimpArgs false
namespace Go.Proofs.YtpfbimkpcnnfkaaGreatDoor.Sx
open Go Go.RowKit Go.Proofs.YtpfbimkpcnnfkaaGreatDoor Go.Proofs.YtpfbimkpcnnfkaaGreatDoor.Ext
theorem ChangeRenames.cv (A : Option Addr) (c : Nat) (ns : List Nd) (m r wa fa wb fb : Int) (old path : ByteArray) (u : Mem) (hd : DiskAt u A ns) (hnm : ∀ n ∈ ns, ∀ e ∈ n.f7, e.f0.size ≤ 1000000000000000) (hg : EgM u) (s : Addr) (hs : EsM s u) :
  CV Tryz.prog 3 [.agg #[.slice A ns.length c, .int .i64 m, .int .i64 r], .agg #[.int .i64 wa, .int .i64 fa], .agg #[.int .i64 wb, .int .i64 fb], .string old, .string path] [] u fun v cs _ => cs = [] ∧ v = .bool true := by
 refine cv_of names draws (fn := Tryz.f3) (b := bodyOf Tryz.f3) rfl rfl [] (lRenames.args ((A, ns.length, c), m, r, ()) (wa, fa, ()) (wb, fb, ()) (old, ()) (path, ())) (lRenames.giv _ _ _ _ _) (fun _ => 0) (lRenames.run _ _ _ _ _) (by kernel_rfl) rfl rfl ?_
 unfold lRenames.T
 intro b5 hb5 b6 hb6 b7 hb7
 refine hold_call ((lright.cv A c ns m r u hd hnm).mono fun v cs u1 hu1 ⟨hc, hv⟩ => ⟨(okF ns m r, ()), (), hv, hc, ?_⟩)
 refine hold_open (l := [path, old]) (s := s) (hg.mono hu1) (hs.mono hu1) rfl (by decide) (fun _ => rfl) fun hok hsh b21 x2 u2 hu12 => ?_
 obtain ⟨hp, ho⟩ := short_two hsh
 have hu2 := Mem.le_trans hu1 hu12
 have h8 := ok8_of hok
 have hL := h8.nsl
 have hRt : Rt ns := rt_of (by unfold okF at hok; rw [Bool.and_eq_true, Bool.and_eq_true] at hok; exact hok.2.2)
 have hLr := hL.ren wa fa wb fb old path
 have hE := ren_eq hRt wa fa wb fb old path
 have hren := ren_.cv A c ns m r u2 (hd.mono hu2) h8 (hg.mono hu2) s (hs.mono hu2) wa fa wb fb old path (by omega) (by omega)
 generalize hw : renF ns wa fa wb fb old path = w at hLr hE hren
 obtain ⟨ns', e⟩ := w
 refine hold_call (hren.mono fun v cs u3 hu3 ⟨hc, A3, c3, hv, hd3⟩ => ⟨((A3, ns'.length, c3), m, r, e, ()), (), hv, hc, fun b11 hb11 => ?_⟩)
 have hu3 := Mem.le_trans hu2 hu3
 refine hold_call ((its_same (by decide) A c ns m r u3 (hd.mono hu3) hL).mono fun v cs u4 hu4 ⟨hc, A4, c4, hv, hd4⟩ => ⟨((A4, ns.length, c4), m, r, ()), (), hv, hc, ?_⟩)
 refine hold_call ((las.cv u4 wa fa).mono fun v cs u5 hu5 ⟨hc, hv⟩ => ⟨(wa, fa, ()), (), hv, hc, ?_⟩)
 refine hold_call ((las.cv u5 wb fb).mono fun v cs u6 hu6 ⟨hc, hv⟩ => ⟨(wb, fb, ()), (), hv, hc, ?_⟩)
 have hu46 := Mem.le_trans hu5 hu6
 have hr := r8ren.cv A4 c4 ns m r u6 (hd4.mono hu46) h8 wa fa wb fb old path (by omega) (by omega)
 rw [hE] at hr
 refine hold_call (hr.mono fun v cs u7 hu7 ⟨hc, A7, c7, hv, hd7⟩ => ⟨((A7, ns'.length, c7), m, r, e, ()), (), hv, hc, fun b13 hb13 => ?_⟩)
 have hu37 := Mem.le_trans hu4 (Mem.le_trans hu46 hu7)
 refine hold_call ((its_same (by decide) A3 c3 ns' m r u7 (hd3.mono hu37) hLr).mono fun v cs u8 hu8 ⟨hc, A8, c8, hv, hd8⟩ => ⟨((A8, ns'.length, c8), m, r, ()), (), hv, hc, ?_⟩)
 refine hold_call ((same_self (by decide) A8 A7 c8 c7 ns' m r u8 hd8 (hd7.mono hu8) hLr).mono fun v cs u9 hu9 ⟨hc, hv⟩ => ⟨(true, ()), (), hv, hc, rfl, ?_⟩)
 simp only [SV.den, E.den, cT_self, cond_true]
end Go.Proofs.YtpfbimkpcnnfkaaGreatDoor.Sx
