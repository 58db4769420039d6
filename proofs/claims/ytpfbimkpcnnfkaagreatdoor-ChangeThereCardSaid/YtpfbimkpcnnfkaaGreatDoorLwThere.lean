/- By Sx: ChangeThere. -/
import Derived.Test.YtpfbimkpcnnfkaaGreatDoorSxTh
import Derived.Test.YtpfbimkpcnnfkaaGreatDoorSzH
/- Trees, printed by program. -/
set_option maxRecDepth 100000
set_option linter.unusedVariables false
namespace Go.Proofs.YtpfbimkpcnnfkaaGreatDoor.Sx
open Go Go.RowKit Go.Proofs.YtpfbimkpcnnfkaaGreatDoor
def lThere.args (a0 : Cells S.ty [.s, .i .i64, .i .i64]) (a1 : Cells S.ty [.i .i64, .i .i64]) (a2 : Cells S.ty [.t]) (a3 : Cells S.ty [.i .i64]) : List (SV S.ty) := [.agg (cellsSV [.s, .i .i64, .i .i64] a0), .agg (cellsSV [.i .i64, .i .i64] a1), .t (.at a2.1), .i .i64 (.at a3.1)]
def lThere.giv (a0 : Cells S.ty [.s, .i .i64, .i .i64]) (a1 : Cells S.ty [.i .i64, .i .i64]) (a2 : Cells S.ty [.t]) (a3 : Cells S.ty [.i .i64]) : List (Nat × Own S.ty) := []
def lThere.T (a0 : Cells S.ty [.s, .i .i64, .i .i64]) (a1 : Cells S.ty [.i .i64, .i .i64]) (a2 : Cells S.ty [.t]) (a3 : Cells S.ty [.i .i64]) : Tree S.ty :=
 .new 4 <|
 .new 5 <|
 .call (.b true) true 10 [.agg (cellsSV [.s, .i .i64, .i .i64] a0)] [] [] [(false, [.b])] [] fun x0 y0 =>
 .test (.not (.not (.at x0.1)))
 (.new 30 <|
 .test (.not (.not (.at x0.1)))
 (.call (.b true) true 11 [.os 30 0 1 1] [] [(30, [.t (.at a2.1)])] [(false, [.b])] [] fun x1 y1 =>
 .call (.not (.ite (.not (.at x0.1)) (.b true) (.not (.at x1.1)))) true 12 [] [] [] [(false, [.b])] [] fun x2 y2 =>
 .test (.ite (.ite (.not (.at x0.1)) (.b true) (.not (.at x1.1))) (.b true) (.not (.at x2.1)))
 (.call (.b true) true 12 [] [] [] [(false, [.b])] [] fun x3 y3 =>
 .ret (.b (.at x3.1)) [] [])
 (.call (.b true) true 18 [.agg (cellsSV [.s, .i .i64, .i .i64] a0), .agg (cellsSV [.i .i64, .i .i64] a1), .t (.at a2.1), .i .i64 (.at a3.1)] [] [] [(true, [.s, .i .i64, .i .i64]), (false, [.i .i64]), (false, [.i .i64])] [] fun x3 y3 =>
 .new 9 <|
 .test (.cmp .eql (.at x3.2.2.2.2.1) (.i 0))
 (.call (.b true) false 15 [.agg ((cellsSV K8 x3).take 3)] [] [] [(true, [.s, .i .i64, .i .i64])] [] fun x4 y4 =>
 .call (.b true) true 23 [.agg (cellsSV [.s, .i .i64, .i .i64] x4), .i .i64 (.at a1.1), .i .i64 (.at a1.2.1), .t (.at a2.1), .b (.b false)] [] [] [(false, [.i .i64]), (false, [.i .i64])] [] fun x5 y5 =>
 .call (.b true) true 18 [.agg ((cellsSV K8 x3).take 3), .agg (cellsSV [.i .i64, .i .i64] a1), .t (.at a2.1), .i .i64 (.at a3.1)] [] [] [(true, [.s, .i .i64, .i .i64]), (false, [.i .i64]), (false, [.i .i64])] [] fun x6 y6 =>
 .new 14 <|
 .call (.b true) true 19 [.agg ((cellsSV K8 x3).take 3), .agg (cellsSV [.i .i64, .i .i64] a1), .t (.at a2.1), .i .i64 (.at a3.1)] [] [] [(true, [.s, .i .i64, .i .i64]), (false, [.i .i64])] [] fun x7 y7 =>
 .new 17 <|
 .call (.b true) true 24 [.agg ((cellsSV K8 x3).take 3), .i .i64 (.at x3.2.2.2.1)] [] [] [(true, K0), (false, [.b])] [] fun x8 y8 =>
 .new 19 <|
 .test (.ite (.ite (.ite (.ite (.ite (.ite (.ite (.cmp .neq (.at x5.2.1) (.i 0)) (.b true) (.cmp .neq (.at x3.2.2.2.1) (.at x5.1))) (.b true) (.cmp .neq (.at x6.2.2.2.2.1) (.i 3))) (.b true) (.cmp .neq (.at x7.2.2.2.1) (.i 3))) (.b true) (.not (.at x8.2.2.2.2.2.2.2.2.1))) (.b true) (.cmp .neq (.at x8.1) (.i 1))) (.b true) (.scmp .neq (.at x8.2.2.2.2.2.2.1) (.t ⟨#[]⟩))) (.b true) (.cmp .neq (.at x8.2.2.2.1) (.i 1)))
 (.ret (.b (.b false)) [] [])
 (.call (.b true) true 20 [.agg (cellsSV [.s, .i .i64, .i .i64] a0), .agg (cellsSV [.i .i64, .i .i64] a1), .t (.at a2.1)] [] [] [(true, [.s, .i .i64, .i .i64]), (false, [.i .i64])] [] fun x9 y9 =>
 .new 21 <|
 .test (.cmp .eql (.at x9.2.2.2.1) (.i 0))
 (.call (.b true) false 15 [.agg ((cellsSV K5 x9).take 3)] [] [] [(true, [.s, .i .i64, .i .i64])] [] fun x10 y10 =>
 .call (.b true) true 23 [.agg (cellsSV [.s, .i .i64, .i .i64] x10), .i .i64 (.at a1.1), .i .i64 (.at a1.2.1), .t (.at a2.1), .b (.b false)] [] [] [(false, [.i .i64]), (false, [.i .i64])] [] fun x11 y11 =>
 .test (.cmp .neq (.at x11.2.1) (.i 2))
 (.ret (.b (.b false)) [] [])
 (.ret (.b (.b true)) [] []))
 (.ret (.b (.b true)) [] [])))
 (.call (.b true) true 20 [.agg (cellsSV [.s, .i .i64, .i .i64] a0), .agg (cellsSV [.i .i64, .i .i64] a1), .t (.at a2.1)] [] [] [(true, [.s, .i .i64, .i .i64]), (false, [.i .i64])] [] fun x4 y4 =>
 .new 21 <|
 .test (.cmp .eql (.at x4.2.2.2.1) (.i 0))
 (.call (.b true) false 15 [.agg ((cellsSV K5 x4).take 3)] [] [] [(true, [.s, .i .i64, .i .i64])] [] fun x5 y5 =>
 .call (.b true) true 23 [.agg (cellsSV [.s, .i .i64, .i .i64] x5), .i .i64 (.at a1.1), .i .i64 (.at a1.2.1), .t (.at a2.1), .b (.b false)] [] [] [(false, [.i .i64]), (false, [.i .i64])] [] fun x6 y6 =>
 .test (.cmp .neq (.at x6.2.1) (.i 2))
 (.ret (.b (.b false)) [] [])
 (.ret (.b (.b true)) [] []))
 (.ret (.b (.b true)) [] []))))
 (.call (.not (.ite (.not (.at x0.1)) (.b true) (.not (.b false)))) true 12 [] [] [] [(false, [.b])] [] fun x1 y1 =>
 .test (.ite (.ite (.not (.at x0.1)) (.b true) (.not (.b false))) (.b true) (.not (.at x1.1)))
 (.call (.b true) true 12 [] [] [] [(false, [.b])] [] fun x2 y2 =>
 .ret (.b (.at x2.1)) [] [])
 (.call (.b true) true 18 [.agg (cellsSV [.s, .i .i64, .i .i64] a0), .agg (cellsSV [.i .i64, .i .i64] a1), .t (.at a2.1), .i .i64 (.at a3.1)] [] [] [(true, [.s, .i .i64, .i .i64]), (false, [.i .i64]), (false, [.i .i64])] [] fun x2 y2 =>
 .new 9 <|
 .test (.cmp .eql (.at x2.2.2.2.2.1) (.i 0))
 (.call (.b true) false 15 [.agg ((cellsSV K8 x2).take 3)] [] [] [(true, [.s, .i .i64, .i .i64])] [] fun x3 y3 =>
 .call (.b true) true 23 [.agg (cellsSV [.s, .i .i64, .i .i64] x3), .i .i64 (.at a1.1), .i .i64 (.at a1.2.1), .t (.at a2.1), .b (.b false)] [] [] [(false, [.i .i64]), (false, [.i .i64])] [] fun x4 y4 =>
 .call (.b true) true 18 [.agg ((cellsSV K8 x2).take 3), .agg (cellsSV [.i .i64, .i .i64] a1), .t (.at a2.1), .i .i64 (.at a3.1)] [] [] [(true, [.s, .i .i64, .i .i64]), (false, [.i .i64]), (false, [.i .i64])] [] fun x5 y5 =>
 .new 14 <|
 .call (.b true) true 19 [.agg ((cellsSV K8 x2).take 3), .agg (cellsSV [.i .i64, .i .i64] a1), .t (.at a2.1), .i .i64 (.at a3.1)] [] [] [(true, [.s, .i .i64, .i .i64]), (false, [.i .i64])] [] fun x6 y6 =>
 .new 17 <|
 .call (.b true) true 24 [.agg ((cellsSV K8 x2).take 3), .i .i64 (.at x2.2.2.2.1)] [] [] [(true, K0), (false, [.b])] [] fun x7 y7 =>
 .new 19 <|
 .test (.ite (.ite (.ite (.ite (.ite (.ite (.ite (.cmp .neq (.at x4.2.1) (.i 0)) (.b true) (.cmp .neq (.at x2.2.2.2.1) (.at x4.1))) (.b true) (.cmp .neq (.at x5.2.2.2.2.1) (.i 3))) (.b true) (.cmp .neq (.at x6.2.2.2.1) (.i 3))) (.b true) (.not (.at x7.2.2.2.2.2.2.2.2.1))) (.b true) (.cmp .neq (.at x7.1) (.i 1))) (.b true) (.scmp .neq (.at x7.2.2.2.2.2.2.1) (.t ⟨#[]⟩))) (.b true) (.cmp .neq (.at x7.2.2.2.1) (.i 1)))
 (.ret (.b (.b false)) [] [])
 (.call (.b true) true 20 [.agg (cellsSV [.s, .i .i64, .i .i64] a0), .agg (cellsSV [.i .i64, .i .i64] a1), .t (.at a2.1)] [] [] [(true, [.s, .i .i64, .i .i64]), (false, [.i .i64])] [] fun x8 y8 =>
 .new 21 <|
 .test (.cmp .eql (.at x8.2.2.2.1) (.i 0))
 (.call (.b true) false 15 [.agg ((cellsSV K5 x8).take 3)] [] [] [(true, [.s, .i .i64, .i .i64])] [] fun x9 y9 =>
 .call (.b true) true 23 [.agg (cellsSV [.s, .i .i64, .i .i64] x9), .i .i64 (.at a1.1), .i .i64 (.at a1.2.1), .t (.at a2.1), .b (.b false)] [] [] [(false, [.i .i64]), (false, [.i .i64])] [] fun x10 y10 =>
 .test (.cmp .neq (.at x10.2.1) (.i 2))
 (.ret (.b (.b false)) [] [])
 (.ret (.b (.b true)) [] []))
 (.ret (.b (.b true)) [] [])))
 (.call (.b true) true 20 [.agg (cellsSV [.s, .i .i64, .i .i64] a0), .agg (cellsSV [.i .i64, .i .i64] a1), .t (.at a2.1)] [] [] [(true, [.s, .i .i64, .i .i64]), (false, [.i .i64])] [] fun x3 y3 =>
 .new 21 <|
 .test (.cmp .eql (.at x3.2.2.2.1) (.i 0))
 (.call (.b true) false 15 [.agg ((cellsSV K5 x3).take 3)] [] [] [(true, [.s, .i .i64, .i .i64])] [] fun x4 y4 =>
 .call (.b true) true 23 [.agg (cellsSV [.s, .i .i64, .i .i64] x4), .i .i64 (.at a1.1), .i .i64 (.at a1.2.1), .t (.at a2.1), .b (.b false)] [] [] [(false, [.i .i64]), (false, [.i .i64])] [] fun x5 y5 =>
 .test (.cmp .neq (.at x5.2.1) (.i 2))
 (.ret (.b (.b false)) [] [])
 (.ret (.b (.b true)) [] []))
 (.ret (.b (.b true)) [] [])))))
 (.call (.not (.not (.at x0.1))) true 11 [.s .anil (.n 0) (.n 0)] [] [] [(false, [.b])] [] fun x1 y1 =>
 .call (.not (.ite (.not (.at x0.1)) (.b true) (.not (.at x1.1)))) true 12 [] [] [] [(false, [.b])] [] fun x2 y2 =>
 .test (.ite (.ite (.not (.at x0.1)) (.b true) (.not (.at x1.1))) (.b true) (.not (.at x2.1)))
 (.call (.b true) true 12 [] [] [] [(false, [.b])] [] fun x3 y3 =>
 .ret (.b (.at x3.1)) [] [])
 (.call (.b true) true 18 [.agg (cellsSV [.s, .i .i64, .i .i64] a0), .agg (cellsSV [.i .i64, .i .i64] a1), .t (.at a2.1), .i .i64 (.at a3.1)] [] [] [(true, [.s, .i .i64, .i .i64]), (false, [.i .i64]), (false, [.i .i64])] [] fun x3 y3 =>
 .new 9 <|
 .test (.cmp .eql (.at x3.2.2.2.2.1) (.i 0))
 (.call (.b true) false 15 [.agg ((cellsSV K8 x3).take 3)] [] [] [(true, [.s, .i .i64, .i .i64])] [] fun x4 y4 =>
 .call (.b true) true 23 [.agg (cellsSV [.s, .i .i64, .i .i64] x4), .i .i64 (.at a1.1), .i .i64 (.at a1.2.1), .t (.at a2.1), .b (.b false)] [] [] [(false, [.i .i64]), (false, [.i .i64])] [] fun x5 y5 =>
 .call (.b true) true 18 [.agg ((cellsSV K8 x3).take 3), .agg (cellsSV [.i .i64, .i .i64] a1), .t (.at a2.1), .i .i64 (.at a3.1)] [] [] [(true, [.s, .i .i64, .i .i64]), (false, [.i .i64]), (false, [.i .i64])] [] fun x6 y6 =>
 .new 14 <|
 .call (.b true) true 19 [.agg ((cellsSV K8 x3).take 3), .agg (cellsSV [.i .i64, .i .i64] a1), .t (.at a2.1), .i .i64 (.at a3.1)] [] [] [(true, [.s, .i .i64, .i .i64]), (false, [.i .i64])] [] fun x7 y7 =>
 .new 17 <|
 .call (.b true) true 24 [.agg ((cellsSV K8 x3).take 3), .i .i64 (.at x3.2.2.2.1)] [] [] [(true, K0), (false, [.b])] [] fun x8 y8 =>
 .new 19 <|
 .test (.ite (.ite (.ite (.ite (.ite (.ite (.ite (.cmp .neq (.at x5.2.1) (.i 0)) (.b true) (.cmp .neq (.at x3.2.2.2.1) (.at x5.1))) (.b true) (.cmp .neq (.at x6.2.2.2.2.1) (.i 3))) (.b true) (.cmp .neq (.at x7.2.2.2.1) (.i 3))) (.b true) (.not (.at x8.2.2.2.2.2.2.2.2.1))) (.b true) (.cmp .neq (.at x8.1) (.i 1))) (.b true) (.scmp .neq (.at x8.2.2.2.2.2.2.1) (.t ⟨#[]⟩))) (.b true) (.cmp .neq (.at x8.2.2.2.1) (.i 1)))
 (.ret (.b (.b false)) [] [])
 (.call (.b true) true 20 [.agg (cellsSV [.s, .i .i64, .i .i64] a0), .agg (cellsSV [.i .i64, .i .i64] a1), .t (.at a2.1)] [] [] [(true, [.s, .i .i64, .i .i64]), (false, [.i .i64])] [] fun x9 y9 =>
 .new 21 <|
 .test (.cmp .eql (.at x9.2.2.2.1) (.i 0))
 (.call (.b true) false 15 [.agg ((cellsSV K5 x9).take 3)] [] [] [(true, [.s, .i .i64, .i .i64])] [] fun x10 y10 =>
 .call (.b true) true 23 [.agg (cellsSV [.s, .i .i64, .i .i64] x10), .i .i64 (.at a1.1), .i .i64 (.at a1.2.1), .t (.at a2.1), .b (.b false)] [] [] [(false, [.i .i64]), (false, [.i .i64])] [] fun x11 y11 =>
 .test (.cmp .neq (.at x11.2.1) (.i 2))
 (.ret (.b (.b false)) [] [])
 (.ret (.b (.b true)) [] []))
 (.ret (.b (.b true)) [] [])))
 (.call (.b true) true 20 [.agg (cellsSV [.s, .i .i64, .i .i64] a0), .agg (cellsSV [.i .i64, .i .i64] a1), .t (.at a2.1)] [] [] [(true, [.s, .i .i64, .i .i64]), (false, [.i .i64])] [] fun x4 y4 =>
 .new 21 <|
 .test (.cmp .eql (.at x4.2.2.2.1) (.i 0))
 (.call (.b true) false 15 [.agg ((cellsSV K5 x4).take 3)] [] [] [(true, [.s, .i .i64, .i .i64])] [] fun x5 y5 =>
 .call (.b true) true 23 [.agg (cellsSV [.s, .i .i64, .i .i64] x5), .i .i64 (.at a1.1), .i .i64 (.at a1.2.1), .t (.at a2.1), .b (.b false)] [] [] [(false, [.i .i64]), (false, [.i .i64])] [] fun x6 y6 =>
 .test (.cmp .neq (.at x6.2.1) (.i 2))
 (.ret (.b (.b false)) [] [])
 (.ret (.b (.b true)) [] []))
 (.ret (.b (.b true)) [] []))))
theorem lThere.run (a0 : Cells S.ty [.s, .i .i64, .i .i64]) (a1 : Cells S.ty [.i .i64, .i .i64]) (a2 : Cells S.ty [.t]) (a3 : Cells S.ty [.i .i64]) : runFn Tryz.prog Tryz.f5 (bodyOf Tryz.f5) [] (lThere.args a0 a1 a2 a3) (lThere.giv a0 a1 a2 a3) = lThere.T a0 a1 a2 a3 := by kernel_rfl
end Go.Proofs.YtpfbimkpcnnfkaaGreatDoor.Sx
set_option maxRecDepth 100000
set_option linter.unusedVariables false
set_option linter.unusedSimpArgs false
namespace Go.Proofs.YtpfbimkpcnnfkaaGreatDoor.Sx
open Go Go.RowKit Go.Proofs.YtpfbimkpcnnfkaaGreatDoor Go.Proofs.YtpfbimkpcnnfkaaGreatDoor.Ext
theorem NsOk.set {a : List Nd} (h : NsOk a) (i : Int) {n : Nd} (hn : NdOk n) : NsOk (setL a i n) := by
 refine ⟨by rw [setL_len]; exact h.len, fun x hx => ?_⟩
 unfold setL at hx
 split at hx
 ·rcases List.mem_or_eq_of_mem_set hx with hx | rfl
  ·exact h.all_ x hx
  ·exact hn
 ·exact h.all_ x hx
theorem lose_ok {ns : List Nd} (h : Ok8 ns) (s : Sp) : Ok8 (loseN ns s) := by
 refine ⟨?_, by rw [lose_len]; exact h.len, h.ris.lose s⟩
 have h1 : NsOk (dropN ns s) := h.ok.set _ (by
  have g := h.ok.get s.f0
  exact ⟨Nat.le_trans (List.length_filter_le _ _) g.names, fun part => (rising_filter (h.ris.get s.f0).rise _).sorted part, g.data, g.up, fun e he => g.inos e (mem_drop.1 he).1, g.mode⟩)
 have h2 : NsOk (turnF (dropN ns s) s.f2 nLess) := h1.set _ (by
  have g := h1.get s.f2
  refine ⟨g.names, g.sorted, g.data, fun hk => ?_, g.inos, g.mode⟩
  have hk : (getL (dropN ns s) s.f2).f0 = 2 := hk
  show 0 ≤ (if (getL (dropN ns s) s.f2).f0 = 2 then 0 else (getL (dropN ns s) s.f2).f5)
  rw [if_pos hk]; decide)
 unfold loseN settleF
 split
 ·exact h2.set _ zNd_9.ok
 ·exact h2
theorem unl_ok {ns : List Nd} (h : Ok8 ns) (who from_ : Int) (path : ByteArray) : Ok8 (unlF ns who from_ path).1 := by
 unfold unlF
 split
 ·exact h
 split
 ·exact h
 split
 ·exact h
 exact lose_ok h _
theorem ChangeThere.cv (A : Option Addr) (c : Nat) (ns : List Nd) (m r who from_ : Int) (path : ByteArray) (mode : Int) (u : Mem) (hd : DiskAt u A ns) (hnm : ∀ n ∈ ns, ∀ e ∈ n.f7, e.f0.size ≤ 1000000000000000) (hg : EgM u) (s : Addr) (hs : EsM s u) :
  CV Tryz.prog 5 [.agg #[.slice A ns.length c, .int .i64 m, .int .i64 r], .agg #[.int .i64 who, .int .i64 from_], .string path, .int .i64 mode] [] u fun v cs _ => cs = [] ∧ v = .bool true := by
 refine cv_of names draws (fn := Tryz.f5) (b := bodyOf Tryz.f5) rfl rfl [] (lThere.args ((A, ns.length, c), m, r, ()) (who, from_, ()) (path, ()) (mode, ())) (lThere.giv _ _ _ _) (fun _ => 0) (lThere.run _ _ _ _) (by kernel_rfl) rfl rfl ?_
 unfold lThere.T
 intro b5 hb5 b6 hb6
 refine hold_call ((lright.cv A c ns m r u hd hnm).mono fun v cs u1 hu1 ⟨hc, hv⟩ => ⟨(okF ns m r, ()), (), hv, hc, ?_⟩)
 refine hold_open (l := [path]) (s := s) (hg.mono hu1) (hs.mono hu1) rfl (by decide) (fun _ => rfl) fun hok hsh b21 x2 u2 hu12 => ?_
 have hp := short_one hsh
 have hu2 := Mem.le_trans hu1 hu12
 have h8 := ok8_of hok
 have hG := unl_gone (who := who) (from_ := from_) (path := path) hok
 have hOkY := unl_ok h8 who from_ path
 have h1 := make_.cv A c ns m r u2 (hd.mono hu2) h8 (hg.mono hu2) s (hs.mono hu2) who from_ path mode (by omega)
 have hB1 : (makeF ns m r who from_ path mode).2.2 = 0 → ∃ t N, Entered ns (makeF ns m r who from_ path mode).1 who from_ path t N ∧ (makeF ns m r who from_ path mode).2.1 = t.f2 ∧ N.f0 = 1 ∧ N.f6 = ⟨#[]⟩ ∧ N.f3 = 1 := fun h0 => by
  obtain ⟨t, N, k0, k6, k7, k3, hE, hi⟩ := entered (n := fileN mode) (slash := 5) hok (fileN_9 mode) rfl (.inl rfl) (fun h => absurd h (by decide)) h0
  exact ⟨t, N, hE, hi, k0, k6, k3⟩
 generalize makeF ns m r who from_ path mode = w1 at h1 hB1
 obtain ⟨n1, i1, e1⟩ := w1
 have hB1 : e1 = 0 → ∃ t N, Entered ns n1 who from_ path t N ∧ i1 = t.f2 ∧ N.f0 = 1 ∧ N.f6 = ⟨#[]⟩ ∧ N.f3 = 1 := hB1
 have hii : e1 = 0 → (if e1 = 0 then i1 else 0) = i1 := fun h => if_pos h
 have h1 : CV Tryz.prog 18 _ [] u2 fun v cs u' => cs = [] ∧ ∃ A' c', v = .tuple #[.agg #[.slice A' n1.length c', .int .i64 m, .int .i64 r], .int .i64 (if e1 = 0 then i1 else 0), .int .i64 e1] ∧ DiskAt u' A' n1 := h1
 generalize (if e1 = 0 then i1 else 0) = ii at h1 hii
 refine hold_call (h1.mono fun v cs u3 hu3 ⟨hc, A3, c3, hv, hd3⟩ => ⟨((A3, n1.length, c3), m, r, ii, e1, ()), (), hv, hc, fun b9 hb9 => ?_⟩)
 have hu3' := Mem.le_trans hu2 hu3
 refine ⟨fun h => ?_, fun h => ?_⟩
 ·simp only [E.den, cT_eql] at h
  have h : e1 = 0 := h
  obtain ⟨t, N, hE, hi, k0, k6, k3⟩ := hB1 h
  have hit : ii = t.f2 := (hii h).trans hi
  refine hold_call ((its_same (by decide) A3 c3 n1 m r u3 hd3 hE.ok.nsl).mono fun v cs u4 hu4 ⟨hc, A4, c4, hv, hd4⟩ => ⟨((A4, n1.length, c4), m, r, ()), (), hv, hc, ?_⟩)
  have hrn := fun u hd => rnode.cv A4 c4 n1 m r who from_ path false u hd hE.ok.ok (by omega)
  rw [hE.node] at hrn
  refine hold_call ((hrn u4 hd4).mono fun v cs u5 hu5 ⟨hc, hv⟩ => ⟨(t.f2, (0 : Int), ()), (), hv, hc, ?_⟩)
  have q35 := Mem.le_trans hu4 hu5
  have hu5' := Mem.le_trans hu3' q35
  have hm2 := make_.cv A3 c3 n1 m r u5 (hd3.mono q35) hE.ok (hg.mono hu5') s (hs.mono hu5') who from_ path mode (by omega)
  have hd2 := fun u hd hg hs => mkdir_.cv A3 c3 n1 m r u hd hE.ok hg s hs who from_ path mode (by omega)
  have g1 : (makeF n1 m r who from_ path mode).2.2 = 3 := hE.again m r (fileN mode) 5
  have g2 : (mkdirF n1 m r who from_ path mode).2.2 = 3 := hE.again m r (dirN mode) 0
  generalize makeF n1 m r who from_ path mode = w2 at hm2 g1
  obtain ⟨n5, i5, e5⟩ := w2
  have g1 : e5 = 3 := g1
  subst g1
  generalize mkdirF n1 m r who from_ path mode = w3 at hd2 g2
  obtain ⟨n6, i6, e6⟩ := w3
  have g2 : e6 = 3 := g2
  subst g2
  refine hold_call (hm2.mono fun v cs u6 hu6 ⟨hc, A6, c6, hv, hd6⟩ => ⟨((A6, n5.length, c6), m, r, (if (3 : Int) = 0 then i5 else 0), (3 : Int), ()), (), hv, hc, fun b14 hb14 => ?_⟩)
  have q36 := Mem.le_trans q35 hu6
  have hu6' := Mem.le_trans hu3' q36
  refine hold_call ((hd2 u6 (hd3.mono q36) (hg.mono hu6') (hs.mono hu6')).mono fun v cs u7 hu7 ⟨hc, A7, c7, hv, hd7⟩ => ⟨((A7, n6.length, c7), m, r, (3 : Int), ()), (), hv, hc, fun b17 hb17 => ?_⟩)
  have q37 := Mem.le_trans q36 hu7
  have hge := get.cv A3 c3 n1 m r ii u7 (hd3.mono q37) hE.ok.ok.len
  have hN := hE.new
  rw [← hit] at hN
  rw [hN.1, hN.2] at hge
  refine hold_call (hge.mono fun v cs u8 hu8 ⟨hc, a8, c8, hv, _, _⟩ => ⟨fls N a8 c8 true, (), hv, hc, fun b19 hb19 => ?_⟩)
  have hu8' := Mem.le_trans hu3' (Mem.le_trans q37 hu8)
  refine ⟨fun h => ?_, fun _ => ?_⟩
  ·exfalso
   have h : (bif bif bif bif bif bif bif cmpI .neq (0 : Int) 0 then true else cmpI .neq ii t.f2 then true else cmpI .neq (3 : Int) 3 then true else cmpI .neq (3 : Int) 3 then true else !true then true else cmpI .neq N.f0 1 then true else cmpT .neq N.f6 ⟨#[]⟩ then true else cmpI .neq N.f3 1) = true := h
   rw [hit, k0, k6, k3, show cmpI .neq (0 : Int) 0 = false from rfl, show cmpI .neq t.f2 t.f2 = false by rw [cD_neq]; simp, show cmpI .neq (3 : Int) 3 = false from rfl, show cmpI .neq (1 : Int) 1 = false from rfl, show cmpT .neq ⟨#[]⟩ ⟨#[]⟩ = false by rw [Bool.eq_false_iff, ne_eq, tT_neq]; simp] at h
   cases h
  refine hold_call ((unl_.cv A c ns m r u8 (hd.mono hu8') h8 (hg.mono hu8') s (hs.mono hu8') who from_ path (by omega)).mono fun v cs v1 hv1 ⟨hc, A9, c9, hv, hd9⟩ => ⟨((A9, (unlF ns who from_ path).1.length, c9), m, r, (unlF ns who from_ path).2, ()), (), hv, hc, fun b21 hb21 => ⟨fun h => ?_, fun h => ⟨rfl, rfl⟩⟩⟩)
  simp only [E.den, cT_eql] at h
  have h : (unlF ns who from_ path).2 = 0 := h
  have hG := hG h
  refine hold_call ((its_same (by decide) A9 c9 _ m r v1 hd9 hOkY.nsl).mono fun v cs v2 hv2 ⟨hc, A10, c10, hv, hd10⟩ => ⟨((A10, (unlF ns who from_ path).1.length, c10), m, r, ()), (), hv, hc, ?_⟩)
  refine hold_call ((rnode.cv A10 c10 _ m r who from_ path false v2 hd10 hOkY.ok (by omega)).mono fun v cs v3 hv3 ⟨hc, hv⟩ => ⟨((nodeF (unlF ns who from_ path).1 who from_ path false).1, (nodeF (unlF ns who from_ path).1 who from_ path false).2, ()), (), hv, hc, fun h => ?_, fun h => ⟨rfl, rfl⟩⟩)
  simp only [E.den, cT_neq] at h
  exact absurd hG h
 ·refine hold_call ((unl_.cv A c ns m r u3 (hd.mono hu3') h8 (hg.mono hu3') s (hs.mono hu3') who from_ path (by omega)).mono fun v cs v1 hv1 ⟨hc, A9, c9, hv, hd9⟩ => ⟨((A9, (unlF ns who from_ path).1.length, c9), m, r, (unlF ns who from_ path).2, ()), (), hv, hc, fun b21 hb21 => ⟨fun h => ?_, fun h => ⟨rfl, rfl⟩⟩⟩)
  simp only [E.den, cT_eql] at h
  have h : (unlF ns who from_ path).2 = 0 := h
  have hG := hG h
  refine hold_call ((its_same (by decide) A9 c9 _ m r v1 hd9 hOkY.nsl).mono fun v cs v2 hv2 ⟨hc, A10, c10, hv, hd10⟩ => ⟨((A10, (unlF ns who from_ path).1.length, c10), m, r, ()), (), hv, hc, ?_⟩)
  refine hold_call ((rnode.cv A10 c10 _ m r who from_ path false v2 hd10 hOkY.ok (by omega)).mono fun v cs v3 hv3 ⟨hc, hv⟩ => ⟨((nodeF (unlF ns who from_ path).1 who from_ path false).1, (nodeF (unlF ns who from_ path).1 who from_ path false).2, ()), (), hv, hc, fun h => ?_, fun h => ⟨rfl, rfl⟩⟩)
  simp only [E.den, cT_neq] at h
  exact absurd hG h
end Go.Proofs.YtpfbimkpcnnfkaaGreatDoor.Sx
