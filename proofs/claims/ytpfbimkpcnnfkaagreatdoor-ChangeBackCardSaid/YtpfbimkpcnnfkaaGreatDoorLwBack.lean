/- By Sx: ChangeBack. -/
import Derived.Test.YtpfbimkpcnnfkaaGreatDoorSxTh
import Derived.Test.YtpfbimkpcnnfkaaGreatDoorSzG
/- Trees, printed by program. -/
set_option maxRecDepth 100000
set_option linter.unusedVariables false
namespace Go.Proofs.YtpfbimkpcnnfkaaGreatDoor.Sx
open Go Go.RowKit Go.Proofs.YtpfbimkpcnnfkaaGreatDoor
def lBack.args (a0 : Cells S.ty [.s, .i .i64, .i .i64]) (a1 : Cells S.ty [.i .i64, .i .i64]) (a2 : Cells S.ty [.t]) (a3 : Cells S.ty [.i .i64]) : List (SV S.ty) := [.agg (cellsSV [.s, .i .i64, .i .i64] a0), .agg (cellsSV [.i .i64, .i .i64] a1), .t (.at a2.1), .i .i64 (.at a3.1)]
def lBack.giv (a0 : Cells S.ty [.s, .i .i64, .i .i64]) (a1 : Cells S.ty [.i .i64, .i .i64]) (a2 : Cells S.ty [.t]) (a3 : Cells S.ty [.i .i64]) : List (Nat × Own S.ty) := []
def lBack.T (a0 : Cells S.ty [.s, .i .i64, .i .i64]) (a1 : Cells S.ty [.i .i64, .i .i64]) (a2 : Cells S.ty [.t]) (a3 : Cells S.ty [.i .i64]) : Tree S.ty :=
 .new 4 <|
 .new 5 <|
 .call (.b true) true 10 [.agg (cellsSV [.s, .i .i64, .i .i64] a0)] [] [] [(false, [.b])] [] fun x0 y0 =>
 .test (.not (.not (.at x0.1)))
 (.new 23 <|
 .test (.not (.not (.at x0.1)))
 (.call (.b true) true 11 [.os 23 0 1 1] [] [(23, [.t (.at a2.1)])] [(false, [.b])] [] fun x1 y1 =>
 .call (.not (.ite (.not (.at x0.1)) (.b true) (.not (.at x1.1)))) true 12 [] [] [] [(false, [.b])] [] fun x2 y2 =>
 .test (.ite (.ite (.not (.at x0.1)) (.b true) (.not (.at x1.1))) (.b true) (.not (.at x2.1)))
 (.call (.b true) true 12 [] [] [] [(false, [.b])] [] fun x3 y3 =>
 .ret (.b (.at x3.1)) [] [])
 (.call (.b true) true 18 [.agg (cellsSV [.s, .i .i64, .i .i64] a0), .agg (cellsSV [.i .i64, .i .i64] a1), .t (.at a2.1), .i .i64 (.at a3.1)] [] [] [(true, [.s, .i .i64, .i .i64]), (false, [.i .i64]), (false, [.i .i64])] [] fun x3 y3 =>
 .new 9 <|
 .call (.b true) true 19 [.agg (cellsSV [.s, .i .i64, .i .i64] a0), .agg (cellsSV [.i .i64, .i .i64] a1), .t (.at a2.1), .i .i64 (.at a3.1)] [] [] [(true, [.s, .i .i64, .i .i64]), (false, [.i .i64])] [] fun x4 y4 =>
 .new 12 <|
 .test (.cmp .eql (.at x3.2.2.2.2.1) (.i 0))
 (.call (.b true) true 20 [.agg ((cellsSV K8 x3).take 3), .agg (cellsSV [.i .i64, .i .i64] a1), .t (.at a2.1)] [] [] [(true, [.s, .i .i64, .i .i64]), (false, [.i .i64])] [] fun x5 y5 =>
 .new 14 <|
 .call (.not (.cmp .neq (.at x5.2.2.2.1) (.i 0))) true 21 [.agg ((cellsSV K5 x5).take 3), .agg (cellsSV [.s, .i .i64, .i .i64] a0)] [] [] [(false, [.b])] [] fun x6 y6 =>
 .test (.ite (.cmp .neq (.at x5.2.2.2.1) (.i 0)) (.b true) (.not (.at x6.1)))
 (.ret (.b (.b false)) [] [])
 (.test (.cmp .eql (.at x4.2.2.2.1) (.i 0))
 (.call (.b true) true 22 [.agg ((cellsSV K5 x4).take 3), .agg (cellsSV [.i .i64, .i .i64] a1), .t (.at a2.1)] [] [] [(true, [.s, .i .i64, .i .i64]), (false, [.i .i64])] [] fun x7 y7 =>
 .new 16 <|
 .call (.not (.cmp .neq (.at x7.2.2.2.1) (.i 0))) true 21 [.agg ((cellsSV K5 x7).take 3), .agg (cellsSV [.s, .i .i64, .i .i64] a0)] [] [] [(false, [.b])] [] fun x8 y8 =>
 .test (.ite (.cmp .neq (.at x7.2.2.2.1) (.i 0)) (.b true) (.not (.at x8.1)))
 (.ret (.b (.b false)) [] [])
 (.ret (.b (.b true)) [] []))
 (.ret (.b (.b true)) [] [])))
 (.test (.cmp .eql (.at x4.2.2.2.1) (.i 0))
 (.call (.b true) true 22 [.agg ((cellsSV K5 x4).take 3), .agg (cellsSV [.i .i64, .i .i64] a1), .t (.at a2.1)] [] [] [(true, [.s, .i .i64, .i .i64]), (false, [.i .i64])] [] fun x5 y5 =>
 .new 16 <|
 .call (.not (.cmp .neq (.at x5.2.2.2.1) (.i 0))) true 21 [.agg ((cellsSV K5 x5).take 3), .agg (cellsSV [.s, .i .i64, .i .i64] a0)] [] [] [(false, [.b])] [] fun x6 y6 =>
 .test (.ite (.cmp .neq (.at x5.2.2.2.1) (.i 0)) (.b true) (.not (.at x6.1)))
 (.ret (.b (.b false)) [] [])
 (.ret (.b (.b true)) [] []))
 (.ret (.b (.b true)) [] []))))
 (.call (.not (.ite (.not (.at x0.1)) (.b true) (.not (.b false)))) true 12 [] [] [] [(false, [.b])] [] fun x1 y1 =>
 .test (.ite (.ite (.not (.at x0.1)) (.b true) (.not (.b false))) (.b true) (.not (.at x1.1)))
 (.call (.b true) true 12 [] [] [] [(false, [.b])] [] fun x2 y2 =>
 .ret (.b (.at x2.1)) [] [])
 (.call (.b true) true 18 [.agg (cellsSV [.s, .i .i64, .i .i64] a0), .agg (cellsSV [.i .i64, .i .i64] a1), .t (.at a2.1), .i .i64 (.at a3.1)] [] [] [(true, [.s, .i .i64, .i .i64]), (false, [.i .i64]), (false, [.i .i64])] [] fun x2 y2 =>
 .new 9 <|
 .call (.b true) true 19 [.agg (cellsSV [.s, .i .i64, .i .i64] a0), .agg (cellsSV [.i .i64, .i .i64] a1), .t (.at a2.1), .i .i64 (.at a3.1)] [] [] [(true, [.s, .i .i64, .i .i64]), (false, [.i .i64])] [] fun x3 y3 =>
 .new 12 <|
 .test (.cmp .eql (.at x2.2.2.2.2.1) (.i 0))
 (.call (.b true) true 20 [.agg ((cellsSV K8 x2).take 3), .agg (cellsSV [.i .i64, .i .i64] a1), .t (.at a2.1)] [] [] [(true, [.s, .i .i64, .i .i64]), (false, [.i .i64])] [] fun x4 y4 =>
 .new 14 <|
 .call (.not (.cmp .neq (.at x4.2.2.2.1) (.i 0))) true 21 [.agg ((cellsSV K5 x4).take 3), .agg (cellsSV [.s, .i .i64, .i .i64] a0)] [] [] [(false, [.b])] [] fun x5 y5 =>
 .test (.ite (.cmp .neq (.at x4.2.2.2.1) (.i 0)) (.b true) (.not (.at x5.1)))
 (.ret (.b (.b false)) [] [])
 (.test (.cmp .eql (.at x3.2.2.2.1) (.i 0))
 (.call (.b true) true 22 [.agg ((cellsSV K5 x3).take 3), .agg (cellsSV [.i .i64, .i .i64] a1), .t (.at a2.1)] [] [] [(true, [.s, .i .i64, .i .i64]), (false, [.i .i64])] [] fun x6 y6 =>
 .new 16 <|
 .call (.not (.cmp .neq (.at x6.2.2.2.1) (.i 0))) true 21 [.agg ((cellsSV K5 x6).take 3), .agg (cellsSV [.s, .i .i64, .i .i64] a0)] [] [] [(false, [.b])] [] fun x7 y7 =>
 .test (.ite (.cmp .neq (.at x6.2.2.2.1) (.i 0)) (.b true) (.not (.at x7.1)))
 (.ret (.b (.b false)) [] [])
 (.ret (.b (.b true)) [] []))
 (.ret (.b (.b true)) [] [])))
 (.test (.cmp .eql (.at x3.2.2.2.1) (.i 0))
 (.call (.b true) true 22 [.agg ((cellsSV K5 x3).take 3), .agg (cellsSV [.i .i64, .i .i64] a1), .t (.at a2.1)] [] [] [(true, [.s, .i .i64, .i .i64]), (false, [.i .i64])] [] fun x4 y4 =>
 .new 16 <|
 .call (.not (.cmp .neq (.at x4.2.2.2.1) (.i 0))) true 21 [.agg ((cellsSV K5 x4).take 3), .agg (cellsSV [.s, .i .i64, .i .i64] a0)] [] [] [(false, [.b])] [] fun x5 y5 =>
 .test (.ite (.cmp .neq (.at x4.2.2.2.1) (.i 0)) (.b true) (.not (.at x5.1)))
 (.ret (.b (.b false)) [] [])
 (.ret (.b (.b true)) [] []))
 (.ret (.b (.b true)) [] [])))))
 (.call (.not (.not (.at x0.1))) true 11 [.s .anil (.n 0) (.n 0)] [] [] [(false, [.b])] [] fun x1 y1 =>
 .call (.not (.ite (.not (.at x0.1)) (.b true) (.not (.at x1.1)))) true 12 [] [] [] [(false, [.b])] [] fun x2 y2 =>
 .test (.ite (.ite (.not (.at x0.1)) (.b true) (.not (.at x1.1))) (.b true) (.not (.at x2.1)))
 (.call (.b true) true 12 [] [] [] [(false, [.b])] [] fun x3 y3 =>
 .ret (.b (.at x3.1)) [] [])
 (.call (.b true) true 18 [.agg (cellsSV [.s, .i .i64, .i .i64] a0), .agg (cellsSV [.i .i64, .i .i64] a1), .t (.at a2.1), .i .i64 (.at a3.1)] [] [] [(true, [.s, .i .i64, .i .i64]), (false, [.i .i64]), (false, [.i .i64])] [] fun x3 y3 =>
 .new 9 <|
 .call (.b true) true 19 [.agg (cellsSV [.s, .i .i64, .i .i64] a0), .agg (cellsSV [.i .i64, .i .i64] a1), .t (.at a2.1), .i .i64 (.at a3.1)] [] [] [(true, [.s, .i .i64, .i .i64]), (false, [.i .i64])] [] fun x4 y4 =>
 .new 12 <|
 .test (.cmp .eql (.at x3.2.2.2.2.1) (.i 0))
 (.call (.b true) true 20 [.agg ((cellsSV K8 x3).take 3), .agg (cellsSV [.i .i64, .i .i64] a1), .t (.at a2.1)] [] [] [(true, [.s, .i .i64, .i .i64]), (false, [.i .i64])] [] fun x5 y5 =>
 .new 14 <|
 .call (.not (.cmp .neq (.at x5.2.2.2.1) (.i 0))) true 21 [.agg ((cellsSV K5 x5).take 3), .agg (cellsSV [.s, .i .i64, .i .i64] a0)] [] [] [(false, [.b])] [] fun x6 y6 =>
 .test (.ite (.cmp .neq (.at x5.2.2.2.1) (.i 0)) (.b true) (.not (.at x6.1)))
 (.ret (.b (.b false)) [] [])
 (.test (.cmp .eql (.at x4.2.2.2.1) (.i 0))
 (.call (.b true) true 22 [.agg ((cellsSV K5 x4).take 3), .agg (cellsSV [.i .i64, .i .i64] a1), .t (.at a2.1)] [] [] [(true, [.s, .i .i64, .i .i64]), (false, [.i .i64])] [] fun x7 y7 =>
 .new 16 <|
 .call (.not (.cmp .neq (.at x7.2.2.2.1) (.i 0))) true 21 [.agg ((cellsSV K5 x7).take 3), .agg (cellsSV [.s, .i .i64, .i .i64] a0)] [] [] [(false, [.b])] [] fun x8 y8 =>
 .test (.ite (.cmp .neq (.at x7.2.2.2.1) (.i 0)) (.b true) (.not (.at x8.1)))
 (.ret (.b (.b false)) [] [])
 (.ret (.b (.b true)) [] []))
 (.ret (.b (.b true)) [] [])))
 (.test (.cmp .eql (.at x4.2.2.2.1) (.i 0))
 (.call (.b true) true 22 [.agg ((cellsSV K5 x4).take 3), .agg (cellsSV [.i .i64, .i .i64] a1), .t (.at a2.1)] [] [] [(true, [.s, .i .i64, .i .i64]), (false, [.i .i64])] [] fun x5 y5 =>
 .new 16 <|
 .call (.not (.cmp .neq (.at x5.2.2.2.1) (.i 0))) true 21 [.agg ((cellsSV K5 x5).take 3), .agg (cellsSV [.s, .i .i64, .i .i64] a0)] [] [] [(false, [.b])] [] fun x6 y6 =>
 .test (.ite (.cmp .neq (.at x5.2.2.2.1) (.i 0)) (.b true) (.not (.at x6.1)))
 (.ret (.b (.b false)) [] [])
 (.ret (.b (.b true)) [] []))
 (.ret (.b (.b true)) [] []))))
theorem lBack.run (a0 : Cells S.ty [.s, .i .i64, .i .i64]) (a1 : Cells S.ty [.i .i64, .i .i64]) (a2 : Cells S.ty [.t]) (a3 : Cells S.ty [.i .i64]) : runFn Tryz.prog Tryz.f4 (bodyOf Tryz.f4) [] (lBack.args a0 a1 a2 a3) (lBack.giv a0 a1 a2 a3) = lBack.T a0 a1 a2 a3 := by kernel_rfl
end Go.Proofs.YtpfbimkpcnnfkaaGreatDoor.Sx
set_option maxRecDepth 100000
set_option linter.unusedVariables false
set_option linter.unusedSimpArgs false
namespace Go.Proofs.YtpfbimkpcnnfkaaGreatDoor.Sx
open Go Go.RowKit Go.Proofs.YtpfbimkpcnnfkaaGreatDoor Go.Proofs.YtpfbimkpcnnfkaaGreatDoor.Ext
theorem ChangeBack.cv (A : Option Addr) (c : Nat) (ns : List Nd) (m r who from_ : Int) (path : ByteArray) (mode : Int) (u : Mem) (hd : DiskAt u A ns) (hnm : ∀ n ∈ ns, ∀ e ∈ n.f7, e.f0.size ≤ 1000000000000000) (hg : EgM u) (s : Addr) (hs : EsM s u) :
  CV Tryz.prog 4 [.agg #[.slice A ns.length c, .int .i64 m, .int .i64 r], .agg #[.int .i64 who, .int .i64 from_], .string path, .int .i64 mode] [] u fun v cs _ => cs = [] ∧ v = .bool true := by
 refine cv_of names draws (fn := Tryz.f4) (b := bodyOf Tryz.f4) rfl rfl [] (lBack.args ((A, ns.length, c), m, r, ()) (who, from_, ()) (path, ()) (mode, ())) (lBack.giv _ _ _ _) (fun _ => 0) (lBack.run _ _ _ _) (by kernel_rfl) rfl rfl ?_
 unfold lBack.T
 intro b5 hb5 b6 hb6
 refine hold_call ((lright.cv A c ns m r u hd hnm).mono fun v cs u1 hu1 ⟨hc, hv⟩ => ⟨(okF ns m r, ()), (), hv, hc, ?_⟩)
 refine hold_open (l := [path]) (s := s) (hg.mono hu1) (hs.mono hu1) rfl (by decide) (fun _ => rfl) fun hok hsh b21 x2 u2 hu12 => ?_
 have hp := short_one hsh
 have hu2 := Mem.le_trans hu1 hu12
 have h8 := ok8_of hok
 have hns : ns.length ≤ 100 := by
  have h := hok
  unfold okF at h; rw [Bool.and_eq_true, Bool.and_eq_true] at h; exact of_decide_eq_true h.2.1
 have hnl : ∀ n ∈ ns, n.f7.length ≤ 1000000 := fun n hn => (h8.ok.all_ n hn).names
 have zlen : ∀ {z : List Nd}, (z = ns ∨ z = ns ++ [zNd]) → ∀ n ∈ z, n.f7.length ≤ 1000000 := fun {z} hz n hn => by
  rcases hz with rfl | rfl
  ·exact hnl n hn
  ·rcases List.mem_append.1 hn with hn | hn
   ·exact hnl n hn
   ·rw [List.mem_singleton.1 hn]; decide
 have h1 := make_.cv A c ns m r u2 (hd.mono hu2) h8 (hg.mono hu2) s (hs.mono hu2) who from_ path mode (by omega)
 have h2 := fun u hd hg hs => mkdir_.cv A c ns m r u hd h8 hg s hs who from_ path mode (by omega)
 have hB1 : (makeF ns m r who from_ path mode).2.2 = 0 → Ok8 (makeF ns m r who from_ path mode).1 ∧ (unlF (makeF ns m r who from_ path mode).1 who from_ path).2 = 0 ∧ ((unlF (makeF ns m r who from_ path mode).1 who from_ path).1 = ns ∨ (unlF (makeF ns m r who from_ path mode).1 who from_ path).1 = ns ++ [zNd]) := fun h0 => by
  obtain ⟨t, N, k0, k6, k7, k3, hE, hi⟩ := entered (n := fileN mode) (slash := 5) hok (fileN_9 mode) rfl (.inl rfl) (fun h => absurd h (by decide)) h0
  have hE : Entered ns (makeF ns m r who from_ path mode).1 who from_ path t N := hE
  have e := hE.unl (by rw [k0]; show ¬ (1 : Int) = 2; decide)
  rw [e]; exact ⟨hE.ok, rfl, hE.lose⟩
 have hB2 : (mkdirF ns m r who from_ path mode).2.2 = 0 → Ok8 (mkdirF ns m r who from_ path mode).1 ∧ (rmdF (mkdirF ns m r who from_ path mode).1 who from_ path).2 = 0 ∧ ((rmdF (mkdirF ns m r who from_ path mode).1 who from_ path).1 = ns ∨ (rmdF (mkdirF ns m r who from_ path mode).1 who from_ path).1 = ns ++ [zNd]) := fun h0 => by
  obtain ⟨t, N, k0, k6, k7, k3, hE, hi⟩ := entered (n := dirN mode) (slash := 0) hok (dirN_9 mode) rfl (.inr rfl) (fun _ => rfl) h0
  have hE : Entered ns (mkdirF ns m r who from_ path mode).1 who from_ path t N := hE
  have e := hE.rmd (by rw [k0]; rfl) (by rw [k7]; rfl)
  rw [e]; exact ⟨hE.ok, rfl, hE.lose⟩
 generalize makeF ns m r who from_ path mode = w1 at h1 hB1
 obtain ⟨n1, i1, e1⟩ := w1
 have hB1 : e1 = 0 → Ok8 n1 ∧ (unlF n1 who from_ path).2 = 0 ∧ ((unlF n1 who from_ path).1 = ns ∨ (unlF n1 who from_ path).1 = ns ++ [zNd]) := hB1
 generalize mkdirF ns m r who from_ path mode = w2 at h2 hB2
 obtain ⟨n2, i2, e2⟩ := w2
 have hB2 : e2 = 0 → Ok8 n2 ∧ (rmdF n2 who from_ path).2 = 0 ∧ ((rmdF n2 who from_ path).1 = ns ∨ (rmdF n2 who from_ path).1 = ns ++ [zNd]) := hB2
 refine hold_call (h1.mono fun v cs u3 hu3 ⟨hc, A3, c3, hv, hd3⟩ => ⟨((A3, n1.length, c3), m, r, (if e1 = 0 then i1 else 0), e1, ()), (), hv, hc, fun b9 hb9 => ?_⟩)
 have hu3' := Mem.le_trans hu2 hu3
 refine hold_call ((h2 u3 (hd.mono hu3') (hg.mono hu3') (hs.mono hu3')).mono fun v cs u4 hu4 ⟨hc, A4, c4, hv, hd4⟩ => ⟨((A4, n2.length, c4), m, r, e2, ()), (), hv, hc, fun b12 hb12 => ?_⟩)
 have hu4' := Mem.le_trans hu3' hu4
 refine ⟨fun h => ?_, fun h => ?_⟩
 ·simp only [E.den, cT_eql] at h
  have h : e1 = 0 := h
  obtain ⟨hOk, hun, hz⟩ := hB1 h
  have hul := unl_.cv A3 c3 n1 m r u4 (hd3.mono hu4) hOk (hg.mono hu4') s (hs.mono hu4') who from_ path (by omega)
  generalize unlF n1 who from_ path = w at hul hun hz
  obtain ⟨z, e⟩ := w
  have hun : e = 0 := hun
  subst hun
  have hz : z = ns ∨ z = ns ++ [zNd] := hz
  obtain ⟨z1, z2, z3⟩ := before_of hz
  refine hold_call (hul.mono fun v cs u5 hu5 ⟨hc, A5, c5, hv, hd5⟩ => ⟨((A5, z.length, c5), m, r, (0 : Int), ()), (), hv, hc, fun b14 hb14 => ?_⟩)
  have hu5' := Mem.le_trans hu4' hu5
  refine hold_callg (fun xs _ u' => xs.1 = true ∧ u4.le u') (fun _ => (lbefore.cv A5 A c5 c z ns m r u5 hd5 (hd.mono hu5') z1 z2 (by omega) (zlen hz)).mono fun v cs u6 hu6 ⟨hc, hv⟩ => ⟨(true, ()), (), hv, hc, rfl, Mem.le_trans hu5 hu6⟩) (fun hh => by have hh : (!cmpI .neq (0 : Int) 0) = false := hh; rw [show cmpI .neq (0 : Int) 0 = false from rfl] at hh; cases hh) ?_
  rintro ⟨x6, _⟩ _ u6 ⟨hx6, hu46⟩
  obtain rfl : x6 = true := hx6
  refine ⟨fun h => (by have h : (bif cmpI .neq (0 : Int) 0 then true else !true) = true := h; rw [show cmpI .neq (0 : Int) 0 = false from rfl] at h; cases h), fun _ => ?_⟩
  clear hz z1 z2 z3 hul
  refine ⟨fun h => ?_, fun h => ⟨rfl, rfl⟩⟩
  simp only [E.den, cT_eql] at h
  have h : e2 = 0 := h
  obtain ⟨hOk, hun, hz⟩ := hB2 h
  have hrm := rmd_.cv A4 c4 n2 m r u6 (hd4.mono hu46) hOk (hg.mono (Mem.le_trans hu4' hu46)) s (hs.mono (Mem.le_trans hu4' hu46)) who from_ path (by omega)
  generalize rmdF n2 who from_ path = w at hrm hun hz
  obtain ⟨z, e⟩ := w
  have hun : e = 0 := hun
  subst hun
  have hz : z = ns ∨ z = ns ++ [zNd] := hz
  obtain ⟨z1, z2, z3⟩ := before_of hz
  refine hold_call (hrm.mono fun v cs v1 hv1 ⟨hc, A7, c7, hv, hd7⟩ => ⟨((A7, z.length, c7), m, r, (0 : Int), ()), (), hv, hc, fun b16 hb16 => ?_⟩)
  have hle := Mem.le_trans hu4' (Mem.le_trans hu46 hv1)
  refine hold_callg (fun xs _ _ => xs.1 = true) (fun _ => (lbefore.cv A7 A c7 c z ns m r v1 hd7 (hd.mono hle) z1 z2 (by omega) (zlen hz)).mono fun v cs v2 hv2 ⟨hc, hv⟩ => ⟨(true, ()), (), hv, hc, rfl⟩) (fun hh => by have hh : (!cmpI .neq (0 : Int) 0) = false := hh; rw [show cmpI .neq (0 : Int) 0 = false from rfl] at hh; cases hh) ?_
  rintro ⟨x8, _⟩ _ v2 hx8
  obtain rfl : x8 = true := hx8
  exact ⟨fun h => (by have h : (bif cmpI .neq (0 : Int) 0 then true else !true) = true := h; rw [show cmpI .neq (0 : Int) 0 = false from rfl] at h; cases h), fun _ => ⟨rfl, rfl⟩⟩
 ·refine ⟨fun h => ?_, fun h => ⟨rfl, rfl⟩⟩
  simp only [E.den, cT_eql] at h
  have h : e2 = 0 := h
  obtain ⟨hOk, hun, hz⟩ := hB2 h
  have hrm := rmd_.cv A4 c4 n2 m r u4 (hd4.mono (Mem.le_refl u4)) hOk (hg.mono (Mem.le_trans hu4' (Mem.le_refl u4))) s (hs.mono (Mem.le_trans hu4' (Mem.le_refl u4))) who from_ path (by omega)
  generalize rmdF n2 who from_ path = w at hrm hun hz
  obtain ⟨z, e⟩ := w
  have hun : e = 0 := hun
  subst hun
  have hz : z = ns ∨ z = ns ++ [zNd] := hz
  obtain ⟨z1, z2, z3⟩ := before_of hz
  refine hold_call (hrm.mono fun v cs v1 hv1 ⟨hc, A7, c7, hv, hd7⟩ => ⟨((A7, z.length, c7), m, r, (0 : Int), ()), (), hv, hc, fun b16 hb16 => ?_⟩)
  have hle := Mem.le_trans hu4' (Mem.le_trans (Mem.le_refl u4) hv1)
  refine hold_callg (fun xs _ _ => xs.1 = true) (fun _ => (lbefore.cv A7 A c7 c z ns m r v1 hd7 (hd.mono hle) z1 z2 (by omega) (zlen hz)).mono fun v cs v2 hv2 ⟨hc, hv⟩ => ⟨(true, ()), (), hv, hc, rfl⟩) (fun hh => by have hh : (!cmpI .neq (0 : Int) 0) = false := hh; rw [show cmpI .neq (0 : Int) 0 = false from rfl] at hh; cases hh) ?_
  rintro ⟨x8, _⟩ _ v2 hx8
  obtain rfl : x8 = true := hx8
  exact ⟨fun h => (by have h : (bif cmpI .neq (0 : Int) 0 then true else !true) = true := h; rw [show cmpI .neq (0 : Int) 0 = false from rfl] at h; cases h), fun _ => ⟨rfl, rfl⟩⟩
end Go.Proofs.YtpfbimkpcnnfkaaGreatDoor.Sx
