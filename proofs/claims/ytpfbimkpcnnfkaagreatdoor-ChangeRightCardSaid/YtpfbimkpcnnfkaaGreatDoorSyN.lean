/- By Sx: the clerk enters; beneath, over, dots. -/
import Derived.Test.YtpfbimkpcnnfkaaGreatDoorSyE
import Derived.Test.YtpfbimkpcnnfkaaGreatDoorSyH
import Derived.Test.YtpfbimkpcnnfkaaGreatDoorSxTh
/- By Sx: the clerk turns a node: put, drop, lose and the others. -/
/- By Sx: the clerk's small methods. -/
/- By Sx: what the clerk of a disk does, in plain words. -/
set_option linter.unusedVariables false
set_option linter.unusedSimpArgs false
namespace Go.Proofs.YtpfbimkpcnnfkaaGreatDoor.Sx
open Go Go.RowKit Go.Proofs.YtpfbimkpcnnfkaaGreatDoor Go.Proofs.YtpfbimkpcnnfkaaGreatDoor.Ext
def writesB (ns : List Nd) (who dir : Int) : Bool := mayB (getL ns dir).f1 (getL ns dir).f2 who 2
def writesE (ns : List Nd) (who dir : Int) : Int := if writesB ns who dir = true then 0 else 7
def aliveE (ns : List Nd) (dir : Int) : Int := if (getL ns dir).f3 < 1 then 2 else 0
def freeE (ns : List Nd) (who : Int) (s : Sp) : Int := if 0 ≤ s.f2 then 3 else if (getL ns s.f0).f3 < 1 then 2 else writesE ns who s.f0
def nPut (s : Sp) (ino : Int) (n : Nd) : Nd := { n with f7 := putF n.f7 ⟨s.f1, ino⟩ }
def nDrop (s : Sp) (n : Nd) : Nd := { n with f7 := dropF n.f7 s.f1 }
def nLess (n : Nd) : Nd := { n with f3 := IntKind.i64.wrap (n.f3 - 1), f5 := if n.f0 = 2 then 0 else n.f5 }
def nMore (n : Nd) : Nd := { n with f3 := IntKind.i64.wrap (n.f3 + 1) }
def nUp (up : Int) (n : Nd) : Nd := { n with f5 := up }
def nMode (m : Int) (n : Nd) : Nd := { n with f1 := binI .and .i64 m 63 }
def turnF (ns : List Nd) (i : Int) (by_ : Nd → Nd) : List Nd := setL ns i (by_ (getL ns i))
def putN (ns : List Nd) (s : Sp) (ino : Int) : List Nd := turnF ns s.f0 (nPut s ino)
def dropN (ns : List Nd) (s : Sp) : List Nd := turnF ns s.f0 (nDrop s)
def loseN (ns : List Nd) (s : Sp) : List Nd := settleF (turnF (dropN ns s) s.f2 nLess) s.f2
def newNd (who dir : Int) (n : Nd) : Nd := { n with f3 := 1, f2 := who, f5 := if n.f0 = 2 then dir else n.f5 }
def enterAt (ns : List Nd) (m r who : Int) (s : Sp) (n : Nd) (slash : Int) : List Nd × Int × Int :=
 if s.f3 = true ∧ s.f2 < 0 ∧ ¬ slash = 0 then (ns, 0, slash)
 else if ¬ freeE ns who s = 0 then (ns, 0, freeE ns who s)
 else if ¬ (addF ns m r (newNd who s.f0 n)).2.2 = 0 then (ns, 0, (addF ns m r (newNd who s.f0 n)).2.2)
 else (putN (addF ns m r (newNd who s.f0 n)).1 s (addF ns m r (newNd who s.f0 n)).2.1, (addF ns m r (newNd who s.f0 n)).2.1, 0)
def enterF (ns : List Nd) (m r who from_ : Int) (path : ByteArray) (n : Nd) (slash : Int) : List Nd × Int × Int :=
 if ¬ (walkF ns who from_ path false).2 = 0 then (ns, 0, (walkF ns who from_ path false).2)
 else enterAt ns m r who (walkF ns who from_ path false).1 n slash
def fileN (mode : Int) : Nd := { zNd with f0 := 1, f1 := binI .and .i64 mode 63 }
def dirN (mode : Int) : Nd := { zNd with f0 := 2, f1 := binI .and .i64 mode 63 }
def linkN (text : ByteArray) : Nd := { zNd with f0 := 3, f1 := 63, f6 := text }
def makeF (ns : List Nd) (m r who from_ : Int) (path : ByteArray) (mode : Int) : List Nd × Int × Int := enterF ns m r who from_ path (fileN mode) 5
def mkdirF (ns : List Nd) (m r who from_ : Int) (path : ByteArray) (mode : Int) : List Nd × Int × Int := enterF ns m r who from_ path (dirN mode) 0
def symF (ns : List Nd) (m r who from_ : Int) (text path : ByteArray) : List Nd × Int × Int :=
 if text.toList = [] then (ns, 0, 2) else if 100 < text.size then (ns, 0, 9) else enterF ns m r who from_ path (linkN text) 4
def thereF (ns : List Nd) (who from_ : Int) (path : ByteArray) : Sp × Int :=
 ((walkF ns who from_ path false).1, if (walkF ns who from_ path false).2 = 0 ∧ (walkF ns who from_ path false).1.f2 < 0 then 2 else (walkF ns who from_ path false).2)
def linkAt (ns : List Nd) (who : Int) (o s : Sp) (e : Int) : List Nd × Int :=
 if (getL ns o.f2).f0 = 2 then (ns, 5) else if 20 ≤ (getL ns o.f2).f3 then (ns, 11)
 else if ¬ e = 0 then (ns, e) else if ¬ freeE ns who s = 0 then (ns, freeE ns who s) else if s.f3 = true then (ns, 4)
 else (putN (turnF ns o.f2 nMore) s o.f2, 0)
def linkF (ns : List Nd) (who from_ : Int) (old path : ByteArray) : List Nd × Int :=
 if ¬ (thereF ns who from_ old).2 = 0 then (ns, (thereF ns who from_ old).2)
 else linkAt ns who (thereF ns who from_ old).1 (walkF ns who from_ path false).1 (walkF ns who from_ path false).2
def unlF (ns : List Nd) (who from_ : Int) (path : ByteArray) : List Nd × Int :=
 if ¬ (thereF ns who from_ path).2 = 0 then (ns, (thereF ns who from_ path).2)
 else if (getL ns (thereF ns who from_ path).1.f2).f0 = 2 then (ns, 5)
 else if writesB ns who (thereF ns who from_ path).1.f0 = false then (ns, 7) else (loseN ns (thereF ns who from_ path).1, 0)
def rmdAt (ns : List Nd) (who : Int) (s : Sp) : List Nd × Int :=
 if ¬ (getL ns s.f2).f0 = 2 then (ns, 4) else if s.f1.toList = [] ∨ s.f1.toList = [46] then (ns, 1) else if s.f1.toList = [46, 46] then (ns, 6)
 else if writesB ns who s.f0 = false then (ns, 7) else if ¬ (getL ns s.f2).f7 = [] then (ns, 6) else (loseN ns s, 0)
def rmdF (ns : List Nd) (who from_ : Int) (path : ByteArray) : List Nd × Int :=
 if ¬ (thereF ns who from_ path).2 = 0 then (ns, (thereF ns who from_ path).2) else rmdAt ns who (thereF ns who from_ path).1
def benF (ns : List Nd) : Nat → Int → Int → Bool
 | 0, i, top => decide (i = top)
 | f + 1, i, top => if i = top then true else if i = 0 then false else benF ns f (getL ns i).f5 top
def overE (ns : List Nd) (ino : Int) (t : Sp) : Int :=
 if (getL ns t.f0).f3 < 1 then 2
 else if ¬ (getL ns ino).f0 = 2 then (if (getL ns t.f2).f0 = 2 then 5 else if t.f3 = true then 4 else 0)
 else if benF ns ns.length t.f0 ino = true then 15 else if t.f2 < 0 then 0 else if ¬ (getL ns t.f2).f0 = 2 then 4 else if ¬ (getL ns t.f2).f7 = [] then 6 else 0
def dotsB (name : ByteArray) : Bool := decide (name.toList = [] ∨ name.toList = [46] ∨ name.toList = [46, 46])
def renAt (ns : List Nd) (s t : Sp) : List Nd :=
 let n1 := dropN ns s
 let n2 := if 0 ≤ t.f2 then loseN n1 t else n1
 let n3 := putN n2 t s.f2
 if (getL ns s.f2).f0 = 2 then turnF n3 s.f2 (nUp t.f0) else n3
def renSp (ns : List Nd) (wa wb : Int) (s t : Sp) : List Nd × Int :=
 if dotsB s.f1 = true ∨ dotsB t.f1 = true then (ns, 1)
 else if writesB ns wa s.f0 = false ∨ writesB ns wb t.f0 = false then (ns, 7)
 else if s.f2 = t.f2 then (ns, 0)
 else if ¬ overE ns s.f2 t = 0 then (ns, overE ns s.f2 t) else (renAt ns s t, 0)
def renF (ns : List Nd) (wa fa wb fb : Int) (old path : ByteArray) : List Nd × Int :=
 if ¬ (thereF ns wa fa old).2 = 0 then (ns, (thereF ns wa fa old).2)
 else if ¬ (walkF ns wb fb path false).2 = 0 then (ns, (walkF ns wb fb path false).2)
 else renSp ns wa wb (thereF ns wa fa old).1 (walkF ns wb fb path false).1
def chmF (ns : List Nd) (who from_ : Int) (path : ByteArray) (mode : Int) : List Nd × Int :=
 if ¬ (nodeF ns who from_ path true).2 = 0 then (ns, (nodeF ns who from_ path true).2)
 else if ¬ who = 0 ∧ ¬ who = (getL ns (nodeF ns who from_ path true).1).f2 then (ns, 7)
 else (turnF ns (nodeF ns who from_ path true).1 (nMode mode), 0)
end Go.Proofs.YtpfbimkpcnnfkaaGreatDoor.Sx
set_option maxRecDepth 100000
set_option linter.unusedVariables false
set_option linter.unusedSimpArgs false
namespace Go.Proofs.YtpfbimkpcnnfkaaGreatDoor.Sx
open Go Go.RowKit Go.Proofs.YtpfbimkpcnnfkaaGreatDoor Go.Proofs.YtpfbimkpcnnfkaaGreatDoor.Ext
def ErrE (u : Mem) (v : Value) (e : Int) : Prop := (e = 0 ∧ v = .nilIface) ∨ (e ≠ 0 ∧ ErrR u v e)
theorem ErrE.mono {u u' : Mem} {v : Value} {e : Int} (h : ErrE u v e) (hu : u.le u') : ErrE u' v e := h.imp id fun ⟨h1, h2⟩ => ⟨h1, h2.mono hu⟩
theorem ErrE.isErr {u : Mem} {v : Value} {e : Int} (h : ErrE u v e) : v = .nilIface ∨ ∃ t x, v = .iface t x := by
 rcases h with ⟨_, h⟩ | ⟨_, h⟩
 ·exact .inl h
 ·exact h.some.2
theorem ErrE.nil {u : Mem} {v : Value} {e : Int} (h : ErrE u v e) : nilB v = decide (e = 0) := by
 rcases h with ⟨rfl, rfl⟩ | ⟨h0, h⟩
 ·rfl
 ·rw [h.some.1]; simp [h0]
theorem errE_ref {u : Mem} {e : Int} (h : e ≠ 0) : ErrE u (.iface 92 (.int .i64 e)) e := .inr ⟨h, .inl rfl⟩
theorem errE_nil {u : Mem} : ErrE u .nilIface 0 := .inl ⟨rfl, rfl⟩
section
variable {P : Program} {u0 : Mem} {R : Value → List (List Value) → Mem → Prop} {bk : Nat → Nat} {u : Mem} {Ag : Nat → List Value → List (List Value) → Mem → Prop} {q : Bool} {f : FuncId} {args : List (SV S.ty)} {rs : List RT} {kss : List (List CK)}
theorem hold_callm {ms : List (Nat × List (SV S.ty))} {k : Cells S.ty (RT.ks rs) → CellsL S.ty kss → Tree S.ty} {vs : List Value} {O : List (Nat × List Value)} (h : CC P f vs q O u0 u fun v cs u2 => ∃ xs ys, v = (resSV rs (cellsSV (RT.ks rs) xs)).den bk ∧ cs = denLL bk kss ys ∧ Hold P u0 R (k xs ys) bk u2 Ag)
  (hA : denL bk args = vs) (hO : rowsD bk ms = O) : Hold P u0 R (.call (.b true) q f args ms [] rs kss k) bk u Ag := by
 subst hA hO
 exact ⟨fun _ => h, fun h => by cases h⟩
theorem hold_err {x : Value} {e : Int} {X Y : Tree S.ty} (h : ErrE u x e) (h1 : e ≠ 0 → Hold P u0 R X bk u Ag) (h2 : e = 0 → Hold P u0 R Y bk u Ag) : Hold P u0 R (.ob (.b true) (.ifc (.at x)) (.test (.not (.nilV (.at x))) X Y)) bk u Ag := by
 refine ⟨fun _ => h.isErr, fun hb => ?_, fun hb => ?_⟩
 ·have hb : (!nilB x) = true := hb
  rw [h.nil] at hb; exact h1 (by simpa using hb)
 ·have hb : (!nilB x) = false := hb
  rw [h.nil] at hb; exact h2 (by simpa using hb)
theorem hold_err' {x : Value} {e : Int} {X Y : Tree S.ty} (h : ErrE u x e) (h1 : e = 0 → Hold P u0 R X bk u Ag) (h2 : e ≠ 0 → Hold P u0 R Y bk u Ag) : Hold P u0 R (.ob (.b true) (.ifc (.at x)) (.test (.nilV (.at x)) X Y)) bk u Ag := by
 refine ⟨fun _ => h.isErr, fun hb => ?_, fun hb => ?_⟩
 ·have hb : nilB x = true := hb
  rw [h.nil] at hb; exact h1 (by simpa using hb)
 ·have hb : nilB x = false := hb
  rw [h.nil] at hb; exact h2 (by simpa using hb)
end
def ck (A : Option Addr) (n c : Nat) (m r news : Int) : Cells S.ty K5 := ((A, n, c), m, r, news, ())
variable (A : Option Addr) (c : Nat) (ns : List Nd) (m r news : Int) (b : Nat) (u : Mem)
theorem cnode.cv (i : Int) (hd : DiskAt u A ns) (hl : ns.length ≤ 1000000) :
  CV Tryz.prog 85 [.pointer (some ⟨b, 0, none⟩), .int .i64 i] [(b, Sx.cv K5 (ck A ns.length c m r news))] u fun v cs u' => cs = [Sx.cv K5 (ck A ns.length c m r news)] ∧ ∃ a7 c7, v = .agg (Sx.cv K0 ((getL ns i).row a7 c7)).toArray ∧ (getL ns i).f7.length ≤ c7 ∧ EntAt u' a7 (getL ns i).f7 := by
 refine cv_of names draws (fn := Tryz.f85) (b := bodyOf Tryz.f85) rfl rfl [] (cnode.args (ck A ns.length c m r news) (i, ())) (cnode.giv _ _) (fun _ => b) (cnode.run _ _) (by kernel_rfl) rfl rfl ?_
 unfold cnode.T
 intro b1 hb1
 refine hold_call ((get.cv A c ns m r i u hd hl).mono fun v cs u1 hu1 ⟨hc, a7, c7, hv, h7, h8⟩ => ⟨((getL ns i).f0, (getL ns i).f1, (getL ns i).f2, (getL ns i).f3, (getL ns i).f4, (getL ns i).f5, (getL ns i).f6, (a7, (getL ns i).f7.length, c7), getB ns i, ()), (), hv, hc, fun b2 h2 => ⟨rfl, a7, c7, rfl, h7, h8⟩⟩)
theorem writes.cv (who dir : Int) (hd : DiskAt u A ns) (hl : ns.length ≤ 1000000) :
  CV Tryz.prog 49 [.pointer (some ⟨b, 0, none⟩), .int .i64 who, .int .i64 dir] [(b, Sx.cv K5 (ck A ns.length c m r news))] u fun v cs u' => cs = [Sx.cv K5 (ck A ns.length c m r news)] ∧ ((writesB ns who dir = true ∧ v = .nilIface) ∨ (writesB ns who dir = false ∧ v = .iface 92 (.int .i64 7))) := by
 refine cv_of names draws (fn := Tryz.f49) (b := bodyOf Tryz.f49) rfl rfl [] (writes.args (ck A ns.length c m r news) (who, ()) (dir, ())) (writes.giv _ _ _) (fun _ => b) (writes.run _ _ _) (by kernel_rfl) rfl rfl ?_
 unfold writes.T
 refine hold_callm ((cnode.cv A c ns m r news b u dir hd hl).mono fun v cs u1 hu1 ⟨hc, a7, c7, hv, h7, h8⟩ => ⟨(getL ns dir).row a7 c7, (ck A ns.length c m r news, ()), hv, hc, fun b1 hb1 => ?_⟩) rfl rfl
 refine hold_call ((may.cv (getL ns dir).f1 (getL ns dir).f2 who 2 u1).mono fun v cs u2 hu2 ⟨hc, hv⟩ => ⟨(writesB ns who dir, ()), (), hv, hc, fun h => ?_, fun h => ?_⟩)
 ·exact ⟨rfl, .inr ⟨by have h : (!writesB ns who dir) = true := h; simpa using h, rfl⟩⟩
 ·exact ⟨rfl, .inl ⟨by have h : (!writesB ns who dir) = false := h; simpa using h, rfl⟩⟩
theorem writesE_of {u : Mem} {ns : List Nd} {who dir : Int} {v : Value} (h : (writesB ns who dir = true ∧ v = .nilIface) ∨ (writesB ns who dir = false ∧ v = .iface 92 (.int .i64 7))) : ErrE u v (writesE ns who dir) := by
 unfold writesE
 rcases h with ⟨h, rfl⟩ | ⟨h, rfl⟩
 ·rw [if_pos h]; exact errE_nil
 ·rw [if_neg (by rw [h]; simp)]; exact errE_ref (by decide)
theorem cwalk.cv (who from_ : Int) (path : ByteArray) (hd : DiskAt u A ns) (hn : NsOk ns) (hg : EgM u) (hp : path.size ≤ 1000000000000) :
  CV Tryz.prog 46 [.pointer (some ⟨b, 0, none⟩), .agg #[.int .i64 who, .int .i64 from_], .string path] [(b, Sx.cv K5 (ck A ns.length c m r news))] u fun v cs u' => cs = [Sx.cv K5 (ck A ns.length c m r news)] ∧ ∃ e, v = .tuple #[.agg (Sx.cv K3 (walkF ns who from_ path false).1.row).toArray, e] ∧ ErrE u' e (walkF ns who from_ path false).2 := by
 refine cv_of names draws (fn := Tryz.f46) (b := bodyOf Tryz.f46) rfl rfl [] (cwalk.args (ck A ns.length c m r news) (who, from_, ()) (path, ())) (cwalk.giv _ _ _) (fun _ => b) (cwalk.run _ _ _) (by kernel_rfl) rfl rfl ?_
 unfold cwalk.T
 intro b1 hb1 b2 hb2
 generalize hw : walkF ns who from_ path false = w
 obtain ⟨sp, e⟩ := w
 refine hold_call ((walk.cv A c ns m r who from_ path false u hd hn hg hp).mono fun v cs u1 hu1 ⟨hc, hv⟩ => ⟨(sp.f0, sp.f1, sp.f2, sp.f3, e, ()), (), by rw [hv, hw]; rfl, hc, fun b3 hb3 => ?_⟩)
 refine hold_call ((no_.cv e u1).mono fun v cs u2 hu2 ⟨hc, hv⟩ => ⟨(v, ()), (), rfl, hc, rfl, v, rfl, hv⟩)
theorem there.cv (who from_ : Int) (path : ByteArray) (hd : DiskAt u A ns) (hn : NsOk ns) (hg : EgM u) (hp : path.size ≤ 1000000000000) :
  CV Tryz.prog 45 [.pointer (some ⟨b, 0, none⟩), .agg #[.int .i64 who, .int .i64 from_], .string path] [(b, Sx.cv K5 (ck A ns.length c m r news))] u fun v cs u' => cs = [Sx.cv K5 (ck A ns.length c m r news)] ∧ ∃ a7 c7 e, v = .tuple #[.agg (Sx.cv K3 (thereF ns who from_ path).1.row).toArray, .agg (Sx.cv K0 ((getL ns (thereF ns who from_ path).1.f2).row a7 c7)).toArray, e] ∧ ErrE u' e (thereF ns who from_ path).2 ∧
   (getL ns (thereF ns who from_ path).1.f2).f7.length ≤ c7 ∧ EntAt u' a7 (getL ns (thereF ns who from_ path).1.f2).f7 := by
 refine cv_of names draws (fn := Tryz.f45) (b := bodyOf Tryz.f45) rfl rfl [] (there.args (ck A ns.length c m r news) (who, from_, ()) (path, ())) (there.giv _ _ _) (fun _ => b) (there.run _ _ _) (by kernel_rfl) rfl rfl ?_
 unfold there.T thereF
 intro b1 hb1 b2 hb2 b3 hb3
 generalize hw : walkF ns who from_ path false = w
 obtain ⟨sp, e⟩ := w
 refine hold_callm ((cwalk.cv A c ns m r news b u who from_ path hd hn hg hp).mono fun v cs u1 hu1 ⟨hc, ev, hv, he⟩ => ⟨(sp.f0, sp.f1, sp.f2, sp.f3, ev, ()), (ck A ns.length c m r news, ()), by rw [hv, hw]; rfl, hc, fun b4 hb4 => ?_⟩) rfl rfl
 rw [hw] at he
 have he : ErrE u1 ev e := he
 refine ⟨fun _ => he.isErr, fun hb => ?_, fun hb => ?_⟩
 ·have hb : (bif nilB ev then cmpI .lss sp.f2 0 else false) = true := hb
  rw [he.nil] at hb
  have hb : e = 0 ∧ sp.f2 < 0 := by
   by_cases h0 : e = 0
   ·rw [decide_eq_true h0, cond_true, cT_lss] at hb; exact ⟨h0, hb⟩
   ·rw [decide_eq_false h0] at hb; cases hb
  refine hold_callm ((cnode.cv A c ns m r news b u1 sp.f2 (hd.mono hu1) hn.len).mono fun v cs u2 hu2 ⟨hc, a7, c7, hv, h7, h8⟩ => ⟨(getL ns sp.f2).row a7 c7, (ck A ns.length c m r news, ()), hv, hc, rfl, a7, c7, _, rfl, ?_, h7, h8⟩) rfl rfl
  simp only
  rw [if_pos hb]; exact errE_ref (by decide)
 ·have hb : (bif nilB ev then cmpI .lss sp.f2 0 else false) = false := hb
  rw [he.nil] at hb
  have hb : ¬ (e = 0 ∧ sp.f2 < 0) := by
   rintro ⟨h0, h1⟩
   rw [decide_eq_true h0, cond_true, cF_lss] at hb; exact absurd h1 (Int.not_lt.2 hb)
  refine hold_callm ((cnode.cv A c ns m r news b u1 sp.f2 (hd.mono hu1) hn.len).mono fun v cs u2 hu2 ⟨hc, a7, c7, hv, h7, h8⟩ => ⟨(getL ns sp.f2).row a7 c7, (ck A ns.length c m r news, ()), hv, hc, rfl, a7, c7, _, rfl, ?_, h7, h8⟩) rfl rfl
  simp only
  rw [if_neg hb]; exact he.mono hu2
theorem alive.cv (dir : Int) (hd : DiskAt u A ns) (hl : ns.length ≤ 1000000) :
  CV Tryz.prog 95 [.pointer (some ⟨b, 0, none⟩), .int .i64 dir] [(b, Sx.cv K5 (ck A ns.length c m r news))] u fun v cs u' => cs = [Sx.cv K5 (ck A ns.length c m r news)] ∧ ErrE u' v (aliveE ns dir) := by
 refine cv_of names draws (fn := Tryz.f95) (b := bodyOf Tryz.f95) rfl rfl [] (alive.args (ck A ns.length c m r news) (dir, ())) (alive.giv _ _) (fun _ => b) (alive.run _ _) (by kernel_rfl) rfl rfl ?_
 unfold alive.T aliveE
 refine hold_callm ((cnode.cv A c ns m r news b u dir hd hl).mono fun v cs u1 hu1 ⟨hc, a7, c7, hv, h7, h8⟩ => ⟨(getL ns dir).row a7 c7, (ck A ns.length c m r news, ()), hv, hc, fun h => ?_, fun h => ?_⟩) rfl rfl
 ·simp only [E.den, cT_lss] at h
  have h : (getL ns dir).f3 < 1 := h
  rw [if_pos h]; exact ⟨rfl, errE_ref (by decide)⟩
 ·simp only [E.den, cF_lss] at h
  have h : 1 ≤ (getL ns dir).f3 := h
  rw [if_neg (by omega)]; exact ⟨rfl, errE_nil⟩
theorem free.cv (who from_ : Int) (s : Sp) (hd : DiskAt u A ns) (hl : ns.length ≤ 1000000) :
  CV Tryz.prog 80 [.pointer (some ⟨b, 0, none⟩), .agg #[.int .i64 who, .int .i64 from_], .agg (Sx.cv K3 s.row).toArray] [(b, Sx.cv K5 (ck A ns.length c m r news))] u fun v cs u' => cs = [Sx.cv K5 (ck A ns.length c m r news)] ∧ ErrE u' v (freeE ns who s) := by
 refine cv_of names draws (fn := Tryz.f80) (b := bodyOf Tryz.f80) rfl rfl [] (free.args (ck A ns.length c m r news) (who, from_, ()) s.row) (free.giv _ _ _) (fun _ => b) (free.run _ _ _) (by kernel_rfl) rfl rfl ?_
 unfold free.T freeE
 intro b1 hb1 b2 hb2
 refine ⟨fun h => ?_, fun h => ?_⟩
 ·simp only [E.den, cT_geq] at h
  have h : 0 ≤ s.f2 := h
  rw [if_pos h]; exact ⟨rfl, errE_ref (by decide)⟩
 simp only [E.den, cF_geq] at h
 have h : s.f2 < 0 := h
 rw [if_neg (by omega)]
 refine hold_callm ((alive.cv A c ns m r news b u s.f0 hd hl).mono fun v cs u1 hu1 ⟨hc, he⟩ => ⟨(v, ()), (ck A ns.length c m r news, ()), rfl, hc, hold_err he (fun h0 => ?_) fun h0 => ?_⟩) rfl rfl
 ·unfold aliveE at he h0
  split at h0
  ·rename_i h3; rw [if_pos h3]; rw [if_pos h3] at he; exact ⟨rfl, he⟩
  ·exact absurd rfl h0
 ·have h3 : ¬ (getL ns s.f0).f3 < 1 := fun h3 => by unfold aliveE at h0; rw [if_pos h3] at h0; cases h0
  rw [if_neg h3]
  exact hold_callm ((writes.cv A c ns m r news b u1 who s.f0 (hd.mono hu1) hl).mono fun v cs u2 hu2 ⟨hc, he⟩ => ⟨(v, ()), (ck A ns.length c m r news, ()), rfl, hc, rfl, writesE_of he⟩) rfl rfl
end Go.Proofs.YtpfbimkpcnnfkaaGreatDoor.Sx
set_option maxRecDepth 100000
set_option linter.unusedVariables false
set_option linter.unusedSimpArgs false
namespace Go.Proofs.YtpfbimkpcnnfkaaGreatDoor.Sx
open Go Go.RowKit Go.Proofs.YtpfbimkpcnnfkaaGreatDoor Go.Proofs.YtpfbimkpcnnfkaaGreatDoor.Ext
theorem turn_len (ns : List Nd) (i : Int) (f : Nd → Nd) : (turnF ns i f).length = ns.length := setL_len _ _ _
section
variable (n : Nd) (a7 : Option Addr) (c7 b0 b1 b2 : Nat) (u : Mem)
theorem put1.cv (s : Sp) (ino : Int) (hd : EntAt u a7 n.f7) (hl : n.f7.length ≤ 100000) (hR : Rising n.f7) :
  CV Tryz.prog 101 [.pointer (some ⟨b0, 0, none⟩), .pointer (some ⟨b1, 0, none⟩), .pointer (some ⟨b2, 0, none⟩)] [(b0, Sx.cv K0 (n.row a7 c7)), (b1, Sx.cv K3 s.row), (b2, [.int .i64 ino])] u fun v cs u' => v = .tuple #[] ∧ ∃ a' c', cs = [Sx.cv K0 ((nPut s ino n).row a' c'), Sx.cv K3 s.row, [.int .i64 ino]] ∧ (nPut s ino n).f7.length ≤ c' ∧ EntAt u' a' (nPut s ino n).f7 := by
 refine cv_of names draws (fn := Tryz.f101) (b := bodyOf Tryz.f101) rfl rfl [] (put1.args (n.row a7 c7) s.row (ino, ())) (put1.giv _ _ _) (fun i => if i = 16 then b0 else if i = 17 then b1 else b2) (put1.run _ _ _) (by kernel_rfl) rfl rfl ?_
 unfold put1.T
 refine hold_call ((eput.cv a7 c7 n.f7 ⟨s.f1, ino⟩ u hd hl hR).mono fun v cs u1 hu1 ⟨hc, s', hv, hs, hg⟩ => ⟨(s', ()), (), hv, hc, rfl, s'.1, s'.2.2, ?_, ?_, grow_ent hg⟩)
 ·show _ = [Sx.cv K0 (({ n with f7 := putF n.f7 ⟨s.f1, ino⟩ } : Nd).row s'.1 s'.2.2), _, _]
  unfold Nd.row; rw [← hs]; rfl
 ·show (putF n.f7 ⟨s.f1, ino⟩).length ≤ _
  rw [← hs]; exact hg.cap
theorem drop1.cv (s : Sp) (hd : EntAt u a7 n.f7) (hl : n.f7.length ≤ 100000) (hR : Rising n.f7) :
  CV Tryz.prog 97 [.pointer (some ⟨b0, 0, none⟩), .pointer (some ⟨b1, 0, none⟩)] [(b0, Sx.cv K0 (n.row a7 c7)), (b1, Sx.cv K3 s.row)] u fun v cs u' => v = .tuple #[] ∧ ∃ a' c', cs = [Sx.cv K0 ((nDrop s n).row a' c'), Sx.cv K3 s.row] ∧ (nDrop s n).f7.length ≤ c' ∧ EntAt u' a' (nDrop s n).f7 := by
 refine cv_of names draws (fn := Tryz.f97) (b := bodyOf Tryz.f97) rfl rfl [] (drop1.args (n.row a7 c7) s.row) (drop1.giv _ _) (fun i => if i = 13 then b0 else b1) (drop1.run _ _) (by kernel_rfl) rfl rfl ?_
 unfold drop1.T
 refine hold_call ((edrop.cv a7 c7 n.f7 s.f1 u hd hl hR).mono fun v cs u1 hu1 ⟨hc, s', hv, hs, hg⟩ => ⟨(s', ()), (), hv, hc, rfl, s'.1, s'.2.2, ?_, ?_, grow_ent hg⟩)
 ·show _ = [Sx.cv K0 (({ n with f7 := dropF n.f7 s.f1 } : Nd).row s'.1 s'.2.2), _]
  unfold Nd.row; rw [← hs]; rfl
 ·show (dropF n.f7 s.f1).length ≤ _
  rw [← hs]; exact hg.cap
theorem lose1.cv (h7 : n.f7.length ≤ c7) (hd : EntAt u a7 n.f7) :
  CV Tryz.prog 99 [.pointer (some ⟨b0, 0, none⟩)] [(b0, Sx.cv K0 (n.row a7 c7))] u fun v cs u' => v = .tuple #[] ∧ ∃ a' c', cs = [Sx.cv K0 ((nLess n).row a' c')] ∧ (nLess n).f7.length ≤ c' ∧ EntAt u' a' (nLess n).f7 := by
 refine cv_of names draws (fn := Tryz.f99) (b := bodyOf Tryz.f99) rfl rfl [] (lose1.args (n.row a7 c7)) (lose1.giv _) (fun _ => b0) (lose1.run _) (by kernel_rfl) rfl rfl ?_
 unfold lose1.T nLess
 refine ⟨fun h => ?_, fun h => ?_⟩
 ·simp only [E.den, cT_eql] at h
  have h : n.f0 = 2 := h
  simp only [if_pos h]
  exact ⟨rfl, a7, c7, rfl, h7, hd⟩
 ·simp only [E.den, cF_eql] at h
  have h : ¬ n.f0 = 2 := h
  simp only [if_neg h]
  exact ⟨rfl, a7, c7, rfl, h7, hd⟩
theorem link11.cv (h7 : n.f7.length ≤ c7) (hd : EntAt u a7 n.f7) :
  CV Tryz.prog 81 [.pointer (some ⟨b0, 0, none⟩)] [(b0, Sx.cv K0 (n.row a7 c7))] u fun v cs u' => v = .tuple #[] ∧ ∃ a' c', cs = [Sx.cv K0 ((nMore n).row a' c')] ∧ (nMore n).f7.length ≤ c' ∧ EntAt u' a' (nMore n).f7 := by
 refine cv_of names draws (fn := Tryz.f81) (b := bodyOf Tryz.f81) rfl rfl [] (link11.args (n.row a7 c7)) (link11.giv _) (fun _ => b0) (link11.run _) (by kernel_rfl) rfl rfl ?_
 exact ⟨rfl, a7, c7, rfl, h7, hd⟩
theorem ren11.cv (s : Sp) (h7 : n.f7.length ≤ c7) (hd : EntAt u a7 n.f7) :
  CV Tryz.prog 55 [.pointer (some ⟨b0, 0, none⟩), .pointer (some ⟨b1, 0, none⟩)] [(b0, Sx.cv K0 (n.row a7 c7)), (b1, Sx.cv K3 s.row)] u fun v cs u' => v = .tuple #[] ∧ ∃ a' c', cs = [Sx.cv K0 ((nUp s.f0 n).row a' c'), Sx.cv K3 s.row] ∧ (nUp s.f0 n).f7.length ≤ c' ∧ EntAt u' a' (nUp s.f0 n).f7 := by
 refine cv_of names draws (fn := Tryz.f55) (b := bodyOf Tryz.f55) rfl rfl [] (ren11.args (n.row a7 c7) s.row) (ren11.giv _ _) (fun i => if i = 8 then b0 else b1) (ren11.run _ _) (by kernel_rfl) rfl rfl ?_
 exact ⟨rfl, a7, c7, rfl, h7, hd⟩
theorem chm11.cv (mode : Int) (h7 : n.f7.length ≤ c7) (hd : EntAt u a7 n.f7) :
  CV Tryz.prog 86 [.pointer (some ⟨b0, 0, none⟩), .pointer (some ⟨b1, 0, none⟩)] [(b0, Sx.cv K0 (n.row a7 c7)), (b1, [.int .i64 mode])] u fun v cs u' => v = .tuple #[] ∧ ∃ a' c', cs = [Sx.cv K0 ((nMode mode n).row a' c'), [.int .i64 mode]] ∧ (nMode mode n).f7.length ≤ c' ∧ EntAt u' a' (nMode mode n).f7 := by
 refine cv_of names draws (fn := Tryz.f86) (b := bodyOf Tryz.f86) rfl rfl [] (chm11.args (n.row a7 c7) (mode, ())) (chm11.giv _ _) (fun i => if i = 8 then b0 else b1) (chm11.run _ _) (by kernel_rfl) rfl rfl ?_
 exact ⟨rfl, a7, c7, rfl, h7, hd⟩
end
variable (A : Option Addr) (c : Nat) (ns : List Nd) (m r news : Int) (b b1 b2 : Nat) (u : Mem)
theorem turnPut.cv (i : Int) (s : Sp) (ino : Int) (hd : DiskAt u A ns) (hl : ns.length ≤ 1000000) (hnl : (getL ns i).f7.length ≤ 100000) (hR : Rising (getL ns i).f7) :
  CV Tryz.prog 54 [.pointer (some ⟨b, 0, none⟩), .int .i64 i, .func (.func 101) #[] #[.pointer (some ⟨b1, 0, none⟩), .pointer (some ⟨b2, 0, none⟩)]] [(b, Sx.cv K5 (ck A ns.length c m r news)), (b1, Sx.cv K3 s.row), (b2, [.int .i64 ino])] u fun v cs u' => v = .tuple #[] ∧ ∃ A' c', cs = [Sx.cv K5 (ck A' (turnF ns i (nPut s ino)).length c' m r news), Sx.cv K3 s.row, [.int .i64 ino]] ∧ DiskAt u' A' (turnF ns i (nPut s ino)) := by
 refine cv_of names draws (fn := Tryz.f54) (b := bodyOf Tryz.f54) rfl rfl [] (turnPut.args (ck A ns.length c m r news) (i, ()) s.row (ino, ())) (turnPut.giv _ _ _ _) (fun i => if i = 22 then b else if i = 25 then b1 else b2) (turnPut.run _ _ _ _) (by kernel_rfl) rfl rfl ?_
 unfold turnPut.T
 refine hold_callm ((cnode.cv A c ns m r news b u i hd hl).mono fun v cs u1 hu1 ⟨hc, a7, c7, hv, h7, h8⟩ => ⟨(getL ns i).row a7 c7, (ck A ns.length c m r news, ()), hv, hc, fun b6 hb6 => ?_⟩) rfl rfl
 refine hold_callm ((put1.cv (getL ns i) a7 c7 b6 b1 b2 u1 s ino h8 hnl hR).mono fun v cs u2 hu2 ⟨hv, a', c', hc, h7', h8'⟩ => ⟨(), ((nPut s ino (getL ns i)).row a' c', s.row, (ino, ()), ()), hv, hc, ?_⟩) rfl rfl
 refine hold_call ((dset.cv A c ns m r i (nPut s ino (getL ns i)) a' c' u2 (hd.mono (Mem.le_trans hu1 hu2)) h8' h7' hl).mono fun v cs u3 hu3 ⟨hc, A', c2, hv, hd'⟩ => ⟨((A', (turnF ns i (nPut s ino)).length, c2), m, r, ()), (), hv, hc, rfl, A', c2, rfl, hd'⟩)
theorem turnDrop.cv (i : Int) (s : Sp) (hd : DiskAt u A ns) (hl : ns.length ≤ 1000000) (hnl : (getL ns i).f7.length ≤ 100000) (hR : Rising (getL ns i).f7) :
  CV Tryz.prog 54 [.pointer (some ⟨b, 0, none⟩), .int .i64 i, .func (.func 97) #[] #[.pointer (some ⟨b1, 0, none⟩)]] [(b, Sx.cv K5 (ck A ns.length c m r news)), (b1, Sx.cv K3 s.row)] u fun v cs u' => v = .tuple #[] ∧ ∃ A' c', cs = [Sx.cv K5 (ck A' (turnF ns i (nDrop s)).length c' m r news), Sx.cv K3 s.row] ∧ DiskAt u' A' (turnF ns i (nDrop s)) := by
 refine cv_of names draws (fn := Tryz.f54) (b := bodyOf Tryz.f54) rfl rfl [] (turnDrop.args (ck A ns.length c m r news) (i, ()) s.row) (turnDrop.giv _ _ _) (fun i => if i = 22 then b else b1) (turnDrop.run _ _ _) (by kernel_rfl) rfl rfl ?_
 unfold turnDrop.T
 refine hold_callm ((cnode.cv A c ns m r news b u i hd hl).mono fun v cs u1 hu1 ⟨hc, a7, c7, hv, h7, h8⟩ => ⟨(getL ns i).row a7 c7, (ck A ns.length c m r news, ()), hv, hc, fun b6 hb6 => ?_⟩) rfl rfl
 refine hold_callm ((drop1.cv (getL ns i) a7 c7 b6 b1 u1 s h8 hnl hR).mono fun v cs u2 hu2 ⟨hv, a', c', hc, h7', h8'⟩ => ⟨(), ((nDrop s (getL ns i)).row a' c', (s.row, ())), hv, hc, ?_⟩) rfl rfl
 refine hold_call ((dset.cv A c ns m r i ((nDrop s) (getL ns i)) a' c' u2 (hd.mono (Mem.le_trans hu1 hu2)) h8' h7' hl).mono fun v cs u3 hu3 ⟨hc, A', c2, hv, hd'⟩ => ⟨((A', (turnF ns i (nDrop s)).length, c2), m, r, ()), (), hv, hc, rfl, A', c2, rfl, hd'⟩)
theorem turnLose.cv (i : Int)  (hd : DiskAt u A ns) (hl : ns.length ≤ 1000000) :
  CV Tryz.prog 54 [.pointer (some ⟨b, 0, none⟩), .int .i64 i, .func (.func 99) #[] #[]] [(b, Sx.cv K5 (ck A ns.length c m r news))] u fun v cs u' => v = .tuple #[] ∧ ∃ A' c', cs = [Sx.cv K5 (ck A' (turnF ns i nLess).length c' m r news)] ∧ DiskAt u' A' (turnF ns i nLess) := by
 refine cv_of names draws (fn := Tryz.f54) (b := bodyOf Tryz.f54) rfl rfl [] (turnLose.args (ck A ns.length c m r news) (i, ())) (turnLose.giv _ _) (fun _ => b) (turnLose.run _ _) (by kernel_rfl) rfl rfl ?_
 unfold turnLose.T
 refine hold_callm ((cnode.cv A c ns m r news b u i hd hl).mono fun v cs u1 hu1 ⟨hc, a7, c7, hv, h7, h8⟩ => ⟨(getL ns i).row a7 c7, (ck A ns.length c m r news, ()), hv, hc, fun b6 hb6 => ?_⟩) rfl rfl
 refine hold_callm ((lose1.cv (getL ns i) a7 c7 b6  u1 h7 h8).mono fun v cs u2 hu2 ⟨hv, a', c', hc, h7', h8'⟩ => ⟨(), ((nLess (getL ns i)).row a' c', ()), hv, hc, ?_⟩) rfl rfl
 refine hold_call ((dset.cv A c ns m r i (nLess (getL ns i)) a' c' u2 (hd.mono (Mem.le_trans hu1 hu2)) h8' h7' hl).mono fun v cs u3 hu3 ⟨hc, A', c2, hv, hd'⟩ => ⟨((A', (turnF ns i nLess).length, c2), m, r, ()), (), hv, hc, rfl, A', c2, rfl, hd'⟩)
theorem turnLink.cv (i : Int)  (hd : DiskAt u A ns) (hl : ns.length ≤ 1000000) :
  CV Tryz.prog 54 [.pointer (some ⟨b, 0, none⟩), .int .i64 i, .func (.func 81) #[] #[]] [(b, Sx.cv K5 (ck A ns.length c m r news))] u fun v cs u' => v = .tuple #[] ∧ ∃ A' c', cs = [Sx.cv K5 (ck A' (turnF ns i nMore).length c' m r news)] ∧ DiskAt u' A' (turnF ns i nMore) := by
 refine cv_of names draws (fn := Tryz.f54) (b := bodyOf Tryz.f54) rfl rfl [] (turnLink.args (ck A ns.length c m r news) (i, ())) (turnLink.giv _ _) (fun _ => b) (turnLink.run _ _) (by kernel_rfl) rfl rfl ?_
 unfold turnLink.T
 refine hold_callm ((cnode.cv A c ns m r news b u i hd hl).mono fun v cs u1 hu1 ⟨hc, a7, c7, hv, h7, h8⟩ => ⟨(getL ns i).row a7 c7, (ck A ns.length c m r news, ()), hv, hc, fun b6 hb6 => ?_⟩) rfl rfl
 refine hold_callm ((link11.cv (getL ns i) a7 c7 b6  u1 h7 h8).mono fun v cs u2 hu2 ⟨hv, a', c', hc, h7', h8'⟩ => ⟨(), ((nMore (getL ns i)).row a' c', ()), hv, hc, ?_⟩) rfl rfl
 refine hold_call ((dset.cv A c ns m r i (nMore (getL ns i)) a' c' u2 (hd.mono (Mem.le_trans hu1 hu2)) h8' h7' hl).mono fun v cs u3 hu3 ⟨hc, A', c2, hv, hd'⟩ => ⟨((A', (turnF ns i nMore).length, c2), m, r, ()), (), hv, hc, rfl, A', c2, rfl, hd'⟩)
theorem turnRen.cv (i : Int) (s : Sp) (hd : DiskAt u A ns) (hl : ns.length ≤ 1000000) :
  CV Tryz.prog 54 [.pointer (some ⟨b, 0, none⟩), .int .i64 i, .func (.func 55) #[] #[.pointer (some ⟨b1, 0, none⟩)]] [(b, Sx.cv K5 (ck A ns.length c m r news)), (b1, Sx.cv K3 s.row)] u fun v cs u' => v = .tuple #[] ∧ ∃ A' c', cs = [Sx.cv K5 (ck A' (turnF ns i (nUp s.f0)).length c' m r news), Sx.cv K3 s.row] ∧ DiskAt u' A' (turnF ns i (nUp s.f0)) := by
 refine cv_of names draws (fn := Tryz.f54) (b := bodyOf Tryz.f54) rfl rfl [] (turnRen.args (ck A ns.length c m r news) (i, ()) s.row) (turnRen.giv _ _ _) (fun i => if i = 22 then b else b1) (turnRen.run _ _ _) (by kernel_rfl) rfl rfl ?_
 unfold turnRen.T
 refine hold_callm ((cnode.cv A c ns m r news b u i hd hl).mono fun v cs u1 hu1 ⟨hc, a7, c7, hv, h7, h8⟩ => ⟨(getL ns i).row a7 c7, (ck A ns.length c m r news, ()), hv, hc, fun b6 hb6 => ?_⟩) rfl rfl
 refine hold_callm ((ren11.cv (getL ns i) a7 c7 b6 b1 u1 s h7 h8).mono fun v cs u2 hu2 ⟨hv, a', c', hc, h7', h8'⟩ => ⟨(), ((nUp s.f0 (getL ns i)).row a' c', (s.row, ())), hv, hc, ?_⟩) rfl rfl
 refine hold_call ((dset.cv A c ns m r i ((nUp s.f0) (getL ns i)) a' c' u2 (hd.mono (Mem.le_trans hu1 hu2)) h8' h7' hl).mono fun v cs u3 hu3 ⟨hc, A', c2, hv, hd'⟩ => ⟨((A', (turnF ns i (nUp s.f0)).length, c2), m, r, ()), (), hv, hc, rfl, A', c2, rfl, hd'⟩)
theorem turnChm.cv (i : Int) (mode : Int) (hd : DiskAt u A ns) (hl : ns.length ≤ 1000000) :
  CV Tryz.prog 54 [.pointer (some ⟨b, 0, none⟩), .int .i64 i, .func (.func 86) #[] #[.pointer (some ⟨b1, 0, none⟩)]] [(b, Sx.cv K5 (ck A ns.length c m r news)), (b1, [.int .i64 mode])] u fun v cs u' => v = .tuple #[] ∧ ∃ A' c', cs = [Sx.cv K5 (ck A' (turnF ns i (nMode mode)).length c' m r news), [.int .i64 mode]] ∧ DiskAt u' A' (turnF ns i (nMode mode)) := by
 refine cv_of names draws (fn := Tryz.f54) (b := bodyOf Tryz.f54) rfl rfl [] (turnChm.args (ck A ns.length c m r news) (i, ()) (mode, ())) (turnChm.giv _ _ _) (fun i => if i = 22 then b else b1) (turnChm.run _ _ _) (by kernel_rfl) rfl rfl ?_
 unfold turnChm.T
 refine hold_callm ((cnode.cv A c ns m r news b u i hd hl).mono fun v cs u1 hu1 ⟨hc, a7, c7, hv, h7, h8⟩ => ⟨(getL ns i).row a7 c7, (ck A ns.length c m r news, ()), hv, hc, fun b6 hb6 => ?_⟩) rfl rfl
 refine hold_callm ((chm11.cv (getL ns i) a7 c7 b6 b1 u1 mode h7 h8).mono fun v cs u2 hu2 ⟨hv, a', c', hc, h7', h8'⟩ => ⟨(), ((nMode mode (getL ns i)).row a' c', ((mode, ()), ())), hv, hc, ?_⟩) rfl rfl
 refine hold_call ((dset.cv A c ns m r i ((nMode mode) (getL ns i)) a' c' u2 (hd.mono (Mem.le_trans hu1 hu2)) h8' h7' hl).mono fun v cs u3 hu3 ⟨hc, A', c2, hv, hd'⟩ => ⟨((A', (turnF ns i (nMode mode)).length, c2), m, r, ()), (), hv, hc, rfl, A', c2, rfl, hd'⟩)
theorem cput.cv (s : Sp) (ino : Int) (hd : DiskAt u A ns) (hl : ns.length ≤ 1000000) (hnl : (getL ns s.f0).f7.length ≤ 100000) (hR : Rising (getL ns s.f0).f7) :
  CV Tryz.prog 53 [.pointer (some ⟨b, 0, none⟩), .agg (Sx.cv K3 s.row).toArray, .int .i64 ino] [(b, Sx.cv K5 (ck A ns.length c m r news))] u fun v cs u' => v = .tuple #[] ∧ ∃ A' c', cs = [Sx.cv K5 (ck A' (putN ns s ino).length c' m r news)] ∧ DiskAt u' A' (putN ns s ino) := by
 refine cv_of names draws (fn := Tryz.f53) (b := bodyOf Tryz.f53) rfl rfl [] (cput.args (ck A ns.length c m r news) s.row (ino, ())) (cput.giv _ _ _) (fun _ => b) (cput.run _ _ _) (by kernel_rfl) rfl rfl ?_
 unfold cput.T
 intro b1 hb1 b2 hb2
 exact hold_callm ((turnPut.cv A c ns m r news b b1 b2 u s.f0 s ino hd hl hnl hR).mono fun v cs u1 hu1 ⟨hv, A', c', hc, hd'⟩ => ⟨(), (ck A' (putN ns s ino).length c' m r news, s.row, (ino, ()), ()), hv, hc, rfl, A', c', rfl, hd'⟩) rfl rfl
theorem cdrop.cv (s : Sp) (hd : DiskAt u A ns) (hl : ns.length ≤ 1000000) (hnl : (getL ns s.f0).f7.length ≤ 100000) (hR : Rising (getL ns s.f0).f7) :
  CV Tryz.prog 51 [.pointer (some ⟨b, 0, none⟩), .agg (Sx.cv K3 s.row).toArray] [(b, Sx.cv K5 (ck A ns.length c m r news))] u fun v cs u' => v = .tuple #[] ∧ ∃ A' c', cs = [Sx.cv K5 (ck A' (dropN ns s).length c' m r news)] ∧ DiskAt u' A' (dropN ns s) := by
 refine cv_of names draws (fn := Tryz.f51) (b := bodyOf Tryz.f51) rfl rfl [] (cdrop.args (ck A ns.length c m r news) s.row) (cdrop.giv _ _) (fun _ => b) (cdrop.run _ _) (by kernel_rfl) rfl rfl ?_
 unfold cdrop.T
 intro b1 hb1
 exact hold_callm ((turnDrop.cv A c ns m r news b b1 u s.f0 s hd hl hnl hR).mono fun v cs u1 hu1 ⟨hv, A', c', hc, hd'⟩ => ⟨(), (ck A' (dropN ns s).length c' m r news, s.row, ()), hv, hc, rfl, A', c', rfl, hd'⟩) rfl rfl
theorem lose.cv (s : Sp) (hd : DiskAt u A ns) (hl : ns.length ≤ 1000000) (hnl : (getL ns s.f0).f7.length ≤ 100000) (hR : Rising (getL ns s.f0).f7) :
  CV Tryz.prog 52 [.pointer (some ⟨b, 0, none⟩), .agg (Sx.cv K3 s.row).toArray] [(b, Sx.cv K5 (ck A ns.length c m r news))] u fun v cs u' => v = .tuple #[] ∧ ∃ A' c', cs = [Sx.cv K5 (ck A' (loseN ns s).length c' m r news)] ∧ DiskAt u' A' (loseN ns s) := by
 refine cv_of names draws (fn := Tryz.f52) (b := bodyOf Tryz.f52) rfl rfl [] (lose.args (ck A ns.length c m r news) s.row) (lose.giv _ _) (fun _ => b) (lose.run _ _) (by kernel_rfl) rfl rfl ?_
 unfold lose.T
 intro b1 hb1
 refine hold_callm ((cdrop.cv A c ns m r news b u s hd hl hnl hR).mono fun v cs u1 hu1 ⟨hv, A1, c1, hc, hd1⟩ => ⟨(), (ck A1 (dropN ns s).length c1 m r news, ()), hv, hc, ?_⟩) rfl rfl
 have hl1 : (dropN ns s).length ≤ 1000000 := by unfold dropN; rw [turn_len]; exact hl
 refine hold_callm ((turnLose.cv A1 c1 (dropN ns s) m r news b u1 s.f2 hd1 hl1).mono fun v cs u2 hu2 ⟨hv, A2, c2, hc, hd2⟩ => ⟨(), (ck A2 (turnF (dropN ns s) s.f2 nLess).length c2 m r news, ()), hv, hc, ?_⟩) rfl rfl
 exact hold_call ((dsettle.cv A2 c2 (turnF (dropN ns s) s.f2 nLess) m r s.f2 u2 hd2 (by rw [turn_len]; exact hl1)).mono fun v cs u3 hu3 ⟨hc, A3, c3, hv, hd3⟩ => ⟨((A3, (loseN ns s).length, c3), m, r, ()), (), hv, hc, rfl, A3, c3, rfl, hd3⟩)
end Go.Proofs.YtpfbimkpcnnfkaaGreatDoor.Sx
set_option maxRecDepth 100000
set_option linter.unusedVariables false
set_option linter.unusedSimpArgs false
namespace Go.Proofs.YtpfbimkpcnnfkaaGreatDoor.Sx
open Go Go.RowKit Go.Proofs.YtpfbimkpcnnfkaaGreatDoor Go.Proofs.YtpfbimkpcnnfkaaGreatDoor.Ext
structure NdR (n : Nd) : Prop where
 rise : Rising n.f7
 len : n.f7.length ≤ 100000
def NsR (ns : List Nd) : Prop := ∀ n ∈ ns, NdR n
structure Ok8 (ns : List Nd) : Prop where
 ok : NsOk ns
 len : ns.length ≤ 50000
 ris : NsR ns
theorem zNd_r : NdR zNd := ⟨fun j x y hx => by simp [zNd] at hx, by decide⟩
theorem getL_cases (ns : List Nd) (i : Int) : getL ns i = zNd ∨ getL ns i ∈ ns := by
 unfold getL
 split
 ·rename_i hb
  unfold getB at hb
  have hb := of_decide_eq_true hb
  right
  have : i.toNat < ns.length := by omega
  rw [show ns.getD i.toNat zNd = ns[i.toNat] by simp [List.getD, this]]
  exact List.getElem_mem this
 ·exact .inl rfl
theorem NsR.get {ns : List Nd} (h : NsR ns) (i : Int) : NdR (getL ns i) := by
 rcases getL_cases ns i with e | e
 ·rw [e]; exact zNd_r
 ·exact h _ e
theorem NsR.set {ns : List Nd} (h : NsR ns) (i : Int) {n : Nd} (hn : NdR n) : NsR (setL ns i n) := by
 unfold setL
 split
 ·intro x hx
  rcases List.mem_or_eq_of_mem_set hx with hx | rfl
  ·exact h x hx
  ·exact hn
 ·exact h
theorem NsR.turn {ns : List Nd} (h : NsR ns) (i : Int) {f : Nd → Nd} (hf : ∀ n, NdR n → NdR (f n)) : NsR (turnF ns i f) := h.set i (hf _ (h.get i))
theorem rising_filter {l : List En} (h : Rising l) (p : En → Bool) : Rising (l.filter p) := by
 have hp : l.Pairwise fun x y => Op.bytesLess x.f0.data.toList y.f0.data.toList = true := by
  rw [List.pairwise_iff_getElem]
  intro i j hi hj hij
  exact h.lt (j - i - 1) i _ _ (List.getElem?_eq_getElem hi) (by rw [show i + (j - i - 1) + 1 = j by omega]; exact List.getElem?_eq_getElem hj)
 have hq := hp.filter p
 intro j x y hx hy
 obtain ⟨g1, rfl⟩ := List.getElem?_eq_some_iff.1 hx
 obtain ⟨g2, rfl⟩ := List.getElem?_eq_some_iff.1 hy
 exact List.pairwise_iff_getElem.1 hq j (j + 1) g1 g2 (by omega)
theorem NdR.drop {n : Nd} (s : Sp) (h : NdR n) : NdR (nDrop s n) := ⟨rising_filter h.rise _, Nat.le_trans (List.length_filter_le _ _) h.len⟩
theorem NdR.less {n : Nd} (h : NdR n) : NdR (nLess n) := ⟨h.rise, h.len⟩
theorem NdR.more {n : Nd} (h : NdR n) : NdR (nMore n) := ⟨h.rise, h.len⟩
theorem NsR.settle {ns : List Nd} (h : NsR ns) (i : Int) : NsR (settleF ns i) := by
 unfold settleF
 split
 ·exact h.set i zNd_r
 ·exact h
theorem settle_len (ns : List Nd) (i : Int) : (settleF ns i).length = ns.length := by
 unfold settleF; split
 ·exact setL_len _ _ _
 ·rfl
theorem lose_len (ns : List Nd) (s : Sp) : (loseN ns s).length = ns.length := by unfold loseN dropN; rw [settle_len, turn_len, turn_len]
theorem NsR.lose {ns : List Nd} (h : NsR ns) (s : Sp) : NsR (loseN ns s) := ((h.turn _ fun n hn => hn.drop s).turn _ fun n hn => hn.less).settle _
theorem NsR.dropN {ns : List Nd} (h : NsR ns) (s : Sp) : NsR (dropN ns s) := h.turn _ fun n hn => hn.drop s
theorem NsR.add {ns : List Nd} {m r : Int} {n : Nd} (h : NsR ns) (hn : NdR n) : NsR (addF ns m r n).1 := by
 unfold addF
 split
 ·exact h
 ·split
  ·intro x hx
   rcases List.mem_or_eq_of_mem_set hx with hx | rfl
   ·exact h x hx
   ·exact hn
  ·intro x hx
   rcases List.mem_append.1 hx with hx | hx
   ·exact h x hx
   ·rw [List.mem_singleton.1 hx]; exact hn
theorem add_len (ns : List Nd) (m r : Int) (n : Nd) : (addF ns m r n).1.length ≤ ns.length + 1 := by
 unfold addF
 split
 ·simp
 ·split
  ·simp
  ·simp
theorem add_err (ns : List Nd) (m r : Int) (n : Nd) : ¬ (addF ns m r n).2.2 = 0 → (addF ns m r n).1 = ns := by
 unfold addF
 split
 ·exact fun _ => rfl
 ·split
  ·exact fun h => absurd rfl h
  ·exact fun h => absurd rfl h
variable (A : Option Addr) (c : Nat) (ns : List Nd) (m r news : Int) (b : Nat) (u : Mem)
theorem enter.cv (who from_ : Int) (path : ByteArray) (n : Nd) (a7 : Option Addr) (c7 : Nat) (slash : Int) (hd : DiskAt u A ns) (hn : Ok8 ns) (hg : EgM u) (hp : path.size ≤ 1000000000000) (h7 : n.f7.length ≤ c7) (h8 : EntAt u a7 n.f7) (hr : NdR n) (h6 : n.f6.size ≤ 1000000000) :
  CV Tryz.prog 67 [.pointer (some ⟨b, 0, none⟩), .agg #[.int .i64 who, .int .i64 from_], .string path, .agg (Sx.cv K0 (n.row a7 c7)).toArray, .int .i64 slash] [(b, Sx.cv K5 (ck A ns.length c m r news))] u fun v cs u' =>
   ErrE u' v (enterF ns m r who from_ path n slash).2.2 ∧ ∃ A' c', cs = [Sx.cv K5 (ck A' (enterF ns m r who from_ path n slash).1.length c' m r (if (enterF ns m r who from_ path n slash).2.2 = 0 then (enterF ns m r who from_ path n slash).2.1 else news))] ∧ DiskAt u' A' (enterF ns m r who from_ path n slash).1 := by
 refine cv_of names draws (fn := Tryz.f67) (b := bodyOf Tryz.f67) rfl rfl [] (enter.args (ck A ns.length c m r news) (who, from_, ()) (path, ()) (n.row a7 c7) (slash, ())) (enter.giv _ _ _ _ _) (fun _ => b) (enter.run _ _ _ _ _) (by kernel_rfl) rfl rfl ?_
 unfold enter.T enterF
 intro b1 hb1 b2 hb2
 have hl := hn.ok.len
 generalize hw : walkF ns who from_ path false = w
 obtain ⟨sp, e⟩ := w
 refine hold_callm ((cwalk.cv A c ns m r news b u who from_ path hd hn.ok hg hp).mono fun v cs u1 hu1 ⟨hc, ev, hv, he⟩ => ⟨(sp.f0, sp.f1, sp.f2, sp.f3, ev, ()), (ck A ns.length c m r news, ()), by rw [hv, hw]; rfl, hc, fun b4 hb4 => ?_⟩) rfl rfl
 rw [hw] at he
 have he : ErrE u1 ev e := he
 refine hold_err he (fun h0 => ?_) fun h0 => ?_
 ·simp only [if_pos h0, if_neg h0]; exact ⟨he, A, c, rfl, hd.mono hu1⟩
 subst h0
 simp only [not_true, if_false]
 unfold enterAt
 refine ⟨fun hb => ?_, fun hb => ?_⟩
 ·have hb : sp.f3 = true ∧ sp.f2 < 0 ∧ ¬ slash = 0 := by
   simp only [E.den, cD_neq] at hb
   have hb : (bif (bif sp.f3 then cmpI .lss sp.f2 0 else false) then decide (¬ slash = 0) else false) = true := hb
   cases h3 : sp.f3 with
   | false => rw [h3] at hb; cases hb
   | true =>
    rw [h3, cond_true] at hb
    cases h4 : cmpI .lss sp.f2 0 with
    | false => rw [h4] at hb; cases hb
    | true => rw [h4, cond_true] at hb; exact ⟨rfl, by rwa [cT_lss] at h4, of_decide_eq_true hb⟩
  rw [if_pos hb]
  simp only [if_neg hb.2.2]
  exact ⟨errE_ref hb.2.2, A, c, rfl, hd.mono hu1⟩
 have hb : ¬ (sp.f3 = true ∧ sp.f2 < 0 ∧ ¬ slash = 0) := by
  rintro ⟨h1, h2, h3⟩
  simp only [E.den, cD_neq] at hb
  have hb : (bif (bif sp.f3 then cmpI .lss sp.f2 0 else false) then decide (¬ slash = 0) else false) = false := hb
  rw [h1, cond_true, show cmpI .lss sp.f2 0 = true by rw [cT_lss]; exact h2, cond_true] at hb
  exact absurd h3 (of_decide_eq_false hb)
 rw [if_neg hb]
 refine hold_callm ((free.cv A c ns m r news b u1 who from_ sp (hd.mono hu1) hl).mono fun v cs u2 hu2 ⟨hc, he⟩ => ⟨(v, ()), (ck A ns.length c m r news, ()), rfl, hc, hold_err he (fun h0 => ?_) fun h0 => ?_⟩) rfl rfl
 ·rw [if_pos h0]; simp only [if_neg h0]; exact ⟨he, A, c, rfl, (hd.mono hu1).mono hu2⟩
 rw [if_neg (fun h => h h0)]
 have hu02 := Mem.le_trans hu1 hu2
 have hN : n.f0 = 2 ∧ newNd who sp.f0 n = { n with f3 := 1, f2 := who, f5 := sp.f0 } ∨ ¬ n.f0 = 2 ∧ newNd who sp.f0 n = { n with f3 := 1, f2 := who } := by
  unfold newNd
  by_cases h : n.f0 = 2
  ·exact .inl ⟨h, by rw [if_pos h]⟩
  ·exact .inr ⟨h, by rw [if_neg h]⟩
 have hN7 : (newNd who sp.f0 n).f7 = n.f7 := rfl
 have hadd := dadd.cv A c ns m r (newNd who sp.f0 n) a7 c7 u2 (hd.mono hu02) (by rw [hN7]; exact h8.mono hu02) (by rw [hN7]; exact h7) (by have := hn.len; omega) (fun x hx => Nat.le_trans (hn.ok.all_ x hx).data (by decide)) h6
 have hNR : NdR (newNd who sp.f0 n) := ⟨hr.rise, hr.len⟩
 have hRa := hn.ris.add (m := m) (r := r) hNR
 have hla := add_len ns m r (newNd who sp.f0 n)
 have hea := add_err ns m r (newNd who sp.f0 n)
 generalize newNd who sp.f0 n = N at hN hadd hRa hla hea
 generalize addF ns m r N = w at hadd hRa hla hea
 obtain ⟨ns1, i, e1⟩ := w
 have hl1 : ns1.length ≤ 1000000 := by have := hn.len; simp only at hla; omega
 refine ⟨fun h => ?_, fun h => ?_⟩
 ·simp only [E.den, cT_eql] at h
  have h : n.f0 = 2 := h
  have hN := (hN.resolve_right fun h' => h'.1 h).2
  subst hN
  refine hold_call (hadd.mono fun v cs u3 hu3 ⟨hc, A3, c3, hv, hd3⟩ => ⟨((A3, ns1.length, c3), m, r, i, e1, ()), (), hv, hc, fun b3 hb3 => ⟨fun h0 => ?_, fun h0 => ?_⟩⟩)
  ·simp only [E.den, cT_eql] at h0
   obtain rfl : e1 = 0 := h0
   refine hold_callm ((cput.cv A3 c3 ns1 m r i b u3 sp i hd3 hl1 (hRa.get _).len (hRa.get _).rise).mono fun v cs u4 hu4 ⟨hv, A4, c4, hc, hd4⟩ => ⟨(), (ck A4 (putN ns1 sp i).length c4 m r i, ()), hv, hc, ?_⟩) rfl rfl
   exact hold_call ((no_.cv 0 u4).mono fun v cs u5 hu5 ⟨hc, hv⟩ => ⟨(v, ()), (), rfl, hc, hv, A4, c4, rfl, hd4.mono hu5⟩)
  ·simp only [E.den, cF_eql] at h0
   have h9 : ¬ e1 = 0 := h0
   have hns := hea h9
   simp only at hns
   subst hns
   simp only [if_pos h9, if_neg h9]
   exact hold_call ((no_.cv e1 u3).mono fun v cs u5 hu5 ⟨hc, hv⟩ => ⟨(v, ()), (), rfl, hc, hv, A, c, rfl, (hd.mono hu02).mono (Mem.le_trans hu3 hu5)⟩)
 ·simp only [E.den, cF_eql] at h
  have h : ¬ n.f0 = 2 := h
  have hN := (hN.resolve_left fun h' => h h'.1).2
  subst hN
  refine hold_call (hadd.mono fun v cs u3 hu3 ⟨hc, A3, c3, hv, hd3⟩ => ⟨((A3, ns1.length, c3), m, r, i, e1, ()), (), hv, hc, fun b3 hb3 => ⟨fun h0 => ?_, fun h0 => ?_⟩⟩)
  ·simp only [E.den, cT_eql] at h0
   obtain rfl : e1 = 0 := h0
   refine hold_callm ((cput.cv A3 c3 ns1 m r i b u3 sp i hd3 hl1 (hRa.get _).len (hRa.get _).rise).mono fun v cs u4 hu4 ⟨hv, A4, c4, hc, hd4⟩ => ⟨(), (ck A4 (putN ns1 sp i).length c4 m r i, ()), hv, hc, ?_⟩) rfl rfl
   exact hold_call ((no_.cv 0 u4).mono fun v cs u5 hu5 ⟨hc, hv⟩ => ⟨(v, ()), (), rfl, hc, hv, A4, c4, rfl, hd4.mono hu5⟩)
  ·simp only [E.den, cF_eql] at h0
   have h9 : ¬ e1 = 0 := h0
   have hns := hea h9
   simp only at hns
   subst hns
   simp only [if_pos h9, if_neg h9]
   exact hold_call ((no_.cv e1 u3).mono fun v cs u5 hu5 ⟨hc, hv⟩ => ⟨(v, ()), (), rfl, hc, hv, A, c, rfl, (hd.mono hu02).mono (Mem.le_trans hu3 hu5)⟩)
theorem beneath.cv (i top : Int) (hd : DiskAt u A ns) (hl : ns.length ≤ 1000000) :
  CV Tryz.prog 96 [.pointer (some ⟨b, 0, none⟩), .int .i64 i, .int .i64 top] [(b, Sx.cv K5 (ck A ns.length c m r news))] u fun v cs u' => cs = [Sx.cv K5 (ck A ns.length c m r news)] ∧ v = .bool (benF ns ns.length i top) := by
 refine cv_of names draws (fn := Tryz.f96) (b := bodyOf Tryz.f96) rfl rfl [⟨2, [1, 13], [30]⟩] (beneath.args (ck A ns.length c m r news) (i, ()) (top, ())) (beneath.giv _ _ _) (fun _ => b) (beneath.run _ _ _) (by kernel_rfl) rfl rfl ?_
 unfold beneath.T
 have hat : ∀ f (j : Int), (j = top ∨ j = 0) → benF ns f j top = decide (j = top) := fun f j h => by
  cases f with
  | zero => rfl
  | succ f =>
   unfold benF
   by_cases h1 : j = top
   ·simp [h1]
   ·rw [if_neg h1, if_pos (h.resolve_left h1)]; simp [h1]
 refine hold_loop (sk := [.i .i64, .i .i64]) (oks := [K5]) (fun x y u' => u.le u' ∧ ∃ (j : Int) (k : Nat), x = (j, (k : Int), ()) ∧ y = (ck A ns.length c m r news, ()) ∧ k ≤ ns.length ∧ benF ns ns.length i top = benF ns (ns.length - k) j top) (fun x _ => ((ns.length : Int) - x.2.1).toNat) (i, 0, ()) (ck A ns.length c m r news, ()) rfl rfl ⟨Mem.le_refl u, i, 0, rfl, rfl, Nat.zero_le _, rfl⟩ ?_
 rintro x y u1 ⟨hu1, j, k, rfl, rfl, hk, hI⟩
 refine ⟨fun h => ?_, fun h => ?_⟩
 ·simp only [E.den, cT_lss] at h
  have h : (k : Int) < (ns.length : Int) := h
  refine ⟨fun h1 => ?_, fun h1 => ?_⟩
  ·have h1 : (bif cmpI .eql j top then true else cmpI .eql j 0) = true := h1
   rw [cD_eql, cD_eql] at h1
   refine ⟨rfl, ?_⟩
   rw [hI, hat _ _ (by
    by_cases h2 : j = top
    ·exact .inl h2
    ·rw [decide_eq_false h2, cond_false] at h1; exact .inr (of_decide_eq_true h1))]
   show Value.bool (cmpI .eql j top) = _
   rw [cD_eql]
  ·have h1 : (bif cmpI .eql j top then true else cmpI .eql j 0) = false := h1
   rw [cD_eql, cD_eql] at h1
   have h2 : ¬ j = top := fun h2 => by rw [decide_eq_true h2] at h1; cases h1
   rw [decide_eq_false h2, cond_false] at h1
   have h3 : ¬ j = 0 := of_decide_eq_false h1
   refine hold_callm ((cnode.cv A c ns m r news b u1 j (hd.mono hu1) hl).mono fun v cs u2 hu2 ⟨hc, a7, c7, hv, h7, h8⟩ => ⟨(getL ns j).row a7 c7, (ck A ns.length c m r news, ()), hv, hc, by simp, ?_⟩) rfl rfl
   simp only [if_true]
   refine ⟨((getL ns j).f5, ((k + 1 : Nat) : Int), ()), (ck A ns.length c m r news, ()), by rw [← wrap_succ (show k < 4611686018427387904 by omega)]; rfl, rfl, ⟨Mem.le_trans hu1 hu2, _, k + 1, rfl, rfl, by omega, ?_⟩, by simp only; omega⟩
   rw [hI, show ns.length - k = (ns.length - (k + 1)) + 1 by omega]
   conv => lhs; unfold benF
   rw [if_neg h2, if_neg h3]
 ·simp only [E.den, cF_lss] at h
  have h : (ns.length : Int) ≤ (k : Int) := h
  refine ⟨rfl, ?_⟩
  rw [hI, show ns.length - k = 0 by omega]
  show Value.bool (cmpI .eql j top) = _
  rw [cD_eql]; rfl
theorem over.cv (ino : Int) (t : Sp) (hd : DiskAt u A ns) (hl : ns.length ≤ 1000000) :
  CV Tryz.prog 50 [.pointer (some ⟨b, 0, none⟩), .int .i64 ino, .agg (Sx.cv K3 t.row).toArray] [(b, Sx.cv K5 (ck A ns.length c m r news))] u fun v cs u' => cs = [Sx.cv K5 (ck A ns.length c m r news)] ∧ ErrE u' v (overE ns ino t) := by
 refine cv_of names draws (fn := Tryz.f50) (b := bodyOf Tryz.f50) rfl rfl [] (over.args (ck A ns.length c m r news) (ino, ()) t.row) (over.giv _ _ _) (fun _ => b) (over.run _ _ _) (by kernel_rfl) rfl rfl ?_
 unfold over.T overE
 intro b1 hb1
 refine hold_callm ((alive.cv A c ns m r news b u t.f0 hd hl).mono fun v cs u1 hu1 ⟨hc, he⟩ => ⟨(v, ()), (ck A ns.length c m r news, ()), rfl, hc, hold_err he (fun h0 => ?_) fun h0 => ?_⟩) rfl rfl
 ·unfold aliveE at he h0
  split at h0
  ·rename_i h3; rw [if_pos h3]; rw [if_pos h3] at he; exact ⟨rfl, he⟩
  ·exact absurd rfl h0
 have h3 : ¬ (getL ns t.f0).f3 < 1 := fun h3 => by unfold aliveE at h0; rw [if_pos h3] at h0; cases h0
 rw [if_neg h3]
 refine hold_callm ((cnode.cv A c ns m r news b u1 ino (hd.mono hu1) hl).mono fun v cs u2 hu2 ⟨hc, a7, c7, hv, h7, h8⟩ => ⟨(getL ns ino).row a7 c7, (ck A ns.length c m r news, ()), hv, hc, ?_⟩) rfl rfl
 have hu02 := Mem.le_trans hu1 hu2
 refine hold_callm ((cnode.cv A c ns m r news b u2 t.f2 (hd.mono hu02) hl).mono fun v cs u3 hu3 ⟨hc, a8, c8, hv, g7, g8⟩ => ⟨(getL ns t.f2).row a8 c8, (ck A ns.length c m r news, ()), hv, hc, fun b2 hb2 b3 hb3 => ?_⟩) rfl rfl
 refine ⟨fun h => ?_, fun h => ?_⟩
 ·simp only [E.den, cT_neq] at h
  have h : ¬ (getL ns ino).f0 = 2 := h
  rw [if_pos h]
  refine ⟨fun h4 => ?_, fun h4 => ?_⟩
  ·simp only [E.den, cT_eql] at h4
   have h4 : (getL ns t.f2).f0 = 2 := h4
   rw [if_pos h4]; exact ⟨rfl, errE_ref (by decide)⟩
  ·simp only [E.den, cF_eql] at h4
   have h4 : ¬ (getL ns t.f2).f0 = 2 := h4
   rw [if_neg h4]
   refine ⟨fun h5 => ?_, fun h5 => ?_⟩
   ·have h5 : t.f3 = true := h5
    rw [if_pos h5]; exact ⟨rfl, errE_ref (by decide)⟩
   ·have h5 : t.f3 = false := h5
    rw [if_neg (by rw [h5]; simp)]; exact ⟨rfl, errE_nil⟩
 ·simp only [E.den, cF_neq] at h
  have h : (getL ns ino).f0 = 2 := h
  rw [if_neg (fun h' => h' h)]
  have hu03 := Mem.le_trans hu02 hu3
  refine hold_callm ((beneath.cv A c ns m r news b u3 t.f0 ino (hd.mono hu03) hl).mono fun v cs u4 hu4 ⟨hc, hv⟩ => ⟨(benF ns ns.length t.f0 ino, ()), (ck A ns.length c m r news, ()), hv, hc, fun h4 => ?_, fun h4 => ?_⟩) rfl rfl
  ·have h4 : benF ns ns.length t.f0 ino = true := h4
   rw [if_pos h4]; exact ⟨rfl, errE_ref (by decide)⟩
  ·have h4 : benF ns ns.length t.f0 ino = false := h4
   rw [if_neg (by rw [h4]; simp)]
   refine ⟨fun h5 => ?_, fun h5 => ?_⟩
   ·simp only [E.den, cT_lss] at h5
    have h5 : t.f2 < 0 := h5
    rw [if_pos h5]; exact ⟨rfl, errE_nil⟩
   ·simp only [E.den, cF_lss] at h5
    have h5 : 0 ≤ t.f2 := h5
    rw [if_neg (by omega)]
    refine ⟨fun h6 => ?_, fun h6 => ?_⟩
    ·simp only [E.den, cT_neq] at h6
     have h6 : ¬ (getL ns t.f2).f0 = 2 := h6
     rw [if_pos h6]; exact ⟨rfl, errE_ref (by decide)⟩
    ·simp only [E.den, cF_neq] at h6
     have h6 : (getL ns t.f2).f0 = 2 := h6
     rw [if_neg (fun h' => h' h6)]
     refine ⟨fun h9 => ?_, fun h9 => ?_⟩
     ·simp only [E.den, cT_gtr] at h9
      have h9 : (0 : Int) < ((getL ns t.f2).f7.length : Int) := h9
      rw [if_pos (by intro e; rw [e] at h9; simp at h9)]; exact ⟨rfl, errE_ref (by decide)⟩
     ·simp only [E.den, cF_gtr] at h9
      have h9 : ((getL ns t.f2).f7.length : Int) ≤ 0 := h9
      rw [if_neg (fun h' => h' (List.eq_nil_of_length_eq_zero (by omega)))]; exact ⟨rfl, errE_nil⟩
theorem dot0 : (⟨#[]⟩ : ByteArray).toList = [] := by rw [toList_data]
theorem dots.cv (name : ByteArray) : CV Tryz.prog 47 [.string name] [] u fun v cs _ => cs = [] ∧ v = .bool (dotsB name) := by
 refine cv_of names draws (fn := Tryz.f47) (b := bodyOf Tryz.f47) rfl rfl [] (dots.args (name, ())) (dots.giv _) (fun _ => 0) (dots.run _) (by kernel_rfl) rfl rfl ?_
 unfold dots.T dotsB
 simp only [Hold, PubTo, SV.den, E.den, denL, binI, cT_eql, cF_eql, cT_neq, cF_neq, cT_lss, cF_lss, cT_leq, cF_leq, cT_gtr, cF_gtr, cT_geq, cF_geq, tT_eql, tF_eql, tT_neq, tF_neq, rowsD, denLL, Ob.den, den_cells, List.map_nil, List.map_cons, true_implies, forall_const, true_and, and_true, Bool.true_eq_false, Bool.false_eq_true, reduceCtorEq, false_implies, implies_true, Bool.not_not, Bool.not_true, Bool.not_false, Bool.not_eq_true', Bool.not_eq_false', cond_true, cond_false, Nat.add_eq, Nat.mul_eq, Nat.sub_eq, Nat.add_zero, Nat.zero_mul, Nat.zero_add, dot0, dot1, dot2]
 refine ⟨fun h => ⟨fun _ => by rw [decide_eq_true (.inl h)], fun h' => absurd h h'⟩, fun h => ⟨fun h2 => ⟨fun _ => by rw [decide_eq_true (.inr (.inl h2))], fun h' => absurd h2 h'⟩, fun h2 => ⟨fun h3 => by rw [decide_eq_true (.inr (.inr h3))], fun h3 => by rw [decide_eq_false (by simp [h, h2, h3])]⟩⟩⟩
end Go.Proofs.YtpfbimkpcnnfkaaGreatDoor.Sx
