/- By Sx: errors.Is; what is done by a clerk: Make, Mkdir, Symlink, Link, Unlink, Rmdir, Chmod. -/
import Derived.Test.YtpfbimkpcnnfkaaGreatDoorSyN
import Derived.Test.YtpfbimkpcnnfkaaGreatDoorSyJ
set_option maxRecDepth 100000
set_option linter.unusedVariables false
set_option linter.unusedSimpArgs false
namespace Go.Proofs.YtpfbimkpcnnfkaaGreatDoor.Sx
open Go Go.RowKit Go.Proofs.YtpfbimkpcnnfkaaGreatDoor Go.Proofs.YtpfbimkpcnnfkaaGreatDoor.Ext
def sameV (s : Addr) : Value := .iface 241 (.pointer (some s))
def EsM (s : Addr) (u : Mem) : Prop := u 0 0 = some (sameV s)
theorem EsM.mono {s : Addr} {u u' : Mem} (h : EsM s u) (hu : u.le u') : EsM s u' := hu _ _ _ h
theorem EsM.reads {s : Addr} {u : Mem} (h : EsM s u) : Reads u (some ⟨0, 0, none⟩) 0 [sameV s] := ⟨_, _, rfl, fun j v hj => by
 have hj0 : j = 0 := by have := (List.getElem?_eq_some_iff.1 hj).1; simp only [List.length_cons, List.length_nil] at this; omega
 subst hj0
 cases hj; exact h⟩
theorem is.cv (ev : Value) (e : Int) (s : Addr) (u : Mem) (h : ErrR u ev e) : CV Tryz.prog 92 [ev, sameV s] [] u fun v cs u' => cs = [] ∧ v = .bool false := by
 refine cv_world (R := fun v _ => v = .bool false) fun w hs => ?_
 rcases h with rfl | ⟨l, ⟨p, a, n, c, rfl, hp, hn, hv⟩, ⟨hne, hl2⟩, hall⟩
 ·refine (isr_no e s w).mono ?_
  rintro e' w' ⟨rfl, rfl⟩
  exact ⟨_, rfl, Below.refl _ _, rfl⟩
 ·have at_ : ∀ (i : Nat), i < l.length → ∃ b f, a = some ⟨b, f, none⟩ ∧ w.cell? ⟨b, f + i, none⟩ = some (.iface 92 (.int .i64 e)) := fun i hi => by
   obtain ⟨b, f, e1, hr⟩ := hv i l[i] (List.getElem?_eq_getElem hi)
   have := hs _ _ _ (hr 0 l[i] rfl)
   rw [hall l[i] (List.getElem_mem hi)] at this
   exact ⟨b, f, e1, this⟩
  have hl := List.length_pos_iff.2 hne
  obtain ⟨b, f, rfl, h0⟩ := at_ 0 hl
  subst hn
  have hpw := hs _ _ _ hp
  rcases Nat.lt_or_ge 1 l.length with h1 | h1
  ·obtain ⟨b', f', e1, h1'⟩ := at_ 1 h1
   cases e1
   rw [show l.length = 2 by omega] at hpw
   refine (isj_no2 p e s b f c w hpw h0 h1').mono ?_
   rintro e' w' ⟨rfl, rfl⟩
   exact ⟨_, rfl, Below.refl _ _, rfl⟩
  ·rw [show l.length = 1 by omega] at hpw
   refine (isj_no1 p e s ⟨b, f, none⟩ c w hpw h0).mono ?_
   rintro e' w' ⟨rfl, rfl⟩
   exact ⟨_, rfl, Below.refl _ _, rfl⟩
theorem isSame.cv (s : Addr) (u : Mem) : CV Tryz.prog 92 [sameV s, sameV s] [] u fun v cs u' => cs = [] ∧ v = .bool true := by
 refine cv_world (R := fun v _ => v = .bool true) fun w hs => ?_
 refine (isr_same s w).mono ?_
 rintro e' w' ⟨rfl, rfl⟩
 exact ⟨_, rfl, Below.refl _ _, rfl⟩
variable (A : Option Addr) (c : Nat) (ns : List Nd) (m r news : Int) (b b1 b2 b3 b4 : Nat) (u : Mem)
def Left (m r : Int) (ns : List Nd) (e : Int) (caps : List (List Value)) (v : Value) (cs : List (List Value)) (u : Mem) : Prop :=
 ErrE u v e ∧ ∃ A' c' news', cs = Sx.cv K5 (ck A' ns.length c' m r news') :: caps ∧ DiskAt u A' ns
section
variable (hd : DiskAt u A ns) (hn : Ok8 ns) (hg : EgM u)
include hd hn hg
theorem make1.cv (who from_ : Int) (path : ByteArray) (mode old : Int) (hp : path.size ≤ 1000000000000) :
  CV Tryz.prog 66 [.pointer (some ⟨b, 0, none⟩), .pointer (some ⟨b1, 0, none⟩), .pointer (some ⟨b2, 0, none⟩), .pointer (some ⟨b3, 0, none⟩), .pointer (some ⟨b4, 0, none⟩)] [(b, Sx.cv K5 (ck A ns.length c m r news)), (b1, [.int .i64 who, .int .i64 from_]), (b2, [.string path]), (b3, [.int .i64 mode]), (b4, [.int .i64 old])] u
   (fun v cs u' => Left m r (makeF ns m r who from_ path mode).1 (makeF ns m r who from_ path mode).2.2 [[.int .i64 who, .int .i64 from_], [.string path], [.int .i64 mode], [.int .i64 (if (makeF ns m r who from_ path mode).2.2 = 0 then (makeF ns m r who from_ path mode).2.1 else news)]] v cs u') := by
 refine cv_of names draws (fn := Tryz.f66) (b := bodyOf Tryz.f66) rfl rfl [] (make1.args (ck A ns.length c m r news) (who, from_, ()) (path, ()) (mode, ()) (old, ())) (make1.giv _ _ _ _ _) (fun i => if i = 20 then b else if i = 21 then b1 else if i = 22 then b2 else if i = 23 then b3 else b4) (make1.run _ _ _ _ _) (by kernel_rfl) rfl rfl ?_
 unfold make1.T
 exact hold_callm ((enter.cv A c ns m r news b u who from_ path (fileN mode) none 0 5 hd hn hg hp (Nat.zero_le _) (fun i e h => by simp [fileN, zNd] at h) ⟨fun j x y h => by simp [fileN, zNd] at h, by simp [fileN, zNd]⟩ (Nat.zero_le _)).mono fun v cs u1 hu1 ⟨he, A', c', hc, hd'⟩ => ⟨(v, ()), (ck A' (makeF ns m r who from_ path mode).1.length c' m r (if (makeF ns m r who from_ path mode).2.2 = 0 then (makeF ns m r who from_ path mode).2.1 else news), ()), rfl, hc, he, A', c', _, rfl, hd'⟩) rfl rfl
theorem mkdir1.cv (who from_ : Int) (path : ByteArray) (mode : Int) (hp : path.size ≤ 1000000000000) :
  CV Tryz.prog 68 [.pointer (some ⟨b, 0, none⟩), .pointer (some ⟨b1, 0, none⟩), .pointer (some ⟨b2, 0, none⟩), .pointer (some ⟨b3, 0, none⟩)] [(b, Sx.cv K5 (ck A ns.length c m r news)), (b1, [.int .i64 who, .int .i64 from_]), (b2, [.string path]), (b3, [.int .i64 mode])] u
   (fun v cs u' => Left m r (mkdirF ns m r who from_ path mode).1 (mkdirF ns m r who from_ path mode).2.2 [[.int .i64 who, .int .i64 from_], [.string path], [.int .i64 mode]] v cs u') := by
 refine cv_of names draws (fn := Tryz.f68) (b := bodyOf Tryz.f68) rfl rfl [] (mkdir1.args (ck A ns.length c m r news) (who, from_, ()) (path, ()) (mode, ())) (mkdir1.giv _ _ _ _) (fun i => if i = 13 then b else if i = 14 then b1 else if i = 15 then b2 else b3) (mkdir1.run _ _ _ _) (by kernel_rfl) rfl rfl ?_
 unfold mkdir1.T
 exact hold_callm ((enter.cv A c ns m r news b u who from_ path (dirN mode) none 0 0 hd hn hg hp (Nat.zero_le _) (fun i e h => by simp [dirN, zNd] at h) ⟨fun j x y h => by simp [dirN, zNd] at h, by simp [dirN, zNd]⟩ (Nat.zero_le _)).mono fun v cs u1 hu1 ⟨he, A', c', hc, hd'⟩ => ⟨(v, ()), (ck A' (mkdirF ns m r who from_ path mode).1.length c' m r (if (mkdirF ns m r who from_ path mode).2.2 = 0 then (mkdirF ns m r who from_ path mode).2.1 else news), ()), rfl, hc, he, A', c', _, rfl, hd'⟩) rfl rfl
theorem sym1.cv (who from_ : Int) (text path : ByteArray) (hp : path.size ≤ 1000000000000) :
  CV Tryz.prog 78 [.pointer (some ⟨b, 0, none⟩), .pointer (some ⟨b1, 0, none⟩), .pointer (some ⟨b2, 0, none⟩), .pointer (some ⟨b3, 0, none⟩)] [(b, Sx.cv K5 (ck A ns.length c m r news)), (b1, [.string text]), (b2, [.int .i64 who, .int .i64 from_]), (b3, [.string path])] u
   (fun v cs u' => Left m r (symF ns m r who from_ text path).1 (symF ns m r who from_ text path).2.2 [[.string text], [.int .i64 who, .int .i64 from_], [.string path]] v cs u') := by
 refine cv_of names draws (fn := Tryz.f78) (b := bodyOf Tryz.f78) rfl rfl [] (sym1.args (ck A ns.length c m r news) (text, ()) (who, from_, ()) (path, ())) (sym1.giv _ _ _ _) (fun i => if i = 21 then b else if i = 22 then b1 else if i = 23 then b2 else b3) (sym1.run _ _ _ _) (by kernel_rfl) rfl rfl ?_
 unfold sym1.T symF
 refine ⟨fun h => ?_, fun h => ?_⟩
 ·simp only [E.den, tT_eql, dot0] at h
  have h : text.toList = [] := h
  rw [if_pos h]; exact ⟨errE_ref (by decide), A, c, news, rfl, hd⟩
 simp only [E.den, tF_eql, dot0] at h
 have h : ¬ text.toList = [] := h
 rw [if_neg h]
 refine ⟨fun h2 => ?_, fun h2 => ?_⟩
 ·simp only [E.den, cT_gtr] at h2
  have h2 : (100 : Int) < (text.size : Int) := h2
  rw [if_pos (by omega)]; exact ⟨errE_ref (by decide), A, c, news, rfl, hd⟩
 simp only [E.den, cF_gtr] at h2
 have h2 : (text.size : Int) ≤ 100 := h2
 have h3 : ¬ 100 < text.size := by omega
 rw [if_neg h3]
 exact hold_callm ((enter.cv A c ns m r news b u who from_ path (linkN text) none 0 4 hd hn hg hp (Nat.zero_le _) (fun i e h => by simp [linkN, zNd] at h) ⟨fun j x y h => by simp [linkN, zNd] at h, by simp [linkN, zNd]⟩ (by show text.size ≤ _; omega)).mono fun v cs u1 hu1 ⟨he, A', c', hc, hd'⟩ => ⟨(v, ()), (ck A' (enterF ns m r who from_ path (linkN text) 4).1.length c' m r (if (enterF ns m r who from_ path (linkN text) 4).2.2 = 0 then (enterF ns m r who from_ path (linkN text) 4).2.1 else news), ()), rfl, hc, he, A', c', _, rfl, hd'⟩) rfl rfl
theorem link1.cv (who from_ : Int) (old path : ByteArray) (hp : path.size ≤ 1000000000000) (ho : old.size ≤ 1000000000000) :
  CV Tryz.prog 79 [.pointer (some ⟨b, 0, none⟩), .pointer (some ⟨b1, 0, none⟩), .pointer (some ⟨b2, 0, none⟩), .pointer (some ⟨b3, 0, none⟩)] [(b, Sx.cv K5 (ck A ns.length c m r news)), (b1, [.int .i64 who, .int .i64 from_]), (b2, [.string old]), (b3, [.string path])] u
   (fun v cs u' => Left m r (linkF ns who from_ old path).1 (linkF ns who from_ old path).2 [[.int .i64 who, .int .i64 from_], [.string old], [.string path]] v cs u') := by
 refine cv_of names draws (fn := Tryz.f79) (b := bodyOf Tryz.f79) rfl rfl [] (link1.args (ck A ns.length c m r news) (who, from_, ()) (old, ()) (path, ())) (link1.giv _ _ _ _) (fun i => if i = 62 then b else if i = 63 then b1 else if i = 64 then b2 else b3) (link1.run _ _ _ _) (by kernel_rfl) rfl rfl ?_
 unfold link1.T linkF
 have hl := hn.ok.len
 generalize hw : thereF ns who from_ old = w
 obtain ⟨o, e⟩ := w
 have ht := there.cv A c ns m r news b u who from_ old hd hn.ok hg ho
 rw [hw] at ht
 refine hold_callm (ht.mono fun v cs u1 hu1 ⟨hc, a7, c7, ev, hv, he, h7, h8⟩ => ⟨(o.f0, o.f1, o.f2, o.f3, (getL ns o.f2).f0, (getL ns o.f2).f1, (getL ns o.f2).f2, (getL ns o.f2).f3, (getL ns o.f2).f4, (getL ns o.f2).f5, (getL ns o.f2).f6, (a7, (getL ns o.f2).f7.length, c7), ev, ()), (ck A ns.length c m r news, ()), hv, hc, fun b5 hb5 b6 hb6 => hold_err he (fun h0 => ?_) fun h0 => ?_⟩) rfl rfl
 ·have h0 : ¬ e = 0 := h0
  simp only [if_pos h0]; exact ⟨he, A, c, news, rfl, hd.mono hu1⟩
 have h0 : e = 0 := h0
 subst h0
 simp only [not_true, if_false]
 unfold linkAt
 refine ⟨fun h => ?_, fun h => ?_⟩
 ·simp only [E.den, cT_eql] at h
  have h : (getL ns o.f2).f0 = 2 := h
  rw [if_pos h]; exact ⟨errE_ref (by decide), A, c, news, rfl, hd.mono hu1⟩
 simp only [E.den, cF_eql] at h
 have h : ¬ (getL ns o.f2).f0 = 2 := h
 rw [if_neg h]
 refine ⟨fun h2 => ?_, fun h2 => ?_⟩
 ·simp only [E.den, cT_geq] at h2
  have h2 : 20 ≤ (getL ns o.f2).f3 := h2
  rw [if_pos h2]; exact ⟨errE_ref (by decide), A, c, news, rfl, hd.mono hu1⟩
 simp only [E.den, cF_geq] at h2
 have h2 : (getL ns o.f2).f3 < 20 := h2
 rw [if_neg (by omega)]
 generalize hw2 : walkF ns who from_ path false = w
 obtain ⟨sp, e⟩ := w
 have ht := cwalk.cv A c ns m r news b u1 who from_ path (hd.mono hu1) hn.ok (hg.mono hu1) hp
 rw [hw2] at ht
 refine hold_callm (ht.mono fun v cs u2 hu2 ⟨hc, ev, hv, he⟩ => ⟨(sp.f0, sp.f1, sp.f2, sp.f3, ev, ()), (ck A ns.length c m r news, ()), hv, hc, fun b9 hb9 => hold_err' he (fun h0 => ?_) fun h0 => ?_⟩) rfl rfl
 ·have h0 : e = 0 := h0
  subst h0
  simp only [not_true, if_false]
  have hu02 := Mem.le_trans hu1 hu2
  refine hold_callm ((free.cv A c ns m r news b u2 who from_ sp (hd.mono hu02) hl).mono fun v cs u3 hu3 ⟨hc, he⟩ => ⟨(v, ()), (ck A ns.length c m r news, ()), rfl, hc, hold_err he (fun h0 => ?_) fun h0 => ?_⟩) rfl rfl
  ·rw [if_pos h0]; exact ⟨he, A, c, news, rfl, (hd.mono hu02).mono hu3⟩
  rw [if_neg (fun h => h h0)]
  refine ⟨fun h5 => ?_, fun h5 => ?_⟩
  ·have h5 : sp.f3 = true := h5
   rw [if_pos h5]; exact ⟨errE_ref (by decide), A, c, news, rfl, (hd.mono hu02).mono hu3⟩
  ·have h5 : sp.f3 = false := h5
   rw [if_neg (by rw [h5]; simp)]
   refine hold_callm ((turnLink.cv A c ns m r news b u3 o.f2 ((hd.mono hu02).mono hu3) hl).mono fun v cs u4 hu4 ⟨hv, A4, c4, hc, hd4⟩ => ⟨(), (ck A4 (turnF ns o.f2 nMore).length c4 m r news, ()), hv, hc, ?_⟩) rfl rfl
   have hR := hn.ris.turn o.f2 fun n hn => hn.more
   exact hold_callm ((cput.cv A4 c4 (turnF ns o.f2 nMore) m r news b u4 sp o.f2 hd4 (by rw [turn_len]; exact hl) (hR.get _).len (hR.get _).rise).mono fun v cs u5 hu5 ⟨hv, A5, c5, hc, hd5⟩ => ⟨(), (ck A5 (putN (turnF ns o.f2 nMore) sp o.f2).length c5 m r news, ()), hv, hc, errE_nil, A5, c5, news, rfl, hd5⟩) rfl rfl
 ·have h0 : ¬ e = 0 := h0
  simp only [if_pos h0]
  exact hold_err he (fun _ => ⟨he, A, c, news, rfl, (hd.mono hu1).mono hu2⟩) fun h => absurd h h0
theorem unl1.cv (who from_ : Int) (path : ByteArray) (hp : path.size ≤ 1000000000000) :
  CV Tryz.prog 69 [.pointer (some ⟨b, 0, none⟩), .pointer (some ⟨b1, 0, none⟩), .pointer (some ⟨b2, 0, none⟩)] [(b, Sx.cv K5 (ck A ns.length c m r news)), (b1, [.int .i64 who, .int .i64 from_]), (b2, [.string path])] u
   (fun v cs u' => Left m r (unlF ns who from_ path).1 (unlF ns who from_ path).2 [[.int .i64 who, .int .i64 from_], [.string path]] v cs u') := by
 refine cv_of names draws (fn := Tryz.f69) (b := bodyOf Tryz.f69) rfl rfl [] (unl1.args (ck A ns.length c m r news) (who, from_, ()) (path, ())) (unl1.giv _ _ _) (fun i => if i = 38 then b else if i = 39 then b1 else b2) (unl1.run _ _ _) (by kernel_rfl) rfl rfl ?_
 unfold unl1.T unlF
 have hl := hn.ok.len
 generalize hw : thereF ns who from_ path = w
 obtain ⟨o, e⟩ := w
 have ht := there.cv A c ns m r news b u who from_ path hd hn.ok hg hp
 rw [hw] at ht
 refine hold_callm (ht.mono fun v cs u1 hu1 ⟨hc, a7, c7, ev, hv, he, h7, h8⟩ => ⟨(o.f0, o.f1, o.f2, o.f3, (getL ns o.f2).f0, (getL ns o.f2).f1, (getL ns o.f2).f2, (getL ns o.f2).f3, (getL ns o.f2).f4, (getL ns o.f2).f5, (getL ns o.f2).f6, (a7, (getL ns o.f2).f7.length, c7), ev, ()), (ck A ns.length c m r news, ()), hv, hc, fun b5 hb5 b6 hb6 => ⟨fun _ => he.isErr, fun h => ?_, fun h => ?_⟩⟩) rfl rfl
 ·have h : (bif nilB ev then cmpI .eql (getL ns o.f2).f0 2 else false) = true := h
  rw [he.nil, cD_eql] at h
  have h0 : e = 0 := by
   by_cases h0 : e = 0
   ·exact h0
   ·rw [decide_eq_false (show ¬ (o, e).2 = 0 from h0)] at h; cases h
  subst h0
  have h : (getL ns o.f2).f0 = 2 := of_decide_eq_true h
  simp only [not_true, if_false, if_pos h]
  exact ⟨errE_ref (by decide), A, c, news, rfl, hd.mono hu1⟩
 have h : (bif nilB ev then cmpI .eql (getL ns o.f2).f0 2 else false) = false := h
 rw [he.nil, cD_eql] at h
 refine hold_err' he (fun h0 => ?_) fun h0 => ?_
 ·have h0 : e = 0 := h0
  subst h0
  have h : ¬ (getL ns o.f2).f0 = 2 := of_decide_eq_false h
  simp only [not_true, if_false, if_neg h]
  refine hold_callm ((writes.cv A c ns m r news b u1 who o.f0 (hd.mono hu1) hl).mono fun v cs u2 hu2 ⟨hc, hw⟩ => ⟨(v, ()), (ck A ns.length c m r news, ()), rfl, hc, ?_⟩) rfl rfl
  rcases hw with ⟨hw, rfl⟩ | ⟨hw, rfl⟩
  ·refine ⟨fun _ => .inl rfl, fun _ => ?_, fun h => by cases h⟩
   rw [if_neg (by rw [hw]; simp)]
   exact hold_callm ((lose.cv A c ns m r news b u2 o (hd.mono (Mem.le_trans hu1 hu2)) hl (hn.ris.get _).len (hn.ris.get _).rise).mono fun v cs u3 hu3 ⟨hv, A3, c3, hc, hd3⟩ => ⟨(), (ck A3 (loseN ns o).length c3 m r news, ()), hv, hc, errE_nil, A3, c3, news, rfl, hd3⟩) rfl rfl
  ·refine ⟨fun _ => .inr ⟨_, _, rfl⟩, fun h => (by cases h), fun _ => ?_⟩
   rw [if_pos hw]
   exact ⟨errE_ref (by decide), A, c, news, rfl, hd.mono (Mem.le_trans hu1 hu2)⟩
 ·have h0 : ¬ e = 0 := h0
  simp only [if_pos h0]
  exact hold_err' he (fun h => absurd h h0) fun _ => ⟨he, A, c, news, rfl, hd.mono hu1⟩
theorem rmd1.cv (who from_ : Int) (path : ByteArray) (hp : path.size ≤ 1000000000000) :
  CV Tryz.prog 70 [.pointer (some ⟨b, 0, none⟩), .pointer (some ⟨b1, 0, none⟩), .pointer (some ⟨b2, 0, none⟩)] [(b, Sx.cv K5 (ck A ns.length c m r news)), (b1, [.int .i64 who, .int .i64 from_]), (b2, [.string path])] u
   (fun v cs u' => Left m r (rmdF ns who from_ path).1 (rmdF ns who from_ path).2 [[.int .i64 who, .int .i64 from_], [.string path]] v cs u') := by
 refine cv_of names draws (fn := Tryz.f70) (b := bodyOf Tryz.f70) rfl rfl [] (rmd1.args (ck A ns.length c m r news) (who, from_, ()) (path, ())) (rmd1.giv _ _ _) (fun i => if i = 53 then b else if i = 54 then b1 else b2) (rmd1.run _ _ _) (by kernel_rfl) rfl rfl ?_
 unfold rmd1.T rmdF
 have hl := hn.ok.len
 generalize hw : thereF ns who from_ path = w
 obtain ⟨o, e⟩ := w
 have ht := there.cv A c ns m r news b u who from_ path hd hn.ok hg hp
 rw [hw] at ht
 refine hold_callm (ht.mono fun v cs u1 hu1 ⟨hc, a7, c7, ev, hv, he, h7, h8⟩ => ⟨(o.f0, o.f1, o.f2, o.f3, (getL ns o.f2).f0, (getL ns o.f2).f1, (getL ns o.f2).f2, (getL ns o.f2).f3, (getL ns o.f2).f4, (getL ns o.f2).f5, (getL ns o.f2).f6, (a7, (getL ns o.f2).f7.length, c7), ev, ()), (ck A ns.length c m r news, ()), hv, hc, fun b5 hb5 b6 hb6 => hold_err he (fun h0 => ?_) fun h0 => ?_⟩) rfl rfl
 ·have h0 : ¬ e = 0 := h0
  simp only [if_pos h0]; exact ⟨he, A, c, news, rfl, hd.mono hu1⟩
 have h0 : e = 0 := h0
 subst h0
 simp only [not_true, if_false]
 unfold rmdAt
 refine ⟨fun h => ?_, fun h => ?_⟩
 ·simp only [E.den, cT_neq] at h
  have h : ¬ (getL ns o.f2).f0 = 2 := h
  rw [if_pos h]; exact ⟨errE_ref (by decide), A, c, news, rfl, hd.mono hu1⟩
 simp only [E.den, cF_neq] at h
 have h : (getL ns o.f2).f0 = 2 := h
 rw [if_neg (fun h' => h' h)]
 refine ⟨fun h2 => ?_, fun h2 => ?_⟩
 ·simp only [E.den, tT_eql, dot0] at h2
  have h2 : o.f1.toList = [] := h2
  rw [if_pos (.inl h2)]; exact ⟨errE_ref (by decide), A, c, news, rfl, hd.mono hu1⟩
 simp only [E.den, tF_eql, dot0] at h2
 have h2 : ¬ o.f1.toList = [] := h2
 refine ⟨fun h3 => ?_, fun h3 => ?_⟩
 ·simp only [E.den, tT_eql, dot1] at h3
  have h3 : o.f1.toList = [46] := h3
  rw [if_pos (.inr h3)]; exact ⟨errE_ref (by decide), A, c, news, rfl, hd.mono hu1⟩
 simp only [E.den, tF_eql, dot1] at h3
 have h3 : ¬ o.f1.toList = [46] := h3
 rw [if_neg (fun h' => h'.elim h2 h3)]
 refine ⟨fun h4 => ?_, fun h4 => ?_⟩
 ·simp only [E.den, tT_eql, dot2] at h4
  have h4 : o.f1.toList = [46, 46] := h4
  rw [if_pos h4]; exact ⟨errE_ref (by decide), A, c, news, rfl, hd.mono hu1⟩
 simp only [E.den, tF_eql, dot2] at h4
 have h4 : ¬ o.f1.toList = [46, 46] := h4
 rw [if_neg h4]
 refine hold_callm ((writes.cv A c ns m r news b u1 who o.f0 (hd.mono hu1) hl).mono fun v cs u2 hu2 ⟨hc, hw⟩ => ⟨(v, ()), (ck A ns.length c m r news, ()), rfl, hc, ?_⟩) rfl rfl
 rcases hw with ⟨hw, rfl⟩ | ⟨hw, rfl⟩
 ·refine ⟨fun _ => .inl rfl, fun h => by (have h : (!true) = true := h; cases h), fun _ => ?_⟩
  rw [if_neg (by rw [hw]; simp)]
  refine ⟨fun h5 => ?_, fun h5 => ?_⟩
  ·simp only [E.den, cT_gtr] at h5
   have h5 : (0 : Int) < ((getL ns o.f2).f7.length : Int) := h5
   rw [if_pos (by intro e; rw [e] at h5; simp at h5)]; exact ⟨errE_ref (by decide), A, c, news, rfl, hd.mono (Mem.le_trans hu1 hu2)⟩
  ·simp only [E.den, cF_gtr] at h5
   have h5 : ((getL ns o.f2).f7.length : Int) ≤ 0 := h5
   rw [if_neg (fun h' => h' (List.eq_nil_of_length_eq_zero (by omega)))]
   exact hold_callm ((lose.cv A c ns m r news b u2 o (hd.mono (Mem.le_trans hu1 hu2)) hl (hn.ris.get _).len (hn.ris.get _).rise).mono fun v cs u3 hu3 ⟨hv, A3, c3, hc, hd3⟩ => ⟨(), (ck A3 (loseN ns o).length c3 m r news, ()), hv, hc, errE_nil, A3, c3, news, rfl, hd3⟩) rfl rfl
 ·refine ⟨fun _ => .inr ⟨_, _, rfl⟩, fun _ => ?_, fun h => by (have h : (!false) = false := h; cases h)⟩
  rw [if_pos hw]
  exact ⟨errE_ref (by decide), A, c, news, rfl, hd.mono (Mem.le_trans hu1 hu2)⟩
theorem chm1.cv (who from_ : Int) (path : ByteArray) (mode : Int) (hp : path.size ≤ 1000000000000) :
  CV Tryz.prog 83 [.pointer (some ⟨b, 0, none⟩), .pointer (some ⟨b1, 0, none⟩), .pointer (some ⟨b2, 0, none⟩), .pointer (some ⟨b3, 0, none⟩)] [(b, Sx.cv K5 (ck A ns.length c m r news)), (b1, [.int .i64 who, .int .i64 from_]), (b2, [.string path]), (b3, [.int .i64 mode])] u
   (fun v cs u' => Left m r (chmF ns who from_ path mode).1 (chmF ns who from_ path mode).2 [[.int .i64 who, .int .i64 from_], [.string path], [.int .i64 mode]] v cs u') := by
 refine cv_of names draws (fn := Tryz.f83) (b := bodyOf Tryz.f83) rfl rfl [] (chm1.args (ck A ns.length c m r news) (who, from_, ()) (path, ()) (mode, ())) (chm1.giv _ _ _ _) (fun i => if i = 42 then b else if i = 43 then b1 else if i = 44 then b2 else b3) (chm1.run _ _ _ _) (by kernel_rfl) rfl rfl ?_
 unfold chm1.T chmF
 have hl := hn.ok.len
 generalize hw : nodeF ns who from_ path true = w
 obtain ⟨i, e⟩ := w
 have ht := node.cv A c ns m r who from_ path true u hd hn.ok hg hp
 rw [hw] at ht
 refine hold_call (ht.mono fun v cs u1 hu1 ⟨hc, hv⟩ => ⟨(i, e, ()), (), hv, hc, fun h => ?_, fun h => ?_⟩)
 ·simp only [E.den, cT_neq] at h
  have h : ¬ e = 0 := h
  simp only [if_pos h]
  exact hold_call ((no_.cv e u1).mono fun v cs u2 hu2 ⟨hc, hv⟩ => ⟨(v, ()), (), rfl, hc, hv, A, c, news, rfl, (hd.mono hu1).mono hu2⟩)
 simp only [E.den, cF_neq] at h
 have h : e = 0 := h
 subst h
 simp only [not_true, if_false]
 refine ⟨fun h => ?_, fun h => ?_⟩
 ·simp only [E.den, cT_neq] at h
  have h : ¬ who = 0 := h
  refine hold_callm ((cnode.cv A c ns m r news b u1 i (hd.mono hu1) hl).mono fun v cs u2 hu2 ⟨hc, a7, c7, hv, h7, h8⟩ => ⟨(getL ns i).row a7 c7, (ck A ns.length c m r news, ()), hv, hc, fun h2 => ?_, fun h2 => ?_⟩) rfl rfl
  ·have h2 : (bif cmpI .neq who 0 then cmpI .neq who (getL ns i).f2 else false) = true := h2
   rw [cD_neq, cD_neq, decide_eq_true h, cond_true] at h2
   rw [if_pos ⟨h, of_decide_eq_true h2⟩]; exact ⟨errE_ref (by decide), A, c, news, rfl, (hd.mono hu1).mono hu2⟩
  ·have h2 : (bif cmpI .neq who 0 then cmpI .neq who (getL ns i).f2 else false) = false := h2
   rw [cD_neq, cD_neq, decide_eq_true h, cond_true] at h2
   rw [if_neg (fun h' => absurd h'.2 (of_decide_eq_false h2))]
   exact hold_callm ((turnChm.cv A c ns m r news b b3 u2 i mode ((hd.mono hu1).mono hu2) hl).mono fun v cs u3 hu3 ⟨hv, A3, c3, hc, hd3⟩ => ⟨(), (ck A3 (turnF ns i (nMode mode)).length c3 m r news, (mode, ()), ()), hv, hc, errE_nil, A3, c3, news, rfl, hd3⟩) rfl rfl
 ·simp only [E.den, cF_neq] at h
  have h : who = 0 := h
  refine ⟨fun h2 => ?_, fun h2 => ?_⟩
  ·have h2 : (bif cmpI .neq who 0 then cmpI .neq who 0 else false) = true := h2
   rw [cD_neq, decide_eq_false (fun h' => h' h)] at h2; cases h2
  ·rw [if_neg (fun h' => h'.1 h)]
   exact hold_callm ((turnChm.cv A c ns m r news b b3 u1 i mode (hd.mono hu1) hl).mono fun v cs u3 hu3 ⟨hv, A3, c3, hc, hd3⟩ => ⟨(), (ck A3 (turnF ns i (nMode mode)).length c3 m r news, (mode, ()), ()), hv, hc, errE_nil, A3, c3, news, rfl, hd3⟩) rfl rfl
end
end Go.Proofs.YtpfbimkpcnnfkaaGreatDoor.Sx
