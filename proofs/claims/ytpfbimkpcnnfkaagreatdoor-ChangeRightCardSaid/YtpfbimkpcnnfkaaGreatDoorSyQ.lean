/- By Sx: Make, Mkdir, Symlink, Link, Unlink, Rmdir, Rename, Chmod. -/
import Derived.Test.YtpfbimkpcnnfkaaGreatDoorSyO
import Derived.Test.YtpfbimkpcnnfkaaGreatDoorSxTh
/- By Sx: Rename; done. -/
set_option maxRecDepth 100000
set_option linter.unusedVariables false
set_option linter.unusedSimpArgs false
namespace Go.Proofs.YtpfbimkpcnnfkaaGreatDoor.Sx
open Go Go.RowKit Go.Proofs.YtpfbimkpcnnfkaaGreatDoor Go.Proofs.YtpfbimkpcnnfkaaGreatDoor.Ext
def LeftS (s : Addr) (m r : Int) (ns0 ns : List Nd) (e : Int) (caps : List (List Value)) (v : Value) (cs : List (List Value)) (u : Mem) : Prop :=
 Left m r ns e caps v cs u ∨ (v = sameV s ∧ e = 0 ∧ ns = ns0 ∧ ∃ A' c' news', cs = Sx.cv K5 (ck A' ns0.length c' m r news') :: caps)
theorem vs_two {u : Mem} {b : Nat} {x y : Value} (h : ∀ (j : Nat) v, ([x, y] : List Value)[j]? = some v → u b j = some v) : VsAt u (some ⟨b, 0, none⟩) [x, y] := fun i z hz => ⟨b, 0, rfl, fun j v hj => by
 have hj0 : j = 0 := by have := (List.getElem?_eq_some_iff.1 hj).1; simp only [List.length_cons, List.length_nil] at this; omega
 subst hj0
 simp only [List.getElem?_cons_zero, Option.some.injEq] at hj
 subst hj
 rw [show 0 + i + 0 = i by omega]; exact h i z hz⟩
theorem two_err {u : Mem} {p q : Bool} {x y v : Value} {l : List Value} (hx : (p = true ∧ x = .nilIface) ∨ (p = false ∧ x = .iface 92 (.int .i64 7))) (hy : (q = true ∧ y = .nilIface) ∨ (q = false ∧ y = .iface 92 (.int .i64 7)))
  (h : (([x, y] : List Value).filter someB = [] ∧ v = .nilIface) ∨ (([x, y] : List Value).filter someB ≠ [] ∧ JoinAt u v (([x, y] : List Value).filter someB))) : ErrE u v (if p = false ∨ q = false then 7 else 0) := by
 rcases hx with ⟨rfl, rfl⟩ | ⟨rfl, rfl⟩ <;> rcases hy with ⟨rfl, rfl⟩ | ⟨rfl, rfl⟩ <;> simp only [List.filter, someB, nilB, Bool.not_true, Bool.not_false] at h
 ·rcases h with ⟨_, h⟩ | ⟨h, _⟩
  ·exact .inl ⟨rfl, h⟩
  ·exact absurd rfl h
 all_goals
  rcases h with ⟨h, _⟩ | ⟨_, h⟩
  ·cases h
  ·exact .inr ⟨by simp, .inr ⟨_, h, ⟨by simp, by simp⟩, fun x hx => by simp at hx; simp [hx]⟩⟩
variable (A : Option Addr) (c : Nat) (ns : List Nd) (m r news : Int) (b b1 b2 b3 b4 : Nat) (u : Mem)
section
variable (hd : DiskAt u A ns) (hn : Ok8 ns) (hg : EgM u) (s : Addr) (hs : EsM s u)
include hd hn hg hs
theorem ren1.cv (wa fa wb fb : Int) (old path : ByteArray) (hp : path.size ≤ 1000000000000) (ho : old.size ≤ 1000000000000) :
  CV Tryz.prog 44 [.pointer (some ⟨b, 0, none⟩), .pointer (some ⟨b1, 0, none⟩), .pointer (some ⟨b2, 0, none⟩), .pointer (some ⟨b3, 0, none⟩), .pointer (some ⟨b4, 0, none⟩)] [(b, Sx.cv K5 (ck A ns.length c m r news)), (b1, [.int .i64 wa, .int .i64 fa]), (b2, [.string old]), (b3, [.int .i64 wb, .int .i64 fb]), (b4, [.string path])] u
   (fun v cs u' => LeftS s m r ns (renF ns wa fa wb fb old path).1 (renF ns wa fa wb fb old path).2 [[.int .i64 wa, .int .i64 fa], [.string old], [.int .i64 wb, .int .i64 fb], [.string path]] v cs u') := by
 refine cv_of names draws (fn := Tryz.f44) (b := bodyOf Tryz.f44) rfl rfl [] (ren1.args (ck A ns.length c m r news) (wa, fa, ()) (old, ()) (wb, fb, ()) (path, ())) (ren1.giv _ _ _ _ _) (fun i => if i = 96 then b else if i = 97 then b1 else if i = 98 then b2 else if i = 99 then b3 else b4) (ren1.run _ _ _ _ _) (by kernel_rfl) rfl rfl ?_
 unfold ren1.T renF
 have hl := hn.ok.len
 generalize hw : thereF ns wa fa old = w
 obtain ⟨o, e⟩ := w
 have ht := there.cv A c ns m r news b u wa fa old hd hn.ok hg ho
 rw [hw] at ht
 refine hold_callm (ht.mono fun v cs u1 hu1 ⟨hc, a7, c7, ev, hv, he, h7, h8⟩ => ⟨(o.f0, o.f1, o.f2, o.f3, (getL ns o.f2).f0, (getL ns o.f2).f1, (getL ns o.f2).f2, (getL ns o.f2).f3, (getL ns o.f2).f4, (getL ns o.f2).f5, (getL ns o.f2).f6, (a7, (getL ns o.f2).f7.length, c7), ev, ()), (ck A ns.length c m r news, ()), hv, hc, fun b5 hb5 b6 hb6 => hold_err he (fun h0 => ?_) fun h0 => ?_⟩) rfl rfl
 ·have h0 : ¬ e = 0 := h0
  simp only [if_pos h0]; exact .inl ⟨he, A, c, news, rfl, hd.mono hu1⟩
 have h0 : e = 0 := h0
 subst h0
 simp only [not_true, if_false]
 generalize hw2 : walkF ns wb fb path false = w
 obtain ⟨t, e⟩ := w
 have ht := cwalk.cv A c ns m r news b u1 wb fb path (hd.mono hu1) hn.ok (hg.mono hu1) hp
 rw [hw2] at ht
 refine hold_callm (ht.mono fun v cs u2 hu2 ⟨hc, ev2, hv, he⟩ => ⟨(t.f0, t.f1, t.f2, t.f3, ev2, ()), (ck A ns.length c m r news, ()), hv, hc, fun b9 hb9 => hold_err he (fun h0 => ?_) fun h0 => ?_⟩) rfl rfl
 ·have h0 : ¬ e = 0 := h0
  simp only [if_pos h0]; exact .inl ⟨he, A, c, news, rfl, (hd.mono hu1).mono hu2⟩
 have h0 : e = 0 := h0
 subst h0
 simp only [not_true, if_false]
 have hu02 := Mem.le_trans hu1 hu2
 unfold renSp
 refine hold_call ((dots.cv u2 o.f1).mono fun v cs u3 hu3 ⟨hc, hv⟩ => ⟨(dotsB o.f1, ()), (), hv, hc, ?_⟩)
 refine hold_callg (fun xs _ u4 => u2.le u4 ∧ (dotsB o.f1 = false → xs.1 = dotsB t.f1)) (fun _ => (dots.cv u3 t.f1).mono fun v cs u4 hu4 ⟨hc, hv⟩ => ⟨(dotsB t.f1, ()), (), hv, hc, Mem.le_trans hu3 hu4, fun _ => rfl⟩) (fun hg => ⟨hu3, fun h => by
  have hg : (!dotsB o.f1) = false := hg
  rw [h] at hg; cases hg⟩) ?_
 rintro ⟨x, _⟩ _ u4 ⟨hu24, hx⟩
 have hu04 := Mem.le_trans hu02 hu24
 have hcnd : (bif dotsB o.f1 then true else x) = decide (dotsB o.f1 = true ∨ dotsB t.f1 = true) := by
  cases hh : dotsB o.f1 with
  | true => simp
  | false => rw [cond_false, show x = dotsB t.f1 from hx hh]; simp
 refine ⟨fun h => ?_, fun h => ?_⟩
 ·have h := of_decide_eq_true (hcnd.symm.trans h)
  rw [if_pos h]; exact .inl ⟨errE_ref (by decide), A, c, news, rfl, hd.mono hu04⟩
 have h := of_decide_eq_false (hcnd.symm.trans h)
 rw [if_neg h]
 refine hold_callm ((writes.cv A c ns m r news b u4 wa o.f0 (hd.mono hu04) hl).mono fun v4 cs u5 hu5 ⟨hc, hw4⟩ => ⟨(v4, ()), (ck A ns.length c m r news, ()), rfl, hc, ?_⟩) rfl rfl
 have hu05 := Mem.le_trans hu04 hu5
 refine hold_callm ((writes.cv A c ns m r news b u5 wb t.f0 (hd.mono hu05) hl).mono fun v5 cs u6 hu6 ⟨hc, hw5⟩ => ⟨(v5, ()), (ck A ns.length c m r news, ()), rfl, hc, ?_⟩) rfl rfl
 have hu06 := Mem.le_trans hu05 hu6
 have one : ∀ {ns : List Nd} {w d : Int} {v : Value}, ((writesB ns w d = true ∧ v = .nilIface) ∨ (writesB ns w d = false ∧ v = .iface 92 (.int .i64 7))) → v.oneCell' = true ∧ IsErr v := fun h => by
  rcases h with ⟨_, rfl⟩ | ⟨_, rfl⟩
  ·exact ⟨rfl, .inl rfl⟩
  ·exact ⟨rfl, .inr ⟨_, _, rfl⟩⟩
 refine ⟨fun _ => (one hw4).1, fun _ => (one hw5).1, fun b55 hb55 => ⟨fun _ u7 hu7 hpub => ?_, fun h => by cases h⟩⟩
 have hV := vs_two (hpub _ (List.mem_singleton.2 rfl))
 refine CV.mono (ejoin.cv (some ⟨b55, 0, none⟩) 2 [v4, v5] u7 hV (by simp) (fun x hx => by
  rcases List.mem_cons.1 hx with rfl | hx
  ·exact (one hw4).2
  ·rw [List.mem_singleton.1 hx]; exact (one hw5).2)) fun v6 cs u8 hu8 ⟨hc, hj⟩ => ⟨(v6, ()), (), rfl, hc, ?_⟩
 have hu08 := Mem.le_trans (Mem.le_trans hu06 hu7) hu8
 have he6 := two_err (l := []) hw4 hw5 hj
 refine hold_err he6 (fun h0 => ?_) fun h0 => ?_
 ·have h1 : writesB ns wa o.f0 = false ∨ writesB ns wb t.f0 = false := by
   by_cases h1 : writesB ns wa o.f0 = false ∨ writesB ns wb t.f0 = false
   ·exact h1
   ·rw [if_neg h1] at h0; exact absurd rfl h0
  rw [if_pos h1] at he6 ⊢
  exact .inl ⟨he6, A, c, news, rfl, hd.mono hu08⟩
 have h1 : ¬ (writesB ns wa o.f0 = false ∨ writesB ns wb t.f0 = false) := fun h1 => by rw [if_pos h1] at h0; cases h0
 rw [if_neg h1]
 refine ⟨fun h2 => ?_, fun h2 => ?_⟩
 ·simp only [E.den, cT_eql] at h2
  have h2 : o.f2 = t.f2 := h2
  rw [if_pos h2]
  exact ⟨fun _ => ⟨(sameV s, ()), (hs.mono hu08).reads, .inr ⟨rfl, rfl, rfl, A, c, news, rfl⟩⟩, fun h => by cases h⟩
 simp only [E.den, cF_eql] at h2
 have h2 : ¬ o.f2 = t.f2 := h2
 rw [if_neg h2]
 refine hold_callm ((over.cv A c ns m r news b u8 o.f2 t (hd.mono hu08) hl).mono fun v cs u9 hu9 ⟨hc, he⟩ => ⟨(v, ()), (ck A ns.length c m r news, ()), rfl, hc, hold_err he (fun h0 => ?_) fun h0 => ?_⟩) rfl rfl
 ·rw [if_pos h0]; exact .inl ⟨he, A, c, news, rfl, (hd.mono hu08).mono hu9⟩
 rw [if_neg (fun h' => h' h0)]
 refine hold_callm ((cdrop.cv A c ns m r news b u9 o ((hd.mono hu08).mono hu9) hl (hn.ris.get _).len (hn.ris.get _).rise).mono fun v cs u10 hu10 ⟨hv, A1, c1, hc, hd1⟩ => ⟨(), (ck A1 (dropN ns o).length c1 m r news, ()), hv, hc, ?_⟩) rfl rfl
 have hr1 := hn.ris.dropN o
 have hl1 : (dropN ns o).length ≤ 1000000 := by unfold dropN; rw [turn_len]; exact hl
 unfold renAt
 simp only
 generalize dropN ns o = n1 at hd1 hr1 hl1 ⊢
 refine ⟨fun h3 => ?_, fun h3 => ?_⟩
 ·simp only [E.den, cT_geq] at h3
  have h3 : 0 ≤ t.f2 := h3
  simp only [if_pos h3]
  refine hold_callm ((lose.cv A1 c1 n1 m r news b u10 t hd1 hl1 (hr1.get _).len (hr1.get _).rise).mono fun v cs u11 hu11 ⟨hv, A2, c2, hc, hd2⟩ => ⟨(), (ck A2 (loseN n1 t).length c2 m r news, ()), hv, hc, ?_⟩) rfl rfl
  have hr2 := hr1.lose t
  have hl2 : (loseN n1 t).length ≤ 1000000 := by rw [lose_len]; exact hl1
  generalize loseN n1 t = n2 at hd2 hr2 hl2 ⊢
  refine hold_callm ((cput.cv A2 c2 n2 m r news b u11 t o.f2 hd2 hl2 (hr2.get _).len (hr2.get _).rise).mono fun v cs u12 hu12 ⟨hv, A3, c3, hc, hd3⟩ => ⟨(), (ck A3 (putN n2 t o.f2).length c3 m r news, ()), hv, hc, fun h4 => ?_, fun h4 => ?_⟩) rfl rfl
  ·simp only [E.den, cT_eql] at h4
   have h4 : (getL ns o.f2).f0 = 2 := h4
   rw [if_pos h4]
   exact hold_callm ((turnRen.cv A3 c3 (putN n2 t o.f2) m r news b b9 u12 o.f2 t hd3 (by unfold putN; rw [turn_len]; exact hl2)).mono fun v cs u13 hu13 ⟨hv, A4, c4, hc, hd4⟩ => ⟨(), (ck A4 (turnF (putN n2 t o.f2) o.f2 (nUp t.f0)).length c4 m r news, t.row, ()), hv, hc, .inl ⟨errE_nil, A4, c4, news, rfl, hd4⟩⟩) rfl rfl
  ·simp only [E.den, cF_eql] at h4
   have h4 : ¬ (getL ns o.f2).f0 = 2 := h4
   rw [if_neg h4]
   exact .inl ⟨errE_nil, A3, c3, news, rfl, hd3⟩
 ·simp only [E.den, cF_geq] at h3
  have h3 : t.f2 < 0 := h3
  simp only [if_neg (show ¬ 0 ≤ t.f2 by omega)]
  have hd2 := hd1
  have hr2 := hr1
  have hl2 := hl1
  generalize hA2 : A1 = A2 at hd2 ⊢
  generalize hc2 : c1 = c2 at ⊢
  generalize n1 = n2 at hd2 hr2 hl2 ⊢
  generalize hu11 : u10 = u11 at hd2 ⊢
  refine hold_callm ((cput.cv A2 c2 n2 m r news b u11 t o.f2 hd2 hl2 (hr2.get _).len (hr2.get _).rise).mono fun v cs u12 hu12 ⟨hv, A3, c3, hc, hd3⟩ => ⟨(), (ck A3 (putN n2 t o.f2).length c3 m r news, ()), hv, hc, fun h4 => ?_, fun h4 => ?_⟩) rfl rfl
  ·simp only [E.den, cT_eql] at h4
   have h4 : (getL ns o.f2).f0 = 2 := h4
   rw [if_pos h4]
   exact hold_callm ((turnRen.cv A3 c3 (putN n2 t o.f2) m r news b b9 u12 o.f2 t hd3 (by unfold putN; rw [turn_len]; exact hl2)).mono fun v cs u13 hu13 ⟨hv, A4, c4, hc, hd4⟩ => ⟨(), (ck A4 (turnF (putN n2 t o.f2) o.f2 (nUp t.f0)).length c4 m r news, t.row, ()), hv, hc, .inl ⟨errE_nil, A4, c4, news, rfl, hd4⟩⟩) rfl rfl
  ·simp only [E.den, cF_eql] at h4
   have h4 : ¬ (getL ns o.f2).f0 = 2 := h4
   rw [if_neg h4]
   exact .inl ⟨errE_nil, A3, c3, news, rfl, hd3⟩
end
theorem enterF_err {ns : List Nd} {m r who from_ : Int} {path : ByteArray} {n : Nd} {slash : Int} (h : ¬ (enterF ns m r who from_ path n slash).2.2 = 0) : (enterF ns m r who from_ path n slash).1 = ns ∧ (enterF ns m r who from_ path n slash).2.1 = 0 := by
 unfold enterF enterAt at *
 repeat' split
 all_goals first | exact ⟨rfl, rfl⟩ | (exfalso; simp_all; done)
theorem makeF_err {ns : List Nd} {m r who from_ : Int} {path : ByteArray} {mode : Int} (h : ¬ (makeF ns m r who from_ path mode).2.2 = 0) : (makeF ns m r who from_ path mode).1 = ns := (enterF_err h).1
theorem mkdirF_err {ns : List Nd} {m r who from_ : Int} {path : ByteArray} {mode : Int} (h : ¬ (mkdirF ns m r who from_ path mode).2.2 = 0) : (mkdirF ns m r who from_ path mode).1 = ns := (enterF_err h).1
theorem symF_err {ns : List Nd} {m r who from_ : Int} {text path : ByteArray} (h : ¬ (symF ns m r who from_ text path).2.2 = 0) : (symF ns m r who from_ text path).1 = ns := by
 unfold symF at *
 split
 ·rfl
 ·rename_i h1
  rw [if_neg h1] at h
  split
  ·rfl
  ·rename_i h2
   rw [if_neg h2] at h
   exact (enterF_err h).1
theorem linkF_err {ns : List Nd} {who from_ : Int} {old path : ByteArray} (h : ¬ (linkF ns who from_ old path).2 = 0) : (linkF ns who from_ old path).1 = ns := by
 unfold linkF linkAt at *
 repeat' split
 all_goals first | rfl | (exfalso; simp_all; done)
theorem unlF_err {ns : List Nd} {who from_ : Int} {path : ByteArray} (h : ¬ (unlF ns who from_ path).2 = 0) : (unlF ns who from_ path).1 = ns := by
 unfold unlF at *
 repeat' split
 all_goals first | rfl | (exfalso; simp_all; done)
theorem rmdF_err {ns : List Nd} {who from_ : Int} {path : ByteArray} (h : ¬ (rmdF ns who from_ path).2 = 0) : (rmdF ns who from_ path).1 = ns := by
 unfold rmdF rmdAt at *
 repeat' split
 all_goals first | rfl | (exfalso; simp_all; done)
theorem renF_err {ns : List Nd} {wa fa wb fb : Int} {old path : ByteArray} (h : ¬ (renF ns wa fa wb fb old path).2 = 0) : (renF ns wa fa wb fb old path).1 = ns := by
 unfold renF renSp at *
 repeat' split
 all_goals first | rfl | (exfalso; simp_all; done)
theorem chmF_err {ns : List Nd} {who from_ : Int} {path : ByteArray} {mode : Int} (h : ¬ (chmF ns who from_ path mode).2 = 0) : (chmF ns who from_ path mode).1 = ns := by
 unfold chmF at *
 repeat' split
 all_goals first | rfl | (exfalso; simp_all; done)
variable (hd : DiskAt u A ns) (hn : Ok8 ns) (hg : EgM u) (s : Addr) (hs : EsM s u)
include hd hn hg hs
theorem doneMake.cv (who from_ : Int) (path : ByteArray) (mode old : Int) (hp : path.size ≤ 1000000000000) :
  CV Tryz.prog 43 [.agg #[.slice A ns.length c, .int .i64 m, .int .i64 r], .func (.func 66) #[] #[.pointer (some ⟨b1, 0, none⟩), .pointer (some ⟨b2, 0, none⟩), .pointer (some ⟨b3, 0, none⟩), .pointer (some ⟨b4, 0, none⟩)]] [(b1, [.int .i64 who, .int .i64 from_]), (b2, [.string path]), (b3, [.int .i64 mode]), (b4, [.int .i64 old])] u fun v cs u' => cs = [[.int .i64 who, .int .i64 from_], [.string path], [.int .i64 mode], [.int .i64 (if (makeF ns m r who from_ path mode).2.2 = 0 then (makeF ns m r who from_ path mode).2.1 else 0)]] ∧ ∃ A' c', v = .tuple #[.agg #[.slice A' (makeF ns m r who from_ path mode).1.length c', .int .i64 m, .int .i64 r], .int .i64 (makeF ns m r who from_ path mode).2.2] ∧ DiskAt u' A' (makeF ns m r who from_ path mode).1 := by
 refine cv_of names draws (fn := Tryz.f43) (b := bodyOf Tryz.f43) rfl rfl [] (doneMake.args ((A, ns.length, c), m, r, ()) (who, from_, ()) (path, ()) (mode, ()) (old, ())) (doneMake.giv _ _ _ _ _ ) (fun i => if i = 31 then b1 else if i = 32 then b2 else if i = 33 then b3 else b4) (doneMake.run _ _ _ _ _ ) (by kernel_rfl) rfl rfl ?_
 unfold doneMake.T
 intro b20 hb20 b21 hb21 b22 hb22
 refine hold_callm ((make1.cv A c ns m r 0 b22 b1 b2 b3 b4 u hd hn hg who from_ path mode old hp).mono fun v cs u1 hu1 ⟨he, A1, c1, n1, hc, hd1⟩ => ⟨(v, ()), (ck A1 (makeF ns m r who from_ path mode).1.length c1 m r n1, (who, from_, ()), (path, ()), (mode, ()), ((if (makeF ns m r who from_ path mode).2.2 = 0 then (makeF ns m r who from_ path mode).2.1 else 0), ()), ()), rfl, hc, hold_err' he (fun h0 => ?_) fun h0 => ?_⟩) rfl rfl
 ·exact ⟨rfl, A1, c1, by rw [h0]; rfl, hd1⟩
 ·refine ⟨fun _ => ⟨(sameV s, ()), (hs.mono hu1).reads, ?_⟩, fun h => by cases h⟩
  refine hold_call ((is.cv v _ s u1 (he.resolve_left fun h => h0 h.1).2).mono fun v2 cs u2 hu2 ⟨hc, hv⟩ => ⟨(false, ()), (), hv, hc, fun h => (by cases h), fun _ => ?_⟩)
  refine hold_call ((number.cv v _ u2 ((hg.mono hu1).mono hu2) ((he.resolve_left fun h => h0 h.1).2.mono hu2)).mono fun v3 cs u3 hu3 ⟨hc, hv⟩ => ⟨((makeF ns m r who from_ path mode).2.2, ()), (), hv, hc, rfl, A, c, ?_, ?_⟩)
  ·rw [makeF_err h0]; rfl
  ·rw [makeF_err h0]; exact hd.mono (Mem.le_trans hu1 (Mem.le_trans hu2 hu3))
theorem doneMkdir.cv (who from_ : Int) (path : ByteArray) (mode : Int) (hp : path.size ≤ 1000000000000) :
  CV Tryz.prog 43 [.agg #[.slice A ns.length c, .int .i64 m, .int .i64 r], .func (.func 68) #[] #[.pointer (some ⟨b1, 0, none⟩), .pointer (some ⟨b2, 0, none⟩), .pointer (some ⟨b3, 0, none⟩)]] [(b1, [.int .i64 who, .int .i64 from_]), (b2, [.string path]), (b3, [.int .i64 mode])] u fun v cs u' => cs = [[.int .i64 who, .int .i64 from_], [.string path], [.int .i64 mode]] ∧ ∃ A' c', v = .tuple #[.agg #[.slice A' (mkdirF ns m r who from_ path mode).1.length c', .int .i64 m, .int .i64 r], .int .i64 (mkdirF ns m r who from_ path mode).2.2] ∧ DiskAt u' A' (mkdirF ns m r who from_ path mode).1 := by
 refine cv_of names draws (fn := Tryz.f43) (b := bodyOf Tryz.f43) rfl rfl [] (doneMkdir.args ((A, ns.length, c), m, r, ()) (who, from_, ()) (path, ()) (mode, ())) (doneMkdir.giv _ _ _ _ ) (fun i => if i = 31 then b1 else if i = 32 then b2 else b3) (doneMkdir.run _ _ _ _ ) (by kernel_rfl) rfl rfl ?_
 unfold doneMkdir.T
 intro b20 hb20 b21 hb21 b22 hb22
 refine hold_callm ((mkdir1.cv A c ns m r 0 b22 b1 b2 b3 u hd hn hg who from_ path mode hp).mono fun v cs u1 hu1 ⟨he, A1, c1, n1, hc, hd1⟩ => ⟨(v, ()), (ck A1 (mkdirF ns m r who from_ path mode).1.length c1 m r n1, (who, from_, ()), (path, ()), (mode, ()), ()), rfl, hc, hold_err' he (fun h0 => ?_) fun h0 => ?_⟩) rfl rfl
 ·exact ⟨rfl, A1, c1, by rw [h0]; rfl, hd1⟩
 ·refine ⟨fun _ => ⟨(sameV s, ()), (hs.mono hu1).reads, ?_⟩, fun h => by cases h⟩
  refine hold_call ((is.cv v _ s u1 (he.resolve_left fun h => h0 h.1).2).mono fun v2 cs u2 hu2 ⟨hc, hv⟩ => ⟨(false, ()), (), hv, hc, fun h => (by cases h), fun _ => ?_⟩)
  refine hold_call ((number.cv v _ u2 ((hg.mono hu1).mono hu2) ((he.resolve_left fun h => h0 h.1).2.mono hu2)).mono fun v3 cs u3 hu3 ⟨hc, hv⟩ => ⟨((mkdirF ns m r who from_ path mode).2.2, ()), (), hv, hc, rfl, A, c, ?_, ?_⟩)
  ·rw [mkdirF_err h0]; rfl
  ·rw [mkdirF_err h0]; exact hd.mono (Mem.le_trans hu1 (Mem.le_trans hu2 hu3))
theorem doneSym.cv (who from_ : Int) (text path : ByteArray) (hp : path.size ≤ 1000000000000) :
  CV Tryz.prog 43 [.agg #[.slice A ns.length c, .int .i64 m, .int .i64 r], .func (.func 78) #[] #[.pointer (some ⟨b1, 0, none⟩), .pointer (some ⟨b2, 0, none⟩), .pointer (some ⟨b3, 0, none⟩)]] [(b1, [.string text]), (b2, [.int .i64 who, .int .i64 from_]), (b3, [.string path])] u fun v cs u' => cs = [[.string text], [.int .i64 who, .int .i64 from_], [.string path]] ∧ ∃ A' c', v = .tuple #[.agg #[.slice A' (symF ns m r who from_ text path).1.length c', .int .i64 m, .int .i64 r], .int .i64 (symF ns m r who from_ text path).2.2] ∧ DiskAt u' A' (symF ns m r who from_ text path).1 := by
 refine cv_of names draws (fn := Tryz.f43) (b := bodyOf Tryz.f43) rfl rfl [] (doneSym.args ((A, ns.length, c), m, r, ()) (text, ()) (who, from_, ()) (path, ())) (doneSym.giv _ _ _ _ ) (fun i => if i = 31 then b1 else if i = 32 then b2 else b3) (doneSym.run _ _ _ _ ) (by kernel_rfl) rfl rfl ?_
 unfold doneSym.T
 intro b20 hb20 b21 hb21 b22 hb22
 refine hold_callm ((sym1.cv A c ns m r 0 b22 b1 b2 b3 u hd hn hg who from_ text path hp).mono fun v cs u1 hu1 ⟨he, A1, c1, n1, hc, hd1⟩ => ⟨(v, ()), (ck A1 (symF ns m r who from_ text path).1.length c1 m r n1, (text, ()), (who, from_, ()), (path, ()), ()), rfl, hc, hold_err' he (fun h0 => ?_) fun h0 => ?_⟩) rfl rfl
 ·exact ⟨rfl, A1, c1, by rw [h0]; rfl, hd1⟩
 ·refine ⟨fun _ => ⟨(sameV s, ()), (hs.mono hu1).reads, ?_⟩, fun h => by cases h⟩
  refine hold_call ((is.cv v _ s u1 (he.resolve_left fun h => h0 h.1).2).mono fun v2 cs u2 hu2 ⟨hc, hv⟩ => ⟨(false, ()), (), hv, hc, fun h => (by cases h), fun _ => ?_⟩)
  refine hold_call ((number.cv v _ u2 ((hg.mono hu1).mono hu2) ((he.resolve_left fun h => h0 h.1).2.mono hu2)).mono fun v3 cs u3 hu3 ⟨hc, hv⟩ => ⟨((symF ns m r who from_ text path).2.2, ()), (), hv, hc, rfl, A, c, ?_, ?_⟩)
  ·rw [symF_err h0]; rfl
  ·rw [symF_err h0]; exact hd.mono (Mem.le_trans hu1 (Mem.le_trans hu2 hu3))
theorem doneLink.cv (who from_ : Int) (old path : ByteArray) (hp : path.size ≤ 1000000000000) (ho : old.size ≤ 1000000000000) :
  CV Tryz.prog 43 [.agg #[.slice A ns.length c, .int .i64 m, .int .i64 r], .func (.func 79) #[] #[.pointer (some ⟨b1, 0, none⟩), .pointer (some ⟨b2, 0, none⟩), .pointer (some ⟨b3, 0, none⟩)]] [(b1, [.int .i64 who, .int .i64 from_]), (b2, [.string old]), (b3, [.string path])] u fun v cs u' => cs = [[.int .i64 who, .int .i64 from_], [.string old], [.string path]] ∧ ∃ A' c', v = .tuple #[.agg #[.slice A' (linkF ns who from_ old path).1.length c', .int .i64 m, .int .i64 r], .int .i64 (linkF ns who from_ old path).2] ∧ DiskAt u' A' (linkF ns who from_ old path).1 := by
 refine cv_of names draws (fn := Tryz.f43) (b := bodyOf Tryz.f43) rfl rfl [] (doneLink.args ((A, ns.length, c), m, r, ()) (who, from_, ()) (old, ()) (path, ())) (doneLink.giv _ _ _ _ ) (fun i => if i = 31 then b1 else if i = 32 then b2 else b3) (doneLink.run _ _ _ _ ) (by kernel_rfl) rfl rfl ?_
 unfold doneLink.T
 intro b20 hb20 b21 hb21 b22 hb22
 refine hold_callm ((link1.cv A c ns m r 0 b22 b1 b2 b3 u hd hn hg who from_ old path hp ho).mono fun v cs u1 hu1 ⟨he, A1, c1, n1, hc, hd1⟩ => ⟨(v, ()), (ck A1 (linkF ns who from_ old path).1.length c1 m r n1, (who, from_, ()), (old, ()), (path, ()), ()), rfl, hc, hold_err' he (fun h0 => ?_) fun h0 => ?_⟩) rfl rfl
 ·exact ⟨rfl, A1, c1, by rw [h0]; rfl, hd1⟩
 ·refine ⟨fun _ => ⟨(sameV s, ()), (hs.mono hu1).reads, ?_⟩, fun h => by cases h⟩
  refine hold_call ((is.cv v _ s u1 (he.resolve_left fun h => h0 h.1).2).mono fun v2 cs u2 hu2 ⟨hc, hv⟩ => ⟨(false, ()), (), hv, hc, fun h => (by cases h), fun _ => ?_⟩)
  refine hold_call ((number.cv v _ u2 ((hg.mono hu1).mono hu2) ((he.resolve_left fun h => h0 h.1).2.mono hu2)).mono fun v3 cs u3 hu3 ⟨hc, hv⟩ => ⟨((linkF ns who from_ old path).2, ()), (), hv, hc, rfl, A, c, ?_, ?_⟩)
  ·rw [linkF_err h0]; rfl
  ·rw [linkF_err h0]; exact hd.mono (Mem.le_trans hu1 (Mem.le_trans hu2 hu3))
theorem doneUnl.cv (who from_ : Int) (path : ByteArray) (hp : path.size ≤ 1000000000000) :
  CV Tryz.prog 43 [.agg #[.slice A ns.length c, .int .i64 m, .int .i64 r], .func (.func 69) #[] #[.pointer (some ⟨b1, 0, none⟩), .pointer (some ⟨b2, 0, none⟩)]] [(b1, [.int .i64 who, .int .i64 from_]), (b2, [.string path])] u fun v cs u' => cs = [[.int .i64 who, .int .i64 from_], [.string path]] ∧ ∃ A' c', v = .tuple #[.agg #[.slice A' (unlF ns who from_ path).1.length c', .int .i64 m, .int .i64 r], .int .i64 (unlF ns who from_ path).2] ∧ DiskAt u' A' (unlF ns who from_ path).1 := by
 refine cv_of names draws (fn := Tryz.f43) (b := bodyOf Tryz.f43) rfl rfl [] (doneUnl.args ((A, ns.length, c), m, r, ()) (who, from_, ()) (path, ())) (doneUnl.giv _ _ _ ) (fun i => if i = 31 then b1 else b2) (doneUnl.run _ _ _ ) (by kernel_rfl) rfl rfl ?_
 unfold doneUnl.T
 intro b20 hb20 b21 hb21 b22 hb22
 refine hold_callm ((unl1.cv A c ns m r 0 b22 b1 b2 u hd hn hg who from_ path hp).mono fun v cs u1 hu1 ⟨he, A1, c1, n1, hc, hd1⟩ => ⟨(v, ()), (ck A1 (unlF ns who from_ path).1.length c1 m r n1, (who, from_, ()), (path, ()), ()), rfl, hc, hold_err' he (fun h0 => ?_) fun h0 => ?_⟩) rfl rfl
 ·exact ⟨rfl, A1, c1, by rw [h0]; rfl, hd1⟩
 ·refine ⟨fun _ => ⟨(sameV s, ()), (hs.mono hu1).reads, ?_⟩, fun h => by cases h⟩
  refine hold_call ((is.cv v _ s u1 (he.resolve_left fun h => h0 h.1).2).mono fun v2 cs u2 hu2 ⟨hc, hv⟩ => ⟨(false, ()), (), hv, hc, fun h => (by cases h), fun _ => ?_⟩)
  refine hold_call ((number.cv v _ u2 ((hg.mono hu1).mono hu2) ((he.resolve_left fun h => h0 h.1).2.mono hu2)).mono fun v3 cs u3 hu3 ⟨hc, hv⟩ => ⟨((unlF ns who from_ path).2, ()), (), hv, hc, rfl, A, c, ?_, ?_⟩)
  ·rw [unlF_err h0]; rfl
  ·rw [unlF_err h0]; exact hd.mono (Mem.le_trans hu1 (Mem.le_trans hu2 hu3))
theorem doneRmd.cv (who from_ : Int) (path : ByteArray) (hp : path.size ≤ 1000000000000) :
  CV Tryz.prog 43 [.agg #[.slice A ns.length c, .int .i64 m, .int .i64 r], .func (.func 70) #[] #[.pointer (some ⟨b1, 0, none⟩), .pointer (some ⟨b2, 0, none⟩)]] [(b1, [.int .i64 who, .int .i64 from_]), (b2, [.string path])] u fun v cs u' => cs = [[.int .i64 who, .int .i64 from_], [.string path]] ∧ ∃ A' c', v = .tuple #[.agg #[.slice A' (rmdF ns who from_ path).1.length c', .int .i64 m, .int .i64 r], .int .i64 (rmdF ns who from_ path).2] ∧ DiskAt u' A' (rmdF ns who from_ path).1 := by
 refine cv_of names draws (fn := Tryz.f43) (b := bodyOf Tryz.f43) rfl rfl [] (doneRmd.args ((A, ns.length, c), m, r, ()) (who, from_, ()) (path, ())) (doneRmd.giv _ _ _ ) (fun i => if i = 31 then b1 else b2) (doneRmd.run _ _ _ ) (by kernel_rfl) rfl rfl ?_
 unfold doneRmd.T
 intro b20 hb20 b21 hb21 b22 hb22
 refine hold_callm ((rmd1.cv A c ns m r 0 b22 b1 b2 u hd hn hg who from_ path hp).mono fun v cs u1 hu1 ⟨he, A1, c1, n1, hc, hd1⟩ => ⟨(v, ()), (ck A1 (rmdF ns who from_ path).1.length c1 m r n1, (who, from_, ()), (path, ()), ()), rfl, hc, hold_err' he (fun h0 => ?_) fun h0 => ?_⟩) rfl rfl
 ·exact ⟨rfl, A1, c1, by rw [h0]; rfl, hd1⟩
 ·refine ⟨fun _ => ⟨(sameV s, ()), (hs.mono hu1).reads, ?_⟩, fun h => by cases h⟩
  refine hold_call ((is.cv v _ s u1 (he.resolve_left fun h => h0 h.1).2).mono fun v2 cs u2 hu2 ⟨hc, hv⟩ => ⟨(false, ()), (), hv, hc, fun h => (by cases h), fun _ => ?_⟩)
  refine hold_call ((number.cv v _ u2 ((hg.mono hu1).mono hu2) ((he.resolve_left fun h => h0 h.1).2.mono hu2)).mono fun v3 cs u3 hu3 ⟨hc, hv⟩ => ⟨((rmdF ns who from_ path).2, ()), (), hv, hc, rfl, A, c, ?_, ?_⟩)
  ·rw [rmdF_err h0]; rfl
  ·rw [rmdF_err h0]; exact hd.mono (Mem.le_trans hu1 (Mem.le_trans hu2 hu3))
theorem doneRen.cv (wa fa wb fb : Int) (old path : ByteArray) (hp : path.size ≤ 1000000000000) (ho : old.size ≤ 1000000000000) :
  CV Tryz.prog 43 [.agg #[.slice A ns.length c, .int .i64 m, .int .i64 r], .func (.func 44) #[] #[.pointer (some ⟨b1, 0, none⟩), .pointer (some ⟨b2, 0, none⟩), .pointer (some ⟨b3, 0, none⟩), .pointer (some ⟨b4, 0, none⟩)]] [(b1, [.int .i64 wa, .int .i64 fa]), (b2, [.string old]), (b3, [.int .i64 wb, .int .i64 fb]), (b4, [.string path])] u fun v cs u' => cs = [[.int .i64 wa, .int .i64 fa], [.string old], [.int .i64 wb, .int .i64 fb], [.string path]] ∧ ∃ A' c', v = .tuple #[.agg #[.slice A' (renF ns wa fa wb fb old path).1.length c', .int .i64 m, .int .i64 r], .int .i64 (renF ns wa fa wb fb old path).2] ∧ DiskAt u' A' (renF ns wa fa wb fb old path).1 := by
 refine cv_of names draws (fn := Tryz.f43) (b := bodyOf Tryz.f43) rfl rfl [] (doneRen.args ((A, ns.length, c), m, r, ()) (wa, fa, ()) (old, ()) (wb, fb, ()) (path, ())) (doneRen.giv _ _ _ _ _ ) (fun i => if i = 31 then b1 else if i = 32 then b2 else if i = 33 then b3 else b4) (doneRen.run _ _ _ _ _ ) (by kernel_rfl) rfl rfl ?_
 unfold doneRen.T
 intro b20 hb20 b21 hb21 b22 hb22
 refine hold_callm ((ren1.cv A c ns m r 0 b22 b1 b2 b3 b4 u hd hn hg s hs wa fa wb fb old path hp ho).mono fun v cs u1 hu1 hL => ?_) rfl rfl
 rcases hL with ⟨he, A1, c1, n1, hc, hd1⟩ | ⟨rfl, he, hns, A1, c1, n1, hc⟩
 ·refine ⟨(v, ()), (ck A1 (renF ns wa fa wb fb old path).1.length c1 m r n1, (wa, fa, ()), (old, ()), (wb, fb, ()), (path, ()), ()), rfl, hc, hold_err' he (fun h0 => ?_) fun h0 => ?_⟩
  ·exact ⟨rfl, A1, c1, by rw [h0]; rfl, hd1⟩
  ·refine ⟨fun _ => ⟨(sameV s, ()), (hs.mono hu1).reads, ?_⟩, fun h => by cases h⟩
   refine hold_call ((is.cv v _ s u1 (he.resolve_left fun h => h0 h.1).2).mono fun v2 cs u2 hu2 ⟨hc, hv⟩ => ⟨(false, ()), (), hv, hc, fun h => (by cases h), fun _ => ?_⟩)
   refine hold_call ((number.cv v _ u2 ((hg.mono hu1).mono hu2) ((he.resolve_left fun h => h0 h.1).2.mono hu2)).mono fun v3 cs u3 hu3 ⟨hc, hv⟩ => ⟨((renF ns wa fa wb fb old path).2, ()), (), hv, hc, rfl, A, c, ?_, ?_⟩)
   ·rw [renF_err h0]; rfl
   ·rw [renF_err h0]; exact hd.mono (Mem.le_trans hu1 (Mem.le_trans hu2 hu3))
 ·refine ⟨(sameV s, ()), (ck A1 ns.length c1 m r n1, (wa, fa, ()), (old, ()), (wb, fb, ()), (path, ()), ()), rfl, hc, fun _ => .inr ⟨_, _, rfl⟩, fun h => (by cases h), fun _ => ?_⟩
  refine ⟨fun _ => ⟨(sameV s, ()), (hs.mono hu1).reads, ?_⟩, fun h => by cases h⟩
  refine hold_call ((isSame.cv s u1).mono fun v2 cs u2 hu2 ⟨hc, hv⟩ => ⟨(true, ()), (), hv, hc, fun _ => ?_, fun h => by cases h⟩)
  exact ⟨rfl, A, c, by rw [he, hns]; rfl, by rw [hns]; exact hd.mono (Mem.le_trans hu1 hu2)⟩
theorem doneChm.cv (who from_ : Int) (path : ByteArray) (mode : Int) (hp : path.size ≤ 1000000000000) :
  CV Tryz.prog 43 [.agg #[.slice A ns.length c, .int .i64 m, .int .i64 r], .func (.func 83) #[] #[.pointer (some ⟨b1, 0, none⟩), .pointer (some ⟨b2, 0, none⟩), .pointer (some ⟨b3, 0, none⟩)]] [(b1, [.int .i64 who, .int .i64 from_]), (b2, [.string path]), (b3, [.int .i64 mode])] u fun v cs u' => cs = [[.int .i64 who, .int .i64 from_], [.string path], [.int .i64 mode]] ∧ ∃ A' c', v = .tuple #[.agg #[.slice A' (chmF ns who from_ path mode).1.length c', .int .i64 m, .int .i64 r], .int .i64 (chmF ns who from_ path mode).2] ∧ DiskAt u' A' (chmF ns who from_ path mode).1 := by
 refine cv_of names draws (fn := Tryz.f43) (b := bodyOf Tryz.f43) rfl rfl [] (doneChm.args ((A, ns.length, c), m, r, ()) (who, from_, ()) (path, ()) (mode, ())) (doneChm.giv _ _ _ _ ) (fun i => if i = 31 then b1 else if i = 32 then b2 else b3) (doneChm.run _ _ _ _ ) (by kernel_rfl) rfl rfl ?_
 unfold doneChm.T
 intro b20 hb20 b21 hb21 b22 hb22
 refine hold_callm ((chm1.cv A c ns m r 0 b22 b1 b2 b3 u hd hn hg who from_ path mode hp).mono fun v cs u1 hu1 ⟨he, A1, c1, n1, hc, hd1⟩ => ⟨(v, ()), (ck A1 (chmF ns who from_ path mode).1.length c1 m r n1, (who, from_, ()), (path, ()), (mode, ()), ()), rfl, hc, hold_err' he (fun h0 => ?_) fun h0 => ?_⟩) rfl rfl
 ·exact ⟨rfl, A1, c1, by rw [h0]; rfl, hd1⟩
 ·refine ⟨fun _ => ⟨(sameV s, ()), (hs.mono hu1).reads, ?_⟩, fun h => by cases h⟩
  refine hold_call ((is.cv v _ s u1 (he.resolve_left fun h => h0 h.1).2).mono fun v2 cs u2 hu2 ⟨hc, hv⟩ => ⟨(false, ()), (), hv, hc, fun h => (by cases h), fun _ => ?_⟩)
  refine hold_call ((number.cv v _ u2 ((hg.mono hu1).mono hu2) ((he.resolve_left fun h => h0 h.1).2.mono hu2)).mono fun v3 cs u3 hu3 ⟨hc, hv⟩ => ⟨((chmF ns who from_ path mode).2, ()), (), hv, hc, rfl, A, c, ?_, ?_⟩)
  ·rw [chmF_err h0]; rfl
  ·rw [chmF_err h0]; exact hd.mono (Mem.le_trans hu1 (Mem.le_trans hu2 hu3))
end Go.Proofs.YtpfbimkpcnnfkaaGreatDoor.Sx
set_option maxRecDepth 100000
set_option linter.unusedVariables false
set_option linter.unusedSimpArgs false
namespace Go.Proofs.YtpfbimkpcnnfkaaGreatDoor.Sx
open Go Go.RowKit Go.Proofs.YtpfbimkpcnnfkaaGreatDoor Go.Proofs.YtpfbimkpcnnfkaaGreatDoor.Ext
variable (A : Option Addr) (c : Nat) (ns : List Nd) (m r : Int) (u : Mem)
variable (hd : DiskAt u A ns) (hn : Ok8 ns) (hg : EgM u) (s : Addr) (hs : EsM s u)
include hd hn hg hs
theorem make_.cv (who from_ : Int) (path : ByteArray) (mode : Int) (hp : path.size ≤ 1000000000000) :
  CV Tryz.prog 18 [.agg #[.slice A ns.length c, .int .i64 m, .int .i64 r], .agg #[.int .i64 who, .int .i64 from_], .string path, .int .i64 mode] [] u fun v cs u' => cs = [] ∧ ∃ A' c', v = .tuple #[.agg #[.slice A' (makeF ns m r who from_ path mode).1.length c', .int .i64 m, .int .i64 r], .int .i64 (if (makeF ns m r who from_ path mode).2.2 = 0 then (makeF ns m r who from_ path mode).2.1 else 0), .int .i64 (makeF ns m r who from_ path mode).2.2] ∧ DiskAt u' A' (makeF ns m r who from_ path mode).1 := by
 refine cv_of names draws (fn := Tryz.f18) (b := bodyOf Tryz.f18) rfl rfl [] (make_.args ((A, ns.length, c), m, r, ()) (who, from_, ()) (path, ()) (mode, ())) (make_.giv _ _ _ _ ) (fun _ => 0) (make_.run _ _ _ _ ) (by kernel_rfl) rfl rfl ?_
 unfold make_.T
 intro b4 h4 b5 h5 b6 h6 b7 h7 b8 h8 b11 h11
 exact hold_callm ((doneMake.cv A c ns m r b5 b6 b7 b11 u hd hn hg s hs who from_ path mode 0 hp).mono fun v cs u1 hu1 ⟨hc, A1, c1, hv, hd1⟩ => ⟨((A1, (makeF ns m r who from_ path mode).1.length, c1), m, r, (makeF ns m r who from_ path mode).2.2, ()), ((who, from_, ()), (path, ()), (mode, ()), ((if (makeF ns m r who from_ path mode).2.2 = 0 then (makeF ns m r who from_ path mode).2.1 else 0), ()), ()), hv, hc, fun b12 h12 => ⟨rfl, A1, c1, rfl, hd1⟩⟩) rfl rfl
theorem mkdir_.cv (who from_ : Int) (path : ByteArray) (mode : Int) (hp : path.size ≤ 1000000000000) :
  CV Tryz.prog 19 [.agg #[.slice A ns.length c, .int .i64 m, .int .i64 r], .agg #[.int .i64 who, .int .i64 from_], .string path, .int .i64 mode] [] u fun v cs u' => cs = [] ∧ ∃ A' c', v = .tuple #[.agg #[.slice A' (mkdirF ns m r who from_ path mode).1.length c', .int .i64 m, .int .i64 r], .int .i64 (mkdirF ns m r who from_ path mode).2.2] ∧ DiskAt u' A' (mkdirF ns m r who from_ path mode).1 := by
 refine cv_of names draws (fn := Tryz.f19) (b := bodyOf Tryz.f19) rfl rfl [] (mkdir_.args ((A, ns.length, c), m, r, ()) (who, from_, ()) (path, ()) (mode, ())) (mkdir_.giv _ _ _ _ ) (fun _ => 0) (mkdir_.run _ _ _ _ ) (by kernel_rfl) rfl rfl ?_
 unfold mkdir_.T
 intro b4 h4 b5 h5 b6 h6 b7 h7 b8 h8
 exact hold_callm ((doneMkdir.cv A c ns m r b5 b6 b7 u hd hn hg s hs who from_ path mode hp).mono fun v cs u1 hu1 ⟨hc, A1, c1, hv, hd1⟩ => ⟨((A1, (mkdirF ns m r who from_ path mode).1.length, c1), m, r, (mkdirF ns m r who from_ path mode).2.2, ()), ((who, from_, ()), (path, ()), (mode, ()), ()), hv, hc, rfl, A1, c1, rfl, hd1⟩) rfl rfl
theorem sym_.cv (who from_ : Int) (text path : ByteArray) (hp : path.size ≤ 1000000000000) :
  CV Tryz.prog 31 [.agg #[.slice A ns.length c, .int .i64 m, .int .i64 r], .agg #[.int .i64 who, .int .i64 from_], .string text, .string path] [] u fun v cs u' => cs = [] ∧ ∃ A' c', v = .tuple #[.agg #[.slice A' (symF ns m r who from_ text path).1.length c', .int .i64 m, .int .i64 r], .int .i64 (symF ns m r who from_ text path).2.2] ∧ DiskAt u' A' (symF ns m r who from_ text path).1 := by
 refine cv_of names draws (fn := Tryz.f31) (b := bodyOf Tryz.f31) rfl rfl [] (sym_.args ((A, ns.length, c), m, r, ()) (who, from_, ()) (text, ()) (path, ())) (sym_.giv _ _ _ _ ) (fun _ => 0) (sym_.run _ _ _ _ ) (by kernel_rfl) rfl rfl ?_
 unfold sym_.T
 intro b4 h4 b5 h5 b6 h6 b7 h7 b8 h8
 exact hold_callm ((doneSym.cv A c ns m r b6 b5 b7 u hd hn hg s hs who from_ text path hp).mono fun v cs u1 hu1 ⟨hc, A1, c1, hv, hd1⟩ => ⟨((A1, (symF ns m r who from_ text path).1.length, c1), m, r, (symF ns m r who from_ text path).2.2, ()), ((text, ()), (who, from_, ()), (path, ()), ()), hv, hc, rfl, A1, c1, rfl, hd1⟩) rfl rfl
theorem link_.cv (who from_ : Int) (old path : ByteArray) (hp : path.size ≤ 1000000000000) (ho : old.size ≤ 1000000000000) :
  CV Tryz.prog 33 [.agg #[.slice A ns.length c, .int .i64 m, .int .i64 r], .agg #[.int .i64 who, .int .i64 from_], .string old, .string path] [] u fun v cs u' => cs = [] ∧ ∃ A' c', v = .tuple #[.agg #[.slice A' (linkF ns who from_ old path).1.length c', .int .i64 m, .int .i64 r], .int .i64 (linkF ns who from_ old path).2] ∧ DiskAt u' A' (linkF ns who from_ old path).1 := by
 refine cv_of names draws (fn := Tryz.f33) (b := bodyOf Tryz.f33) rfl rfl [] (link_.args ((A, ns.length, c), m, r, ()) (who, from_, ()) (old, ()) (path, ())) (link_.giv _ _ _ _ ) (fun _ => 0) (link_.run _ _ _ _ ) (by kernel_rfl) rfl rfl ?_
 unfold link_.T
 intro b4 h4 b5 h5 b6 h6 b7 h7 b8 h8
 exact hold_callm ((doneLink.cv A c ns m r b5 b6 b7 u hd hn hg s hs who from_ old path hp ho).mono fun v cs u1 hu1 ⟨hc, A1, c1, hv, hd1⟩ => ⟨((A1, (linkF ns who from_ old path).1.length, c1), m, r, (linkF ns who from_ old path).2, ()), ((who, from_, ()), (old, ()), (path, ()), ()), hv, hc, rfl, A1, c1, rfl, hd1⟩) rfl rfl
theorem unl_.cv (who from_ : Int) (path : ByteArray) (hp : path.size ≤ 1000000000000) :
  CV Tryz.prog 20 [.agg #[.slice A ns.length c, .int .i64 m, .int .i64 r], .agg #[.int .i64 who, .int .i64 from_], .string path] [] u fun v cs u' => cs = [] ∧ ∃ A' c', v = .tuple #[.agg #[.slice A' (unlF ns who from_ path).1.length c', .int .i64 m, .int .i64 r], .int .i64 (unlF ns who from_ path).2] ∧ DiskAt u' A' (unlF ns who from_ path).1 := by
 refine cv_of names draws (fn := Tryz.f20) (b := bodyOf Tryz.f20) rfl rfl [] (unl_.args ((A, ns.length, c), m, r, ()) (who, from_, ()) (path, ())) (unl_.giv _ _ _ ) (fun _ => 0) (unl_.run _ _ _ ) (by kernel_rfl) rfl rfl ?_
 unfold unl_.T
 intro b3 h3 b4 h4 b5 h5 b6 h6
 exact hold_callm ((doneUnl.cv A c ns m r b4 b5 u hd hn hg s hs who from_ path hp).mono fun v cs u1 hu1 ⟨hc, A1, c1, hv, hd1⟩ => ⟨((A1, (unlF ns who from_ path).1.length, c1), m, r, (unlF ns who from_ path).2, ()), ((who, from_, ()), (path, ()), ()), hv, hc, rfl, A1, c1, rfl, hd1⟩) rfl rfl
theorem rmd_.cv (who from_ : Int) (path : ByteArray) (hp : path.size ≤ 1000000000000) :
  CV Tryz.prog 22 [.agg #[.slice A ns.length c, .int .i64 m, .int .i64 r], .agg #[.int .i64 who, .int .i64 from_], .string path] [] u fun v cs u' => cs = [] ∧ ∃ A' c', v = .tuple #[.agg #[.slice A' (rmdF ns who from_ path).1.length c', .int .i64 m, .int .i64 r], .int .i64 (rmdF ns who from_ path).2] ∧ DiskAt u' A' (rmdF ns who from_ path).1 := by
 refine cv_of names draws (fn := Tryz.f22) (b := bodyOf Tryz.f22) rfl rfl [] (rmd_.args ((A, ns.length, c), m, r, ()) (who, from_, ()) (path, ())) (rmd_.giv _ _ _ ) (fun _ => 0) (rmd_.run _ _ _ ) (by kernel_rfl) rfl rfl ?_
 unfold rmd_.T
 intro b3 h3 b4 h4 b5 h5 b6 h6
 exact hold_callm ((doneRmd.cv A c ns m r b4 b5 u hd hn hg s hs who from_ path hp).mono fun v cs u1 hu1 ⟨hc, A1, c1, hv, hd1⟩ => ⟨((A1, (rmdF ns who from_ path).1.length, c1), m, r, (rmdF ns who from_ path).2, ()), ((who, from_, ()), (path, ()), ()), hv, hc, rfl, A1, c1, rfl, hd1⟩) rfl rfl
theorem ren_.cv (wa fa wb fb : Int) (old path : ByteArray) (hp : path.size ≤ 1000000000000) (ho : old.size ≤ 1000000000000) :
  CV Tryz.prog 13 [.agg #[.slice A ns.length c, .int .i64 m, .int .i64 r], .agg #[.int .i64 wa, .int .i64 fa], .agg #[.int .i64 wb, .int .i64 fb], .string old, .string path] [] u fun v cs u' => cs = [] ∧ ∃ A' c', v = .tuple #[.agg #[.slice A' (renF ns wa fa wb fb old path).1.length c', .int .i64 m, .int .i64 r], .int .i64 (renF ns wa fa wb fb old path).2] ∧ DiskAt u' A' (renF ns wa fa wb fb old path).1 := by
 refine cv_of names draws (fn := Tryz.f13) (b := bodyOf Tryz.f13) rfl rfl [] (ren_.args ((A, ns.length, c), m, r, ()) (wa, fa, ()) (wb, fb, ()) (old, ()) (path, ())) (ren_.giv _ _ _ _ _ ) (fun _ => 0) (ren_.run _ _ _ _ _ ) (by kernel_rfl) rfl rfl ?_
 unfold ren_.T
 intro b5 h5 b6 h6 b7 h7 b8 h8 b9 h9 b10 h10
 exact hold_callm ((doneRen.cv A c ns m r b6 b8 b7 b9 u hd hn hg s hs wa fa wb fb old path hp ho).mono fun v cs u1 hu1 ⟨hc, A1, c1, hv, hd1⟩ => ⟨((A1, (renF ns wa fa wb fb old path).1.length, c1), m, r, (renF ns wa fa wb fb old path).2, ()), ((wa, fa, ()), (old, ()), (wb, fb, ()), (path, ()), ()), hv, hc, rfl, A1, c1, rfl, hd1⟩) rfl rfl
theorem chm_.cv (who from_ : Int) (path : ByteArray) (mode : Int) (hp : path.size ≤ 1000000000000) :
  CV Tryz.prog 37 [.agg #[.slice A ns.length c, .int .i64 m, .int .i64 r], .agg #[.int .i64 who, .int .i64 from_], .string path, .int .i64 mode] [] u fun v cs u' => cs = [] ∧ ∃ A' c', v = .tuple #[.agg #[.slice A' (chmF ns who from_ path mode).1.length c', .int .i64 m, .int .i64 r], .int .i64 (chmF ns who from_ path mode).2] ∧ DiskAt u' A' (chmF ns who from_ path mode).1 := by
 refine cv_of names draws (fn := Tryz.f37) (b := bodyOf Tryz.f37) rfl rfl [] (chm_.args ((A, ns.length, c), m, r, ()) (who, from_, ()) (path, ()) (mode, ())) (chm_.giv _ _ _ _ ) (fun _ => 0) (chm_.run _ _ _ _ ) (by kernel_rfl) rfl rfl ?_
 unfold chm_.T
 intro b4 h4 b5 h5 b6 h6 b7 h7 b8 h8
 exact hold_callm ((doneChm.cv A c ns m r b5 b6 b7 u hd hn hg s hs who from_ path mode hp).mono fun v cs u1 hu1 ⟨hc, A1, c1, hv, hd1⟩ => ⟨((A1, (chmF ns who from_ path mode).1.length, c1), m, r, (chmF ns who from_ path mode).2, ()), ((who, from_, ()), (path, ()), (mode, ()), ()), hv, hc, rfl, A1, c1, rfl, hd1⟩) rfl rfl
end Go.Proofs.YtpfbimkpcnnfkaaGreatDoor.Sx
