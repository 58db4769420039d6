/- Plain: sizes behind changes: data, names. -/
import Derived.Test.YtpfbimkpcnnfkaaGreatDoorSyU
import Derived.Test.YtpfbimkpcnnfkaaGreatDoorSzB
import Derived.Test.YtpfbimkpcnnfkaaGreatDoorSzE
import Derived.Test.YtpfbimkpcnnfkaaGreatDoorSyT
/- By Sx: what is held beside a slice that is being filled. -/
/- Plain: a disk that is right stays so: linked, renamed. -/
/- Plain: a disk that is right stays so: entered, dropped, linked, turned. -/
/- Plain: right disks, step by step: added, linked, turned. -/
/- Plain: right disks, step by step: lost, added, linked, turned. -/
/- Plain: right disks, step by step. -/
/- Plain: names that a way ends with are legal; lists stay sorted; bytes counted behind changes. -/
/- Plain: a disk that is right in words is right; names counted behind changes. -/
/- Plain: what was lost is not there. -/
/- By Sx: are all nodes as before? And: what is entered, and dropped, leaves all as it was. -/
/- Plain: a name is entered, then dropped, or asked for. -/
/- By Sx: how a law opens; sizes of what changes make. -/
set_option maxRecDepth 100000
set_option linter.unusedVariables false
set_option linter.unusedSimpArgs false
namespace Go.Proofs.YtpfbimkpcnnfkaaGreatDoor.Sx
open Go Go.RowKit Go.Proofs.YtpfbimkpcnnfkaaGreatDoor Go.Proofs.YtpfbimkpcnnfkaaGreatDoor.Ext
theorem hold_open {u0 u : Mem} {Ag : Nat → List Value → List (List Value) → Mem → Prop} {bk : Nat → Nat} {x0 : Bool} {id n : Nat} {xs : List (SV S.ty)} {l : List ByteArray} {X Z : Cells S.ty (RT.ks [(false, [.b])]) → CellsL S.ty [] → Cells S.ty (RT.ks [(false, [.b])]) → CellsL S.ty [] → Tree S.ty} {Y : Tree S.ty} {s : Addr} (hg : EgM u) (hs : EsM s u)
  (hn : l.length = n) (hl : n ≤ 10) (hxs : ∀ bk, denL bk xs = l.map .string)
  (hX : x0 = true → shortB l = true → ∀ b x2 u', u.le u' → Hold Tryz.prog u0 (fun v cs _ => cs = [] ∧ v = .bool true) (X (true, ()) () x2 ()) (upd bk id b) u' Ag) :
  Hold Tryz.prog u0 (fun v cs _ => cs = [] ∧ v = .bool true) (.test (.not (.not (.at x0)))
   (.new id <| .test (.not (.not (.at x0)))
    (.call (.b true) true 11 [.os id 0 n n] [] [(id, xs)] [(false, [.b])] [] fun x1 y1 =>
     .call (.not (.ite (.not (.at x0)) (.b true) (.not (.at x1.1)))) true 12 [] [] [] [(false, [.b])] [] fun x2 y2 =>
     .test (.ite (.ite (.not (.at x0)) (.b true) (.not (.at x1.1))) (.b true) (.not (.at x2.1)))
     (.call (.b true) true 12 [] [] [] [(false, [.b])] [] fun x3 y3 => .ret (.b (.at x3.1)) [] []) (X x1 y1 x2 y2)) Y)
   (.call (.not (.not (.at x0))) true 11 [.s .anil (.n 0) (.n 0)] [] [] [(false, [.b])] [] fun x1 y1 =>
     .call (.not (.ite (.not (.at x0)) (.b true) (.not (.at x1.1)))) true 12 [] [] [] [(false, [.b])] [] fun x2 y2 =>
     .test (.ite (.ite (.not (.at x0)) (.b true) (.not (.at x1.1))) (.b true) (.not (.at x2.1)))
     (.call (.b true) true 12 [] [] [] [(false, [.b])] [] fun x3 y3 => .ret (.b (.at x3.1)) [] []) (Z x1 y1 x2 y2))) bk u Ag := by
 cases x0 with
 | false =>
  refine ⟨fun h => (by cases h), fun _ => ⟨fun h => (by cases h), fun _ => ⟨fun h => (by cases h), fun _ => ⟨fun _ => ?_, fun h => (by cases h)⟩⟩⟩⟩
  exact hold_call ((shown.cv u hg s hs).mono fun v cs u3 hu3 ⟨hc, hv⟩ => ⟨(true, ()), (), hv, hc, rfl, rfl⟩)
 | true =>
  refine ⟨fun _ b hb => ⟨fun _ => ⟨fun _ u1 hu1 hw => ?_, fun h => (by cases h)⟩, fun h => (by cases h)⟩, fun h => (by cases h)⟩
  have hw := hw _ (List.mem_singleton.2 rfl)
  have hup : upd bk id b id = b := by unfold upd; rw [if_pos rfl]
  simp only [hup, hxs] at hw
  have hst : StrsAt u1 (some ⟨b, 0, none⟩) l := fun i x hx => ⟨b, 0, rfl, fun j v hj => by
   have hj0 : j = 0 := by have := (List.getElem?_eq_some_iff.1 hj).1; simp only [List.length_cons, List.length_nil] at this; omega
   subst hj0
   simp only [List.getElem?_cons_zero, Option.some.injEq] at hj
   subst hj
   rw [show 0 + i + 0 = i by omega]
   exact hw i _ (by rw [List.getElem?_map, hx]; rfl)⟩
  have hsh := lshort.cv (some ⟨b, 0, none⟩) n u1 l hst (by omega)
  have hargs : denL (upd bk id b) [.os id 0 n n] = [.slice (some ⟨b, 0, none⟩) l.length n] := by simp only [denL, SV.den, hup, hn]
  show CC _ _ (denL (upd bk id b) [.os id 0 n n]) true [] u0 u1 _
  rw [hargs]
  refine CV.mono hsh fun v cs u2 hu2 ⟨hc, hv⟩ => ⟨(shortB l, ()), (), hv, hc, ?_⟩
  have hu02 := Mem.le_trans hu1 hu2
  refine hold_callg (fun xs _ u3 => u.le u3 ∧ (shortB l = true → xs.1 = true)) (fun _ => (shown.cv u2 (hg.mono hu02) s (hs.mono hu02)).mono fun v cs u3 hu3 ⟨hc, hv⟩ => ⟨(true, ()), (), hv, hc, Mem.le_trans hu02 hu3, fun _ => rfl⟩) (fun hh => ⟨hu02, fun h => ?_⟩) ?_
  ·have hh : (!bif !true then true else !shortB l) = false := hh
   rw [h] at hh; cases hh
  rintro ⟨x2, _⟩ _ u3 ⟨hu3, hx⟩
  refine ⟨fun h => ?_, fun h => ?_⟩
  ·exact hold_call ((shown.cv u3 (hg.mono hu3) s (hs.mono hu3)).mono fun v cs u4 hu4 ⟨hc, hv⟩ => ⟨(true, ()), (), hv, hc, rfl, rfl⟩)
  ·have h : (bif bif !true then true else !shortB l then true else !x2) = false := h
   cases hsb : shortB l with
   | false => rw [hsb] at h; cases h
   | true =>
    exact hX rfl hsb b (x2, ()) u3 hu3
theorem short_two {a b : ByteArray} (h : shortB [a, b] = true) : a.size ≤ 200 ∧ b.size ≤ 200 := by simpa [shortB] using h
def NsL (k : Nat) (ns : List Nd) : Prop := ns.length ≤ 60000 ∧ ∀ n ∈ ns, n.f7.length ≤ k
theorem Ok8.nsl {ns : List Nd} (h : Ok8 ns) : NsL 100000 ns := ⟨by have := h.len; omega, fun n hn => (h.ris n hn).len⟩
theorem NsL.up {k k' : Nat} {ns : List Nd} (h : NsL k ns) (hk : k ≤ k') : NsL k' ns := ⟨h.1, fun n hn => Nat.le_trans (h.2 n hn) hk⟩
theorem NsL.get {k : Nat} {ns : List Nd} (h : NsL k ns) (i : Int) : (getL ns i).f7.length ≤ k := by
 rcases getL_cases ns i with e | e
 ·rw [e]; exact Nat.zero_le _
 ·exact h.2 _ e
theorem NsL.set {k : Nat} {ns : List Nd} (h : NsL k ns) (i : Int) {n : Nd} (hn : n.f7.length ≤ k) : NsL k (setL ns i n) := by
 refine ⟨by rw [setL_len]; exact h.1, ?_⟩
 unfold setL
 split
 ·intro x hx
  rcases List.mem_or_eq_of_mem_set hx with hx | rfl
  ·exact h.2 x hx
  ·exact hn
 ·exact h.2
theorem putF_len (l : List En) (e : En) : (putF l e).length ≤ l.length + 1 := by
 unfold putF
 rw [List.length_append, List.length_append]
 have h1 : (l.filter fun x => decide (ord x e.f0 < 0)).length + (l.filter fun x => decide (0 < ord x e.f0)).length ≤ l.length := by
  induction l with
  | nil => simp
  | cons a l ih =>
   simp only [List.filter_cons]
   split <;> split <;> simp only [List.length_cons] <;> first | omega | (rename_i h1 h2; simp at h1 h2; omega)
 simp only [List.length_cons, List.length_nil]; omega
theorem NsL.put {k : Nat} {ns : List Nd} (h : NsL k ns) (s : Sp) (ino : Int) : NsL (k + 1) (putN ns s ino) := (h.up (Nat.le_succ k)).set _ (Nat.le_trans (putF_len _ _) (Nat.succ_le_succ (h.get _)))
theorem NsL.drop {k : Nat} {ns : List Nd} (h : NsL k ns) (s : Sp) : NsL k (dropN ns s) := h.set _ (Nat.le_trans (List.length_filter_le _ _) (h.get _))
theorem NsL.turn {k : Nat} {ns : List Nd} (h : NsL k ns) (i : Int) {f : Nd → Nd} (hf : ∀ n, (f n).f7 = n.f7) : NsL k (turnF ns i f) := h.set _ (by rw [hf]; exact h.get _)
theorem NsL.lose {k : Nat} {ns : List Nd} (h : NsL k ns) (s : Sp) : NsL k (loseN ns s) := by
 unfold loseN settleF
 have h1 := (h.drop s).turn s.f2 (f := nLess) fun _ => rfl
 split
 ·exact h1.set _ (Nat.zero_le _)
 ·exact h1
theorem NsL.link {k : Nat} {ns : List Nd} (h : NsL k ns) (who from_ : Int) (old path : ByteArray) : NsL (k + 1) (linkF ns who from_ old path).1 := by
 have h0 := h.up (Nat.le_succ k)
 unfold linkF linkAt
 repeat' split
 all_goals first | exact h0 | exact (h.turn _ (f := nMore) fun _ => rfl).put _ _
theorem NsL.unl {k : Nat} {ns : List Nd} (h : NsL k ns) (who from_ : Int) (path : ByteArray) : NsL k (unlF ns who from_ path).1 := by
 unfold unlF
 repeat' split
 all_goals first | exact h | exact h.lose _
theorem NsL.rmd {k : Nat} {ns : List Nd} (h : NsL k ns) (who from_ : Int) (path : ByteArray) : NsL k (rmdF ns who from_ path).1 := by
 unfold rmdF rmdAt
 repeat' split
 all_goals first | exact h | exact h.lose _
theorem NsL.chm {k : Nat} {ns : List Nd} (h : NsL k ns) (who from_ : Int) (path : ByteArray) (mode : Int) : NsL k (chmF ns who from_ path mode).1 := by
 unfold chmF
 repeat' split
 all_goals first | exact h | exact h.turn _ (f := nMode mode) fun _ => rfl
theorem NsL.renAt {k : Nat} {ns : List Nd} (h : NsL k ns) (s t : Sp) : NsL (k + 1) (renAt ns s t) := by
 have h1 := h.drop s
 have h2 : NsL k (if 0 ≤ t.f2 then loseN (dropN ns s) t else dropN ns s) := by
  split
  ·exact h1.lose t
  ·exact h1
 have h3 := h2.put t s.f2
 unfold Sx.renAt
 simp only
 split
 ·exact h3.turn _ (f := nUp t.f0) fun _ => rfl
 ·exact h3
theorem NsL.ren {k : Nat} {ns : List Nd} (h : NsL k ns) (wa fa wb fb : Int) (old path : ByteArray) : NsL (k + 1) (renF ns wa fa wb fb old path).1 := by
 have h0 := h.up (Nat.le_succ k)
 unfold renF renSp
 repeat' split
 all_goals first | exact h0 | exact h.renAt _ _
theorem its_same {k : Nat} (hk : k ≤ 1000000) (A : Option Addr) (c : Nat) (ns : List Nd) (m r : Int) (u : Mem) (hd : DiskAt u A ns) (h : NsL k ns) :
  CV Tryz.prog 15 [.agg #[.slice A ns.length c, .int .i64 m, .int .i64 r]] [] u fun v cs u' => cs = [] ∧ ∃ A' c', v = .agg #[.slice A' ns.length c', .int .i64 m, .int .i64 r] ∧ DiskAt u' A' ns :=
 lits.cv A c ns m r u hd (by have := h.1; omega) fun n hn => Nat.le_trans (h.2 n hn) hk
end Go.Proofs.YtpfbimkpcnnfkaaGreatDoor.Sx
set_option linter.unusedVariables false
set_option linter.unusedSimpArgs false
namespace Go.Proofs.YtpfbimkpcnnfkaaGreatDoor.Sx
open Go Go.RowKit Go.Proofs.YtpfbimkpcnnfkaaGreatDoor Go.Proofs.YtpfbimkpcnnfkaaGreatDoor.Ext
theorem rising_put {l : List En} (h : Rising l) (e : En) : Rising (putF l e) := by
 have hp : l.Pairwise fun x y => Op.bytesLess x.f0.data.toList y.f0.data.toList = true := by
  rw [List.pairwise_iff_getElem]
  intro i j hi hj hij
  exact h.lt (j - i - 1) i _ _ (List.getElem?_eq_getElem hi) (by rw [show i + (j - i - 1) + 1 = j by omega]; exact List.getElem?_eq_getElem hj)
 have hlt : ∀ x ∈ l.filter (fun x => decide (ord x e.f0 < 0)), Op.bytesLess x.f0.data.toList e.f0.data.toList = true := fun x hx => (cmp_neg _ _).1 (of_decide_eq_true (List.mem_filter.1 hx).2)
 have hgt : ∀ x ∈ l.filter (fun x => decide (0 < ord x e.f0)), Op.bytesLess e.f0.data.toList x.f0.data.toList = true := fun x hx => by
  have h1 := (cmp_pos _ _).1 (of_decide_eq_true (List.mem_filter.1 hx).2)
  simp only [Bool.not_eq_true', Bool.or_eq_false_iff, beq_eq_false_iff_ne] at h1
  exact less_total _ _ h1.1 h1.2
 have hq : (putF l e).Pairwise fun x y => Op.bytesLess x.f0.data.toList y.f0.data.toList = true := by
  unfold putF
  rw [List.pairwise_append, List.pairwise_append]
  refine ⟨⟨hp.filter _, List.pairwise_singleton _ _, fun x hx y hy => ?_⟩, hp.filter _, fun x hx y hy => ?_⟩
  ·rw [List.mem_singleton.1 hy]; exact hlt x hx
  ·rcases List.mem_append.1 hx with hx | hx
   ·exact less_trans _ _ _ (hlt x hx) (hgt y hy)
   ·rw [List.mem_singleton.1 hx]; exact hgt y hy
 intro j x y hx hy
 obtain ⟨g1, rfl⟩ := List.getElem?_eq_some_iff.1 hx
 obtain ⟨g2, rfl⟩ := List.getElem?_eq_some_iff.1 hy
 exact List.pairwise_iff_getElem.1 hq j (j + 1) g1 g2 (by omega)
structure Nd9 (n : Nd) : Prop where
 ok : NdOk n
 ris : Rising n.f7
 len : n.f7.length ≤ 60
theorem nd9_of {ns : List Nd} {m r : Int} (h : okF ns m r = true) : ∀ n ∈ ns, Nd9 n := fun n hn => by
 have h8 := ok8_of h
 refine ⟨h8.ok.all_ n hn, (h8.ris n hn).rise, ?_⟩
 unfold okF at h
 rw [Bool.and_eq_true, Bool.and_eq_true] at h
 exact (okF.sizes h.1 (of_decide_eq_true h.2.1) n hn).2
theorem outs_ne : ∀ (l : List ByteArray) (k : Nat), ∀ p ∈ outs k l, ¬ p.2.size = 0
 | [], _, p, hp => by cases hp
 | s :: l, k, p, hp => by
  unfold outs at hp
  split at hp
  ·exact outs_ne l _ p hp
  ·rename_i h
   rcases List.mem_cons.1 hp with rfl | hp
   ·exact h
   ·exact outs_ne l _ p hp
theorem parts_ne (path : ByteArray) : ∀ p ∈ partsB path, ¬ p.toList = [] := fun p hp e => by
 unfold partsB partsL at hp
 obtain ⟨q, hq, rfl⟩ := List.mem_map.1 hp
 refine outs_ne _ _ q hq ?_
 rw [toList_data] at e
 show q.2.data.size = 0
 rw [← Array.length_toList, e]; rfl
theorem go_name {ns : List Nd} {who : Int} {follow slash : Bool} : ∀ (f : Nat) (at_ hops : Int) (ps : List ByteArray) (s : Sp), (∀ p ∈ ps, ¬ p.toList = []) → Sx.walkGo ns who follow slash f at_ hops ps = (s, 0) → s.f2 < 0 → ¬ s.f1.toList = []
 | 0, _, _, _, s, hp, hw, h2 => by unfold Sx.walkGo at hw; cases hw; exact absurd h2 (by decide)
 | f + 1, _, _, [], s, hp, hw, h2 => by unfold Sx.walkGo at hw; cases hw; exact absurd h2 (by decide)
 | f + 1, at_, hops, part :: rest, s, hp, hw, h2 => by
  unfold Sx.walkGo at hw
  have h1 := hp part (by simp)
  have hr : ∀ p ∈ rest, ¬ p.toList = [] := fun p h => hp p (by simp [h])
  split at hw
  ·rename_i h; exact absurd (Prod.mk.inj hw).2 h
  split at hw
  ·exact absurd (Prod.mk.inj hw).2 (by decide)
  split at hw
  ·split at hw
   ·have := (Prod.mk.inj hw).1; subst this; exact h1
   ·exact absurd (Prod.mk.inj hw).2 (by decide)
  split at hw
  ·split at hw
   ·exact absurd (Prod.mk.inj hw).2 (by decide)
   split at hw
   ·rename_i h; exact absurd (Prod.mk.inj hw).2 h
   split at hw
   ·have := (Prod.mk.inj hw).1; subst this; exact absurd h2 (show ¬ (0 : Int) < 0 by decide)
   ·refine go_name f _ _ _ s (fun p h => ?_) hw h2
    rcases List.mem_append.1 h with h | h
    ·exact parts_ne _ p h
    ·exact hr p h
  ·split at hw
   ·split at hw
    ·exact absurd (Prod.mk.inj hw).2 (by decide)
    ·have := (Prod.mk.inj hw).1; subst this; exact h1
   ·exact go_name f _ _ _ s hr hw h2
theorem walk_name {ns : List Nd} {who from_ : Int} {path : ByteArray} {follow : Bool} {s : Sp} (hw : walkF ns who from_ path follow = (s, 0)) (h2 : s.f2 < 0) : ¬ s.f1.toList = [] := by
 unfold walkF at hw
 split at hw
 ·rename_i h1; exact absurd (Prod.mk.inj hw).2 h1
 generalize (if pre47 path = true then 0 else from_) = at_ at hw
 unfold goF at hw
 split at hw
 ·split at hw
  ·rename_i h4; exact absurd (Prod.mk.inj hw).2 h4
  ·rename_i h4
   have h4 : hereB ns at_ = 0 := by simpa using h4
   have hw := (Prod.mk.inj hw).1
   subst hw
   have := (getL_at (getB_f0 (by rw [here_dir h4]; decide) : getB ns at_ = true)).1
   have h2 : at_ < 0 := h2
   omega
 ·exact go_name _ _ _ _ s (parts_ne path) hw h2
theorem enter_ok {ns : List Nd} {m r who from_ : Int} {path : ByteArray} {n : Nd} {slash : Int} (h : (enterF ns m r who from_ path n slash).2.2 = 0) :
  ∃ s, walkF ns who from_ path false = (s, 0) ∧ s.f2 < 0 ∧ writesB ns who s.f0 = true ∧ (s.f3 = true → slash = 0) ∧ (addF ns m r (newNd who s.f0 n)).2.2 = 0 ∧ (enterF ns m r who from_ path n slash).1 = putN (addF ns m r (newNd who s.f0 n)).1 s (addF ns m r (newNd who s.f0 n)).2.1 ∧ (enterF ns m r who from_ path n slash).2.1 = (addF ns m r (newNd who s.f0 n)).2.1 := by
 unfold enterF at *
 generalize walkF ns who from_ path false = w at *
 obtain ⟨s, e⟩ := w
 simp only at *
 split at h
 ·rename_i h1; exact absurd h h1
 rename_i h1
 rw [if_neg h1]
 have he : e = 0 := by simpa using h1
 subst he
 unfold enterAt at *
 split at h
 ·rename_i h2; exact absurd h h2.2.2
 rename_i h2
 rw [if_neg h2]
 split at h
 ·rename_i h3; exact absurd h h3
 rename_i h3
 rw [if_neg h3]
 split at h
 ·rename_i h4; exact absurd h h4
 rename_i h4
 rw [if_neg h4]
 have h3 : freeE ns who s = 0 := by simpa using h3
 unfold freeE writesE at h3
 split at h3
 ·cases h3
 rename_i h5
 split at h3
 ·cases h3
 split at h3
 ·rename_i h6
  exact ⟨s, rfl, by omega, h6, fun h7 => by
   rcases Decidable.em (slash = 0) with h8 | h8
   ·exact h8
   ·exact absurd ⟨h7, by omega, h8⟩ h2, by simpa using h4, rfl, rfl⟩
 ·cases h3
end Go.Proofs.YtpfbimkpcnnfkaaGreatDoor.Sx
set_option maxRecDepth 100000
set_option linter.unusedVariables false
set_option linter.unusedSimpArgs false
namespace Go.Proofs.YtpfbimkpcnnfkaaGreatDoor.Sx
open Go Go.RowKit Go.Proofs.YtpfbimkpcnnfkaaGreatDoor Go.Proofs.YtpfbimkpcnnfkaaGreatDoor.Ext
structure Entered (ns x : List Nd) (who from_ : Int) (path : ByteArray) (t : Sp) (N : Nd) : Prop where
 ok : Ok8 x
 i0 : 0 ≤ t.f2
 new : getB x t.f2 = true ∧ getL x t.f2 = N
 walk : walkF x who from_ path false = (t, 0)
 writes : writesB x who t.f0 = true
 name : ¬ t.f1.toList = [] ∧ ¬ t.f1.toList = [46] ∧ ¬ t.f1.toList = [46, 46]
 lose : loseN x t = ns ∨ loseN x t = ns ++ [zNd]
theorem Entered.there {ns x : List Nd} {who from_ : Int} {path : ByteArray} {t : Sp} {N : Nd} (h : Entered ns x who from_ path t N) : thereF x who from_ path = (t, 0) := by
 unfold thereF
 have := h.i0
 simp only [h.walk, true_and]
 rw [if_neg (by omega)]
theorem Entered.unl {ns x : List Nd} {who from_ : Int} {path : ByteArray} {t : Sp} {N : Nd} (h : Entered ns x who from_ path t N) (hk : ¬ N.f0 = 2) : unlF x who from_ path = (loseN x t, 0) := by
 unfold unlF
 simp only [h.there, not_true, if_false]
 rw [if_neg (by rw [h.new.2]; exact hk), if_neg (by rw [h.writes]; decide)]
theorem Entered.rmd {ns x : List Nd} {who from_ : Int} {path : ByteArray} {t : Sp} {N : Nd} (h : Entered ns x who from_ path t N) (hk : N.f0 = 2) (h7 : N.f7 = []) : rmdF x who from_ path = (loseN x t, 0) := by
 unfold rmdF
 simp only [h.there, not_true, if_false]
 unfold rmdAt
 rw [h.new.2, if_neg (fun h' => h' hk), if_neg (fun h' => h'.elim h.name.1 h.name.2.1), if_neg h.name.2.2, if_neg (by rw [h.writes]; decide), if_neg (fun h' => h' h7)]
theorem and63 (x : Int) : 0 ≤ binI .and .i64 x 63 ∧ binI .and .i64 x 63 ≤ 63 := by
 have h : (BitVec.ofInt IntKind.i64.bits x &&& BitVec.ofInt IntKind.i64.bits 63).toNat ≤ 63 := by
  rw [BitVec.toNat_and]
  exact Nat.and_le_right
 show 0 ≤ IntKind.i64.wrap ((BitVec.ofInt IntKind.i64.bits x &&& BitVec.ofInt IntKind.i64.bits 63).toNat : Int) ∧ IntKind.i64.wrap ((BitVec.ofInt IntKind.i64.bits x &&& BitVec.ofInt IntKind.i64.bits 63).toNat : Int) ≤ 63
 generalize (BitVec.ofInt IntKind.i64.bits x &&& BitVec.ofInt IntKind.i64.bits 63).toNat = k at h
 rw [IntKind.wrap_i64] <;> omega
end Go.Proofs.YtpfbimkpcnnfkaaGreatDoor.Sx
set_option linter.unusedVariables false
set_option linter.unusedSimpArgs false
namespace Go.Proofs.YtpfbimkpcnnfkaaGreatDoor.Sx
open Go Go.RowKit Go.Proofs.YtpfbimkpcnnfkaaGreatDoor Go.Proofs.YtpfbimkpcnnfkaaGreatDoor.Ext
theorem sum_le {k : Nat} : ∀ {l : List Nat}, (∀ x ∈ l, x ≤ k) → l.sum ≤ l.length * k
 | [], _ => by simp
 | a :: l, h => by
  have h1 := h a (by simp)
  have h2 := sum_le (l := l) fun x hx => h x (by simp [hx])
  rw [List.sum_cons, List.length_cons, Nat.succ_mul]; omega
theorem cnt_le {ns : List Nd} (h : ∀ n ∈ ns, n.f7.length ≤ 60) (hl : ns.length ≤ 100) (i : Int) : cnt ns i ≤ 6000 := by
 unfold cnt
 have h1 : (ns.map (countF · i)).sum ≤ (ns.map (countF · i)).length * 60 := sum_le fun x hx => by
  obtain ⟨n, hn, rfl⟩ := List.mem_map.1 hx
  exact Nat.le_trans (List.length_filter_le _ _) (h n hn)
 rw [List.length_map] at h1
 have : ns.length * 60 ≤ 100 * 60 := Nat.mul_le_mul_right 60 hl
 omega
theorem two_mem {α : Type} {l : List α} {a b : α} (ha : a ∈ l) (hb : b ∈ l) (h : a ≠ b) : 2 ≤ l.length := by
 match l, ha, hb with
 | [x], ha, hb => rw [List.mem_singleton] at ha hb; exact absurd (ha.trans hb.symm) h
 | x :: y :: l, _, _ => simp
theorem cnt_get {ns : List Nd} {p : Int} (h : getB ns p = true) (i : Int) : (ns.map (countF · i))[p.toNat]? = some (countF (getL ns p) i) := by
 rw [List.getElem?_map, (getL_at h).2.2.1]; rfl
theorem cnt_two {ns : List Nd} {p q i : Int} {e f : En} (hp : getB ns p = true) (hq : getB ns q = true) (he : e ∈ (getL ns p).f7) (hf : f ∈ (getL ns q).f7) (e1 : e.f1 = i) (f1 : f.f1 = i) (h : ¬ (p = q ∧ e = f)) : 2 ≤ cnt ns i := by
 by_cases hpq : p = q
 ·subst hpq
  have h2 : 2 ≤ countF (getL ns p) i := two_mem (List.mem_filter.2 ⟨he, by simpa using e1⟩) (List.mem_filter.2 ⟨hf, by simpa using f1⟩) fun e => h ⟨rfl, e⟩
  have := sum_get (cnt_get hp i)
  unfold cnt; omega
 ·have h1 : 0 < countF (getL ns p) i := by rw [← e1]; exact count_of_mem he
  have h2 : 0 < countF (getL ns q) i := by rw [← f1]; exact count_of_mem hf
  have g1 := getL_at hp
  have g2 := getL_at hq
  have := sum_two (cnt_get hp i) (cnt_get hq i) (by omega)
  unfold cnt; omega
structure Lost1 (ns y : List Nd) (s : Sp) : Prop where
 keep : ∀ j, getB ns j = true → ¬ j = s.f2 → getB y j = true ∧ getL y j = if j = s.f0 then nDrop s (getL ns j) else getL ns j
 two : 2 ≤ cnt ns s.f2 → (getL y s.f2).f0 = (getL ns s.f2).f0 ∧ (getL y s.f2).f6 = (getL ns s.f2).f6
theorem Lost1.walkGo {ns y : List Nd} {s : Sp} (h : Lost1 ns y s) (hR : Rt ns) (hs : SpotOk ns s) (h2 : getB ns s.f2 = true) (hk2 : ¬ (getL ns s.f2).f0 = 2) (who : Int) (follow slash : Bool) :
  ∀ (f : Nat) (at_ hops : Int) (ps : List ByteArray), Sx.walkGo ns who follow slash f at_ hops ps = (s, 0) → (Sx.walkGo y who follow slash f at_ hops ps).2 = 2 ∨ ((Sx.walkGo y who follow slash f at_ hops ps).2 = 0 ∧ (Sx.walkGo y who follow slash f at_ hops ps).1.f2 = -1)
 | 0, _, _, _, hw => by unfold Sx.walkGo at hw; cases hw; exact absurd hR.root.1 hk2
 | f + 1, _, _, [], hw => by unfold Sx.walkGo at hw; cases hw; exact absurd hR.root.1 hk2
 | f + 1, at_, hops, part :: rest, hw => by
  have rec_ := Lost1.walkGo h hR hs h2 hk2 who follow slash f
  have hsd := hs.dir
  have hnd : ¬ s.f1.toList = [46] ∧ ¬ s.f1.toList = [46, 46] ∧ s.f2 = inoL (getL ns s.f0).f7 s.f1 := by
   rcases hs.alt with h' | h'
   ·exact absurd (by rw [h'.2]; exact hsd.2) hk2
   ·unfold namedB at h'
    split at h'
    ·exact absurd (by rw [h']; exact hsd.2) hk2
    rename_i n1
    split at h'
    ·exact absurd (by rw [h']; exact (hR.up hsd.1 hsd.2).2) hk2
    rename_i n2
    exact ⟨n1, n2, h'⟩
  obtain ⟨n1, n2, hino⟩ := hnd
  have h20 := (getL_at h2).1
  unfold Sx.walkGo at hw ⊢
  split at hw
  ·rename_i h1; exact absurd (Prod.mk.inj hw).2 h1
  rename_i h1
  have h1 : hereB ns at_ = 0 := by simpa using h1
  have hb : getB ns at_ = true := getB_f0 (by rw [here_dir h1]; decide)
  have hk := here_dir h1
  have ha2 : ¬ at_ = s.f2 := fun e => hk2 (e ▸ hk)
  obtain ⟨hyb, hyl⟩ := h.keep at_ hb ha2
  have hfl : (getL y at_).f0 = (getL ns at_).f0 ∧ (getL y at_).f1 = (getL ns at_).f1 ∧ (getL y at_).f2 = (getL ns at_).f2 ∧ (getL y at_).f5 = (getL ns at_).f5 := by
   rw [hyl]; split <;> exact ⟨rfl, rfl, rfl, rfl⟩
  obtain ⟨e0, e1, e2, e5⟩ := hfl
  have hx := here_of hyb (e0.trans hk)
  rw [if_neg (by rw [hx]; simp), e1, e2]
  split at hw
  ·exact absurd (Prod.mk.inj hw).2 (by decide)
  rename_i hm
  rw [if_neg hm]
  have hnm := hR.named h1 part
  split at hw
  ·split at hw
   ·have hw := (Prod.mk.inj hw).1
    subst hw
    exact absurd h20 (show ¬ (0 : Int) ≤ -1 by decide)
   ·exact absurd (Prod.mk.inj hw).2 (by decide)
  rename_i h3
  have hvb := hnm.resolve_left (by omega)
  by_cases hd : at_ = s.f0 ∧ part.toList = s.f1.toList
  ·have hv : namedB at_ (getL y at_) part = -1 := by
    unfold namedB
    rw [hd.2, if_neg n1, if_neg n2, hyl, if_pos hd.1]
    exact inoL_none (findL_drop_eq hd.2)
   rw [hv, if_pos (by decide)]
   by_cases hr : rest = []
   ·rw [if_pos hr]; exact .inr ⟨rfl, rfl⟩
   ·rw [if_neg hr]; exact .inl rfl
  have hv : namedB at_ (getL y at_) part = namedB at_ (getL ns at_) part := by
   unfold namedB
   rw [e5]
   split
   ·rfl
   split
   ·rfl
   rw [hyl]
   split
   ·rename_i hj
    show inoL (dropF (getL ns at_).f7 s.f1) part = _
    unfold inoL
    rw [findL_drop_ne (fun e => hd ⟨hj, e⟩)]
   ·rfl
  rw [hv, if_neg h3]
  -- the node that this part names
  have hn : (getL y (namedB at_ (getL ns at_) part)).f0 = (getL ns (namedB at_ (getL ns at_) part)).f0 ∧ (getL y (namedB at_ (getL ns at_) part)).f6 = (getL ns (namedB at_ (getL ns at_) part)).f6 := by
   by_cases hv2 : namedB at_ (getL ns at_) part = s.f2
   ·rw [hv2]
    refine h.two ?_
    unfold namedB at hv2
    split at hv2
    ·exact absurd hv2 ha2
    split at hv2
    ·exact absurd (by rw [← hv2]; exact (hR.up hb hk).2) hk2
    obtain ⟨x, x1, x2, x3⟩ := inoL_mem (l := (getL ns at_).f7) (name := part) (by omega)
    obtain ⟨z, z1, z2, z3⟩ := inoL_mem (l := (getL ns s.f0).f7) (name := s.f1) (by omega)
    refine cnt_two hb hsd.1 x1 z1 (x2.trans hv2) (z2.trans hino.symm) fun hh => hd ⟨hh.1, ?_⟩
    rw [← (ord_zero x part).1 x3, ← (ord_zero z s.f1).1 z3, hh.2]
   ·rw [(h.keep _ hvb hv2).2]
    split <;> exact ⟨rfl, rfl⟩
  rw [hn.1, hn.2]
  split at hw
  ·rename_i h4
   rw [if_pos h4]
   split at hw
   ·exact absurd (Prod.mk.inj hw).2 (by decide)
   rename_i h5
   rw [if_neg h5]
   split at hw
   ·rename_i h6; exact absurd (Prod.mk.inj hw).2 h6
   rename_i h6
   rw [if_neg h6]
   split at hw
   ·have hw := (Prod.mk.inj hw).1
    subst hw
    exact absurd hR.root.1 hk2
   rename_i h7
   rw [if_neg h7]
   exact rec_ _ _ _ hw
  ·rename_i h4
   rw [if_neg h4]
   split at hw
   ·split at hw
    ·exact absurd (Prod.mk.inj hw).2 (by decide)
    ·have hw := (Prod.mk.inj hw).1
     subst hw
     exact absurd ⟨rfl, rfl⟩ hd
   ·rename_i h5
    rw [if_neg h5]
    exact rec_ _ _ _ hw
theorem Lost1.node {ns y : List Nd} {s : Sp} (h : Lost1 ns y s) (hR : Rt ns) (h2 : getB ns s.f2 = true) (hk2 : ¬ (getL ns s.f2).f0 = 2) {who from_ : Int} {path : ByteArray} {follow : Bool} (hw : walkF ns who from_ path follow = (s, 0)) : (nodeF y who from_ path follow).2 = 2 := by
 have hs := hR.spot hw
 have key : (walkF y who from_ path follow).2 = 2 ∨ ((walkF y who from_ path follow).2 = 0 ∧ (walkF y who from_ path follow).1.f2 = -1) := by
  unfold walkF at hw ⊢
  split at hw
  ·rename_i h1; exact absurd (Prod.mk.inj hw).2 h1
  rename_i h1
  rw [if_neg h1]
  generalize (if pre47 path = true then 0 else from_) = at_ at hw ⊢
  unfold goF at hw ⊢
  split at hw
  ·split at hw
   ·rename_i h4; exact absurd (Prod.mk.inj hw).2 h4
   ·rename_i h4
    have h4 : hereB ns at_ = 0 := by simpa using h4
    have hw := (Prod.mk.inj hw).1
    subst hw
    exact absurd (here_dir h4) hk2
  ·rename_i h4
   rw [if_neg h4]
   exact h.walkGo hR hs h2 hk2 who follow _ _ _ _ _ hw
 unfold nodeF
 rcases key with h' | ⟨h1, h3⟩
 ·rw [if_pos (by rw [h']; decide), h']
 ·rw [if_neg (by rw [h1]; simp), if_pos h3]
theorem Entered.node {ns x : List Nd} {who from_ : Int} {path : ByteArray} {t : Sp} {N : Nd} (h : Entered ns x who from_ path t N) : nodeF x who from_ path false = (t.f2, 0) := by
 have := h.i0
 unfold nodeF
 rw [h.walk]
 simp only [not_true, if_false]
 rw [if_neg (by omega)]
theorem Entered.again {ns x : List Nd} {who from_ : Int} {path : ByteArray} {t : Sp} {N : Nd} (h : Entered ns x who from_ path t N) (m r : Int) (n : Nd) (slash : Int) : (enterF x m r who from_ path n slash).2.2 = 3 := by
 have := h.i0
 unfold enterF
 rw [h.walk]
 simp only [not_true, if_false]
 unfold enterAt
 rw [if_neg (fun h' => by have := h'.2.1; omega)]
 have e : freeE x who t = 3 := by unfold freeE; rw [if_pos h.i0]
 rw [e, if_pos (by decide)]
end Go.Proofs.YtpfbimkpcnnfkaaGreatDoor.Sx
set_option linter.unusedVariables false
set_option linter.unusedSimpArgs false
namespace Go.Proofs.YtpfbimkpcnnfkaaGreatDoor.Sx
open Go Go.RowKit Go.Proofs.YtpfbimkpcnnfkaaGreatDoor Go.Proofs.YtpfbimkpcnnfkaaGreatDoor.Ext
theorem nodup_le : ∀ (n : Nat) (l : List Nat), l.Nodup → (∀ x ∈ l, x < n) → l.length ≤ n
 | 0, l, _, h => by
  cases l with
  | nil => exact Nat.le_refl _
  | cons a l => exact absurd (h a (by simp)) (Nat.not_lt_zero _)
 | n + 1, l, hd, h => by
  by_cases hn : n ∈ l
  ·have h1 := nodup_le n (l.erase n) (hd.erase n) fun x hx => by
    have := (hd.mem_erase_iff).1 hx
    have := h x this.2
    omega
   rw [List.length_erase_of_mem hn] at h1
   omega
  ·have := nodup_le n l hd fun x hx => by
    have := h x hx
    rcases Decidable.em (x = n) with e | e
    ·exact absurd (e ▸ hx) hn
    ·omega
   omega
theorem root_mono {ns : List Nd} : ∀ (f : Nat) (i : Int), rootGo ns f i = true → rootGo ns (f + 1) i = true
 | 0, _, h => by cases h
 | f + 1, i, h => by
  unfold rootGo at h ⊢
  split at h
  ·rename_i h0; rw [if_pos h0]
  ·rename_i h0
   rw [if_neg h0]
   split at h
   ·rename_i hc; rw [if_pos hc]; exact root_mono f _ h
   ·cases h
theorem root_le {ns : List Nd} {f g : Nat} {i : Int} (hfg : f ≤ g) (h : rootGo ns f i = true) : rootGo ns g i = true := by
 induction hfg with
 | refl => exact h
 | step _ ih => exact root_mono _ _ ih
theorem root_least {ns : List Nd} {i : Int} : ∀ (f : Nat), rootGo ns f i = true → ∃ g, g ≤ f ∧ rootGo ns g i = true ∧ ∀ g', g' < g → rootGo ns g' i = false
 | 0, h => by cases h
 | f + 1, h => by
  cases hf : rootGo ns f i with
  | true =>
   obtain ⟨g, h1, h2, h3⟩ := root_least f hf
   exact ⟨g, by omega, h2, h3⟩
  | false =>
   refine ⟨f + 1, Nat.le_refl _, h, fun g' hg => ?_⟩
   cases hg' : rootGo ns g' i with
   | false => rfl
   | true => rw [root_le (show g' ≤ f by omega) hg'] at hf; cases hf
theorem root_chain {ns : List Nd} (h0 : getB ns 0 = true) : ∀ (f : Nat) (i : Int), rootGo ns f i = true → (∀ g, g < f → rootGo ns g i = false) → ∃ l : List Nat, l.length = f ∧ l.Nodup ∧ ∀ j ∈ l, j < ns.length ∧ ∃ g, g ≤ f ∧ rootGo ns g (j : Int) = true ∧ ∀ g', g' < g → rootGo ns g' (j : Int) = false
 | 0, _, h, _ => by cases h
 | f + 1, i, h, hm => by
  have hkeep := h
  unfold rootGo at h
  split at h
  ·rename_i hi
   subst hi
   have hf : f = 0 := by
    rcases Nat.eq_zero_or_pos f with e | e
    ·exact e
    ·have := hm 1 (by omega); unfold rootGo at this; rw [if_pos rfl] at this; cases this
   subst hf
   have := getL_at h0
   refine ⟨[0], rfl, by simp, fun j hj => ?_⟩
   rw [List.mem_singleton.1 hj]
   exact ⟨by omega, 1, by omega, by unfold rootGo; exact if_pos rfl, fun g' hg => by rw [show g' = 0 by omega]; rfl⟩
  ·rename_i hi
   split at h
   ·rename_i hc
    have hup : ∀ g, g < f → rootGo ns g (getL ns i).f5 = false := fun g hg => by
     cases hh : rootGo ns g (getL ns i).f5 with
     | false => rfl
     | true =>
      have := hm (g + 1) (by omega)
      unfold rootGo at this
      rw [if_neg hi, if_pos hc, hh] at this; cases this
    obtain ⟨l, l1, l2, l3⟩ := root_chain h0 f _ h hup
    have gi := getL_at hc.1
    have ei : ((i.toNat : Nat) : Int) = i := by omega
    refine ⟨i.toNat :: l, by simp [l1], List.nodup_cons.2 ⟨fun hmem => ?_, l2⟩, fun j hj => ?_⟩
    ·obtain ⟨_, g, g1, g2, g3⟩ := l3 _ hmem
     rw [ei] at g2
     rw [hm g (by omega)] at g2; cases g2
    ·rcases List.mem_cons.1 hj with rfl | hj
     ·exact ⟨by omega, f + 1, Nat.le_refl _, by rw [ei]; exact hkeep, fun g' hg => by rw [ei]; exact hm g' hg⟩
     ·obtain ⟨q1, g, g1, g2, g3⟩ := l3 j hj
      exact ⟨q1, g, by omega, g2, g3⟩
   ·cases h
theorem Reach.go {ns : List Nd} {i : Int} (h : Reach ns i) : ∃ f, rootGo ns f i = true := by
 induction h with
 | root => exact ⟨1, by unfold rootGo; rw [if_pos rfl]⟩
 | up h1 h2 hr ih =>
  rename_i i
  obtain ⟨f, hf⟩ := ih
  refine ⟨f + 1, ?_⟩
  unfold rootGo
  by_cases hi : i = 0
  ·rw [if_pos hi]
  ·rw [if_neg hi, if_pos ⟨h1, h2⟩]; exact hf
theorem Reach.rooted {ns : List Nd} (h0 : getB ns 0 = true) {i : Int} (h : Reach ns i) : rootedF ns i = true := by
 obtain ⟨f, hf⟩ := h.go
 obtain ⟨g, g1, g2, g3⟩ := root_least f hf
 obtain ⟨l, l1, l2, l3⟩ := root_chain h0 g i g2 g3
 have := nodup_le ns.length l l2 fun x hx => (l3 x hx).1
 exact root_le (by omega) g2
theorem right_of {ns : List Nd} (h : Rt ns) {m r : Int} (hm : (ns.length : Int) ≤ m) (hr : bytesF ns ≤ r) : rightF ns m r = true := by
 have h0 := h.get0
 have g0 := getL_at h0
 unfold rightF
 rw [Bool.and_eq_true, decide_eq_true_eq]
 refine ⟨⟨fun e => by rw [e] at g0; exact absurd g0.2.1 (by simp), hm, hr, ?_⟩, List.all_eq_true.2 fun k hk => ?_⟩
 ·rw [getD_of (by simpa using g0.2.2.1)]; exact h.root.1
 have hk := List.mem_range.1 hk
 have hx := List.getElem?_eq_getElem hk
 unfold right1F
 rw [getD_of hx]
 simp only
 by_cases hz : ns[k].f0 = 0
 ·rw [if_pos hz]; exact decide_eq_true (h.clean _ (List.getElem_mem hk) hz)
 rw [if_neg hz]
 obtain ⟨hb, hl⟩ := getL_of hx hz
 have hN := h.node _ hb
 rw [hl] at hN
 have hE := h.ents (k : Int)
 rw [hl] at hE
 have c1 := hN.kind
 have c2 := hN.mode
 have c3 := hN.open_
 rw [if_neg (by omega), if_neg (fun h' => by
  rcases h' with h' | h' | h'
  ·exact h'.2 (hN.names h'.1)
  ·exact h'.2 (hN.data h'.1)
  ·rw [hN.sorted] at h'; cases h'), if_neg (fun h' => by
  have hall : (List.range ns[k].f7.length).all (entOk ns ns[k].f7) = true := List.all_eq_true.2 fun j hj => by
   have hj := List.mem_range.1 hj
   unfold entOk
   rw [getD_of (List.getElem?_eq_getElem hj), Bool.and_eq_true]
   have := hE _ (List.getElem_mem hj)
   exact ⟨this.1, by simpa using this.2⟩
  rw [hall] at h'; cases h')]
 by_cases hk0 : k = 0
 ·subst hk0
  rw [if_pos rfl]
  have hl : getL ns 0 = ns[0] := hl
  have := h.root
  rw [hl] at this
  exact decide_eq_true this
 rw [if_neg hk0, namesF_one]
 have hi0 : ¬ (k : Int) = 0 := by omega
 have hL := h.links _ hb hi0
 rw [hl] at hL
 rw [if_neg (fun h' => by
  rcases h' with h' | h'
  ·exact h' hL.1
  ·have := hL.2 (by omega); omega)]
 by_cases hd : ns[k].f0 = 2
 ·rw [if_neg (fun h' => h' hd)]
  by_cases hc : cnt ns (k : Int) = 0
  ·have := h.lone _ hb hi0 (by rw [hl]; exact hd) hc
   rw [hl] at this
   rw [if_pos (by omega)]; exact decide_eq_true this
  ·have hp := h.par _ hb hi0 (by rw [hl]; exact hd) hc
   rw [hl] at hp
   rw [if_neg (by omega), Bool.and_eq_true, decide_eq_true_eq]
   exact ⟨⟨by omega, ((namesF_two h.clean hp.1).2 hp.2.1).symm⟩, hp.2.2.rooted h0⟩
 ·rw [if_pos hd]
theorem sum_set {l : List Nat} : ∀ {k : Nat} {a b : Nat}, l[k]? = some a → (l.set k b).sum + a = l.sum + b := by
 induction l with
 | nil => intro k a b h; simp at h
 | cons x l ih =>
  intro k a b h
  cases k with
  | zero => simp only [List.getElem?_cons_zero, Option.some.injEq] at h; simp only [List.set_cons_zero, List.sum_cons]; omega
  | succ k => rw [List.getElem?_cons_succ] at h; have := ih (b := b) h; simp only [List.set_cons_succ, List.sum_cons]; omega
theorem cnt_set {ns : List Nd} {p : Int} (hp : getB ns p = true) (n : Nd) (i : Int) : cnt (setL ns p n) i + countF (getL ns p) i = cnt ns i + countF n i := by
 have g := getL_at hp
 unfold cnt setL
 rw [if_pos ⟨g.1, g.2.1⟩, List.map_set]
 exact sum_set (cnt_get hp i)
theorem cnt_same {ns : List Nd} {p : Int} (hp : getB ns p = true) {n : Nd} (h7 : n.f7 = (getL ns p).f7) (i : Int) : cnt (setL ns p n) i = cnt ns i := by
 have := cnt_set hp n i
 have e : countF n i = countF (getL ns p) i := by unfold countF; rw [h7]
 omega
theorem cnt_snoc (ns : List Nd) (n : Nd) (i : Int) : cnt (ns ++ [n]) i = cnt ns i + countF n i := by
 unfold cnt; simp
theorem count_split (l : List En) (p : En → Bool) (i : Int) : (l.filter fun e => e.f1 == i).length = ((l.filter p).filter fun e => e.f1 == i).length + ((l.filter fun e => !p e).filter fun e => e.f1 == i).length := by
 induction l with
 | nil => rfl
 | cons a l ih =>
  by_cases hp : p a = true <;> by_cases hi : (a.f1 == i) = true <;> simp [List.filter_cons, hp, hi] at ih ⊢ <;> omega
theorem rising_one {l : List En} (h : Rising l) {name : ByteArray} {e : En} (hf : findL l name = some e) : (l.filter fun x => decide (ord x name = 0)) = [e] := by
 have hp : l.Pairwise fun x y => Op.bytesLess x.f0.data.toList y.f0.data.toList = true := by
  rw [List.pairwise_iff_getElem]
  intro i j hi hj hij
  exact h.lt (j - i - 1) i _ _ (List.getElem?_eq_getElem hi) (by rw [show i + (j - i - 1) + 1 = j by omega]; exact List.getElem?_eq_getElem hj)
 have hq := hp.filter fun x => decide (ord x name = 0)
 have hm : e ∈ l.filter fun x => decide (ord x name = 0) := by
  unfold findL at hf
  exact List.mem_filter.2 ⟨List.mem_of_find?_eq_some hf, by simpa using List.find?_some hf⟩
 have h0 : ∀ x ∈ l.filter (fun x => decide (ord x name = 0)), ord x name = 0 := fun x hx => of_decide_eq_true (List.mem_filter.1 hx).2
 generalize l.filter (fun x => decide (ord x name = 0)) = k at hq hm h0
 match k, hq, hm, h0 with
 | [x], _, hm, _ => rw [List.mem_singleton.1 hm]
 | x :: y :: k, hq, _, h0 =>
  exfalso
  have h1 := (List.pairwise_cons.1 hq).1 y (by simp)
  have h2 := (ord_zero x name).1 (h0 x (by simp))
  have h3 := (ord_zero y name).1 (h0 y (by simp))
  have h4 : x.f0.data.toList = y.f0.data.toList := by rw [← toList_data, ← toList_data, h2, h3]
  rw [h4] at h1
  have h5 := (cmp_neg _ _).2 h1
  have h6 := (cmp_zero y.f0.data.toList y.f0.data.toList).2 rfl
  omega
theorem count_drop {n : Nd} (h : Rising n.f7) {s : Sp} {e : En} (hf : findL n.f7 s.f1 = some e) (i : Int) : countF (nDrop s n) i + (if e.f1 = i then 1 else 0) = countF n i := by
 have h1 := count_split n.f7 (fun x => decide (¬ ord x s.f1 = 0)) i
 have h2 : (n.f7.filter fun x => !decide (¬ ord x s.f1 = 0)) = [e] := by
  rw [← rising_one h hf]
  exact List.filter_congr fun x _ => by simp
 rw [h2] at h1
 unfold countF nDrop dropF
 rw [h1]
 by_cases hi : e.f1 = i <;> simp [hi]
theorem count_put {n : Nd} (h : Rising n.f7) {s : Sp} (hf : findL n.f7 s.f1 = none) (j i : Int) : countF (nPut s j n) i = countF n i + (if j = i then 1 else 0) := by
 have hs := split_sorted (h.sorted s.f1).gt (findL_none.1 hf)
 unfold countF nPut putF
 simp only [List.filter_append, List.length_append]
 conv => rhs; rw [← hs]
 simp only [List.filter_append, List.length_append]
 by_cases hi : j = i <;> simp [hi] <;> omega
end Go.Proofs.YtpfbimkpcnnfkaaGreatDoor.Sx
set_option linter.unusedVariables false
set_option linter.unusedSimpArgs false
namespace Go.Proofs.YtpfbimkpcnnfkaaGreatDoor.Sx
open Go Go.RowKit Go.Proofs.YtpfbimkpcnnfkaaGreatDoor Go.Proofs.YtpfbimkpcnnfkaaGreatDoor.Ext
theorem segs_mem : ∀ (l : List UInt8), ∀ s ∈ segs l, ∀ c ∈ s, c ∈ l ∧ c ≠ 47
 | [], s, hs, c, hc => by unfold segs at hs; rw [List.mem_singleton.1 hs] at hc; cases hc
 | a :: l, s, hs, c, hc => by
  have ih := segs_mem l
  unfold segs at hs
  by_cases ha : (a == 47) = true
  ·rw [if_pos ha] at hs
   rcases List.mem_cons.1 hs with rfl | hs
   ·cases hc
   ·have := ih s hs c hc; exact ⟨List.mem_cons_of_mem _ this.1, this.2⟩
  ·rw [if_neg ha] at hs
   have ha : a ≠ 47 := by simpa using ha
   cases hg : segs l with
   | nil =>
    rw [hg] at hs
    rw [List.mem_singleton.1 hs] at hc
    rw [List.mem_singleton.1 hc]; exact ⟨by simp, ha⟩
   | cons t r =>
    rw [hg] at hs
    rcases List.mem_cons.1 hs with rfl | hs
    ·rcases List.mem_cons.1 hc with rfl | hc
     ·exact ⟨by simp, ha⟩
     ·have := ih t (by rw [hg]; simp) c hc; exact ⟨List.mem_cons_of_mem _ this.1, this.2⟩
    ·have := ih s (by rw [hg]; simp [hs]) c hc; exact ⟨List.mem_cons_of_mem _ this.1, this.2⟩
theorem outs_mem : ∀ (l : List ByteArray) (k : Nat), ∀ p ∈ outs k l, p.2 ∈ l
 | [], _, p, hp => by cases hp
 | s :: l, k, p, hp => by
  unfold outs at hp
  split at hp
  ·exact List.mem_cons_of_mem _ (outs_mem l _ p hp)
  ·rcases List.mem_cons.1 hp with rfl | hp
   ·simp
   ·exact List.mem_cons_of_mem _ (outs_mem l _ p hp)
structure Good (p : ByteArray) : Prop where
 let_ : ∀ c ∈ p.data.toList, c ≠ 47 ∧ c ≠ 0
 len : p.size ≤ 12
theorem parts_good {path : ByteArray} (h : checkB path = 0) : ∀ p ∈ partsB path, Good p := fun p hp => by
 rw [check_eq] at h
 split at h
 ·cases h
 split at h
 ·cases h
 split at h
 ·cases h
 rename_i h0
 split at h
 ·cases h
 rename_i h1
 refine ⟨fun c hc => ?_, ?_⟩
 ·unfold partsB partsL at hp
  obtain ⟨q, hq, rfl⟩ := List.mem_map.1 hp
  have hm := outs_mem _ _ q hq
  unfold segsB at hm
  obtain ⟨s, hs, he⟩ := List.mem_map.1 hm
  rw [← he, bs_data] at hc
  have := segs_mem _ s hs c hc
  exact ⟨this.2, fun e => h0 (e ▸ this.1)⟩
 ·rcases Nat.lt_or_ge 12 p.size with h2 | h2
  ·exact absurd (List.any_eq_true.2 ⟨p, hp, decide_eq_true h2⟩) h1
  ·exact h2
theorem go_good {ns : List Nd} {who : Int} {follow slash : Bool} : ∀ (f : Nat) (at_ hops : Int) (ps : List ByteArray) (s : Sp), (∀ p ∈ ps, Good p) → Sx.walkGo ns who follow slash f at_ hops ps = (s, 0) → s.f1.toList = [] ∨ Good s.f1
 | 0, _, _, _, s, hp, hw => by unfold Sx.walkGo at hw; cases hw; exact .inl dot0
 | f + 1, _, _, [], s, hp, hw => by unfold Sx.walkGo at hw; cases hw; exact .inl dot0
 | f + 1, at_, hops, part :: rest, s, hp, hw => by
  unfold Sx.walkGo at hw
  have h1 := hp part (by simp)
  have hr : ∀ p ∈ rest, Good p := fun p h => hp p (by simp [h])
  split at hw
  ·rename_i h; exact absurd (Prod.mk.inj hw).2 h
  split at hw
  ·exact absurd (Prod.mk.inj hw).2 (by decide)
  split at hw
  ·split at hw
   ·have := (Prod.mk.inj hw).1; subst this; exact .inr h1
   ·exact absurd (Prod.mk.inj hw).2 (by decide)
  split at hw
  ·split at hw
   ·exact absurd (Prod.mk.inj hw).2 (by decide)
   split at hw
   ·rename_i h; exact absurd (Prod.mk.inj hw).2 h
   rename_i h6
   split at hw
   ·have := (Prod.mk.inj hw).1; subst this; exact .inl dot0
   ·refine go_good f _ _ _ s (fun p h => ?_) hw
    rcases List.mem_append.1 h with h | h
    ·exact parts_good (by simpa using h6) p h
    ·exact hr p h
  ·split at hw
   ·split at hw
    ·exact absurd (Prod.mk.inj hw).2 (by decide)
    ·have := (Prod.mk.inj hw).1; subst this; exact .inr h1
   ·exact go_good f _ _ _ s hr hw
theorem walk_legal {ns : List Nd} {who from_ : Int} {path : ByteArray} {follow : Bool} {s : Sp} (hw : walkF ns who from_ path follow = (s, 0)) (h0 : ¬ s.f1.toList = []) (h1 : ¬ s.f1.toList = [46]) (h2 : ¬ s.f1.toList = [46, 46]) : legalF s.f1 = 0 := by
 have hG : s.f1.toList = [] ∨ Good s.f1 := by
  unfold walkF at hw
  split at hw
  ·rename_i h1; exact absurd (Prod.mk.inj hw).2 h1
  rename_i hc
  have hc : checkB path = 0 := by simpa using hc
  generalize (if pre47 path = true then 0 else from_) = at_ at hw
  unfold goF at hw
  split at hw
  ·split at hw
   ·rename_i h4; exact absurd (Prod.mk.inj hw).2 h4
   ·have hw := (Prod.mk.inj hw).1
    subst hw
    exact .inl dot0
  ·exact go_good _ _ _ _ s (parts_good hc) hw
 have hG := hG.resolve_left h0
 unfold legalF
 rw [if_neg (fun h => by rcases h with h | h | h; exact h0 h; exact h1 h; exact h2 h), if_neg (fun h => by
  obtain ⟨c, hc, he⟩ := List.any_eq_true.1 h
  have := hG.let_ c hc
  simp [this.1, this.2] at he), if_neg (by have := hG.len; omega)]
theorem legal_of {l : List En} (h : sortedF l = true) : ∀ e ∈ l, legalF e.f0 = 0 := fun e he => by
 obtain ⟨j, hj⟩ := List.getElem?_of_mem he
 have := List.all_eq_true.1 h j (List.mem_range.2 (List.getElem?_eq_some_iff.1 hj).1)
 unfold sortedAt at this
 rw [getD_of hj, Bool.and_eq_true] at this
 exact of_decide_eq_true this.1
theorem less_irr (a : List UInt8) : ¬ Op.bytesLess a a = true := fun h => by
 have h1 := (cmp_neg a a).2 h
 have h2 := (cmp_zero a a).2 rfl
 omega
theorem sorted_of {l : List En} (h : Rising l) (hl : ∀ e ∈ l, legalF e.f0 = 0) : sortedF l = true := by
 refine List.all_eq_true.2 fun j hj => ?_
 have hj := List.mem_range.1 hj
 have hx := List.getElem?_eq_getElem hj
 unfold sortedAt
 rw [getD_of hx, hl _ (List.getElem_mem hj)]
 cases j with
 | zero => rfl
 | succ j =>
  have hy := List.getElem?_eq_getElem (show j < l.length by omega)
  have hlt := h j _ _ hy hx
  rw [Nat.add_sub_cancel, getD_of hy]
  simp only [decide_true, Bool.true_and, Bool.or_eq_true, Bool.not_eq_true', cmpT, Bool.or_eq_false_iff, beq_eq_false_iff_ne, ne_eq]
  right
  rw [toList_data, toList_data]
  refine ⟨?_, fun e => ?_⟩
  ·cases hh : Op.bytesLess l[j + 1].f0.data.toList l[j].f0.data.toList with
   | false => rfl
   | true => exact absurd (less_trans _ _ _ hlt hh) (less_irr _)
  ·rw [e] at hlt; exact less_irr _ hlt
theorem sorted_put {l : List En} (h : sortedF l = true) {e : En} (he : legalF e.f0 = 0) : sortedF (putF l e) = true :=
 sorted_of (rising_put (rising_of h) e) fun x hx => by
  rcases mem_put hx with rfl | hx
  ·exact he
  ·exact legal_of h x hx
theorem sorted_drop {l : List En} (h : sortedF l = true) (name : ByteArray) : sortedF (dropF l name) = true :=
 sorted_of (rising_filter (rising_of h) _) fun x hx => legal_of h x (mem_drop.1 hx).1
theorem isum_set {l : List Int} : ∀ {k : Nat} {a b : Int}, l[k]? = some a → (l.set k b).sum + a = l.sum + b := by
 induction l with
 | nil => intro k a b h; simp at h
 | cons x l ih =>
  intro k a b h
  cases k with
  | zero => simp only [List.getElem?_cons_zero, Option.some.injEq] at h; simp only [List.set_cons_zero, List.sum_cons]; omega
  | succ k => rw [List.getElem?_cons_succ] at h; have := ih (b := b) h; simp only [List.set_cons_succ, List.sum_cons]; omega
theorem bytes_set {ns : List Nd} {p : Int} (hp : getB ns p = true) (n : Nd) : bytesF (setL ns p n) + weightF (getL ns p) = bytesF ns + weightF n := by
 have g := getL_at hp
 unfold bytesF setL
 rw [if_pos ⟨g.1, g.2.1⟩, List.map_set]
 refine isum_set ?_
 rw [List.getElem?_map, g.2.2.1]; rfl
theorem bytes_turn {ns : List Nd} {p : Int} {f : Nd → Nd} (h0 : ∀ n, (f n).f0 = n.f0) (h6 : ∀ n, (f n).f6 = n.f6) (hp : getB ns p = true) : bytesF (turnF ns p f) = bytesF ns := by
 have := bytes_set hp (f (getL ns p))
 have e : weightF (f (getL ns p)) = weightF (getL ns p) := by unfold weightF; rw [h0, h6]
 unfold turnF; omega
theorem bytes_settle {ns : List Nd} (i : Int) : bytesF (settleF ns i) ≤ bytesF ns := by
 unfold settleF
 split
 ·rename_i h
  have := bytes_set h.1 zNd
  have e : weightF zNd = 0 := rfl
  have := weight_nn (getL ns i)
  omega
 ·exact Int.le_refl _
theorem used_all {ns : List Nd} (h : ∀ n ∈ ns, ¬ n.f0 = 0) : usedF ns = ns.length := by
 unfold usedF
 rw [List.filter_eq_self.2 fun n hn => by simpa using h n hn]
theorem add_size {ns : List Nd} {m r : Int} {N : Nd} (h : (addF ns m r N).2.2 = 0) (hm : (ns.length : Int) ≤ m) : ((addF ns m r N).1.length : Int) ≤ m ∧ bytesF (addF ns m r N).1 ≤ r := by
 unfold addF at *
 by_cases h1 : m ≤ (usedF ns : Int) ∨ r < bytesF ns + weightF N
 ·rw [if_pos h1] at h; cases h
 rw [if_neg h1]
 have hr : bytesF ns + weightF N ≤ r := by omega
 cases hf : ns.findIdx? (fun n => decide (n.f0 = 0)) with
 | some k =>
  obtain ⟨g1, g2, g3⟩ := List.findIdx?_eq_some_iff_getElem.1 hf
  refine ⟨by simpa using hm, ?_⟩
  show bytesF (ns.set k N) ≤ r
  unfold bytesF at *
  rw [List.map_set]
  have := isum_set (l := ns.map weightF) (k := k) (a := weightF ns[k]) (b := weightF N) (by rw [List.getElem?_map, List.getElem?_eq_getElem g1]; rfl)
  have := weight_nn ns[k]
  omega
 | none =>
  have hu := used_all fun n hn => by simpa using List.findIdx?_eq_none_iff.1 hf n hn
  refine ⟨?_, ?_⟩
  ·show ((ns ++ [N]).length : Int) ≤ m
   rw [List.length_append]; simp only [List.length_cons, List.length_nil]; omega
  ·show bytesF (ns ++ [N]) ≤ r
   unfold bytesF at *
   simp; omega
end Go.Proofs.YtpfbimkpcnnfkaaGreatDoor.Sx
set_option linter.unusedVariables false
set_option linter.unusedSimpArgs false
namespace Go.Proofs.YtpfbimkpcnnfkaaGreatDoor.Sx
open Go Go.RowKit Go.Proofs.YtpfbimkpcnnfkaaGreatDoor Go.Proofs.YtpfbimkpcnnfkaaGreatDoor.Ext
structure RtG (ns : List Nd) (v : Int) (k : Nat) : Prop where
 clean : ∀ n ∈ ns, n.f0 = 0 → n = zNd
 root : (getL ns 0).f0 = 2 ∧ (getL ns 0).f5 = 0 ∧ (getL ns 0).f3 = 1
 node : ∀ i, getB ns i = true → NodeR (getL ns i)
 ents : ∀ i, ∀ e ∈ (getL ns i).f7, getB ns e.f1 = true ∧ e.f1 ≠ 0
 links : ∀ i, getB ns i = true → i ≠ 0 → (getL ns i).f3 = cnt ns i + (if i = v then (k : Int) else 0)
 held : ∀ i, getB ns i = true → i ≠ 0 → i ≠ v → cnt ns i = 0 → 1 ≤ (getL ns i).f4
 lone : ∀ i, getB ns i = true → i ≠ 0 → i ≠ v → (getL ns i).f0 = 2 → cnt ns i = 0 → (getL ns i).f7 = [] ∧ (getL ns i).f5 = 0
 par : ∀ i, getB ns i = true → i ≠ 0 → i ≠ v → (getL ns i).f0 = 2 → cnt ns i ≠ 0 → cnt ns i = 1 ∧ 0 < countF (getL ns (getL ns i).f5) i ∧ Reach ns i
 vdir : getB ns v = true → (getL ns v).f0 = 2 → cnt ns v = 0 ∧ v ≠ 0
theorem getB_neg (ns : List Nd) : getB ns (-1) = false := by unfold getB; simp
theorem Rt.g {ns : List Nd} (h : Rt ns) : RtG ns (-1) 0 where
 clean := h.clean
 root := h.root
 node := h.node
 ents := h.ents
 links := fun i hi h0 => by rw [(h.links i hi h0).1]; split <;> simp
 held := fun i hi h0 _ => (h.links i hi h0).2
 lone := fun i hi h0 _ => h.lone i hi h0
 par := fun i hi h0 _ => h.par i hi h0
 vdir := fun hb => by rw [getB_neg] at hb; cases hb
theorem RtG.rt {ns : List Nd} (h : RtG ns (-1) 0) : Rt ns where
 clean := h.clean
 root := h.root
 node := h.node
 ents := h.ents
 links := fun i hi h0 => by
  have hv : i ≠ -1 := fun e => by rw [e, getB_neg] at hi; cases hi
  exact ⟨by have := h.links i hi h0; rw [if_neg hv] at this; simpa using this, h.held i hi h0 hv⟩
 lone := fun i hi h0 => h.lone i hi h0 fun e => by rw [e, getB_neg] at hi; cases hi
 par := fun i hi h0 => h.par i hi h0 fun e => by rw [e, getB_neg] at hi; cases hi
theorem RtG.get0 {ns : List Nd} {v : Int} {k : Nat} (h : RtG ns v k) : getB ns 0 = true := getB_f0 (by rw [h.root.1]; decide)
theorem clean_set {ns : List Nd} (h : ∀ n ∈ ns, n.f0 = 0 → n = zNd) (i : Int) {n : Nd} (hn : n.f0 = 0 → n = zNd) : ∀ x ∈ setL ns i n, x.f0 = 0 → x = zNd := fun x hx => by
 unfold setL at hx
 split at hx
 ·rcases List.mem_or_eq_of_mem_set hx with hx | rfl
  ·exact h x hx
  ·exact hn
 ·exact h x hx
theorem turn_get {ns : List Nd} {p : Int} {f : Nd → Nd} (hf : ∀ n, (f n).f0 = n.f0) (hp : getB ns p = true) (j : Int) : getL (turnF ns p f) j = if j = p then f (getL ns p) else getL ns j := by
 rw [getL_turn hf]
 by_cases hj : j = p
 ·rw [if_pos ⟨hj, hp⟩, if_pos hj]
 ·rw [if_neg (fun h => hj h.1), if_neg hj]
theorem clean_turn {ns : List Nd} (h : ∀ n ∈ ns, n.f0 = 0 → n = zNd) {p : Int} {f : Nd → Nd} (hf : ∀ n, (f n).f0 = n.f0) (hp : getB ns p = true) : ∀ x ∈ turnF ns p f, x.f0 = 0 → x = zNd :=
 clean_set h p fun h0 => by rw [hf] at h0; exact absurd h0 (getL_at hp).2.2.2
theorem Reach.move {ns x : List Nd} (h : ∀ j, getB ns j = true → getB x j = true ∧ (getL x j).f0 = (getL ns j).f0 ∧ (getL x j).f5 = (getL ns j).f5) {i : Int} (hr : Reach ns i) : Reach x i := by
 induction hr with
 | root => exact .root
 | up h1 h2 _ ih =>
  obtain ⟨g1, g2, g3⟩ := h _ h1
  exact .up g1 (g2.trans h2) (by rw [g3]; exact ih)
theorem no_name {ns : List Nd} {i : Int} (h : cnt ns i = 0) {p : Int} (hp : getB ns p = true) : ∀ e ∈ (getL ns p).f7, e.f1 ≠ i := fun e he hi => by
 have h1 := count_of_mem he
 rw [hi] at h1
 have := sum_get (cnt_get hp i)
 unfold cnt at h; omega
theorem cnt_drop {ns : List Nd} {s : Sp} {e : En} (hb : getB ns s.f0 = true) (hR : Rising (getL ns s.f0).f7) (hf : findL (getL ns s.f0).f7 s.f1 = some e) (i : Int) : cnt (dropN ns s) i + (if e.f1 = i then 1 else 0) = cnt ns i := by
 have h1 := cnt_set hb (nDrop s (getL ns s.f0)) i
 have h2 := count_drop hR hf i
 unfold dropN turnF; omega
theorem node_drop {n : Nd} (h : NodeR n) (s : Sp) : NodeR (nDrop s n) :=
 ⟨h.kind, h.mode, h.open_, fun hk => by show dropF n.f7 s.f1 = []; rw [h.names hk]; rfl, h.data, sorted_drop h.sorted s.f1⟩
theorem find_mem {l : List En} {name : ByteArray} {e : En} (h : findL l name = some e) : e ∈ l := by unfold findL at h; exact List.mem_of_find?_eq_some h
theorem RtG.drop {ns : List Nd} (h : RtG ns (-1) 0) {s : Sp} {e : En} (hb : getB ns s.f0 = true) (hf : findL (getL ns s.f0).f7 s.f1 = some e) : RtG (dropN ns s) e.f1 1 := by
 have hR := rising_of (h.node _ hb).sorted
 have hc := cnt_drop hb hR hf
 have hB : ∀ j, getB (dropN ns s) j = getB ns j := fun j => by unfold dropN; rw [getB_turn (nDrop_f0 s)]
 have hL : ∀ j, getL (dropN ns s) j = if j = s.f0 then nDrop s (getL ns s.f0) else getL ns j := fun j => turn_get (nDrop_f0 s) hb j
 have hfl : ∀ j, (getL (dropN ns s) j).f0 = (getL ns j).f0 ∧ (getL (dropN ns s) j).f3 = (getL ns j).f3 ∧ (getL (dropN ns s) j).f4 = (getL ns j).f4 ∧ (getL (dropN ns s) j).f5 = (getL ns j).f5 := fun j => by
  rw [hL]; split
  ·rename_i e; rw [e]; exact ⟨rfl, rfl, rfl, rfl⟩
  ·exact ⟨rfl, rfl, rfl, rfl⟩
 have hno : ∀ i, getB ns i = true → i ≠ -1 := fun i hi e => by rw [e, getB_neg] at hi; cases hi
 have hve := h.ents _ e (find_mem hf)
 refine ⟨?_, ?_, fun i hi => ?_, fun i x hx => ?_, fun i hi h0 => ?_, fun i hi h0 hv hz => ?_, fun i hi h0 hv hk hz => ?_, fun i hi h0 hv hk hz => ?_, fun hvb hk => ?_⟩
 ·exact clean_turn h.clean (nDrop_f0 s) hb
 ·obtain ⟨f0, f3, f4, f5⟩ := hfl 0
  rw [f0, f3, f5]; exact h.root
 ·rw [hB] at hi
  rw [hL]; split
  ·exact node_drop (h.node _ hb) s
  ·exact h.node i hi
 ·rw [hB]
  rw [hL] at hx; split at hx
  ·exact h.ents _ x (mem_drop.1 hx).1
  ·exact h.ents _ x hx
 ·rw [hB] at hi
  have h1 := h.links i hi h0
  rw [if_neg (hno i hi)] at h1
  rw [(hfl i).2.1, h1]
  have := hc i
  by_cases hv : i = e.f1
  ·rw [if_pos hv]; rw [if_pos hv.symm] at this; omega
  ·rw [if_neg hv]; rw [if_neg (fun e => hv e.symm)] at this; omega
 ·rw [hB] at hi
  have := hc i
  rw [if_neg (fun e => hv e.symm)] at this
  rw [(hfl i).2.2.1]
  exact h.held i hi h0 (hno i hi) (by omega)
 ·rw [hB] at hi
  have := hc i
  rw [if_neg (fun e => hv e.symm)] at this
  rw [(hfl i).1] at hk
  have h1 := h.lone i hi h0 (hno i hi) hk (by omega)
  rw [(hfl i).2.2.2]
  refine ⟨?_, h1.2⟩
  rw [hL]; split
  ·rename_i hi0
   show dropF (getL ns s.f0).f7 s.f1 = []
   rw [← hi0, h1.1]; rfl
  ·exact h1.1
 ·rw [hB] at hi
  have hci := hc i
  rw [if_neg (fun e => hv e.symm)] at hci
  rw [(hfl i).1] at hk
  obtain ⟨p1, p2, p3⟩ := h.par i hi h0 (hno i hi) hk (by omega)
  rw [(hfl i).2.2.2]
  refine ⟨by omega, ?_, p3.move fun j hj => ⟨by rw [hB]; exact hj, (hfl j).1, (hfl j).2.2.2⟩⟩
  rw [hL]; split
  ·rename_i hp
   have := count_drop hR hf i
   rw [if_neg (fun e => hv e.symm)] at this
   rw [hp] at p2; omega
  ·exact p2
 ·rw [hB] at hvb
  rw [(hfl _).1] at hk
  have hci := hc e.f1
  rw [if_pos rfl] at hci
  obtain ⟨p1, _⟩ := h.par e.f1 hvb hve.2 (hno _ hvb) hk (by omega)
  exact ⟨by omega, hve.2⟩
theorem RtG.put {ns : List Nd} {v : Int} (h : RtG ns v 1) {t : Sp} (hb : getB ns t.f0 = true) (hk : (getL ns t.f0).f0 = 2) (hf : findL (getL ns t.f0).f7 t.f1 = none) (hn : legalF t.f1 = 0) (hv : getB ns v = true) (hv0 : v ≠ 0) (hvp : v ≠ t.f0)
  (hal : t.f0 = 0 ∨ cnt ns t.f0 ≠ 0) (hup : (getL ns v).f0 = 2 → (getL ns v).f5 = t.f0) : Rt (putN ns t v) := by
 have hR := rising_of (h.node _ hb).sorted
 have hc : ∀ i, cnt (putN ns t v) i = cnt ns i + (if v = i then 1 else 0) := fun i => by
  have h1 := cnt_set hb (nPut t v (getL ns t.f0)) i
  have h2 := count_put hR hf v i
  unfold putN turnF; omega
 have hB : ∀ j, getB (putN ns t v) j = getB ns j := fun j => by unfold putN; rw [getB_turn (nPut_f0 t v)]
 have hL : ∀ j, getL (putN ns t v) j = if j = t.f0 then nPut t v (getL ns t.f0) else getL ns j := fun j => turn_get (nPut_f0 t v) hb j
 have hfl : ∀ j, (getL (putN ns t v) j).f0 = (getL ns j).f0 ∧ (getL (putN ns t v) j).f3 = (getL ns j).f3 ∧ (getL (putN ns t v) j).f4 = (getL ns j).f4 ∧ (getL (putN ns t v) j).f5 = (getL ns j).f5 := fun j => by
  rw [hL]; split
  ·rename_i e; rw [e]; exact ⟨rfl, rfl, rfl, rfl⟩
  ·exact ⟨rfl, rfl, rfl, rfl⟩
 have hmv : ∀ {i}, Reach ns i → Reach (putN ns t v) i := fun hr => hr.move fun j hj => ⟨by rw [hB]; exact hj, (hfl j).1, (hfl j).2.2.2⟩
 refine ⟨?_, ?_, fun i hi => ?_, fun i x hx => ?_, fun i hi h0 => ⟨?_, fun hz => ?_⟩, fun i hi h0 hk2 hz => ?_, fun i hi h0 hk2 hz => ?_⟩
 ·exact clean_turn h.clean (nPut_f0 t v) hb
 ·obtain ⟨f0, f3, f4, f5⟩ := hfl 0
  rw [f0, f3, f5]; exact h.root
 ·rw [hB] at hi
  rw [hL]; split
  ·have := h.node _ hb
   exact ⟨this.kind, this.mode, this.open_, fun h' => absurd hk h', this.data, sorted_put this.sorted hn⟩
  ·exact h.node i hi
 ·rw [hB]
  rw [hL] at hx; split at hx
  ·rcases mem_put hx with rfl | hx
   ·exact ⟨hv, hv0⟩
   ·exact h.ents _ x hx
  ·exact h.ents _ x hx
 ·rw [hB] at hi
  have h1 := h.links i hi h0
  rw [(hfl i).2.1, h1, hc]
  by_cases hvi : i = v
  ·rw [if_pos hvi, if_pos hvi.symm]; omega
  ·rw [if_neg hvi, if_neg (fun e => hvi e.symm)]; omega
 ·rw [hB] at hi
  rw [hc] at hz
  have hvi : i ≠ v := fun e => by rw [if_pos e.symm] at hz; omega
  rw [(hfl i).2.2.1]; exact h.held i hi h0 hvi (by omega)
 ·rw [hB] at hi
  rw [hc] at hz
  have hvi : i ≠ v := fun e => by rw [if_pos e.symm] at hz; omega
  rw [(hfl i).1] at hk2
  have h1 := h.lone i hi h0 hvi hk2 (by omega)
  rw [(hfl i).2.2.2]
  refine ⟨?_, h1.2⟩
  rw [hL, if_neg (fun e => ?_)]
  ·exact h1.1
  ·rcases hal with h2 | h2
   ·exact h0 (e.trans h2)
   ·exact h2 (by rw [← e]; omega)
 ·rw [hB] at hi
  rw [hc] at hz ⊢
  rw [(hfl i).1] at hk2
  rw [(hfl i).2.2.2]
  by_cases hvi : i = v
  ·subst hvi
   have hz0 := (h.vdir hi hk2).1
   rw [hup hk2]
   refine ⟨by rw [if_pos rfl]; omega, ?_, .up (by rw [hB]; exact hi) ((hfl i).1.trans hk2) ?_⟩
   ·rw [hL, if_pos rfl, count_put hR hf, if_pos rfl]; omega
   ·rw [(hfl i).2.2.2, hup hk2]
    rcases Decidable.em (t.f0 = 0) with h2 | h2
    ·rw [h2]; exact .root
    ·exact hmv (h.par _ hb h2 (fun e => hvp e.symm) hk (hal.resolve_left h2)).2.2
  ·rw [if_neg (fun e => hvi e.symm)] at hz ⊢
   obtain ⟨p1, p2, p3⟩ := h.par i hi h0 hvi hk2 (by omega)
   refine ⟨by omega, ?_, hmv p3⟩
   rw [hL]; split
   ·rename_i hp
    rw [count_put hR hf, if_neg (fun e => hvi e.symm)]
    rw [hp] at p2; omega
   ·exact p2
end Go.Proofs.YtpfbimkpcnnfkaaGreatDoor.Sx
set_option linter.unusedVariables false
set_option linter.unusedSimpArgs false
namespace Go.Proofs.YtpfbimkpcnnfkaaGreatDoor.Sx
open Go Go.RowKit Go.Proofs.YtpfbimkpcnnfkaaGreatDoor Go.Proofs.YtpfbimkpcnnfkaaGreatDoor.Ext
theorem RtG.lose {ns : List Nd} {v : Int} {k : Nat} (h : RtG ns v k) {s : Sp} {e : En} (hb : getB ns s.f0 = true) (hk : (getL ns s.f0).f0 = 2) (hf : findL (getL ns s.f0).f7 s.f1 = some e) (he : e.f1 = s.f2) (hwv : s.f2 ≠ v) (hem : (getL ns s.f2).f0 = 2 → (getL ns s.f2).f7 = [])
  (hup : (getL ns v).f0 = 2 → (getL ns v).f5 ≠ s.f2) (hbd : cnt ns s.f2 ≤ 1000000) : RtG (loseN ns s) v k := by
 have hR := rising_of (h.node _ hb).sorted
 have hve := h.ents _ e (find_mem hf)
 rw [he] at hve
 obtain ⟨hw, hw0⟩ := hve
 have hw7 : (getL ns s.f2).f7 = [] := by
  rcases Decidable.em ((getL ns s.f2).f0 = 2) with h2 | h2
  ·exact hem h2
  ·exact (h.node _ hw).names h2
 have hpw : s.f0 ≠ s.f2 := fun e0 => by
  have := find_mem hf
  rw [e0, hw7] at this; cases this
 have hd := cnt_drop hb hR hf
 rw [he] at hd
 -- the disk ahead of the settling
 obtain ⟨l, hl⟩ : ∃ l, turnF (dropN ns s) s.f2 nLess = l := ⟨_, rfl⟩
 have hwd : getB (dropN ns s) s.f2 = true := by unfold dropN; rw [getB_turn (nDrop_f0 s)]; exact hw
 have hlB : ∀ j, getB l j = getB ns j := fun j => by rw [← hl, getB_turn nLess_f0]; unfold dropN; rw [getB_turn (nDrop_f0 s)]
 have hlL : ∀ j, getL l j = if j = s.f2 then nLess (getL ns s.f2) else if j = s.f0 then nDrop s (getL ns s.f0) else getL ns j := fun j => by
  rw [← hl, turn_get nLess_f0 hwd]
  have e1 : ∀ j, getL (dropN ns s) j = if j = s.f0 then nDrop s (getL ns s.f0) else getL ns j := fun j => turn_get (nDrop_f0 s) hb j
  rw [show getL (dropN ns s) s.f2 = getL ns s.f2 by rw [e1, if_neg (fun e => hpw e.symm)], e1 j]
 have hlc : ∀ i, cnt l i + (if s.f2 = i then 1 else 0) = cnt ns i := fun i => by
  rw [← hd i, ← hl]
  unfold turnF
  rw [cnt_same hwd (by rfl)]
 have hlcl : ∀ x ∈ l, x.f0 = 0 → x = zNd := by
  rw [← hl]
  exact clean_turn (clean_turn h.clean (nDrop_f0 s) hb) nLess_f0 hwd
 have hlw : getL l s.f2 = nLess (getL ns s.f2) := by rw [hlL, if_pos rfl]
 have hcw := hlc s.f2
 rw [if_pos rfl] at hcw
 have hlk := h.links _ hw hw0
 rw [if_neg hwv] at hlk
 have hl3 : (getL l s.f2).f3 = cnt l s.f2 := by
  rw [hlw]
  show IntKind.i64.wrap ((getL ns s.f2).f3 - 1) = _
  rw [hlk, IntKind.wrap_i64] <;> omega
 have hlw4 : (getL l s.f2).f4 = (getL ns s.f2).f4 := by rw [hlw]; rfl
 have hlw0 : (getL l s.f2).f0 = (getL ns s.f2).f0 := by rw [hlw]; rfl
 have hlw7 : (getL l s.f2).f7 = [] := by rw [hlw]; exact hw7
 have hlw5 : (getL ns s.f2).f0 = 2 → (getL l s.f2).f5 = 0 := fun h2 => by
  rw [hlw]; show (if (getL ns s.f2).f0 = 2 then 0 else (getL ns s.f2).f5) = 0; rw [if_pos h2]
 have hfl : ∀ j, j ≠ s.f2 → (getL l j).f0 = (getL ns j).f0 ∧ (getL l j).f3 = (getL ns j).f3 ∧ (getL l j).f4 = (getL ns j).f4 ∧ (getL l j).f5 = (getL ns j).f5 := fun j hj => by
  rw [hlL, if_neg hj]; split
  ·rename_i e; rw [e]; exact ⟨rfl, rfl, rfl, rfl⟩
  ·exact ⟨rfl, rfl, rfl, rfl⟩
 have hnode : ∀ j, getB ns j = true → NodeR (getL l j) := fun j hj => by
  rw [hlL]; split
  ·have := h.node _ hw
   exact ⟨this.kind, this.mode, this.open_, this.names, this.data, this.sorted⟩
  split
  ·exact node_drop (h.node _ hb) s
  ·exact h.node j hj
 have hents : ∀ j, ∀ x ∈ (getL l j).f7, getB ns x.f1 = true ∧ x.f1 ≠ 0 := fun j x hx => by
  rw [hlL] at hx; split at hx
  ·exact h.ents _ x hx
  split at hx
  ·exact h.ents _ x (mem_drop.1 hx).1
  ·exact h.ents _ x hx
 -- what the settling does
 obtain ⟨x, hx⟩ : ∃ x, loseN ns s = x := ⟨_, rfl⟩
 obtain ⟨g, hg⟩ : ∃ g : Prop, g = (cnt l s.f2 = 0 ∧ (getL ns s.f2).f4 < 1) := ⟨_, rfl⟩
 have hxs : (g → x = setL l s.f2 zNd) ∧ (¬ g → x = l) := by
  have e : loseN ns s = settleF l s.f2 := by rw [← hl]; rfl
  rw [← hx, e, hg]
  unfold settleF
  have hiff : (getB l s.f2 = true ∧ ¬ s.f2 = 0 ∧ (getL l s.f2).f3 < 1 ∧ (getL l s.f2).f4 < 1) ↔ (cnt l s.f2 = 0 ∧ (getL ns s.f2).f4 < 1) := by
   rw [hl3, hlw4, hlB]
   exact ⟨fun h' => ⟨by omega, h'.2.2.2⟩, fun h' => ⟨hw, hw0, by omega, h'.2⟩⟩
  exact ⟨fun h' => if_pos (hiff.2 h'), fun h' => if_neg fun h2 => h' (hiff.1 h2)⟩
 have hxB : ∀ j, getB x j = true ↔ getB ns j = true ∧ ¬ (g ∧ j = s.f2) := fun j => by
  by_cases hgg : g
  ·rw [hxs.1 hgg, getB_set]
   by_cases hj : j = s.f2
   ·have := getL_at (show getB l s.f2 = true by rw [hlB]; exact hw)
    rw [if_pos ⟨hj, this.1, this.2.1⟩]
    exact ⟨fun h' => by simp [zNd] at h', fun h' => absurd ⟨hgg, hj⟩ h'.2⟩
   ·rw [if_neg (fun h' => hj h'.1), hlB]
    exact ⟨fun h' => ⟨h', fun h2 => hj h2.2⟩, fun h' => h'.1⟩
  ·rw [hxs.2 hgg, hlB]
   exact ⟨fun h' => ⟨h', fun h2 => hgg h2.1⟩, fun h' => h'.1⟩
 have hxL : ∀ j, ¬ (g ∧ j = s.f2) → getL x j = getL l j := fun j hj => by
  by_cases hgg : g
  ·rw [hxs.1 hgg, getL_set, if_neg (fun h' => hj ⟨hgg, h'.1⟩)]
  ·rw [hxs.2 hgg]
 have hxc : ∀ i, cnt x i = cnt l i := fun i => by
  by_cases hgg : g
  ·rw [hxs.1 hgg]
   exact cnt_same (by rw [hlB]; exact hw) (by rw [hlw7]; rfl) i
  ·rw [hxs.2 hgg]
 have hxcl : ∀ n ∈ x, n.f0 = 0 → n = zNd := by
  by_cases hgg : g
  ·rw [hxs.1 hgg]; exact clean_set hlcl _ fun _ => rfl
  ·rw [hxs.2 hgg]; exact hlcl
 have hx0 : ¬ (g ∧ (0 : Int) = s.f2) := fun h' => hw0 h'.2.symm
 have hxe : ∀ j, ∀ y ∈ (getL x j).f7, y ∈ (getL l j).f7 := fun j y hy => by
  by_cases hj : g ∧ j = s.f2
  ·rw [getL_no (by cases hh : getB x j with | false => rfl | true => exact absurd hj ((hxB j).1 hh).2)] at hy; cases hy
  ·rw [hxL j hj] at hy; exact hy
 have hneup : ∀ i, getB ns i = true → i ≠ s.f2 → (getL ns i).f0 = 2 → (getL ns i).f5 ≠ s.f2 := fun i hi hiw h2 e0 => by
  rcases Decidable.em (i = 0) with h0 | h0
  ·rw [h0, h.root.2.1] at e0; exact hw0 e0.symm
  rcases Decidable.em (i = v) with hv | hv
  ·rw [hv] at h2 e0; exact hup h2 e0
  rcases Decidable.em (cnt ns i = 0) with hz | hz
  ·rw [(h.lone i hi h0 hv h2 hz).2] at e0; exact hw0 e0.symm
  ·have := (h.par i hi h0 hv h2 hz).2.1
   rw [e0] at this
   unfold countF at this
   rw [hw7] at this; exact absurd this (Nat.lt_irrefl 0)
 have hreach : ∀ {i}, Reach ns i → i ≠ s.f2 → Reach x i := fun hr => by
  induction hr with
  | root => exact fun _ => .root
  | up h1 h2 _ ih =>
   intro hi
   rename_i i _
   obtain ⟨q0, q3, q4, q5⟩ := hfl i hi
   have hng : ¬ (g ∧ i = s.f2) := fun h' => hi h'.2
   refine .up ((hxB i).2 ⟨h1, hng⟩) (by rw [hxL i hng, q0]; exact h2) ?_
   rw [hxL i hng, q5]
   exact ih (hneup i h1 hi h2)
 rw [hx]
 refine ⟨hxcl, ?_, fun i hi => ?_, fun i y hy => ?_, fun i hi h0 => ?_, fun i hi h0 hv hz => ?_, fun i hi h0 hv hk2 hz => ?_, fun i hi h0 hv hk2 hz => ?_, fun hvb hk2 => ?_⟩
 ·obtain ⟨q0, q3, q4, q5⟩ := hfl 0 (fun e => hw0 e.symm)
  rw [hxL 0 hx0, q0, q3, q5]; exact h.root
 ·obtain ⟨h1, h2⟩ := (hxB i).1 hi
  rw [hxL i h2]; exact hnode i h1
 ·have h1 := hents i y (hxe i y hy)
  refine ⟨(hxB _).2 ⟨h1.1, fun h' => ?_⟩, h1.2⟩
  obtain ⟨hgg, hyw⟩ := h'
  rw [hg] at hgg
  have hbl : getB l i = true := by
   cases hh : getB l i with
   | true => rfl
   | false =>
    have := hxe i y hy
    rw [getL_no hh] at this; cases this
  exact no_name hgg.1 hbl y (hxe i y hy) hyw
 ·obtain ⟨h1, h2⟩ := (hxB i).1 hi
  rw [hxL i h2, hxc]
  by_cases hiw : i = s.f2
  ·rw [hiw, hl3, if_neg hwv]; omega
  ·rw [(hfl i hiw).2.1, h.links i h1 h0]
   have := hlc i
   rw [if_neg (fun e => hiw e.symm)] at this
   omega
 ·obtain ⟨h1, h2⟩ := (hxB i).1 hi
  rw [hxc] at hz
  rw [hxL i h2]
  by_cases hiw : i = s.f2
  ·rw [hiw] at hz h2 ⊢
   rw [hlw4]
   rcases Int.lt_or_le (getL ns s.f2).f4 1 with h4 | h4
   ·exact absurd ⟨by rw [hg]; exact ⟨hz, h4⟩, rfl⟩ h2
   ·exact h4
  ·rw [(hfl i hiw).2.2.1]
   have := hlc i
   rw [if_neg (fun e => hiw e.symm)] at this
   exact h.held i h1 h0 hv (by omega)
 ·obtain ⟨h1, h2⟩ := (hxB i).1 hi
  rw [hxc] at hz
  rw [hxL i h2] at hk2 ⊢
  by_cases hiw : i = s.f2
  ·rw [hiw] at hk2 ⊢
   rw [hlw0] at hk2
   exact ⟨hlw7, hlw5 hk2⟩
  ·obtain ⟨q0, q3, q4, q5⟩ := hfl i hiw
   rw [q0] at hk2
   have := hlc i
   rw [if_neg (fun e => hiw e.symm)] at this
   obtain ⟨l1, l2⟩ := h.lone i h1 h0 hv hk2 (by omega)
   refine ⟨?_, by rw [q5]; exact l2⟩
   rw [hlL, if_neg hiw]; split
   ·rename_i hp
    show dropF (getL ns s.f0).f7 s.f1 = []
    rw [← hp, l1]; rfl
   ·exact l1
 ·obtain ⟨h1, h2⟩ := (hxB i).1 hi
  rw [hxc] at hz ⊢
  rw [hxL i h2] at hk2 ⊢
  by_cases hiw : i = s.f2
  ·exfalso
   rw [hiw] at hk2 hz
   rw [hlw0] at hk2
   have := (h.par _ hw hw0 hwv hk2 (by omega)).1
   omega
  ·obtain ⟨q0, q3, q4, q5⟩ := hfl i hiw
   rw [q0] at hk2
   have hci := hlc i
   rw [if_neg (fun e => hiw e.symm)] at hci
   obtain ⟨p1, p2, p3⟩ := h.par i h1 h0 hv hk2 (by omega)
   have hne := hneup i h1 hiw hk2
   rw [q5]
   refine ⟨by omega, ?_, hreach p3 hiw⟩
   rw [hxL _ (fun h' => hne h'.2), hlL, if_neg hne]; split
   ·rename_i hp
    have := count_drop hR hf i
    rw [he, if_neg (fun e => hiw e.symm)] at this
    rw [hp] at p2; omega
   ·exact p2
 ·obtain ⟨h1, h2⟩ := (hxB v).1 hvb
  rw [hxL v h2, (hfl v (fun e => hwv e.symm)).1] at hk2
  rw [hxc]
  have := hlc v
  rw [if_neg hwv] at this
  have := h.vdir h1 hk2
  exact ⟨by omega, this.2⟩
end Go.Proofs.YtpfbimkpcnnfkaaGreatDoor.Sx
set_option linter.unusedVariables false
set_option linter.unusedSimpArgs false
namespace Go.Proofs.YtpfbimkpcnnfkaaGreatDoor.Sx
open Go Go.RowKit Go.Proofs.YtpfbimkpcnnfkaaGreatDoor Go.Proofs.YtpfbimkpcnnfkaaGreatDoor.Ext
theorem Rt.add {ns : List Nd} (h : Rt ns) {m r : Int} {N : Nd} (ha : (addF ns m r N).2.2 = 0) (hN : NodeR N) (h3 : N.f3 = 1) (h7 : N.f7 = []) : RtG (addF ns m r N).1 (addF ns m r N).2.1 1 ∧ getB (addF ns m r N).1 (addF ns m r N).2.1 = true ∧ getL (addF ns m r N).1 (addF ns m r N).2.1 = N ∧ (addF ns m r N).2.1 ≠ 0 ∧ getB ns (addF ns m r N).2.1 = false ∧
  (∀ j, getB ns j = true → getB (addF ns m r N).1 j = true ∧ getL (addF ns m r N).1 j = getL ns j) ∧ ∀ i, cnt (addF ns m r N).1 i = cnt ns i := by
 have hN0 : N.f0 ≠ 0 := by have := hN.kind; omega
 obtain ⟨k, hk, h1, h2⟩ := add_get ha
 rw [hk]
 generalize (addF ns m r N).1 = a at h2
 have hxa : ∀ j : Nat, a[j]? = if j = k then some N else ns[j]? := fun j => by
  rcases h2 with ⟨h2, rfl⟩ | ⟨h2, rfl⟩
  ·rw [List.getElem?_set]
   by_cases hj : k = j
   ·subst hj; rw [if_pos rfl, if_pos rfl, if_pos h2]
   ·rw [if_neg hj, if_neg (fun e => hj e.symm)]
  ·by_cases hj : j = k
   ·subst hj; rw [if_pos rfl, h2, List.getElem?_append_right (Nat.le_refl _), Nat.sub_self]; rfl
   ·rw [if_neg hj]
    rcases Nat.lt_or_ge j ns.length with h3 | h3
    ·rw [List.getElem?_append_left h3]
    ·rw [List.getElem?_eq_none (by simp; omega), List.getElem?_eq_none h3]
 have hno : getB ns (k : Int) = false := by
  cases hb : getB ns (k : Int) with
  | false => rfl
  | true =>
   have := getL_at hb
   rw [Int.toNat_natCast] at this
   exact absurd (h1 _ this.2.2.1) this.2.2.2
 have hkeep : ∀ j, getB ns j = true → getB a j = true ∧ getL a j = getL ns j := fun j hj => by
  have g := getL_at hj
  have hne : ¬ j.toNat = k := fun e => by
   have e2 : j = (k : Int) := by omega
   rw [e2, hno] at hj; cases hj
  have := getL_of (ns := a) (i := j.toNat) (n := getL ns j) (by rw [hxa, if_neg hne]; exact g.2.2.1) g.2.2.2
  rw [show ((j.toNat : Nat) : Int) = j by omega] at this
  exact this
 have hnew := getL_of (ns := a) (i := k) (n := N) (by rw [hxa, if_pos rfl]) hN0
 have hold : ∀ j, getB a j = true → j = (k : Int) ∨ getB ns j = true := fun j hj => by
  have g := getL_at hj
  by_cases e : j.toNat = k
  ·exact .inl (by omega)
  ·have h5 := g.2.2.1
   rw [hxa, if_neg e] at h5
   have := (getL_of h5 g.2.2.2).1
   rw [show ((j.toNat : Nat) : Int) = j by omega] at this
   exact .inr this
 have hk0 : (k : Int) ≠ 0 := fun e => by rw [e, h.get0] at hno; cases hno
 have hcN : ∀ i, countF N i = 0 := fun i => by unfold countF; rw [h7]; rfl
 have hc : ∀ i, cnt a i = cnt ns i := fun i => by
  rcases h2 with ⟨h2, rfl⟩ | ⟨h2, rfl⟩
  ·have e : ns[k] = zNd := h.clean _ (List.getElem_mem h2) (h1 _ (List.getElem?_eq_getElem h2))
   have := sum_set (l := ns.map (countF · i)) (k := k) (a := countF ns[k] i) (b := countF N i) (by rw [List.getElem?_map, List.getElem?_eq_getElem h2]; rfl)
   rw [e, hcN, show countF zNd i = 0 from rfl] at this
   unfold cnt
   rw [List.map_set]
   simpa [hcN] using this
  ·rw [cnt_snoc, hcN]; rfl
 have hck : cnt ns (k : Int) = 0 := by
  rcases Nat.eq_zero_or_pos (cnt ns (k : Int)) with e | e
  ·exact e
  ·exfalso
   have : ∃ n ∈ ns, 0 < countF n (k : Int) := by
    rcases Classical.em (∃ n ∈ ns, 0 < countF n (k : Int)) with h5 | h5
    ·exact h5
    ·exfalso
     have : (ns.map (countF · (k : Int))).sum ≤ (ns.map (countF · (k : Int))).length * 0 := sum_le fun x hx => by
      obtain ⟨n, hn, rfl⟩ := List.mem_map.1 hx
      rcases Nat.eq_zero_or_pos (countF n (k : Int)) with h6 | h6
      ·simp [h6]
      ·exact absurd ⟨n, hn, h6⟩ h5
     unfold cnt at e; omega
   obtain ⟨n, hn, h5⟩ := this
   obtain ⟨j, hj⟩ := List.getElem?_of_mem hn
   obtain ⟨y, hy, hy1⟩ := count_pos h5
   have hn0 : n.f0 ≠ 0 := fun h0 => by rw [h.clean n hn h0] at hy; cases hy
   have hl := getL_of hj hn0
   have := (h.ents (j : Int) y (by rw [hl.2]; exact hy)).1
   rw [hy1, hno] at this; cases this
 have hcl : ∀ n ∈ a, n.f0 = 0 → n = zNd := by
  rcases h2 with ⟨h2, rfl⟩ | ⟨h2, rfl⟩ <;> intro x hx hx0
  ·rcases List.mem_or_eq_of_mem_set hx with hx | rfl
   ·exact h.clean x hx hx0
   ·exact absurd hx0 hN0
  ·rcases List.mem_append.1 hx with hx | hx
   ·exact h.clean x hx hx0
   ·rw [List.mem_singleton.1 hx] at hx0; exact absurd hx0 hN0
 have hmv : ∀ {i}, Reach ns i → Reach a i := fun hr => hr.move fun j hj => ⟨(hkeep j hj).1, by rw [(hkeep j hj).2], by rw [(hkeep j hj).2]⟩
 refine ⟨⟨hcl, ?_, fun i hi => ?_, fun i y hy => ?_, fun i hi h0 => ?_, fun i hi h0 hv hz => ?_, fun i hi h0 hv hk2 hz => ?_, fun i hi h0 hv hk2 hz => ?_, fun hvb hk2 => ⟨by rw [hc]; exact hck, hk0⟩⟩, hnew.1, hnew.2, hk0, hno, hkeep, hc⟩
 ·rw [(hkeep 0 h.get0).2]; exact h.root
 ·rcases hold i hi with rfl | hi
  ·rw [hnew.2]; exact hN
  ·rw [(hkeep i hi).2]; exact h.node i hi
 ·have hbi : getB a i = true := by
   cases hh : getB a i with
   | true => rfl
   | false => rw [getL_no hh] at hy; cases hy
  rcases hold i hbi with rfl | hi
  ·rw [hnew.2, h7] at hy; cases hy
  ·rw [(hkeep i hi).2] at hy
   have := h.ents i y hy
   exact ⟨(hkeep _ this.1).1, this.2⟩
 ·rcases hold i hi with rfl | hi
  ·rw [hnew.2, h3, hc, hck, if_pos rfl]; rfl
  ·have hne : i ≠ (k : Int) := fun e => by rw [e, hno] at hi; cases hi
   rw [(hkeep i hi).2, hc, if_neg hne, (h.links i hi h0).1]; simp
 ·have hi := (hold i hi).resolve_left hv
  rw [hc] at hz
  rw [(hkeep i hi).2]; exact (h.links i hi h0).2 hz
 ·have hi := (hold i hi).resolve_left hv
  rw [hc] at hz
  rw [(hkeep i hi).2] at hk2 ⊢; exact h.lone i hi h0 hk2 hz
 ·have hi := (hold i hi).resolve_left hv
  rw [hc] at hz ⊢
  rw [(hkeep i hi).2] at hk2 ⊢
  obtain ⟨p1, p2, p3⟩ := h.par i hi h0 hk2 hz
  exact ⟨p1, by rw [(hkeep _ (h.dir_of p2).1).2]; exact p2, hmv p3⟩
theorem Rt.more {ns : List Nd} (h : Rt ns) {o : Int} (ho : getB ns o = true) (h0 : o ≠ 0) (hk : (getL ns o).f0 ≠ 2) (hb : (getL ns o).f3 < 20) : RtG (turnF ns o nMore) o 1 := by
 have hB : ∀ j, getB (turnF ns o nMore) j = getB ns j := fun j => getB_turn nMore_f0 ns o j
 have hL : ∀ j, getL (turnF ns o nMore) j = if j = o then nMore (getL ns o) else getL ns j := fun j => turn_get nMore_f0 ho j
 have hc : ∀ i, cnt (turnF ns o nMore) i = cnt ns i := fun i => cnt_same ho (by rfl) i
 have hfl : ∀ j, (getL (turnF ns o nMore) j).f0 = (getL ns j).f0 ∧ (getL (turnF ns o nMore) j).f4 = (getL ns j).f4 ∧ (getL (turnF ns o nMore) j).f5 = (getL ns j).f5 ∧ (getL (turnF ns o nMore) j).f7 = (getL ns j).f7 := fun j => by
  rw [hL]; split
  ·rename_i e; rw [e]; exact ⟨rfl, rfl, rfl, rfl⟩
  ·exact ⟨rfl, rfl, rfl, rfl⟩
 have hmv : ∀ {i}, Reach ns i → Reach (turnF ns o nMore) i := fun hr => hr.move fun j hj => ⟨by rw [hB]; exact hj, (hfl j).1, (hfl j).2.2.1⟩
 have hcf : ∀ p i, countF (getL (turnF ns o nMore) p) i = countF (getL ns p) i := fun p i => by unfold countF; rw [(hfl p).2.2.2]
 refine ⟨clean_turn h.clean nMore_f0 ho, ?_, fun i hi => ?_, fun i y hy => ?_, fun i hi hi0 => ?_, fun i hi hi0 hv hz => ?_, fun i hi hi0 hv hk2 hz => ?_, fun i hi hi0 hv hk2 hz => ?_, fun hvb hk2 => ?_⟩
 ·rw [hL, if_neg (fun e => h0 e.symm)]; exact h.root
 ·rw [hB] at hi
  rw [hL]; split
  ·have := h.node _ ho
   exact ⟨this.kind, this.mode, this.open_, this.names, this.data, this.sorted⟩
  ·exact h.node i hi
 ·rw [(hfl i).2.2.2] at hy
  rw [hB]; exact h.ents i y hy
 ·rw [hB] at hi
  rw [hc, hL]
  have h1 := (h.links i hi hi0).1
  by_cases hio : i = o
  ·subst hio
   rw [if_pos rfl, if_pos rfl]
   show IntKind.i64.wrap ((getL ns i).f3 + 1) = _
   rw [IntKind.wrap_i64] <;> omega
  ·rw [if_neg hio, if_neg hio, h1]; simp
 ·rw [hB] at hi
  rw [hc] at hz
  rw [(hfl i).2.1]; exact (h.links i hi hi0).2 hz
 ·rw [hB] at hi
  rw [hc] at hz
  rw [(hfl i).1] at hk2
  rw [(hfl i).2.2.2, (hfl i).2.2.1]; exact h.lone i hi hi0 hk2 hz
 ·rw [hB] at hi
  rw [hc] at hz ⊢
  rw [(hfl i).1] at hk2
  rw [(hfl i).2.2.1, hcf]
  obtain ⟨p1, p2, p3⟩ := h.par i hi hi0 hk2 hz
  exact ⟨p1, p2, hmv p3⟩
 ·rw [(hfl o).1] at hk2; exact absurd hk2 hk
theorem Rt.mode {ns : List Nd} (h : Rt ns) {o : Int} (ho : getB ns o = true) (mode : Int) : Rt (turnF ns o (nMode mode)) := by
 have hB : ∀ j, getB (turnF ns o (nMode mode)) j = getB ns j := fun j => getB_turn (nMode_f0 mode) ns o j
 have hL : ∀ j, getL (turnF ns o (nMode mode)) j = if j = o then nMode mode (getL ns o) else getL ns j := fun j => turn_get (nMode_f0 mode) ho j
 have hc : ∀ i, cnt (turnF ns o (nMode mode)) i = cnt ns i := fun i => cnt_same ho (by rfl) i
 have hfl : ∀ j, (getL (turnF ns o (nMode mode)) j).f0 = (getL ns j).f0 ∧ (getL (turnF ns o (nMode mode)) j).f3 = (getL ns j).f3 ∧ (getL (turnF ns o (nMode mode)) j).f4 = (getL ns j).f4 ∧ (getL (turnF ns o (nMode mode)) j).f5 = (getL ns j).f5 ∧ (getL (turnF ns o (nMode mode)) j).f7 = (getL ns j).f7 := fun j => by
  rw [hL]; split
  ·rename_i e; rw [e]; exact ⟨rfl, rfl, rfl, rfl, rfl⟩
  ·exact ⟨rfl, rfl, rfl, rfl, rfl⟩
 have hmv : ∀ {i}, Reach ns i → Reach (turnF ns o (nMode mode)) i := fun hr => hr.move fun j hj => ⟨by rw [hB]; exact hj, (hfl j).1, (hfl j).2.2.2.1⟩
 refine ⟨clean_turn h.clean (nMode_f0 mode) ho, ?_, fun i hi => ?_, fun i y hy => ?_, fun i hi hi0 => ?_, fun i hi hi0 hk2 hz => ?_, fun i hi hi0 hk2 hz => ?_⟩
 ·obtain ⟨q0, q3, _, q5, _⟩ := hfl 0
  rw [q0, q3, q5]; exact h.root
 ·rw [hB] at hi
  rw [hL]; split
  ·have := h.node _ ho
   exact ⟨this.kind, and63 mode, this.open_, this.names, this.data, this.sorted⟩
  ·exact h.node i hi
 ·rw [(hfl i).2.2.2.2] at hy
  rw [hB]; exact h.ents i y hy
 ·rw [hB] at hi
  rw [hc, (hfl i).2.1, (hfl i).2.2.1]; exact h.links i hi hi0
 ·rw [hB] at hi
  rw [hc] at hz
  rw [(hfl i).1] at hk2
  rw [(hfl i).2.2.2.2, (hfl i).2.2.2.1]; exact h.lone i hi hi0 hk2 hz
 ·rw [hB] at hi
  rw [hc] at hz ⊢
  rw [(hfl i).1] at hk2
  rw [(hfl i).2.2.2.1]
  obtain ⟨p1, p2, p3⟩ := h.par i hi hi0 hk2 hz
  refine ⟨p1, ?_, hmv p3⟩
  unfold countF; rw [(hfl _).2.2.2.2]; exact p2
inductive ReachA (ns : List Nd) (v : Int) : Int → Prop
 | root (h : v ≠ 0) : ReachA ns v 0
 | up {i : Int} (hi : i ≠ v) (h : getB ns i = true) (h2 : (getL ns i).f0 = 2) (hr : ReachA ns v (getL ns i).f5) : ReachA ns v i
theorem reachA_of {ns : List Nd} {v : Int} (hv0 : v ≠ 0) : ∀ (f : Nat) (i : Int), rootGo ns (f + 1) i = true → benF ns f i v = false → ReachA ns v i
 | 0, i, h, hb => by
  unfold rootGo at h
  split at h
  ·rename_i h0; rw [h0]; exact .root hv0
  ·split at h
   ·cases h
   ·cases h
 | f + 1, i, h, hb => by
  unfold benF at hb
  split at hb
  ·cases hb
  rename_i hiv
  unfold rootGo at h
  split at h
  ·rename_i h0; rw [h0]; exact .root hv0
  rename_i h0
  rw [if_neg h0] at hb
  split at h
  ·rename_i hc
   exact .up hiv hc.1 hc.2 (reachA_of hv0 f _ h hb)
  ·cases h
theorem RtG.up {ns : List Nd} {v : Int} {k : Nat} (h : RtG ns v k) (hv : getB ns v = true) (hv0 : v ≠ 0) (hk : (getL ns v).f0 = 2) {p : Int} (hp : ReachA ns v p) : RtG (turnF ns v (nUp p)) v k := by
 have hB : ∀ j, getB (turnF ns v (nUp p)) j = getB ns j := fun j => getB_turn (nUp_f0 p) ns v j
 have hL : ∀ j, getL (turnF ns v (nUp p)) j = if j = v then nUp p (getL ns v) else getL ns j := fun j => turn_get (nUp_f0 p) hv j
 have hc : ∀ i, cnt (turnF ns v (nUp p)) i = cnt ns i := fun i => cnt_same hv (by rfl) i
 have hfl : ∀ j, (getL (turnF ns v (nUp p)) j).f0 = (getL ns j).f0 ∧ (getL (turnF ns v (nUp p)) j).f3 = (getL ns j).f3 ∧ (getL (turnF ns v (nUp p)) j).f4 = (getL ns j).f4 ∧ (getL (turnF ns v (nUp p)) j).f7 = (getL ns j).f7 := fun j => by
  rw [hL]; split
  ·rename_i e; rw [e]; exact ⟨rfl, rfl, rfl, rfl⟩
  ·exact ⟨rfl, rfl, rfl, rfl⟩
 have h5 : ∀ j, j ≠ v → (getL (turnF ns v (nUp p)) j).f5 = (getL ns j).f5 := fun j hj => by rw [hL, if_neg hj]
 have h5v : (getL (turnF ns v (nUp p)) v).f5 = p := by rw [hL, if_pos rfl]; rfl
 have hA : ∀ {i}, ReachA ns v i → Reach (turnF ns v (nUp p)) i := fun hr => by
  induction hr with
  | root _ => exact .root
  | up hi h1 h2 _ ih => exact .up (by rw [hB]; exact h1) ((hfl _).1.trans h2) (by rw [h5 _ hi]; exact ih)
 have hV : Reach (turnF ns v (nUp p)) v := .up (by rw [hB]; exact hv) ((hfl v).1.trans hk) (by rw [h5v]; exact hA hp)
 have hmv : ∀ {i}, Reach ns i → Reach (turnF ns v (nUp p)) i := fun hr => by
  induction hr with
  | root => exact .root
  | up h1 h2 _ ih =>
   rename_i i _
   rcases Decidable.em (i = v) with e | e
   ·rw [e]; exact hV
   ·exact .up (by rw [hB]; exact h1) ((hfl _).1.trans h2) (by rw [h5 _ e]; exact ih)
 refine ⟨clean_turn h.clean (nUp_f0 p) hv, ?_, fun i hi => ?_, fun i y hy => ?_, fun i hi hi0 => ?_, fun i hi hi0 hiv hz => ?_, fun i hi hi0 hiv hk2 hz => ?_, fun i hi hi0 hiv hk2 hz => ?_, fun hvb hk2 => ?_⟩
 ·rw [hL, if_neg (fun e => hv0 e.symm)]; exact h.root
 ·rw [hB] at hi
  rw [hL]; split
  ·have := h.node _ hv
   exact ⟨this.kind, this.mode, this.open_, this.names, this.data, this.sorted⟩
  ·exact h.node i hi
 ·rw [(hfl i).2.2.2] at hy
  rw [hB]; exact h.ents i y hy
 ·rw [hB] at hi
  rw [hc, (hfl i).2.1]; exact h.links i hi hi0
 ·rw [hB] at hi
  rw [hc] at hz
  rw [(hfl i).2.2.1]; exact h.held i hi hi0 hiv hz
 ·rw [hB] at hi
  rw [hc] at hz
  rw [(hfl i).1] at hk2
  rw [(hfl i).2.2.2, h5 i hiv]; exact h.lone i hi hi0 hiv hk2 hz
 ·rw [hB] at hi
  rw [hc] at hz ⊢
  rw [(hfl i).1] at hk2
  rw [h5 i hiv]
  obtain ⟨p1, p2, p3⟩ := h.par i hi hi0 hiv hk2 hz
  refine ⟨p1, ?_, hmv p3⟩
  unfold countF; rw [(hfl _).2.2.2]; exact p2
 ·rw [hB] at hvb
  rw [(hfl v).1] at hk2
  rw [hc]; exact h.vdir hvb hk2
end Go.Proofs.YtpfbimkpcnnfkaaGreatDoor.Sx
set_option linter.unusedVariables false
set_option linter.unusedSimpArgs false
namespace Go.Proofs.YtpfbimkpcnnfkaaGreatDoor.Sx
open Go Go.RowKit Go.Proofs.YtpfbimkpcnnfkaaGreatDoor Go.Proofs.YtpfbimkpcnnfkaaGreatDoor.Ext
structure Right (ns : List Nd) (m r : Int) : Prop where
 rt : Rt ns
 len : (ns.length : Int) ≤ m
 bytes : bytesF ns ≤ r
 few : ns.length ≤ 100
 ents : ∀ n ∈ ns, n.f7.length ≤ 60
theorem right_ok {ns : List Nd} {m r : Int} (h : okF ns m r = true) : Right ns m r := by
 have h' := h
 unfold okF at h
 rw [Bool.and_eq_true, Bool.and_eq_true] at h
 have hr := h.2.2
 unfold rightF at hr
 rw [Bool.and_eq_true] at hr
 have h4 := of_decide_eq_true hr.1
 exact ⟨rt_of h.2.2, h4.2.1, h4.2.2.1, of_decide_eq_true h.2.1, fun n hn => (nd9_of h' n hn).len⟩
theorem Right.right {ns : List Nd} {m r : Int} (h : Right ns m r) : rightF ns m r = true := right_of h.rt h.len h.bytes
theorem enter_free {ns : List Nd} {m r who from_ : Int} {path : ByteArray} {n : Nd} {slash : Int} {s : Sp} (h : (enterF ns m r who from_ path n slash).2.2 = 0) (hw : walkF ns who from_ path false = (s, 0)) : freeE ns who s = 0 := by
 unfold enterF at h
 rw [hw] at h
 simp only [not_true, if_false] at h
 unfold enterAt at h
 split at h
 ·rename_i h2; exact absurd h h2.2.2
 split at h
 ·rename_i h3; exact absurd h h3
 ·rename_i h3; simpa using h3
theorem free_alive {ns : List Nd} {who : Int} {s : Sp} (h : freeE ns who s = 0) : s.f2 < 0 ∧ 1 ≤ (getL ns s.f0).f3 := by
 unfold freeE at h
 split at h
 ·cases h
 split at h
 ·cases h
 exact ⟨by omega, by omega⟩
theorem RtG.alive {ns : List Nd} {v : Int} {k : Nat} (h : RtG ns v k) {p : Int} (hb : getB ns p = true) (hv : p ≠ v) (h3 : 1 ≤ (getL ns p).f3) : p = 0 ∨ cnt ns p ≠ 0 := by
 rcases Decidable.em (p = 0) with h0 | h0
 ·exact .inl h0
 ·have := h.links p hb h0
  rw [if_neg hv] at this
  exact .inr (by omega)
theorem ino_find {l : List En} {name : ByteArray} {v : Int} (h : inoL l name = v) (h0 : 0 ≤ v) : ∃ e, findL l name = some e ∧ e.f1 = v := by
 unfold inoL at h
 cases hf : findL l name with
 | none => rw [hf] at h; have h : (-1 : Int) = v := h; omega
 | some e => rw [hf] at h; exact ⟨e, rfl, h⟩
theorem enter_right {ns : List Nd} {m r who from_ : Int} {path : ByteArray} {n : Nd} {slash : Int} (h : Right ns m r) (hn : NodeR n) (h7 : n.f7 = []) : rightF (enterF ns m r who from_ path n slash).1 m r = true := by
 by_cases he : (enterF ns m r who from_ path n slash).2.2 = 0
 ·obtain ⟨s, hw, h2, _, _, ha, e1, e2⟩ := enter_ok he
  have hR := h.rt
  have hs := hR.spot hw
  obtain ⟨g1, g2, g3, g4⟩ := hs.free hR h2
  have hnm := walk_name hw h2
  have hN : NodeR (newNd who s.f0 n) := ⟨hn.kind, hn.mode, hn.open_, hn.names, hn.data, hn.sorted⟩
  obtain ⟨q1, q2, q3, q4, q5, q6, q7⟩ := hR.add ha hN rfl h7
  have hal := (free_alive (enter_free he hw)).2
  have hsz := add_size ha h.len
  have hsb := (q6 _ hs.dir.1)
  rw [e1]
  generalize (addF ns m r (newNd who s.f0 n)).1 = a at q1 q2 q3 q6 q7 hsz hsb ⊢
  generalize (addF ns m r (newNd who s.f0 n)).2.1 = i at q1 q2 q3 q4 q5 ⊢
  have hia : i ≠ s.f0 := fun e => by rw [e, hs.dir.1] at q5; cases q5
  refine right_of (q1.put hsb.1 (by rw [hsb.2]; exact hs.dir.2) (by rw [hsb.2]; exact g4) (walk_legal hw hnm g2 g3) q2 q4 hia (q1.alive hsb.1 (fun e => hia e.symm) (by rw [hsb.2]; exact hal)) (fun hk => ?_)) ?_ ?_
  ·rw [q3] at hk ⊢
   show (if n.f0 = 2 then s.f0 else n.f5) = s.f0
   exact if_pos hk
  ·unfold putN; rw [turn_len]; exact hsz.1
  ·unfold putN; rw [bytes_turn (nPut_f0 s i) (fun _ => rfl) hsb.1]; exact hsz.2
 ·have : (enterF ns m r who from_ path n slash).1 = ns := by
   unfold enterF at he ⊢
   split
   ·rfl
   rename_i h1
   rw [if_neg h1] at he
   unfold enterAt at he ⊢
   split
   ·rfl
   rename_i h1
   rw [if_neg h1] at he
   split
   ·rfl
   rename_i h1
   rw [if_neg h1] at he
   split
   ·rfl
   rename_i h1
   rw [if_neg h1] at he
   exact absurd rfl he
  rw [this]; exact h.right
theorem fileN_r (mode : Int) : NodeR (fileN mode) := ⟨⟨(by decide : (1 : Int) ≤ 1), (by decide : (1 : Int) ≤ 3)⟩, and63 mode, (by decide : (0 : Int) ≤ 0), fun _ => rfl, fun h => (by have h : (1 : Int) = 2 := h; omega), rfl⟩
theorem dirN_r (mode : Int) : NodeR (dirN mode) := ⟨⟨(by decide : (1 : Int) ≤ 2), (by decide : (2 : Int) ≤ 3)⟩, and63 mode, (by decide : (0 : Int) ≤ 0), fun _ => rfl, fun _ => dot0, rfl⟩
theorem linkN_r (text : ByteArray) : NodeR (linkN text) := ⟨⟨(by decide : (1 : Int) ≤ 3), (by decide : (3 : Int) ≤ 3)⟩, ⟨(by decide : (0 : Int) ≤ 63), (by decide : (63 : Int) ≤ 63)⟩, (by decide : (0 : Int) ≤ 0), fun _ => rfl, fun h => (by have h : (3 : Int) = 2 := h; omega), rfl⟩
theorem make_right {ns : List Nd} {m r : Int} (h : Right ns m r) (who from_ : Int) (path : ByteArray) (mode : Int) : rightF (makeF ns m r who from_ path mode).1 m r = true := enter_right h (fileN_r mode) rfl
theorem mkdir_right {ns : List Nd} {m r : Int} (h : Right ns m r) (who from_ : Int) (path : ByteArray) (mode : Int) : rightF (mkdirF ns m r who from_ path mode).1 m r = true := enter_right h (dirN_r mode) rfl
theorem sym_right {ns : List Nd} {m r : Int} (h : Right ns m r) (who from_ : Int) (text path : ByteArray) : rightF (symF ns m r who from_ text path).1 m r = true := by
 unfold symF
 split
 ·exact h.right
 split
 ·exact h.right
 exact enter_right h (linkN_r text) rfl
theorem bytes_lose {ns : List Nd} {s : Sp} (h0 : getB ns s.f0 = true) (h2 : getB ns s.f2 = true) : bytesF (loseN ns s) ≤ bytesF ns := by
 have hb : getB (dropN ns s) s.f2 = true := by unfold dropN; rw [getB_turn (nDrop_f0 s)]; exact h2
 have h3 : bytesF (turnF (dropN ns s) s.f2 nLess) = bytesF ns := by
  rw [bytes_turn nLess_f0 (fun _ => rfl) hb]
  unfold dropN
  exact bytes_turn (nDrop_f0 s) (fun _ => rfl) h0
 unfold loseN
 rw [← h3]
 exact bytes_settle _
theorem lose_right {ns : List Nd} {m r : Int} (h : Right ns m r) {s : Sp} (hs : SpotOk ns s) (h2 : getB ns s.f2 = true) (hd : dotsB s.f1 = false) (hem : (getL ns s.f2).f0 = 2 → (getL ns s.f2).f7 = []) : rightF (loseN ns s) m r = true := by
 obtain ⟨e, hf, he⟩ := ino_find (hs.ino hd).symm (getL_at h2).1
 have hg := h.rt.g.lose hs.dir.1 hs.dir.2 hf he (fun e => by rw [e, getB_neg] at h2; cases h2) hem (fun hk => by rw [getL_no (getB_neg ns)] at hk; cases hk) (Nat.le_trans (cnt_le h.ents h.few _) (by decide))
 exact right_of hg.rt (by rw [lose_len]; exact h.len) (Int.le_trans (bytes_lose hs.dir.1 h2) h.bytes)
theorem unl_right {ns : List Nd} {m r : Int} (h : Right ns m r) (who from_ : Int) (path : ByteArray) : rightF (unlF ns who from_ path).1 m r = true := by
 unfold unlF
 split
 ·exact h.right
 rename_i h1
 have h1 : (thereF ns who from_ path).2 = 0 := by simpa using h1
 obtain ⟨k1, k2⟩ := h.rt.there h1
 have hw : walkF ns who from_ path false = ((thereF ns who from_ path).1, 0) := Prod.ext rfl k1
 generalize (thereF ns who from_ path).1 = s at hw k2 ⊢
 split
 ·exact h.right
 rename_i hk
 split
 ·exact h.right
 have hs := h.rt.spot hw
 refine lose_right h hs k2 ?_ fun hk2 => absurd hk2 hk
 cases hd : dotsB s.f1 with
 | false => rfl
 | true =>
  exfalso
  unfold dotsB at hd
  have hd := of_decide_eq_true hd
  have hdir := hs.dir
  rcases hs.alt with h3 | h3
  ·exact hk (by rw [h3.2]; exact hdir.2)
  ·unfold namedB at h3
   split at h3
   ·exact hk (by rw [h3]; exact hdir.2)
   split at h3
   ·exact hk (by rw [h3]; exact (h.rt.up hdir.1 hdir.2).2)
   ·rename_i n1 n2
    rcases hd with hd | hd | hd
    ·obtain ⟨x, x1, x2, x3⟩ := inoL_mem (l := (getL ns s.f0).f7) (name := s.f1) (by have := (getL_at k2).1; omega)
     have hl := legal_of (h.rt.node _ hdir.1).sorted x x1
     unfold legalF at hl
     rw [if_pos (.inl (((ord_zero x s.f1).1 x3).trans hd))] at hl
     cases hl
    ·exact n1 hd
    ·exact n2 hd
theorem rmd_right {ns : List Nd} {m r : Int} (h : Right ns m r) (who from_ : Int) (path : ByteArray) : rightF (rmdF ns who from_ path).1 m r = true := by
 unfold rmdF
 split
 ·exact h.right
 rename_i h1
 have h1 : (thereF ns who from_ path).2 = 0 := by simpa using h1
 obtain ⟨k1, k2⟩ := h.rt.there h1
 have hw : walkF ns who from_ path false = ((thereF ns who from_ path).1, 0) := Prod.ext rfl k1
 generalize (thereF ns who from_ path).1 = s at hw k2 ⊢
 unfold rmdAt
 split
 ·exact h.right
 split
 ·exact h.right
 rename_i n1
 split
 ·exact h.right
 rename_i n2
 split
 ·exact h.right
 split
 ·exact h.right
 rename_i n3
 refine lose_right h (h.rt.spot hw) k2 ?_ fun _ => by simpa using n3
 unfold dotsB
 exact decide_eq_false fun h' => by
  rcases h' with h' | h' | h'
  ·exact n1 (.inl h')
  ·exact n1 (.inr h')
  ·exact n2 h'
theorem chm_right {ns : List Nd} {m r : Int} (h : Right ns m r) (who from_ : Int) (path : ByteArray) (mode : Int) : rightF (chmF ns who from_ path mode).1 m r = true := by
 unfold chmF
 split
 ·exact h.right
 rename_i h1
 have h1 : (nodeF ns who from_ path true).2 = 0 := by simpa using h1
 have hb : getB ns (nodeF ns who from_ path true).1 = true := by
  unfold nodeF at h1 ⊢
  generalize hw : walkF ns who from_ path true = w at h1 ⊢
  obtain ⟨s, e⟩ := w
  simp only at h1 ⊢
  split at h1
  ·rename_i h2; exact absurd h1 h2
  rename_i h2
  rw [if_neg h2]
  have h2 : e = 0 := by simpa using h2
  subst h2
  split at h1
  ·cases h1
  rename_i h3
  rw [if_neg h3]
  exact (h.rt.walk hw).resolve_left h3
 generalize (nodeF ns who from_ path true).1 = i at hb ⊢
 split
 ·exact h.right
 exact right_of (h.rt.mode hb mode) (by rw [turn_len]; exact h.len) (by rw [bytes_turn (nMode_f0 mode) (fun _ => rfl) hb]; exact h.bytes)
end Go.Proofs.YtpfbimkpcnnfkaaGreatDoor.Sx
set_option linter.unusedVariables false
set_option linter.unusedSimpArgs false
namespace Go.Proofs.YtpfbimkpcnnfkaaGreatDoor.Sx
open Go Go.RowKit Go.Proofs.YtpfbimkpcnnfkaaGreatDoor Go.Proofs.YtpfbimkpcnnfkaaGreatDoor.Ext
theorem link_right {ns : List Nd} {m r : Int} (h : Right ns m r) (who from_ : Int) (old path : ByteArray) : rightF (linkF ns who from_ old path).1 m r = true := by
 unfold linkF
 split
 ·exact h.right
 rename_i h1
 have h1 : (thereF ns who from_ old).2 = 0 := by simpa using h1
 obtain ⟨k1, k2⟩ := h.rt.there h1
 generalize (thereF ns who from_ old).1 = o at k2 ⊢
 generalize hw : walkF ns who from_ path false = w
 obtain ⟨s, e⟩ := w
 simp only
 unfold linkAt
 split
 ·exact h.right
 rename_i hk
 split
 ·exact h.right
 rename_i h20
 split
 ·exact h.right
 rename_i he
 have he : e = 0 := by simpa using he
 subst he
 split
 ·exact h.right
 rename_i hf
 have hf : freeE ns who s = 0 := by simpa using hf
 split
 ·exact h.right
 have hR := h.rt
 obtain ⟨h2, hal⟩ := free_alive hf
 have hs := hR.spot hw
 obtain ⟨g1, g2, g3, g4⟩ := hs.free hR h2
 have hnm := walk_name hw h2
 have ho0 : o.f2 ≠ 0 := fun e => hk (by rw [e]; exact hR.root.1)
 have hos : o.f2 ≠ s.f0 := fun e => hk (by rw [e]; exact hs.dir.2)
 have hg := hR.more k2 ho0 hk (by omega)
 have hL : getL (turnF ns o.f2 nMore) s.f0 = getL ns s.f0 := by rw [turn_get nMore_f0 k2, if_neg (fun e => hos e.symm)]
 have hB : ∀ j, getB (turnF ns o.f2 nMore) j = getB ns j := fun j => getB_turn nMore_f0 ns o.f2 j
 have hsb : getB (turnF ns o.f2 nMore) s.f0 = true := by rw [hB]; exact hs.dir.1
 refine right_of (hg.put hsb (by rw [hL]; exact hs.dir.2) (by rw [hL]; exact g4) (walk_legal hw hnm g2 g3) (by rw [hB]; exact k2) ho0 hos (hg.alive hsb (fun e => hos e.symm) (by rw [hL]; exact hal)) (fun hk2 => ?_)) ?_ ?_
 ·rw [turn_f0 nMore_f0] at hk2; exact absurd hk2 hk
 ·unfold putN; rw [turn_len, turn_len]; exact h.len
 ·unfold putN; rw [bytes_turn (nPut_f0 s o.f2) (fun _ => rfl) hsb, bytes_turn nMore_f0 (fun _ => rfl) k2]; exact h.bytes
theorem set_comm (a : List Nd) {i j : Int} (h : i ≠ j) (x y : Nd) : setL (setL a i x) j y = setL (setL a j y) i x := by
 refine List.ext_getElem? fun k => ?_
 rw [setL_get, setL_get, setL_get, setL_get, setL_len, setL_len]
 by_cases h1 : (k : Int) = j ∧ k < a.length
 ·rw [if_pos h1, if_neg (fun h' => h (h'.1.symm.trans h1.1)), if_pos h1]
 ·rw [if_neg h1]
  by_cases h2 : (k : Int) = i ∧ k < a.length
  ·rw [if_pos h2, if_pos h2]
  ·rw [if_neg h2, if_neg h2, if_neg h1]
theorem turn_comm (a : List Nd) {i j : Int} (h : i ≠ j) (f g : Nd → Nd) : turnF (turnF a i f) j g = turnF (turnF a j g) i f := by
 unfold turnF
 rw [getL_set, if_neg (fun h' => h h'.1.symm), getL_set, if_neg (fun h' => h h'.1), set_comm a h]
theorem settle_comm (a : List Nd) {i j : Int} (h : i ≠ j) (f : Nd → Nd) : settleF (turnF a i f) j = turnF (settleF a j) i f := by
 have hB : ∀ x, getB (setL a i x) j = getB a j := fun x => by rw [getB_set, if_neg (fun h' => h h'.1.symm)]
 have hL : ∀ x, getL (setL a i x) j = getL a j := fun x => by rw [getL_set, if_neg (fun h' => h h'.1.symm)]
 unfold settleF turnF
 rw [hB, hL]
 split
 ·rw [set_comm a h, getL_set, if_neg (fun h' => h h'.1)]
 ·rfl
theorem lose_comm (a : List Nd) {v : Int} {t : Sp} (h0 : v ≠ t.f0) (h2 : v ≠ t.f2) (f : Nd → Nd) : loseN (turnF a v f) t = turnF (loseN a t) v f := by
 unfold loseN dropN
 rw [turn_comm a h0 f (nDrop t), turn_comm _ h2 f nLess, settle_comm _ h2 f]
theorem put_comm (a : List Nd) {v : Int} {t : Sp} (h0 : v ≠ t.f0) (i : Int) (f : Nd → Nd) : putN (turnF a v f) t i = turnF (putN a t i) v f := by
 unfold putN
 exact turn_comm a h0 f (nPut t i)
theorem ReachA.move {ns x : List Nd} {v : Int} (h : ∀ j, getB ns j = true → getB x j = true ∧ (getL x j).f0 = (getL ns j).f0 ∧ (getL x j).f5 = (getL ns j).f5) {i : Int} (hr : ReachA ns v i) : ReachA x v i := by
 induction hr with
 | root h0 => exact .root h0
 | up hi h1 h2 _ ih =>
  obtain ⟨g1, g2, g3⟩ := h _ h1
  exact .up hi g1 (g2.trans h2) (by rw [g3]; exact ih)
theorem findL_drop_none {l : List En} {name : ByteArray} (h : findL l name = none) (nm : ByteArray) : findL (dropF l nm) name = none := by
 rw [findL_none] at h ⊢
 exact fun x hx => h x (mem_drop.1 hx).1
theorem lose_get {ns : List Nd} {t : Sp} (hb : getB ns t.f0 = true) {j : Int} (hj : j ≠ t.f2) : getB (loseN ns t) j = getB ns j ∧ getL (loseN ns t) j = if j = t.f0 then nDrop t (getL ns t.f0) else getL ns j := by
 have hbs : ∀ (m : List Nd), getB (settleF m t.f2) j = getB m j := fun m => by
  unfold settleF
  split
  ·rw [getB_set, if_neg (fun h' => hj h'.1)]
  ·rfl
 unfold loseN
 refine ⟨?_, ?_⟩
 ·rw [hbs, getB_turn nLess_f0]; unfold dropN; rw [getB_turn (nDrop_f0 t)]
 ·rw [settle_f0 hj, getL_turn nLess_f0, if_neg (fun h' => hj h'.1)]
  exact turn_get (nDrop_f0 t) hb j
theorem over_alive {ns : List Nd} {ino : Int} {t : Sp} (ho : overE ns ino t = 0) : ¬ (getL ns t.f0).f3 < 1 := fun h1 => by
 unfold overE at ho
 rw [if_pos h1] at ho
 exact absurd ho (by decide)
theorem over_dir {ns : List Nd} {ino : Int} {t : Sp} (ho : overE ns ino t = 0) (hk : (getL ns ino).f0 = 2) : benF ns ns.length t.f0 ino = false ∧ (0 ≤ t.f2 → (getL ns t.f2).f0 = 2 → (getL ns t.f2).f7 = []) := by
 have h1 := over_alive ho
 unfold overE at ho
 rw [if_neg h1, if_neg (show ¬ ¬ (getL ns ino).f0 = 2 from fun h' => h' hk)] at ho
 by_cases hb : benF ns ns.length t.f0 ino = true
 ·rw [if_pos hb] at ho; exact absurd ho (by decide)
 rw [if_neg hb] at ho
 refine ⟨by simpa using hb, fun h0 h2 => ?_⟩
 rw [if_neg (show ¬ t.f2 < 0 by omega), if_neg (show ¬ ¬ (getL ns t.f2).f0 = 2 from fun h' => h' h2)] at ho
 by_cases h3 : (getL ns t.f2).f7 = []
 ·exact h3
 ·rw [if_pos h3] at ho; exact absurd ho (by decide)
theorem over_file {ns : List Nd} {ino : Int} {t : Sp} (ho : overE ns ino t = 0) (hk : ¬ (getL ns ino).f0 = 2) : ¬ (getL ns t.f2).f0 = 2 := fun h2 => by
 have h1 := over_alive ho
 unfold overE at ho
 rw [if_neg h1, if_pos hk, if_pos h2] at ho
 exact absurd ho (by decide)
theorem ren_right {ns : List Nd} {m r : Int} (h : Right ns m r) (wa fa wb fb : Int) (old path : ByteArray) : rightF (renF ns wa fa wb fb old path).1 m r = true := by
 rcases Decidable.em ((renF ns wa fa wb fb old path).2 = 0) with he | he
 rotate_left
 ·rw [renF_err he]; exact h.right
 generalize hw1 : walkF ns wa fa old false = w1
 obtain ⟨s, e1⟩ := w1
 generalize hw2 : walkF ns wb fb path false = w2
 obtain ⟨t, e2⟩ := w2
 obtain ⟨q1, q2, q3, q4⟩ := ren_ok hw1 hw2 he
 subst q1 q3
 rcases q4 with q4 | ⟨hne, d1, d2, ho, hx⟩
 ·rw [q4.2]; exact h.right
 rw [hx]
 have hR := h.rt
 have hs := hR.spot hw1
 have ht := hR.spot hw2
 have hv := (hR.walk hw1).resolve_left (by omega)
 have htw := hR.walk hw2
 obtain ⟨b1, k1⟩ := hs.dir
 obtain ⟨b2, k2⟩ := ht.dir
 obtain ⟨e, hf, hfe⟩ := ino_find (hs.ino d1).symm q2
 have hv0 : s.f2 ≠ 0 := by rw [← hfe]; exact (hR.ents _ e (find_mem hf)).2
 have hal : 1 ≤ (getL ns t.f0).f3 := by have := over_alive ho; omega
 have hvt : s.f2 ≠ t.f0 := fun e0 => by
  have hb := (over_dir ho (by rw [e0]; exact k2)).1
  rw [e0] at hb
  cases hl : ns.length with
  | zero => rw [hl] at hb; unfold benF at hb; exact absurd rfl (of_decide_eq_false hb)
  | succ f => rw [hl] at hb; unfold benF at hb; rw [if_pos rfl] at hb; cases hb
 have hvs : s.f2 ≠ s.f0 := by rw [← hfe]; exact hR.not_own (find_mem hf)
 have hlegal : legalF t.f1 = 0 := by
  unfold dotsB at d2
  have d2 := of_decide_eq_false d2
  exact walk_legal hw2 (fun h' => d2 (.inl h')) (fun h' => d2 (.inr (.inl h'))) (fun h' => d2 (.inr (.inr h')))
 -- the name is dropped
 have hg1 := hR.g.drop b1 hf
 rw [hfe] at hg1
 have B1 : ∀ j, getB (dropN ns s) j = getB ns j := fun j => by unfold dropN; rw [getB_turn (nDrop_f0 s)]
 have L1 : ∀ j, getL (dropN ns s) j = if j = s.f0 then nDrop s (getL ns s.f0) else getL ns j := fun j => turn_get (nDrop_f0 s) b1 j
 have F1 : ∀ j, (getL (dropN ns s) j).f0 = (getL ns j).f0 ∧ (getL (dropN ns s) j).f3 = (getL ns j).f3 ∧ (getL (dropN ns s) j).f5 = (getL ns j).f5 := fun j => by
  rw [L1]; split
  ·rename_i e; rw [e]; exact ⟨rfl, rfl, rfl⟩
  ·exact ⟨rfl, rfl, rfl⟩
 -- what is moved comes under its new directory
 obtain ⟨n1, hn1⟩ : ∃ n1, (if (getL ns s.f2).f0 = 2 then turnF (dropN ns s) s.f2 (nUp t.f0) else dropN ns s) = n1 := ⟨_, rfl⟩
 have hv1 : getB (dropN ns s) s.f2 = true := by rw [B1]; exact hv
 have hg2 : RtG n1 s.f2 1 := by
  rw [← hn1]; split
  ·rename_i hk
   refine hg1.up hv1 hv0 ((F1 _).1.trans hk) (ReachA.move (ns := ns) (fun j hj => ⟨by rw [B1]; exact hj, (F1 j).1, (F1 j).2.2⟩) (reachA_of hv0 ns.length t.f0 ?_ ?_))
   ·have hrt : Reach ns t.f0 := by
     rcases Decidable.em (t.f0 = 0) with h0 | h0
     ·rw [h0]; exact .root
     ·have := (hR.links _ b2 h0).1
      exact (hR.par _ b2 h0 k2 (by omega)).2.2
    exact hrt.rooted hR.get0
   ·exact (over_dir ho hk).1
  ·exact hg1
 have B2 : ∀ j, getB n1 j = getB ns j := fun j => by
  rw [← hn1]; split
  ·rw [getB_turn (nUp_f0 t.f0), B1]
  ·exact B1 j
 have L2 : ∀ j, j ≠ s.f2 → getL n1 j = getL (dropN ns s) j := fun j hj => by
  rw [← hn1]; split
  ·rw [turn_get (nUp_f0 t.f0) hv1, if_neg hj]
  ·rfl
 have hup2 : (getL n1 s.f2).f0 = 2 → (getL n1 s.f2).f5 = t.f0 := fun hk => by
  rw [← hn1] at hk ⊢
  split
  ·rw [turn_get (nUp_f0 t.f0) hv1, if_pos rfl]; rfl
  ·rename_i h0
   rw [if_neg h0, (F1 _).1] at hk; exact absurd hk h0
 have hby1 : bytesF n1 = bytesF ns := by
  have e1 : bytesF (dropN ns s) = bytesF ns := by unfold dropN; exact bytes_turn (nDrop_f0 s) (fun _ => rfl) b1
  rw [← hn1]; split
  ·rw [bytes_turn (nUp_f0 t.f0) (fun _ => rfl) hv1, e1]
  ·exact e1
 have hle1 : n1.length = ns.length := by
  rw [← hn1]; split
  ·rw [turn_len]; unfold dropN; rw [turn_len]
  ·unfold dropN; rw [turn_len]
 have ht1 : getL n1 t.f0 = if t.f0 = s.f0 then nDrop s (getL ns s.f0) else getL ns t.f0 := by rw [L2 _ (fun e => hvt e.symm), L1]
 have b2' : getB n1 t.f0 = true := by rw [B2]; exact b2
 have k2' : (getL n1 t.f0).f0 = 2 ∧ 1 ≤ (getL n1 t.f0).f3 := by
  rw [L2 _ (fun e => hvt e.symm), (F1 _).1, (F1 _).2.1]; exact ⟨k2, hal⟩
 -- what was there is lost
 obtain ⟨n2, hn2⟩ : ∃ n2, (if 0 ≤ t.f2 then loseN n1 t else n1) = n2 := ⟨_, rfl⟩
 have hren : renAt ns s t = putN n2 t s.f2 := by
  unfold renAt
  simp only
  rw [← hn2, ← hn1]
  by_cases hk : (getL ns s.f2).f0 = 2
  ·simp only [if_pos hk]
   split
   ·rw [lose_comm _ hvt hne, put_comm _ hvt]
   ·rw [put_comm _ hvt]
  ·simp only [if_neg hk]
 have hg3 : RtG n2 s.f2 1 ∧ getB n2 t.f0 = true ∧ (getL n2 t.f0).f0 = 2 ∧ 1 ≤ (getL n2 t.f0).f3 ∧ findL (getL n2 t.f0).f7 t.f1 = none ∧ getB n2 s.f2 = true ∧ ((getL n2 s.f2).f0 = 2 → (getL n2 s.f2).f5 = t.f0) ∧ n2.length = ns.length ∧ bytesF n2 ≤ bytesF ns := by
  rw [← hn2]
  by_cases h0 : 0 ≤ t.f2
  ·rw [if_pos h0]
   have hw := htw.resolve_left (by omega)
   obtain ⟨y, hy, hye⟩ := ino_find (ht.ino d2).symm h0
   have htt : t.f0 ≠ t.f2 := fun e0 => by
    have := hR.not_own (find_mem hy)
    exact this (hye.trans e0.symm)
   have hy1 : findL (getL n1 t.f0).f7 t.f1 = some y := by
    rw [ht1]; split
    ·rename_i hts
     show findL (dropF (getL ns s.f0).f7 s.f1) t.f1 = some y
     rw [findL_drop_ne (fun e0 => hne ?_), ← hts]
     ·exact hy
     ·rw [hs.ino d1, ht.ino d2, hts]
      unfold inoL
      rw [findL_congr e0]
    ·exact hy
   have hov : (getL ns t.f2).f0 = 2 → (getL ns t.f2).f7 = [] := fun hk => by
    rcases Decidable.em ((getL ns s.f2).f0 = 2) with hks | hks
    ·exact (over_dir ho hks).2 h0 hk
    ·exact absurd hk (over_file ho hks)
   have hts0 : t.f2 ≠ s.f0 := fun e0 => by
    have h7 := hov (by rw [e0]; exact k1)
    have := find_mem hf
    rw [← e0, h7] at this; cases this
   have hL2 : getL n1 t.f2 = getL ns t.f2 := by rw [L2 _ (fun e => hne e.symm), L1, if_neg hts0]
   have hcn : cnt n1 t.f2 ≤ 1000000 := by
    have c1 : cnt n1 t.f2 = cnt (dropN ns s) t.f2 := by
     rw [← hn1]; split
     ·exact cnt_same hv1 (by rfl) _
     ·rfl
    have c2 := cnt_drop b1 (rising_of (hR.node _ b1).sorted) hf t.f2
    have c3 := cnt_le h.ents h.few t.f2
    omega
   have hl := hg2.lose b2' k2'.1 hy1 hye (fun e => hne e.symm) (fun hk => by rw [hL2] at hk ⊢; exact hov hk) (fun hk => by rw [hup2 hk]; exact htt) hcn
   obtain ⟨z1, z2⟩ := lose_get b2' htt
   obtain ⟨z3, z4⟩ := lose_get b2' hne
   rw [if_pos rfl] at z2
   rw [if_neg hvt] at z4
   have hw1 : getB n1 t.f2 = true := by rw [B2]; exact hw
   refine ⟨hl, z1.trans b2', by rw [z2]; exact k2'.1, by rw [z2]; exact k2'.2, by rw [z2]; exact findL_drop_eq rfl, by rw [z3, B2]; exact hv, fun hk => by rw [z4] at hk ⊢; exact hup2 hk, by rw [lose_len]; exact hle1, by rw [← hby1]; exact bytes_lose b2' hw1⟩
  ·rw [if_neg h0]
   have hfr := (ht.free hR (by omega)).2.2.2
   refine ⟨hg2, b2', k2'.1, k2'.2, ?_, by rw [B2]; exact hv, hup2, hle1, Int.le_of_eq hby1⟩
   rw [ht1]; split
   ·rename_i hts
    exact findL_drop_none (by rw [← hts]; exact hfr) s.f1
   ·exact hfr
 obtain ⟨y1, y2, y3, y4, y5, y6, y7, y8, y9⟩ := hg3
 rw [hren]
 refine right_of (y1.put y2 y3 y5 hlegal y6 hv0 hvt (y1.alive y2 (fun e => hvt e.symm) y4) y7) ?_ ?_
 ·unfold putN; rw [turn_len, y8]; exact h.len
 ·unfold putN; rw [bytes_turn (nPut_f0 t s.f2) (fun _ => rfl) y2]; exact Int.le_trans y9 h.bytes
end Go.Proofs.YtpfbimkpcnnfkaaGreatDoor.Sx
set_option linter.unusedVariables false
set_option linter.unusedSimpArgs false
namespace Go.Proofs.YtpfbimkpcnnfkaaGreatDoor.Sx
open Go Go.RowKit Go.Proofs.YtpfbimkpcnnfkaaGreatDoor Go.Proofs.YtpfbimkpcnnfkaaGreatDoor.Ext
theorem CV.beside {P : Program} {f : FuncId} {args : List Value} {v u : Mem} {R : Value → List (List Value) → Mem → Prop} (h : CV P f args [] v R) (hvu : v.le u) :
  CV P f args [] u fun x cs u' => ∃ v' : Mem, v.le v' ∧ v'.le u' ∧ R x cs v' ∧ ∀ b, (∃ o, u b o ≠ none) → ∀ o, v' b o = v b o := by
 classical
 intro w hs hO hn
 refine (h w (fun b o x hx => hs b o x (hvu _ _ _ hx)) (fun x hx => by cases hx) hn).mono fun e w' ⟨x, cs, v', he, hp, hr⟩ => ?_
 have hin : ∀ b, (∃ o, u b o ≠ none) → ∀ o, v' b o = v b o := fun b ⟨o', ho'⟩ o => by
  cases hx : v' b o with
  | none =>
   cases hy : v b o with
   | none => rfl
   | some y => have := hp.le _ _ _ hy; rw [hx] at this; cases this
  | some y =>
   rcases (hp.new b o (by rw [hx]; simp)).1 with h1 | h1
   ·obtain ⟨z, hz⟩ := Option.ne_none_iff_exists'.1 h1
    have := hp.le _ _ _ hz
    rw [hz, ← this, hx]
   ·have := sees_lt hs ho'; omega
 refine ⟨x, cs, fun b o => if ∃ o', u b o' ≠ none then u b o else v' b o, he, ⟨hp.gro, hp.len, hp.has, fun b o y hy => ?_, fun b o y hy => ?_, fun b o hb => ?_, fun b o hb => ?_⟩, v', hp.le, fun b o y hy => ?_, hr, hin⟩
 ·split at hy
  ·have h1 := hs b o y hy
   have hlt := sees_lt hs (b := b) (o := o) (by rw [hy]; simp)
   unfold World.cell? at h1 ⊢
   rw [hp.gro.block b hlt (by simp)]; exact h1
  ·exact hp.sees b o y hy
 ·show (if ∃ o', u b o' ≠ none then u b o else v' b o) = some y
  rw [if_pos ⟨o, by rw [hy]; simp⟩]; exact hy
 ·have hb : (if ∃ o', u b o' ≠ none then u b o else v' b o) ≠ none := hb
  refine ⟨?_, by simp⟩
  split at hb
  ·exact .inl hb
  ·rename_i hno
   rcases (hp.new b o hb).1 with h1 | h1
   ·obtain ⟨z, hz⟩ := Option.ne_none_iff_exists'.1 h1
    exact absurd ⟨o, by rw [hvu _ _ _ hz]; simp⟩ hno
   ·exact .inr h1
 ·have hb : (if ∃ o', u b o' ≠ none then u b o else v' b o) ≠ none := hb
  split at hb
  ·exact .inl hb
  ·rename_i hno
   rcases hp.nf b o hb with h1 | h1
   ·obtain ⟨z, hz⟩ := Option.ne_none_iff_exists'.1 h1
    exact absurd ⟨o, by rw [hvu _ _ _ hz]; simp⟩ hno
   ·exact .inr h1
 ·show (if ∃ o', u b o' ≠ none then u b o else v' b o) = some y
  split
  ·rename_i hyes
   rw [hin b hyes] at hy
   exact hvu _ _ _ hy
  ·exact hy
theorem Grow.beside {v u v' u' : Mem} {s : Option Addr × Nat × Nat} {size : Nat} {es : List Value} (h : Grow v u s size es) (hsz : 0 < size) (hne : 0 < s.2.2) (hu : u.le u') (hv : v'.le u') (hb : ∀ b, (∃ o, u b o ≠ none) → ∀ o, v' b o = v b o) : Grow v' u' s size es := by
 refine ⟨hv, h.len, h.cap, h.at_.imp (fun h => h) fun ⟨b, sp, h1, h2, h3, h4⟩ => ⟨b, sp, h1, fun o => ?_, fun j x hx => hu _ _ _ (h3 j x hx), h4⟩⟩
 have hl : 0 < (es ++ sp).length := by rw [h4]; exact Nat.mul_pos hne hsz
 rw [hb b ⟨0, by rw [h3 0 _ (List.getElem?_eq_getElem hl)]; simp⟩]
 exact h2 o
end Go.Proofs.YtpfbimkpcnnfkaaGreatDoor.Sx
set_option linter.unusedVariables false
set_option linter.unusedSimpArgs false
namespace Go.Proofs.YtpfbimkpcnnfkaaGreatDoor.Sx
open Go Go.RowKit Go.Proofs.YtpfbimkpcnnfkaaGreatDoor Go.Proofs.YtpfbimkpcnnfkaaGreatDoor.Ext
def Dat (ns : List Nd) : Prop := ∀ n ∈ ns, n.f6.size ≤ 300
theorem Dat.get {ns : List Nd} (h : Dat ns) (i : Int) : (getL ns i).f6.size ≤ 300 := by
 rcases getL_cases ns i with e | e
 ·rw [e]; decide
 ·exact h _ e
theorem Dat.set {ns : List Nd} (h : Dat ns) (i : Int) {n : Nd} (hn : n.f6.size ≤ 300) : Dat (setL ns i n) := by
 unfold setL
 split
 ·intro x hx
  rcases List.mem_or_eq_of_mem_set hx with hx | rfl
  ·exact h x hx
  ·exact hn
 ·exact h
theorem Dat.turn {ns : List Nd} (h : Dat ns) (i : Int) {f : Nd → Nd} (hf : ∀ n, (f n).f6 = n.f6) : Dat (turnF ns i f) := h.set i (by rw [hf]; exact h.get i)
theorem Dat.settle {ns : List Nd} (h : Dat ns) (i : Int) : Dat (settleF ns i) := by
 unfold settleF
 split
 ·exact h.set i (by decide)
 ·exact h
theorem Dat.drop {ns : List Nd} (h : Dat ns) (s : Sp) : Dat (dropN ns s) := h.turn _ fun _ => rfl
theorem Dat.put {ns : List Nd} (h : Dat ns) (s : Sp) (i : Int) : Dat (putN ns s i) := h.turn _ fun _ => rfl
theorem Dat.lose {ns : List Nd} (h : Dat ns) (s : Sp) : Dat (loseN ns s) := ((h.drop s).turn s.f2 (f := nLess) fun _ => rfl).settle _
theorem Dat.add {ns : List Nd} (h : Dat ns) {m r : Int} {N : Nd} (hN : N.f6.size ≤ 300) : Dat (addF ns m r N).1 := by
 unfold addF
 split
 ·exact h
 ·split
  ·intro x hx
   rcases List.mem_or_eq_of_mem_set hx with hx | rfl
   ·exact h x hx
   ·exact hN
  ·intro x hx
   rcases List.mem_append.1 hx with hx | hx
   ·exact h x hx
   ·rw [List.mem_singleton.1 hx]; exact hN
theorem Dat.enter {ns : List Nd} (h : Dat ns) (m r who from_ : Int) (path : ByteArray) {n : Nd} (hn : n.f6.size ≤ 300) (slash : Int) : Dat (enterF ns m r who from_ path n slash).1 := by
 unfold enterF
 split
 ·exact h
 unfold enterAt
 split
 ·exact h
 split
 ·exact h
 split
 ·exact h
 exact (h.add (N := newNd who (walkF ns who from_ path false).1.f0 n) hn).put _ _
theorem Dat.sym {ns : List Nd} (h : Dat ns) (m r who from_ : Int) (text path : ByteArray) : Dat (symF ns m r who from_ text path).1 := by
 unfold symF
 split
 ·exact h
 split
 ·exact h
 ·rename_i h1; exact h.enter m r who from_ path (n := linkN text) (by show text.size ≤ 300; omega) 4
theorem Dat.link {ns : List Nd} (h : Dat ns) (who from_ : Int) (old path : ByteArray) : Dat (linkF ns who from_ old path).1 := by
 unfold linkF linkAt
 repeat' split
 all_goals first | exact h | exact (h.turn _ (f := nMore) fun _ => rfl).put _ _
theorem Dat.unl {ns : List Nd} (h : Dat ns) (who from_ : Int) (path : ByteArray) : Dat (unlF ns who from_ path).1 := by
 unfold unlF
 repeat' split
 all_goals first | exact h | exact h.lose _
theorem Dat.rmd {ns : List Nd} (h : Dat ns) (who from_ : Int) (path : ByteArray) : Dat (rmdF ns who from_ path).1 := by
 unfold rmdF rmdAt
 repeat' split
 all_goals first | exact h | exact h.lose _
theorem Dat.chm {ns : List Nd} (h : Dat ns) (who from_ : Int) (path : ByteArray) (mode : Int) : Dat (chmF ns who from_ path mode).1 := by
 unfold chmF
 repeat' split
 all_goals first | exact h | exact h.turn _ (f := nMode mode) fun _ => rfl
theorem Dat.ren {ns : List Nd} (h : Dat ns) (wa fa wb fb : Int) (old path : ByteArray) : Dat (renF ns wa fa wb fb old path).1 := by
 have key : ∀ s t, Dat (renAt ns s t) := fun s t => by
  have h2 : Dat (if 0 ≤ t.f2 then loseN (dropN ns s) t else dropN ns s) := by
   split
   ·exact (h.drop s).lose t
   ·exact h.drop s
  unfold renAt
  simp only
  split
  ·exact (h2.put t s.f2).turn _ (f := nUp t.f0) fun _ => rfl
  ·exact h2.put t s.f2
 unfold renF renSp
 repeat' split
 all_goals first | exact h | exact key _ _
theorem szs_of {x : List Nd} {m r : Int} {k : Nat} (h : rightF x m r = true) (hd : Dat x) (hl : NsL k x) (hk : k ≤ 1000000) : Szs x := by
 have hR := rt_of h
 refine ⟨by have := hl.1; omega, fun n hn => Nat.le_trans (hl.2 n hn) hk, fun n hn e he => ?_, fun n hn => Nat.le_trans (hd n hn) (by decide)⟩
 obtain ⟨j, hj⟩ := List.getElem?_of_mem hn
 have h0 : n.f0 ≠ 0 := fun h0 => by rw [hR.clean n hn h0] at he; cases he
 obtain ⟨hb, hg⟩ := getL_of hj h0
 have hN := hR.node _ hb
 rw [hg] at hN
 have hlg := legal_of hN.sorted e he
 unfold legalF at hlg
 split at hlg
 ·cases hlg
 split at hlg
 ·cases hlg
 split at hlg
 ·cases hlg
 ·omega
def dCells (m r : Int) (d : Option Addr × Nat × List Nd) : List Value := [.slice d.1 d.2.2.length d.2.1, .int .i64 m, .int .i64 r]
structure Fil (m r : Int) (v : Mem) (es : List Value) (D : List (Option Addr × Nat × List Nd)) : Prop where
 len : es.length = 24
 at_ : ∀ (j : Nat) d, D[j]? = some d → (∀ (i : Nat) x, (dCells m r d)[i]? = some x → es[j * 3 + i]? = some x) ∧ DiskAt v d.1 d.2.2
theorem Fil.put {m r : Int} {v v' : Mem} {es : List Value} {D : List (Option Addr × Nat × List Nd)} (h : Fil m r v es D) (hv : v.le v') {d : Option Addr × Nat × List Nd} (hd : DiskAt v' d.1 d.2.2) {k : Nat} (hk : D.length = k) (hk8 : k < 8) :
  Fil m r v' (es.take (k * 3) ++ dCells m r d ++ es.drop (k * 3 + 3)) (D ++ [d]) := by
 have hl := h.len
 have hc : (dCells m r d).length = 3 := rfl
 have ht : (es.take (k * 3)).length = k * 3 := by rw [List.length_take]; omega
 refine ⟨by simp only [List.length_append, List.length_drop, ht, hc, hl]; omega, fun j y hj => ?_⟩
 rcases Nat.lt_or_ge j k with hjk | hjk
 ·rw [List.getElem?_append_left (by omega)] at hj
  obtain ⟨h1, h2⟩ := h.at_ j y hj
  refine ⟨fun i x hi => ?_, h2.mono hv⟩
  have hi3 : i < 3 := (List.getElem?_eq_some_iff.1 hi).1
  rw [List.append_assoc, List.getElem?_append_left (by rw [ht]; omega), List.getElem?_take, if_pos (by omega)]
  exact h1 i x hi
 ·rw [List.getElem?_append_right (by omega)] at hj
  have hjj : j = k := by
   have := (List.getElem?_eq_some_iff.1 hj).1
   simp only [List.length_cons, List.length_nil] at this; omega
  subst hjj
  rw [hk, Nat.sub_self] at hj
  obtain rfl : d = y := Option.some.inj hj
  refine ⟨fun i x hi => ?_, hd⟩
  have hi3 : i < 3 := (List.getElem?_eq_some_iff.1 hi).1
  rw [List.append_assoc, List.getElem?_append_right (by rw [ht]; omega), ht, Nat.add_sub_cancel_left, List.getElem?_append_left (by rw [hc]; exact hi3)]
  exact hi
end Go.Proofs.YtpfbimkpcnnfkaaGreatDoor.Sx
