/- Plain: what was lost is not there. -/
import Derived.Test.YtpfbimkpcnnfkaaGreatDoorSyU
import Derived.Test.YtpfbimkpcnnfkaaGreatDoorSzB
import Derived.Test.YtpfbimkpcnnfkaaGreatDoorSzE
import Derived.Test.YtpfbimkpcnnfkaaGreatDoorSyT
/- By Sx: are all nodes as before? And: what is entered, and dropped, leaves all as it was. -/
/- Plain: a name is entered, then dropped, or asked for. -/
/- By Sx: how a law opens; sizes of what changes make. -/
set_option maxRecDepth 100000
set_option linter.unusedVariables false
set_option linter.unusedSimpArgs false
namespace Go.Proofs.YtpfbimkpcnnfkaaGreatDoor.Sx
open Go Go.RowKit Go.Proofs.YtpfbimkpcnnfkaaGreatDoor Go.Proofs.YtpfbimkpcnnfkaaGreatDoor.Ext
theorem hold_open {u0 u : Mem} {Ag : Nat → List Value → List (List Value) → Mem → Prop} {bk : Nat → Nat} {x0 : Bool} {id n : Nat} {xs : List (SV S.ty)} {l : List ByteArray} {X Z : Cells S.ty (RT.ks [(false, [.b])]) → CellsL S.ty [] → Cells S.ty (RT.ks [(false, [.b])]) → CellsL S.ty [] → Tree S.ty} {Y : Tree S.ty} {s : Addr} (hg : EgM u) (hs : EsM s u)
  (hn : l.length = n) (hl : n ≤ 10) (hxs : ∀ bk, denL bk xs = l.map .string)
  (hX : x0 = true → shortB l = true → ∀ b x2 u', u.le u' → Hold Tryz.prog u0 (fun v cs _ => cs = [] ∧ v = .bool true) (X (true, ()) () x2 ()) (upd bk id b) u' Ag) :
  Hold Tryz.prog u0 (fun v cs _ => cs = [] ∧ v = .bool true) (.test (.not (.not (.at x0)))
   (.new id <| .test (.not (.not (.at x0)))
    (.call (.b true) true 11 [.os id 0 n n] [] [(id, xs)] [(false, [.b])] [] fun x1 y1 =>
     .call (.not (.ite (.not (.at x0)) (.b true) (.not (.at x1.1)))) true 12 [] [] [] [(false, [.b])] [] fun x2 y2 =>
     .test (.ite (.ite (.not (.at x0)) (.b true) (.not (.at x1.1))) (.b true) (.not (.at x2.1)))
     (.call (.b true) true 12 [] [] [] [(false, [.b])] [] fun x3 y3 => .ret (.b (.at x3.1)) [] []) (X x1 y1 x2 y2)) Y)
   (.call (.not (.not (.at x0))) true 11 [.s .anil (.n 0) (.n 0)] [] [] [(false, [.b])] [] fun x1 y1 =>
     .call (.not (.ite (.not (.at x0)) (.b true) (.not (.at x1.1)))) true 12 [] [] [] [(false, [.b])] [] fun x2 y2 =>
     .test (.ite (.ite (.not (.at x0)) (.b true) (.not (.at x1.1))) (.b true) (.not (.at x2.1)))
     (.call (.b true) true 12 [] [] [] [(false, [.b])] [] fun x3 y3 => .ret (.b (.at x3.1)) [] []) (Z x1 y1 x2 y2))) bk u Ag := by
 cases x0 with
 | false =>
  refine ⟨fun h => (by cases h), fun _ => ⟨fun h => (by cases h), fun _ => ⟨fun h => (by cases h), fun _ => ⟨fun _ => ?_, fun h => (by cases h)⟩⟩⟩⟩
  exact hold_call ((shown.cv u hg s hs).mono fun v cs u3 hu3 ⟨hc, hv⟩ => ⟨(true, ()), (), hv, hc, rfl, rfl⟩)
 | true =>
  refine ⟨fun _ b hb => ⟨fun _ => ⟨fun _ u1 hu1 hw => ?_, fun h => (by cases h)⟩, fun h => (by cases h)⟩, fun h => (by cases h)⟩
  have hw := hw _ (List.mem_singleton.2 rfl)
  have hup : upd bk id b id = b := by unfold upd; rw [if_pos rfl]
  simp only [hup, hxs] at hw
  have hst : StrsAt u1 (some ⟨b, 0, none⟩) l := fun i x hx => ⟨b, 0, rfl, fun j v hj => by
   have hj0 : j = 0 := by have := (List.getElem?_eq_some_iff.1 hj).1; simp only [List.length_cons, List.length_nil] at this; omega
   subst hj0
   simp only [List.getElem?_cons_zero, Option.some.injEq] at hj
   subst hj
   rw [show 0 + i + 0 = i by omega]
   exact hw i _ (by rw [List.getElem?_map, hx]; rfl)⟩
  have hsh := lshort.cv (some ⟨b, 0, none⟩) n u1 l hst (by omega)
  have hargs : denL (upd bk id b) [.os id 0 n n] = [.slice (some ⟨b, 0, none⟩) l.length n] := by simp only [denL, SV.den, hup, hn]
  show CC _ _ (denL (upd bk id b) [.os id 0 n n]) true [] u0 u1 _
  rw [hargs]
  refine CV.mono hsh fun v cs u2 hu2 ⟨hc, hv⟩ => ⟨(shortB l, ()), (), hv, hc, ?_⟩
  have hu02 := Mem.le_trans hu1 hu2
  refine hold_callg (fun xs _ u3 => u.le u3 ∧ (shortB l = true → xs.1 = true)) (fun _ => (shown.cv u2 (hg.mono hu02) s (hs.mono hu02)).mono fun v cs u3 hu3 ⟨hc, hv⟩ => ⟨(true, ()), (), hv, hc, Mem.le_trans hu02 hu3, fun _ => rfl⟩) (fun hh => ⟨hu02, fun h => ?_⟩) ?_
  ·have hh : (!bif !true then true else !shortB l) = false := hh
   rw [h] at hh; cases hh
  rintro ⟨x2, _⟩ _ u3 ⟨hu3, hx⟩
  refine ⟨fun h => ?_, fun h => ?_⟩
  ·exact hold_call ((shown.cv u3 (hg.mono hu3) s (hs.mono hu3)).mono fun v cs u4 hu4 ⟨hc, hv⟩ => ⟨(true, ()), (), hv, hc, rfl, rfl⟩)
  ·have h : (bif bif !true then true else !shortB l then true else !x2) = false := h
   cases hsb : shortB l with
   | false => rw [hsb] at h; cases h
   | true =>
    exact hX rfl hsb b (x2, ()) u3 hu3
theorem short_one {a : ByteArray} (h : shortB [a] = true) : a.size ≤ 200 := by simpa [shortB] using h
def NsL (k : Nat) (ns : List Nd) : Prop := ns.length ≤ 60000 ∧ ∀ n ∈ ns, n.f7.length ≤ k
theorem Ok8.nsl {ns : List Nd} (h : Ok8 ns) : NsL 100000 ns := ⟨by have := h.len; omega, fun n hn => (h.ris n hn).len⟩
theorem NsL.up {k k' : Nat} {ns : List Nd} (h : NsL k ns) (hk : k ≤ k') : NsL k' ns := ⟨h.1, fun n hn => Nat.le_trans (h.2 n hn) hk⟩
theorem NsL.get {k : Nat} {ns : List Nd} (h : NsL k ns) (i : Int) : (getL ns i).f7.length ≤ k := by
 rcases getL_cases ns i with e | e
 ·rw [e]; exact Nat.zero_le _
 ·exact h.2 _ e
theorem NsL.set {k : Nat} {ns : List Nd} (h : NsL k ns) (i : Int) {n : Nd} (hn : n.f7.length ≤ k) : NsL k (setL ns i n) := by
 refine ⟨by rw [setL_len]; exact h.1, ?_⟩
 unfold setL
 split
 ·intro x hx
  rcases List.mem_or_eq_of_mem_set hx with hx | rfl
  ·exact h.2 x hx
  ·exact hn
 ·exact h.2
theorem putF_len (l : List En) (e : En) : (putF l e).length ≤ l.length + 1 := by
 unfold putF
 rw [List.length_append, List.length_append]
 have h1 : (l.filter fun x => decide (ord x e.f0 < 0)).length + (l.filter fun x => decide (0 < ord x e.f0)).length ≤ l.length := by
  induction l with
  | nil => simp
  | cons a l ih =>
   simp only [List.filter_cons]
   split <;> split <;> simp only [List.length_cons] <;> first | omega | (rename_i h1 h2; simp at h1 h2; omega)
 simp only [List.length_cons, List.length_nil]; omega
theorem NsL.put {k : Nat} {ns : List Nd} (h : NsL k ns) (s : Sp) (ino : Int) : NsL (k + 1) (putN ns s ino) := (h.up (Nat.le_succ k)).set _ (Nat.le_trans (putF_len _ _) (Nat.succ_le_succ (h.get _)))
theorem NsL.drop {k : Nat} {ns : List Nd} (h : NsL k ns) (s : Sp) : NsL k (dropN ns s) := h.set _ (Nat.le_trans (List.length_filter_le _ _) (h.get _))
theorem NsL.turn {k : Nat} {ns : List Nd} (h : NsL k ns) (i : Int) {f : Nd → Nd} (hf : ∀ n, (f n).f7 = n.f7) : NsL k (turnF ns i f) := h.set _ (by rw [hf]; exact h.get _)
theorem NsL.lose {k : Nat} {ns : List Nd} (h : NsL k ns) (s : Sp) : NsL k (loseN ns s) := by
 unfold loseN settleF
 have h1 := (h.drop s).turn s.f2 (f := nLess) fun _ => rfl
 split
 ·exact h1.set _ (Nat.zero_le _)
 ·exact h1
theorem NsL.renAt {k : Nat} {ns : List Nd} (h : NsL k ns) (s t : Sp) : NsL (k + 1) (renAt ns s t) := by
 have h1 := h.drop s
 have h2 : NsL k (if 0 ≤ t.f2 then loseN (dropN ns s) t else dropN ns s) := by
  split
  ·exact h1.lose t
  ·exact h1
 have h3 := h2.put t s.f2
 unfold Sx.renAt
 simp only
 split
 ·exact h3.turn _ (f := nUp t.f0) fun _ => rfl
 ·exact h3
theorem its_same {k : Nat} (hk : k ≤ 1000000) (A : Option Addr) (c : Nat) (ns : List Nd) (m r : Int) (u : Mem) (hd : DiskAt u A ns) (h : NsL k ns) :
  CV Tryz.prog 15 [.agg #[.slice A ns.length c, .int .i64 m, .int .i64 r]] [] u fun v cs u' => cs = [] ∧ ∃ A' c', v = .agg #[.slice A' ns.length c', .int .i64 m, .int .i64 r] ∧ DiskAt u' A' ns :=
 lits.cv A c ns m r u hd (by have := h.1; omega) fun n hn => Nat.le_trans (h.2 n hn) hk
end Go.Proofs.YtpfbimkpcnnfkaaGreatDoor.Sx
set_option linter.unusedVariables false
set_option linter.unusedSimpArgs false
namespace Go.Proofs.YtpfbimkpcnnfkaaGreatDoor.Sx
open Go Go.RowKit Go.Proofs.YtpfbimkpcnnfkaaGreatDoor Go.Proofs.YtpfbimkpcnnfkaaGreatDoor.Ext
theorem rising_put {l : List En} (h : Rising l) (e : En) : Rising (putF l e) := by
 have hp : l.Pairwise fun x y => Op.bytesLess x.f0.data.toList y.f0.data.toList = true := by
  rw [List.pairwise_iff_getElem]
  intro i j hi hj hij
  exact h.lt (j - i - 1) i _ _ (List.getElem?_eq_getElem hi) (by rw [show i + (j - i - 1) + 1 = j by omega]; exact List.getElem?_eq_getElem hj)
 have hlt : ∀ x ∈ l.filter (fun x => decide (ord x e.f0 < 0)), Op.bytesLess x.f0.data.toList e.f0.data.toList = true := fun x hx => (cmp_neg _ _).1 (of_decide_eq_true (List.mem_filter.1 hx).2)
 have hgt : ∀ x ∈ l.filter (fun x => decide (0 < ord x e.f0)), Op.bytesLess e.f0.data.toList x.f0.data.toList = true := fun x hx => by
  have h1 := (cmp_pos _ _).1 (of_decide_eq_true (List.mem_filter.1 hx).2)
  simp only [Bool.not_eq_true', Bool.or_eq_false_iff, beq_eq_false_iff_ne] at h1
  exact less_total _ _ h1.1 h1.2
 have hq : (putF l e).Pairwise fun x y => Op.bytesLess x.f0.data.toList y.f0.data.toList = true := by
  unfold putF
  rw [List.pairwise_append, List.pairwise_append]
  refine ⟨⟨hp.filter _, List.pairwise_singleton _ _, fun x hx y hy => ?_⟩, hp.filter _, fun x hx y hy => ?_⟩
  ·rw [List.mem_singleton.1 hy]; exact hlt x hx
  ·rcases List.mem_append.1 hx with hx | hx
   ·exact less_trans _ _ _ (hlt x hx) (hgt y hy)
   ·rw [List.mem_singleton.1 hx]; exact hgt y hy
 intro j x y hx hy
 obtain ⟨g1, rfl⟩ := List.getElem?_eq_some_iff.1 hx
 obtain ⟨g2, rfl⟩ := List.getElem?_eq_some_iff.1 hy
 exact List.pairwise_iff_getElem.1 hq j (j + 1) g1 g2 (by omega)
structure Nd9 (n : Nd) : Prop where
 ok : NdOk n
 ris : Rising n.f7
 len : n.f7.length ≤ 60
theorem zNd_9 : Nd9 zNd := ⟨⟨by decide, fun part => zNd_r.rise.sorted part, by decide, fun h => (by cases h), fun e he => (by cases he), by decide⟩, zNd_r.rise, by decide⟩
theorem nd9_of {ns : List Nd} {m r : Int} (h : okF ns m r = true) : ∀ n ∈ ns, Nd9 n := fun n hn => by
 have h8 := ok8_of h
 refine ⟨h8.ok.all_ n hn, (h8.ris n hn).rise, ?_⟩
 unfold okF at h
 rw [Bool.and_eq_true, Bool.and_eq_true] at h
 exact (okF.sizes h.1 (of_decide_eq_true h.2.1) n hn).2
theorem ok8_put {a : List Nd} (h : ∀ n ∈ a, Nd9 n) (hl : a.length ≤ 50000) (s : Sp) {i : Int} (hi : 0 ≤ i) : Ok8 (putN a s i) := by
 have hg : Nd9 (getL a s.f0) := by
  rcases getL_cases a s.f0 with e | e
  ·rw [e]; exact zNd_9
  ·exact h _ e
 have hp : NdOk (nPut s i (getL a s.f0)) ∧ NdR (nPut s i (getL a s.f0)) := by
  have hl : (putF (getL a s.f0).f7 ⟨s.f1, i⟩).length ≤ 61 := Nat.le_trans (putF_len _ _) (Nat.succ_le_succ hg.len)
  have hr := rising_put hg.ris ⟨s.f1, i⟩
  refine ⟨⟨Nat.le_trans hl (by decide), fun part => hr.sorted part, hg.ok.data, hg.ok.up, fun e he => ?_, hg.ok.mode⟩, hr, Nat.le_trans hl (by decide)⟩
  rcases mem_put he with rfl | he
  ·exact hi
  ·exact hg.ok.inos e he
 have hm : ∀ x ∈ putN a s i, NdOk x ∧ NdR x := fun x hx => by
  unfold putN turnF setL at hx
  split at hx
  ·rcases List.mem_or_eq_of_mem_set hx with hx | rfl
   ·have := h x hx; exact ⟨this.ok, this.ris, Nat.le_trans this.len (by decide)⟩
   ·exact hp
  ·have := h x hx; exact ⟨this.ok, this.ris, Nat.le_trans this.len (by decide)⟩
 have hll : (putN a s i).length = a.length := by unfold putN; rw [turn_len]
 exact ⟨⟨by rw [hll]; omega, fun x hx => (hm x hx).1⟩, by rw [hll]; exact hl, fun x hx => (hm x hx).2⟩
theorem outs_ne : ∀ (l : List ByteArray) (k : Nat), ∀ p ∈ outs k l, ¬ p.2.size = 0
 | [], _, p, hp => by cases hp
 | s :: l, k, p, hp => by
  unfold outs at hp
  split at hp
  ·exact outs_ne l _ p hp
  ·rename_i h
   rcases List.mem_cons.1 hp with rfl | hp
   ·exact h
   ·exact outs_ne l _ p hp
theorem parts_ne (path : ByteArray) : ∀ p ∈ partsB path, ¬ p.toList = [] := fun p hp e => by
 unfold partsB partsL at hp
 obtain ⟨q, hq, rfl⟩ := List.mem_map.1 hp
 refine outs_ne _ _ q hq ?_
 rw [toList_data] at e
 show q.2.data.size = 0
 rw [← Array.length_toList, e]; rfl
theorem go_name {ns : List Nd} {who : Int} {follow slash : Bool} : ∀ (f : Nat) (at_ hops : Int) (ps : List ByteArray) (s : Sp), (∀ p ∈ ps, ¬ p.toList = []) → Sx.walkGo ns who follow slash f at_ hops ps = (s, 0) → s.f2 < 0 → ¬ s.f1.toList = []
 | 0, _, _, _, s, hp, hw, h2 => by unfold Sx.walkGo at hw; cases hw; exact absurd h2 (by decide)
 | f + 1, _, _, [], s, hp, hw, h2 => by unfold Sx.walkGo at hw; cases hw; exact absurd h2 (by decide)
 | f + 1, at_, hops, part :: rest, s, hp, hw, h2 => by
  unfold Sx.walkGo at hw
  have h1 := hp part (by simp)
  have hr : ∀ p ∈ rest, ¬ p.toList = [] := fun p h => hp p (by simp [h])
  split at hw
  ·rename_i h; exact absurd (Prod.mk.inj hw).2 h
  split at hw
  ·exact absurd (Prod.mk.inj hw).2 (by decide)
  split at hw
  ·split at hw
   ·have := (Prod.mk.inj hw).1; subst this; exact h1
   ·exact absurd (Prod.mk.inj hw).2 (by decide)
  split at hw
  ·split at hw
   ·exact absurd (Prod.mk.inj hw).2 (by decide)
   split at hw
   ·rename_i h; exact absurd (Prod.mk.inj hw).2 h
   split at hw
   ·have := (Prod.mk.inj hw).1; subst this; exact absurd h2 (show ¬ (0 : Int) < 0 by decide)
   ·refine go_name f _ _ _ s (fun p h => ?_) hw h2
    rcases List.mem_append.1 h with h | h
    ·exact parts_ne _ p h
    ·exact hr p h
  ·split at hw
   ·split at hw
    ·exact absurd (Prod.mk.inj hw).2 (by decide)
    ·have := (Prod.mk.inj hw).1; subst this; exact h1
   ·exact go_name f _ _ _ s hr hw h2
theorem walk_name {ns : List Nd} {who from_ : Int} {path : ByteArray} {follow : Bool} {s : Sp} (hw : walkF ns who from_ path follow = (s, 0)) (h2 : s.f2 < 0) : ¬ s.f1.toList = [] := by
 unfold walkF at hw
 split at hw
 ·rename_i h1; exact absurd (Prod.mk.inj hw).2 h1
 generalize (if pre47 path = true then 0 else from_) = at_ at hw
 unfold goF at hw
 split at hw
 ·split at hw
  ·rename_i h4; exact absurd (Prod.mk.inj hw).2 h4
  ·rename_i h4
   have h4 : hereB ns at_ = 0 := by simpa using h4
   have hw := (Prod.mk.inj hw).1
   subst hw
   have := (getL_at (getB_f0 (by rw [here_dir h4]; decide) : getB ns at_ = true)).1
   have h2 : at_ < 0 := h2
   omega
 ·exact go_name _ _ _ _ s (parts_ne path) hw h2
theorem setL_setL (a : List Nd) (i : Int) (n1 n2 : Nd) : setL (setL a i n1) i n2 = setL a i n2 := by
 unfold setL
 by_cases h : 0 ≤ i ∧ i < a.length
 ·rw [if_pos h, if_pos (by rw [List.length_set]; exact h), if_pos h, List.set_set]
 ·rw [if_neg h, if_neg h]
theorem drop_entered {a : List Nd} {s t : Sp} {i : Int} (hb : getB a s.f0 = true) (hR : Rising (getL a s.f0).f7) (hf : findL (getL a s.f0).f7 s.f1 = none) (h0 : t.f0 = s.f0) (h1 : t.f1 = s.f1) : dropN (putN a s i) t = a := by
 have g : getL (putN a s i) s.f0 = nPut s i (getL a s.f0) := by
  unfold putN; rw [getL_turn (nPut_f0 s i), if_pos ⟨rfl, hb⟩]
 unfold dropN turnF
 rw [h0, g]
 have e : nDrop t (nPut s i (getL a s.f0)) = getL a s.f0 := by
  unfold nDrop nPut
  rw [h1]
  simp only [drop_put_self hR (e := ⟨s.f1, i⟩) hf]
 rw [e]
 unfold putN turnF
 rw [setL_setL, setL_same hb]
theorem lose_entered {ns : List Nd} (hR : Rt ns) {m r : Int} {N : Nd} {s t : Sp} (h : (addF ns m r N).2.2 = 0) (hN : ¬ N.f0 = 0) (h3 : N.f3 = 1) (h4 : N.f4 = 0) (hs : getB ns s.f0 = true) (hris : Rising (getL ns s.f0).f7) (hf : findL (getL ns s.f0).f7 s.f1 = none)
  (t0 : t.f0 = s.f0) (t1 : t.f1 = s.f1) (t2 : t.f2 = (addF ns m r N).2.1) : loseN (putN (addF ns m r N).1 s (addF ns m r N).2.1) t = ns ∨ loseN (putN (addF ns m r N).1 s (addF ns m r N).2.1) t = ns ++ [zNd] := by
 have hE := ent1_of h hN hs
 obtain ⟨k, hk, hk0, ha⟩ := add_get h
 rw [hk] at t2 hE ⊢
 generalize (addF ns m r N).1 = a at ha hE ⊢
 have hbn : ∀ j, getB (putN a s k) j = getB a j := fun j => by unfold putN; rw [getB_turn (nPut_f0 s k)]
 have hsa : getB a s.f0 = true := by rw [← hbn]; exact (hE.keep _ hs).1
 have hga : nPut s k (getL a s.f0) = nPut s k (getL ns s.f0) := by
  have := (hE.keep _ hs).2
  rw [if_pos rfl] at this
  rw [← this]
  unfold putN; rw [getL_turn (nPut_f0 s k), if_pos ⟨rfl, hsa⟩]
 have hsk : ¬ s.f0 = (k : Int) := fun e => by have := hE.no; rw [← e, hs] at this; cases this
 have hga : getL a s.f0 = getL ns s.f0 := by
  rcases ha with ⟨g, rfl⟩ | ⟨g, rfl⟩
  ·have : ns.set k N = setL ns (k : Int) N := by unfold setL; rw [if_pos (by omega), Int.toNat_natCast]
   rw [this, getL_set, if_neg (fun h' => hsk h'.1)]
  ·have g1 := getL_at hs
   have := getL_of (ns := ns ++ [N]) (i := s.f0.toNat) (n := getL ns s.f0) (by rw [List.getElem?_append_left (by omega)]; exact g1.2.2.1) g1.2.2.2
   rw [show ((s.f0.toNat : Nat) : Int) = s.f0 by omega] at this
   exact this.2
 unfold loseN
 rw [drop_entered (i := (k : Int)) hsa (by rw [hga]; exact hris) (by rw [hga]; exact hf) t0 t1, t2]
 have hkb : getB a (k : Int) = true ∧ getL a (k : Int) = N := by
  have h1 := hE.new
  rw [hbn] at h1
  refine ⟨h1.1, ?_⟩
  have := h1.2
  unfold putN at this
  rw [getL_turn (nPut_f0 s k), if_neg (fun h' => hsk h'.1.symm)] at this
  exact this
 have hk00 : ¬ (k : Int) = 0 := fun e => by have := hE.no; rw [e, hR.get0] at this; cases this
 have hset : settleF (turnF a (k : Int) nLess) (k : Int) = setL a (k : Int) zNd := by
  have hb : getB (turnF a (k : Int) nLess) (k : Int) = true := by rw [getB_turn nLess_f0]; exact hkb.1
  have hl : getL (turnF a (k : Int) nLess) (k : Int) = nLess N := by rw [getL_turn nLess_f0, if_pos ⟨rfl, hkb.1⟩, hkb.2]
  have e3 : (nLess N).f3 = 0 := by unfold nLess; rw [h3]; rfl
  have e4 : (nLess N).f4 = 0 := h4
  unfold settleF
  rw [if_pos ⟨hb, hk00, by rw [hl, e3]; decide, by rw [hl, e4]; decide⟩]
  unfold turnF
  rw [setL_setL]
 rw [hset]
 rcases ha with ⟨g, rfl⟩ | ⟨g, rfl⟩
 ·left
  have e : ns[k] = zNd := hR.clean _ (List.getElem_mem g) (hk0 _ (List.getElem?_eq_getElem g))
  unfold setL
  rw [if_pos (by rw [List.length_set]; omega), Int.toNat_natCast, List.set_set, ← e, List.set_getElem_self]
 ·right
  rw [g]
  exact set_last ns N zNd
theorem enter_ok {ns : List Nd} {m r who from_ : Int} {path : ByteArray} {n : Nd} {slash : Int} (h : (enterF ns m r who from_ path n slash).2.2 = 0) :
  ∃ s, walkF ns who from_ path false = (s, 0) ∧ s.f2 < 0 ∧ writesB ns who s.f0 = true ∧ (s.f3 = true → slash = 0) ∧ (addF ns m r (newNd who s.f0 n)).2.2 = 0 ∧ (enterF ns m r who from_ path n slash).1 = putN (addF ns m r (newNd who s.f0 n)).1 s (addF ns m r (newNd who s.f0 n)).2.1 ∧ (enterF ns m r who from_ path n slash).2.1 = (addF ns m r (newNd who s.f0 n)).2.1 := by
 unfold enterF at *
 generalize walkF ns who from_ path false = w at *
 obtain ⟨s, e⟩ := w
 simp only at *
 split at h
 ·rename_i h1; exact absurd h h1
 rename_i h1
 rw [if_neg h1]
 have he : e = 0 := by simpa using h1
 subst he
 unfold enterAt at *
 split at h
 ·rename_i h2; exact absurd h h2.2.2
 rename_i h2
 rw [if_neg h2]
 split at h
 ·rename_i h3; exact absurd h h3
 rename_i h3
 rw [if_neg h3]
 split at h
 ·rename_i h4; exact absurd h h4
 rename_i h4
 rw [if_neg h4]
 have h3 : freeE ns who s = 0 := by simpa using h3
 unfold freeE writesE at h3
 split at h3
 ·cases h3
 rename_i h5
 split at h3
 ·cases h3
 split at h3
 ·rename_i h6
  exact ⟨s, rfl, by omega, h6, fun h7 => by
   rcases Decidable.em (slash = 0) with h8 | h8
   ·exact h8
   ·exact absurd ⟨h7, by omega, h8⟩ h2, by simpa using h4, rfl, rfl⟩
 ·cases h3
end Go.Proofs.YtpfbimkpcnnfkaaGreatDoor.Sx
set_option maxRecDepth 100000
set_option linter.unusedVariables false
set_option linter.unusedSimpArgs false
namespace Go.Proofs.YtpfbimkpcnnfkaaGreatDoor.Sx
open Go Go.RowKit Go.Proofs.YtpfbimkpcnnfkaaGreatDoor Go.Proofs.YtpfbimkpcnnfkaaGreatDoor.Ext
structure Entered (ns x : List Nd) (who from_ : Int) (path : ByteArray) (t : Sp) (N : Nd) : Prop where
 ok : Ok8 x
 i0 : 0 ≤ t.f2
 new : getB x t.f2 = true ∧ getL x t.f2 = N
 walk : walkF x who from_ path false = (t, 0)
 writes : writesB x who t.f0 = true
 name : ¬ t.f1.toList = [] ∧ ¬ t.f1.toList = [46] ∧ ¬ t.f1.toList = [46, 46]
 lose : loseN x t = ns ∨ loseN x t = ns ++ [zNd]
theorem entered {ns : List Nd} {m r who from_ : Int} {path : ByteArray} {n : Nd} {slash : Int} (h : okF ns m r = true) (hn : Nd9 n) (hn4 : n.f4 = 0) (hk : n.f0 = 1 ∨ n.f0 = 2) (hsl : slash = 0 → n.f0 = 2) (he : (enterF ns m r who from_ path n slash).2.2 = 0) :
  ∃ t N, N.f0 = n.f0 ∧ N.f6 = n.f6 ∧ N.f7 = n.f7 ∧ N.f3 = 1 ∧ Entered ns (enterF ns m r who from_ path n slash).1 who from_ path t N ∧ (enterF ns m r who from_ path n slash).2.1 = t.f2 := by
 have hRt : Rt ns := rt_of (by unfold okF at h; rw [Bool.and_eq_true, Bool.and_eq_true] at h; exact h.2.2)
 have h9 := nd9_of h
 have h8 := ok8_of h
 obtain ⟨s, hw, h2, hwr, hs3, ha, e1, e2⟩ := enter_ok he
 rw [e1, e2]
 have hs := hRt.spot hw
 obtain ⟨g1, g2, g3, g4⟩ := hs.free hRt h2
 have hsb := hs.dir.1
 have hsr : Rising (getL ns s.f0).f7 := (h8.ris.get s.f0).rise
 have hN9 : Nd9 (newNd who s.f0 n) := by
  refine ⟨⟨hn.ok.names, hn.ok.sorted, hn.ok.data, fun hk2 => ?_, hn.ok.inos, hn.ok.mode⟩, hn.ris, hn.len⟩
  show 0 ≤ (if n.f0 = 2 then s.f0 else n.f5)
  have hk2 : n.f0 = 2 := hk2
  rw [if_pos hk2]; exact (getL_at hsb).1
 have hN0 : ¬ (newNd who s.f0 n).f0 = 0 := by show ¬ n.f0 = 0; omega
 have hE := ent1_of ha hN0 hsb
 have hl := lose_entered (t := ⟨s.f0, s.f1, (addF ns m r (newNd who s.f0 n)).2.1, s.f3⟩) hRt ha hN0 rfl hn4 hsb hsr g4 rfl rfl rfl
 have hwx := hE.walk hRt h2 (by show ¬ n.f0 = 3; omega) (fun h3 => hsl (hs3 h3)) hw
 have hm : ∀ x ∈ (addF ns m r (newNd who s.f0 n)).1, Nd9 x := by
  obtain ⟨k, _, _, hcase⟩ := add_get ha
  rcases hcase with ⟨_, e⟩ | ⟨_, e⟩ <;> rw [e] <;> intro x hx
  ·rcases List.mem_or_eq_of_mem_set hx with hx | rfl
   ·exact h9 x hx
   ·exact hN9
  ·rcases List.mem_append.1 hx with hx | hx
   ·exact h9 x hx
   ·rw [List.mem_singleton.1 hx]; exact hN9
 have hlen := add_len ns m r (newNd who s.f0 n)
 have hns : ns.length ≤ 100 := by unfold okF at h; rw [Bool.and_eq_true, Bool.and_eq_true] at h; exact of_decide_eq_true h.2.1
 have hnm := walk_name hw h2
 refine ⟨⟨s.f0, s.f1, (addF ns m r (newNd who s.f0 n)).2.1, s.f3⟩, newNd who s.f0 n, rfl, rfl, rfl, rfl, ⟨ok8_put hm (by omega) s hE.i0, hE.i0, hE.new, hwx, ?_, ⟨hnm, g2, g3⟩, hl⟩, rfl⟩
 obtain ⟨_, f1, f2, _⟩ := hE.flds hsb
 unfold writesB at *
 rw [f1, f2]; exact hwr
theorem Entered.there {ns x : List Nd} {who from_ : Int} {path : ByteArray} {t : Sp} {N : Nd} (h : Entered ns x who from_ path t N) : thereF x who from_ path = (t, 0) := by
 unfold thereF
 have := h.i0
 simp only [h.walk, true_and]
 rw [if_neg (by omega)]
theorem and63 (x : Int) : 0 ≤ binI .and .i64 x 63 ∧ binI .and .i64 x 63 ≤ 63 := by
 have h : (BitVec.ofInt IntKind.i64.bits x &&& BitVec.ofInt IntKind.i64.bits 63).toNat ≤ 63 := by
  rw [BitVec.toNat_and]
  exact Nat.and_le_right
 show 0 ≤ IntKind.i64.wrap ((BitVec.ofInt IntKind.i64.bits x &&& BitVec.ofInt IntKind.i64.bits 63).toNat : Int) ∧ IntKind.i64.wrap ((BitVec.ofInt IntKind.i64.bits x &&& BitVec.ofInt IntKind.i64.bits 63).toNat : Int) ≤ 63
 generalize (BitVec.ofInt IntKind.i64.bits x &&& BitVec.ofInt IntKind.i64.bits 63).toNat = k at h
 rw [IntKind.wrap_i64] <;> omega
theorem fileN_9 (mode : Int) : Nd9 (fileN mode) := ⟨⟨zNd_9.ok.names, zNd_9.ok.sorted, zNd_9.ok.data, fun h => (by have h : (1 : Int) = 2 := h; omega), zNd_9.ok.inos, and63 mode⟩, zNd_r.rise, zNd_9.len⟩
end Go.Proofs.YtpfbimkpcnnfkaaGreatDoor.Sx
set_option linter.unusedVariables false
set_option linter.unusedSimpArgs false
namespace Go.Proofs.YtpfbimkpcnnfkaaGreatDoor.Sx
open Go Go.RowKit Go.Proofs.YtpfbimkpcnnfkaaGreatDoor Go.Proofs.YtpfbimkpcnnfkaaGreatDoor.Ext
theorem sum_le {k : Nat} : ∀ {l : List Nat}, (∀ x ∈ l, x ≤ k) → l.sum ≤ l.length * k
 | [], _ => by simp
 | a :: l, h => by
  have h1 := h a (by simp)
  have h2 := sum_le (l := l) fun x hx => h x (by simp [hx])
  rw [List.sum_cons, List.length_cons, Nat.succ_mul]; omega
theorem cnt_le {ns : List Nd} (h : ∀ n ∈ ns, n.f7.length ≤ 60) (hl : ns.length ≤ 100) (i : Int) : cnt ns i ≤ 6000 := by
 unfold cnt
 have h1 : (ns.map (countF · i)).sum ≤ (ns.map (countF · i)).length * 60 := sum_le fun x hx => by
  obtain ⟨n, hn, rfl⟩ := List.mem_map.1 hx
  exact Nat.le_trans (List.length_filter_le _ _) (h n hn)
 rw [List.length_map] at h1
 have : ns.length * 60 ≤ 100 * 60 := Nat.mul_le_mul_right 60 hl
 omega
theorem two_mem {α : Type} {l : List α} {a b : α} (ha : a ∈ l) (hb : b ∈ l) (h : a ≠ b) : 2 ≤ l.length := by
 match l, ha, hb with
 | [x], ha, hb => rw [List.mem_singleton] at ha hb; exact absurd (ha.trans hb.symm) h
 | x :: y :: l, _, _ => simp
theorem cnt_get {ns : List Nd} {p : Int} (h : getB ns p = true) (i : Int) : (ns.map (countF · i))[p.toNat]? = some (countF (getL ns p) i) := by
 rw [List.getElem?_map, (getL_at h).2.2.1]; rfl
theorem cnt_two {ns : List Nd} {p q i : Int} {e f : En} (hp : getB ns p = true) (hq : getB ns q = true) (he : e ∈ (getL ns p).f7) (hf : f ∈ (getL ns q).f7) (e1 : e.f1 = i) (f1 : f.f1 = i) (h : ¬ (p = q ∧ e = f)) : 2 ≤ cnt ns i := by
 by_cases hpq : p = q
 ·subst hpq
  have h2 : 2 ≤ countF (getL ns p) i := two_mem (List.mem_filter.2 ⟨he, by simpa using e1⟩) (List.mem_filter.2 ⟨hf, by simpa using f1⟩) fun e => h ⟨rfl, e⟩
  have := sum_get (cnt_get hp i)
  unfold cnt; omega
 ·have h1 : 0 < countF (getL ns p) i := by rw [← e1]; exact count_of_mem he
  have h2 : 0 < countF (getL ns q) i := by rw [← f1]; exact count_of_mem hf
  have g1 := getL_at hp
  have g2 := getL_at hq
  have := sum_two (cnt_get hp i) (cnt_get hq i) (by omega)
  unfold cnt; omega
structure Lost1 (ns y : List Nd) (s : Sp) : Prop where
 keep : ∀ j, getB ns j = true → ¬ j = s.f2 → getB y j = true ∧ getL y j = if j = s.f0 then nDrop s (getL ns j) else getL ns j
 two : 2 ≤ cnt ns s.f2 → (getL y s.f2).f0 = (getL ns s.f2).f0 ∧ (getL y s.f2).f6 = (getL ns s.f2).f6
theorem lost1_of {ns : List Nd} {s : Sp} (hR : Rt ns) (hs : getB ns s.f0 = true) (h2 : getB ns s.f2 = true) (hne : ¬ s.f2 = s.f0) (h0 : ¬ s.f2 = 0) (hc : cnt ns s.f2 ≤ 6000) : Lost1 ns (loseN ns s) s := by
 have hbs : ∀ (m : List Nd) j, ¬ j = s.f2 → getB (settleF m s.f2) j = getB m j := fun m j hj => by
  unfold settleF
  split
  ·rw [getB_set, if_neg (fun h' => hj h'.1)]
  ·rfl
 refine ⟨fun j hj hj2 => ⟨?_, ?_⟩, fun hc2 => ?_⟩
 ·unfold loseN dropN
  rw [hbs _ _ hj2, getB_turn nLess_f0, getB_turn (nDrop_f0 s)]; exact hj
 ·unfold loseN dropN
  rw [settle_f0 hj2, getL_turn nLess_f0, if_neg (fun h' => hj2 h'.1), getL_turn (nDrop_f0 s)]
  by_cases hj0 : j = s.f0
  ·rw [if_pos ⟨hj0, hs⟩, if_pos hj0, hj0]
  ·rw [if_neg (fun h' => hj0 h'.1), if_neg hj0]
 ·have hb : getB (dropN ns s) s.f2 = true := by unfold dropN; rw [getB_turn (nDrop_f0 s)]; exact h2
  have hl : getL (dropN ns s) s.f2 = getL ns s.f2 := by unfold dropN; rw [getL_turn (nDrop_f0 s), if_neg (fun h' => hne h'.1)]
  have ht : getL (turnF (dropN ns s) s.f2 nLess) s.f2 = nLess (getL ns s.f2) := by rw [getL_turn nLess_f0, if_pos ⟨rfl, hb⟩, hl]
  have h3 := (hR.links s.f2 h2 h0).1
  have e3 : ¬ (nLess (getL ns s.f2)).f3 < 1 := by
   show ¬ IntKind.i64.wrap ((getL ns s.f2).f3 - 1) < 1
   rw [h3, IntKind.wrap_i64] <;> omega
  unfold loseN settleF
  rw [if_neg (fun h' => e3 (ht ▸ h'.2.2.1)), ht]
  exact ⟨rfl, rfl⟩
theorem Lost1.walkGo {ns y : List Nd} {s : Sp} (h : Lost1 ns y s) (hR : Rt ns) (hs : SpotOk ns s) (h2 : getB ns s.f2 = true) (hk2 : ¬ (getL ns s.f2).f0 = 2) (who : Int) (follow slash : Bool) :
  ∀ (f : Nat) (at_ hops : Int) (ps : List ByteArray), Sx.walkGo ns who follow slash f at_ hops ps = (s, 0) → (Sx.walkGo y who follow slash f at_ hops ps).2 = 2 ∨ ((Sx.walkGo y who follow slash f at_ hops ps).2 = 0 ∧ (Sx.walkGo y who follow slash f at_ hops ps).1.f2 = -1)
 | 0, _, _, _, hw => by unfold Sx.walkGo at hw; cases hw; exact absurd hR.root.1 hk2
 | f + 1, _, _, [], hw => by unfold Sx.walkGo at hw; cases hw; exact absurd hR.root.1 hk2
 | f + 1, at_, hops, part :: rest, hw => by
  have rec_ := Lost1.walkGo h hR hs h2 hk2 who follow slash f
  have hsd := hs.dir
  have hnd : ¬ s.f1.toList = [46] ∧ ¬ s.f1.toList = [46, 46] ∧ s.f2 = inoL (getL ns s.f0).f7 s.f1 := by
   rcases hs.alt with h' | h'
   ·exact absurd (by rw [h'.2]; exact hsd.2) hk2
   ·unfold namedB at h'
    split at h'
    ·exact absurd (by rw [h']; exact hsd.2) hk2
    rename_i n1
    split at h'
    ·exact absurd (by rw [h']; exact (hR.up hsd.1 hsd.2).2) hk2
    rename_i n2
    exact ⟨n1, n2, h'⟩
  obtain ⟨n1, n2, hino⟩ := hnd
  have h20 := (getL_at h2).1
  unfold Sx.walkGo at hw ⊢
  split at hw
  ·rename_i h1; exact absurd (Prod.mk.inj hw).2 h1
  rename_i h1
  have h1 : hereB ns at_ = 0 := by simpa using h1
  have hb : getB ns at_ = true := getB_f0 (by rw [here_dir h1]; decide)
  have hk := here_dir h1
  have ha2 : ¬ at_ = s.f2 := fun e => hk2 (e ▸ hk)
  obtain ⟨hyb, hyl⟩ := h.keep at_ hb ha2
  have hfl : (getL y at_).f0 = (getL ns at_).f0 ∧ (getL y at_).f1 = (getL ns at_).f1 ∧ (getL y at_).f2 = (getL ns at_).f2 ∧ (getL y at_).f5 = (getL ns at_).f5 := by
   rw [hyl]; split <;> exact ⟨rfl, rfl, rfl, rfl⟩
  obtain ⟨e0, e1, e2, e5⟩ := hfl
  have hx := here_of hyb (e0.trans hk)
  rw [if_neg (by rw [hx]; simp), e1, e2]
  split at hw
  ·exact absurd (Prod.mk.inj hw).2 (by decide)
  rename_i hm
  rw [if_neg hm]
  have hnm := hR.named h1 part
  split at hw
  ·split at hw
   ·have hw := (Prod.mk.inj hw).1
    subst hw
    exact absurd h20 (show ¬ (0 : Int) ≤ -1 by decide)
   ·exact absurd (Prod.mk.inj hw).2 (by decide)
  rename_i h3
  have hvb := hnm.resolve_left (by omega)
  by_cases hd : at_ = s.f0 ∧ part.toList = s.f1.toList
  ·have hv : namedB at_ (getL y at_) part = -1 := by
    unfold namedB
    rw [hd.2, if_neg n1, if_neg n2, hyl, if_pos hd.1]
    exact inoL_none (findL_drop_eq hd.2)
   rw [hv, if_pos (by decide)]
   by_cases hr : rest = []
   ·rw [if_pos hr]; exact .inr ⟨rfl, rfl⟩
   ·rw [if_neg hr]; exact .inl rfl
  have hv : namedB at_ (getL y at_) part = namedB at_ (getL ns at_) part := by
   unfold namedB
   rw [e5]
   split
   ·rfl
   split
   ·rfl
   rw [hyl]
   split
   ·rename_i hj
    show inoL (dropF (getL ns at_).f7 s.f1) part = _
    unfold inoL
    rw [findL_drop_ne (fun e => hd ⟨hj, e⟩)]
   ·rfl
  rw [hv, if_neg h3]
  -- the node that this part names
  have hn : (getL y (namedB at_ (getL ns at_) part)).f0 = (getL ns (namedB at_ (getL ns at_) part)).f0 ∧ (getL y (namedB at_ (getL ns at_) part)).f6 = (getL ns (namedB at_ (getL ns at_) part)).f6 := by
   by_cases hv2 : namedB at_ (getL ns at_) part = s.f2
   ·rw [hv2]
    refine h.two ?_
    unfold namedB at hv2
    split at hv2
    ·exact absurd hv2 ha2
    split at hv2
    ·exact absurd (by rw [← hv2]; exact (hR.up hb hk).2) hk2
    obtain ⟨x, x1, x2, x3⟩ := inoL_mem (l := (getL ns at_).f7) (name := part) (by omega)
    obtain ⟨z, z1, z2, z3⟩ := inoL_mem (l := (getL ns s.f0).f7) (name := s.f1) (by omega)
    refine cnt_two hb hsd.1 x1 z1 (x2.trans hv2) (z2.trans hino.symm) fun hh => hd ⟨hh.1, ?_⟩
    rw [← (ord_zero x part).1 x3, ← (ord_zero z s.f1).1 z3, hh.2]
   ·rw [(h.keep _ hvb hv2).2]
    split <;> exact ⟨rfl, rfl⟩
  rw [hn.1, hn.2]
  split at hw
  ·rename_i h4
   rw [if_pos h4]
   split at hw
   ·exact absurd (Prod.mk.inj hw).2 (by decide)
   rename_i h5
   rw [if_neg h5]
   split at hw
   ·rename_i h6; exact absurd (Prod.mk.inj hw).2 h6
   rename_i h6
   rw [if_neg h6]
   split at hw
   ·have hw := (Prod.mk.inj hw).1
    subst hw
    exact absurd hR.root.1 hk2
   rename_i h7
   rw [if_neg h7]
   exact rec_ _ _ _ hw
  ·rename_i h4
   rw [if_neg h4]
   split at hw
   ·split at hw
    ·exact absurd (Prod.mk.inj hw).2 (by decide)
    ·have hw := (Prod.mk.inj hw).1
     subst hw
     exact absurd ⟨rfl, rfl⟩ hd
   ·rename_i h5
    rw [if_neg h5]
    exact rec_ _ _ _ hw
theorem Lost1.node {ns y : List Nd} {s : Sp} (h : Lost1 ns y s) (hR : Rt ns) (h2 : getB ns s.f2 = true) (hk2 : ¬ (getL ns s.f2).f0 = 2) {who from_ : Int} {path : ByteArray} {follow : Bool} (hw : walkF ns who from_ path follow = (s, 0)) : (nodeF y who from_ path follow).2 = 2 := by
 have hs := hR.spot hw
 have key : (walkF y who from_ path follow).2 = 2 ∨ ((walkF y who from_ path follow).2 = 0 ∧ (walkF y who from_ path follow).1.f2 = -1) := by
  unfold walkF at hw ⊢
  split at hw
  ·rename_i h1; exact absurd (Prod.mk.inj hw).2 h1
  rename_i h1
  rw [if_neg h1]
  generalize (if pre47 path = true then 0 else from_) = at_ at hw ⊢
  unfold goF at hw ⊢
  split at hw
  ·split at hw
   ·rename_i h4; exact absurd (Prod.mk.inj hw).2 h4
   ·rename_i h4
    have h4 : hereB ns at_ = 0 := by simpa using h4
    have hw := (Prod.mk.inj hw).1
    subst hw
    exact absurd (here_dir h4) hk2
  ·rename_i h4
   rw [if_neg h4]
   exact h.walkGo hR hs h2 hk2 who follow _ _ _ _ _ hw
 unfold nodeF
 rcases key with h' | ⟨h1, h3⟩
 ·rw [if_pos (by rw [h']; decide), h']
 ·rw [if_neg (by rw [h1]; simp), if_pos h3]
theorem unl_gone {ns : List Nd} {m r : Int} (hok : okF ns m r = true) {who from_ : Int} {path : ByteArray} (h : (unlF ns who from_ path).2 = 0) : (nodeF (unlF ns who from_ path).1 who from_ path false).2 = 2 := by
 have hR : Rt ns := rt_of (by unfold okF at hok; rw [Bool.and_eq_true, Bool.and_eq_true] at hok; exact hok.2.2)
 have h9 := nd9_of hok
 have hl : ns.length ≤ 100 := by unfold okF at hok; rw [Bool.and_eq_true, Bool.and_eq_true] at hok; exact of_decide_eq_true hok.2.1
 unfold unlF at *
 split at h
 ·rename_i h1; exact absurd h h1
 rename_i h1
 rw [if_neg h1]
 have h1 : (thereF ns who from_ path).2 = 0 := by simpa using h1
 split at h
 ·cases h
 rename_i h2
 rw [if_neg h2]
 split at h
 ·cases h
 rename_i h3
 rw [if_neg h3]
 obtain ⟨k1, k2⟩ := hR.there h1
 have hw : walkF ns who from_ path false = ((thereF ns who from_ path).1, 0) := Prod.ext rfl k1
 generalize (thereF ns who from_ path).1 = s at hw h2 k2 ⊢
 have hs := hR.spot hw
 exact (lost1_of hR hs.dir.1 k2 (fun e => h2 (by rw [e]; exact hs.dir.2)) (fun e => h2 (by rw [e]; exact hR.root.1)) (cnt_le (fun n hn => (h9 n hn).len) hl _)).node hR k2 h2 hw
theorem Entered.node {ns x : List Nd} {who from_ : Int} {path : ByteArray} {t : Sp} {N : Nd} (h : Entered ns x who from_ path t N) : nodeF x who from_ path false = (t.f2, 0) := by
 have := h.i0
 unfold nodeF
 rw [h.walk]
 simp only [not_true, if_false]
 rw [if_neg (by omega)]
theorem Entered.again {ns x : List Nd} {who from_ : Int} {path : ByteArray} {t : Sp} {N : Nd} (h : Entered ns x who from_ path t N) (m r : Int) (n : Nd) (slash : Int) : (enterF x m r who from_ path n slash).2.2 = 3 := by
 have := h.i0
 unfold enterF
 rw [h.walk]
 simp only [not_true, if_false]
 unfold enterAt
 rw [if_neg (fun h' => by have := h'.2.1; omega)]
 have e : freeE x who t = 3 := by unfold freeE; rw [if_pos h.i0]
 rw [e, if_pos (by decide)]
end Go.Proofs.YtpfbimkpcnnfkaaGreatDoor.Sx
