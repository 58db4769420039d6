/- By Sx: the walker goes on until it is over. -/
import Derived.Test.YtpfbimkpcnnfkaaGreatDoorSwE
import Derived.Test.YtpfbimkpcnnfkaaGreatDoorSxX
import Derived.Test.YtpfbimkpcnnfkaaGreatDoorExtS
import Derived.Test.YtpfbimkpcnnfkaaGreatDoorSxTd
/- By Sx: all parts of a way: a plain function, and the walker's loop. -/
/- By Sx: route.Check, route.Split, the walker's hop. -/
set_option maxRecDepth 100000
set_option linter.unusedVariables false
set_option linter.unusedSimpArgs false
namespace Go.Proofs.YtpfbimkpcnnfkaaGreatDoor.Sx
open Go Go.RowKit Go.Proofs.YtpfbimkpcnnfkaaGreatDoor Go.Proofs.YtpfbimkpcnnfkaaGreatDoor.Ext
theorem grow_plus {u : Mem} {w w' : World} {e : TypeId} {size n : Nat} {v : Value} {xs : List Value} (hs : Sees u w) (h : w'.ownsRow w.heap.size e size v n xs) (hb : Below w.heap.size w w') :
  ∃ s : Option Addr × Nat × Nat, v = .slice s.1 s.2.1 s.2.2 ∧ s.2.1 = n ∧ Grow u (u.plus w.heap.size w') s size xs := by
 obtain ⟨h1, h2⟩ := h
 rcases h2 with ⟨rfl, rfl⟩ | ⟨g, cap, cur, rfl, h3, h4, h5, h6, h7, h8⟩
 ·exact ⟨(none, 0, 0), rfl, rfl, Mem.le_plus hs, by simpa using h1, Nat.le_refl _, .inl ⟨rfl, rfl⟩⟩
 ·have hcur : cur.toList = xs ++ cur.toList.drop (n * size) := by rw [← h8, List.take_append_drop]
  refine ⟨(some ⟨g, 0, none⟩, n, cap), rfl, rfl, Mem.le_plus hs, h1, h5, .inr ⟨g, cur.toList.drop (n * size), rfl, fun o => ?_, fun j x hx => ?_, ?_⟩⟩
  ·cases hx : u g o with
   | none => rfl
   | some x => have := hs.lt (b := g) (o := o) (by rw [hx]; simp); omega
  ·rw [← hcur] at hx
   unfold Mem.plus
   rw [if_pos ⟨h3, cur, e, h4⟩]
   simp only [World.cell?, h4]
   simpa using hx
  ·rw [← hcur]; simpa using h7
def partsB (p : ByteArray) : List ByteArray := (partsL p).map (·.2)
def pre47 (p : ByteArray) : Bool := Lib.hasPrefix p.data.toList [47]
def suf47 (p : ByteArray) : Bool := Lib.hasSuffix p.data.toList [47]
theorem strs_parts (p : ByteArray) : strs (partsL p) = (partsB p).map .string := by simp [strs, partsB]
theorem parts_le (p : ByteArray) : (partsB p).length ≤ p.size + 1 := by
 have := parts_length p (partsL p) ⟨[], by simp⟩
 simpa [partsB] using this
theorem check.cv (p : ByteArray) (u : Mem) (hp : p.size ≤ 1000000000000) : CV Tryz.prog 113 [.string p] [] u fun v cs u' => cs = [] ∧ v = .int .i64 (checkB p) :=
 cv_still fun w => (check_in p hp w).mono fun e w' h => h
theorem split.cv (p : ByteArray) (u : Mem) (hp : p.size ≤ 1000000000000) : CV Tryz.prog 114 [.string p] [] u fun v cs u' => cs = [] ∧ ∃ s : Option Addr × Nat × Nat, v = .tuple #[.slice s.1 s.2.1 s.2.2, .bool (pre47 p), .bool (suf47 p)] ∧
  s.2.1 = (partsB p).length ∧ Grow u u' s 1 ((partsB p).map .string) := by
 refine cv_world (R := fun v u' => ∃ s : Option Addr × Nat × Nat, v = .tuple #[.slice s.1 s.2.1 s.2.2, .bool (pre47 p), .bool (suf47 p)] ∧ s.2.1 = (partsB p).length ∧ Grow u u' s 1 ((partsB p).map .string)) fun w hs => ?_
 refine (split_in p hp w).mono fun e w' ⟨v, he, ho, hb⟩ => ?_
 obtain ⟨s, hv, hn, hg⟩ := grow_plus hs ho hb
 refine ⟨_, he, hb, s, by rw [hv]; rfl, by rw [hn]; simp [partsB], ?_⟩
 rw [← strs_parts]; exact hg
theorem strs_at {v u : Mem} {s : Option Addr × Nat × Nat} {l : List ByteArray} (h : Grow v u s 1 (l.map .string)) (hn : s.2.1 = l.length) : PartsAt u s l :=
 ⟨hn, h.cap, fun i x hi => h.reads (k := 0) (by simp) fun j y hj => by
  cases j with
  | zero => simp at hj; subst hj; simp [hi]
  | succ j => simp at hj⟩
theorem strs_reads {u : Mem} {a : Option Addr} {l : List ByteArray} (h : StrsAt u a l) (hl : l ≠ []) : Reads u a 0 (l.map .string) := by
 obtain ⟨x, r, rfl⟩ : ∃ x r, l = x :: r := by cases l with | nil => exact absurd rfl hl | cons x r => exact ⟨x, r, rfl⟩
 obtain ⟨b, f, e, _⟩ := h 0 x rfl
 refine ⟨b, f, e, fun j v hj => ?_⟩
 rw [List.getElem?_map] at hj
 obtain ⟨y, hy, rfl⟩ := Option.map_eq_some_iff.1 hj
 obtain ⟨b', f', e', h'⟩ := h j y hy
 rw [e] at e'; cases e'
 have := h' 0 _ rfl
 simpa using this
def hopF (k : Wk) (text : ByteArray) (rest : List ByteArray) : Int × Wk × List ByteArray :=
 if k.hops = 8 then (8, k, []) else if ¬ checkB text = 0 then (checkB text, k, [])
 else if partsB text ++ rest = [] then (0, { k with hops := IntKind.i64.wrap (k.hops + 1), at_ := if pre47 text then 0 else k.at_, dir := 0, name := ⟨#[]⟩, ino := 0, slashed := k.slash, over := true }, [])
 else (0, { k with hops := IntKind.i64.wrap (k.hops + 1), at_ := if pre47 text then 0 else k.at_ }, partsB text ++ rest)
theorem hop.cv (A : Option Addr) (n c : Nat) (m r : Int) : HopOk A n c m r hopF := by
 intro k text rest p q b u ht hr hq
 refine cv_of names draws (fn := Tryz.f150) (b := bodyOf Tryz.f150) rfl rfl [] (hop.args (k.row (A, n, c) m r p) (text, ()) (q, ())) (hop.giv _ _ _) (fun _ => b) (hop.run _ _ _) (by kernel_rfl) rfl rfl ?_
 have hq1 := hq.len
 have d8 : (8 : Int) ≠ 0 := by decide
 simp only [hop.T, Hold, PubTo, SV.den, E.den, denL, binI, cT_eql, cF_eql, cT_neq, cF_neq, cT_lss, cF_lss, cT_leq, cF_leq, cT_gtr, cF_gtr, cT_geq, cF_geq, tT_eql, tF_eql, tT_neq, tF_neq, rowsD, denLL, Ob.den, den_cells, List.map_nil, List.map_cons, true_implies, forall_const, true_and, and_true, Bool.true_eq_false, Bool.false_eq_true, reduceCtorEq, false_implies, implies_true, Bool.not_not, Bool.not_true, Bool.not_false, Bool.not_eq_true', Bool.not_eq_false', cond_true, cond_false, Nat.add_eq, Nat.mul_eq, Nat.sub_eq, Nat.add_zero, Nat.zero_mul, Nat.zero_add]
 refine ⟨fun h8 b1 hb1 u1 hu1 hw => ?_, fun h8 => ?_⟩
 ·have h8 : k.hops = 8 := h8
  unfold hopF; rw [if_pos h8]
  exact ⟨.inr ⟨d8, _, rfl, hw _ (List.mem_singleton.2 rfl) 0 _ rfl⟩, p, rfl, fun h => absurd h d8⟩
 have h8 : ¬ k.hops = 8 := h8
 refine (check.cv text u (by omega)).mono fun v cs u1 hu1 ⟨hc, hv⟩ => ⟨(checkB text, ()), (), hv, hc, ?_⟩
 refine (halted.cv (checkB text) u1).mono fun v cs u2 hu2 ⟨hc2, hE⟩ => ⟨(v, ()), (), rfl, hc2, ?_⟩
 have hu02 := Mem.le_trans hu1 hu2
 refine ⟨?_, fun hn => ?_, fun hn => ?_⟩
 ·rcases hE with ⟨_, rfl⟩ | ⟨_, q, rfl, _⟩
  ·exact .inl rfl
  ·exact .inr ⟨_, _, rfl⟩
 ·rcases id hE with ⟨_, rfl⟩ | ⟨h0, _⟩
  ·cases hn
  ·unfold hopF; rw [if_neg h8, if_pos h0]
   exact ⟨hE, p, rfl, fun h => absurd h h0⟩
 obtain ⟨h0, rfl⟩ : checkB text = 0 ∧ v = .nilIface := by
  rcases hE with h | ⟨_, q, rfl, _⟩
  ·exact h
  ·cases hn
 have hle := parts_le text
 refine (split.cv text u2 (by omega)).mono fun v cs u3 hu3 ⟨hc3, s, hv3, hs3, hg3⟩ => ⟨(s, pre47 text, suf47 text, ()), (), hv3, hc3, ?_⟩
 have happ := bv_app (P := Tryz.prog) (t := 78) (ty := 78) (e := 9) (z := .string ⟨#[]⟩) (size := 1) (bytes := 16) (by kernel_rfl) (by kernel_rfl) rfl (by decide) (u0 := u) (m := q.2.1) (c := q.2.2) (a := q.1) (ys := rest.map .string) hu02 hg3
  (by rw [hq1, List.length_map, Nat.mul_one]) (fun hm => strs_reads (hq.at_.mono (Mem.le_trans hu02 hu3)) (fun e => hm (by rw [hq1, e]; rfl))) (fun y hy => by obtain ⟨x, _, rfl⟩ := List.mem_map.1 hy; rfl) (by rw [hs3, hq1]; omega) (by rw [hs3, hq1]; omega)
 have hF : hopF k text rest = if partsB text ++ rest = [] then (0, { k with hops := IntKind.i64.wrap (k.hops + 1), at_ := if pre47 text then 0 else k.at_, dir := 0, name := ⟨#[]⟩, ino := 0, slashed := k.slash, over := true }, [])
  else (0, { k with hops := IntKind.i64.wrap (k.hops + 1), at_ := if pre47 text then 0 else k.at_ }, partsB text ++ rest) := by
  unfold hopF; rw [if_neg h8, if_neg (by rw [h0]; simp)]
 rw [hF]
 clear hF
 have hfin : ∀ (s' : Option Addr × Nat × Nat), s'.2.1 = s.2.1 + q.2.1 → (((s'.2.1 : Nat) : Int) = 0 ↔ partsB text ++ rest = []) := fun s' hs' => by
  rw [hs', hs3, hq1]
  constructor
  ·intro h
   have h1 : (partsB text ++ rest).length = 0 := by rw [List.length_append]; omega
   exact List.length_eq_zero_iff.1 h1
  ·intro h
   have h1 := congrArg List.length h
   rw [List.length_append] at h1
   simp only [List.length_nil] at h1
   omega
 have hnew : ∀ (s' : Option Addr × Nat × Nat) (u4 : Mem), s'.2.1 = s.2.1 + q.2.1 → Grow u2 u4 s' 1 ((partsB text).map .string ++ rest.map .string) → PartsAt u4 s' (partsB text ++ rest) := fun s' u4 hs' hg' => by
  refine strs_at (v := u2) (by rw [List.map_append]; exact hg') (by rw [hs', hs3, hq1, List.length_append])
 refine ⟨fun hp => ?_, fun hp => ?_⟩
 ·have hp : pre47 text = true := hp
  refine happ.mono fun v u4 ⟨s', hv', hs', hg'⟩ => ⟨(s', ()), hv', fun hz => ?_, fun hz => ?_⟩
  ·have hz := (hfin s' hs').1 hz
   rw [if_pos hz, hp]
   have hend := end_.cv2 { k with hops := IntKind.i64.wrap (k.hops + 1), at_ := 0 } ⟨0, ⟨#[]⟩, 0, k.slash⟩ (A, n, c) m r s' b u4
   refine CV.mono hend fun v cs u5 hu5 h5 => ?_
   refine ⟨(), (_, ()), h5.1, h5.2, .inl ⟨rfl, rfl⟩, s', rfl, fun _ => ?_⟩
   have := (hnew s' u4 hs' hg').mono hu5
   rw [hz] at this; exact this
  ·have hz := fun e => hz ((hfin s' hs').2 e)
   rw [if_neg hz, hp]
   exact ⟨.inl ⟨rfl, rfl⟩, s', rfl, fun _ => hnew s' u4 hs' hg'⟩
 ·have hp : pre47 text = false := hp
  refine happ.mono fun v u4 ⟨s', hv', hs', hg'⟩ => ⟨(s', ()), hv', fun hz => ?_, fun hz => ?_⟩
  ·have hz := (hfin s' hs').1 hz
   rw [if_pos hz, hp]
   have hend := end_.cv2 { k with hops := IntKind.i64.wrap (k.hops + 1), at_ := k.at_ } ⟨0, ⟨#[]⟩, 0, k.slash⟩ (A, n, c) m r s' b u4
   refine CV.mono hend fun v cs u5 hu5 h5 => ?_
   refine ⟨(), (_, ()), h5.1, h5.2, .inl ⟨rfl, rfl⟩, s', rfl, fun _ => ?_⟩
   have := (hnew s' u4 hs' hg').mono hu5
   rw [hz] at this; exact this
  ·have hz := fun e => hz ((hfin s' hs').2 e)
   rw [if_neg hz, hp]
   exact ⟨.inl ⟨rfl, rfl⟩, s', rfl, fun _ => hnew s' u4 hs' hg'⟩
end Go.Proofs.YtpfbimkpcnnfkaaGreatDoor.Sx
set_option maxRecDepth 100000
set_option linter.unusedVariables false
set_option linter.unusedSimpArgs false
namespace Go.Proofs.YtpfbimkpcnnfkaaGreatDoor.Sx
open Go Go.RowKit Go.Proofs.YtpfbimkpcnnfkaaGreatDoor Go.Proofs.YtpfbimkpcnnfkaaGreatDoor.Ext
def walkGo (ns : List Nd) (who : Int) (follow slash : Bool) : Nat → Int → Int → List ByteArray → Sp × Int
 | 0, _, _, _ => (zSp, 0)
 | _ + 1, _, _, [] => (zSp, 0)
 | f + 1, at_, hops, part :: rest =>
  if ¬ hereB ns at_ = 0 then (zSp, hereB ns at_)
  else if mayB (getL ns at_).f1 (getL ns at_).f2 who 1 = false then (zSp, 7)
  else if namedB at_ (getL ns at_) part < 0 then (if rest = [] then (⟨at_, part, -1, slash⟩, 0) else (zSp, 2))
  else if (getL ns (namedB at_ (getL ns at_) part)).f0 = 3 ∧ (¬ rest = [] ∨ follow = true ∨ slash = true) then
   (if hops = 8 then (zSp, 8) else if ¬ checkB (getL ns (namedB at_ (getL ns at_) part)).f6 = 0 then (zSp, checkB (getL ns (namedB at_ (getL ns at_) part)).f6)
   else if partsB (getL ns (namedB at_ (getL ns at_) part)).f6 ++ rest = [] then (⟨0, ⟨#[]⟩, 0, slash⟩, 0)
   else walkGo ns who follow slash f (if pre47 (getL ns (namedB at_ (getL ns at_) part)).f6 then 0 else at_) (hops + 1) (partsB (getL ns (namedB at_ (getL ns at_) part)).f6 ++ rest))
  else if rest = [] then (if slash = true ∧ ¬ (getL ns (namedB at_ (getL ns at_) part)).f0 = 2 then (zSp, 4) else (⟨at_, part, namedB at_ (getL ns at_) part, slash⟩, 0))
  else walkGo ns who follow slash f (namedB at_ (getL ns at_) part) hops rest
def goF (ns : List Nd) (who at_ : Int) (parts : List ByteArray) (follow slash : Bool) : Sp × Int :=
 if parts = [] then (if ¬ hereB ns at_ = 0 then (zSp, hereB ns at_) else (⟨at_, ⟨#[]⟩, at_, true⟩, 0)) else walkGo ns who follow slash 2000 at_ 0 parts
def walkF (ns : List Nd) (who from_ : Int) (path : ByteArray) (follow : Bool) : Sp × Int :=
 if ¬ checkB path = 0 then (zSp, checkB path) else goF ns who (if pre47 path then 0 else from_) (partsB path) follow (suf47 path)
def nodeF (ns : List Nd) (who from_ : Int) (path : ByteArray) (follow : Bool) : Int × Int :=
 if ¬ (walkF ns who from_ path follow).2 = 0 then (0, (walkF ns who from_ path follow).2) else if (walkF ns who from_ path follow).1.f2 = -1 then (0, 2) else ((walkF ns who from_ path follow).1.f2, 0)
structure NdOk (n : Nd) : Prop where
 names : n.f7.length ≤ 1000000
 sorted : ∀ part, Sorted n.f7 part
 data : n.f6.size ≤ 1000
 up : n.f0 = 2 → 0 ≤ n.f5
 inos : ∀ e ∈ n.f7, 0 ≤ e.f1
 mode : 0 ≤ n.f1 ∧ n.f1 ≤ 63
structure NsOk (ns : List Nd) : Prop where
 len : ns.length ≤ 1000000
 all_ : ∀ n ∈ ns, NdOk n
theorem zNd_ok : NdOk zNd := ⟨by simp [zNd], fun part => ⟨fun a b x y _ hx => by simp [zNd] at hx, fun a b x y _ hx => by simp [zNd] at hx⟩, by decide, by simp [zNd], fun e he => by simp [zNd] at he, by decide⟩
theorem NsOk.get {ns : List Nd} (h : NsOk ns) (i : Int) : NdOk (getL ns i) := by
 unfold getL
 split
 ·rename_i hb
  unfold getB at hb
  simp only [decide_eq_true_eq] at hb
  have hi : i.toNat < ns.length := by omega
  rw [show ns.getD i.toNat zNd = ns[i.toNat] by simp [List.getD, hi]]
  exact h.all_ _ (List.getElem_mem hi)
 ·exact zNd_ok
theorem here_pos {ns : List Nd} {i : Int} (h : hereB ns i = 0) : 0 ≤ i := by
 unfold hereB getB at h
 split at h
 ·rename_i hb; simp only [decide_eq_true_eq] at hb; exact hb.1
 ·cases h
theorem here_dir {ns : List Nd} {i : Int} (h : hereB ns i = 0) : (getL ns i).f0 = 2 := by
 unfold hereB at h
 split at h
 ·split at h
  ·assumption
  ·cases h
 ·cases h
theorem ino_ge {l : List En} {part : ByteArray} (h : ∀ e ∈ l, 0 ≤ e.f1) : inoL l part = -1 ∨ 0 ≤ inoL l part := by
 unfold inoL
 split
 ·exact .inl rfl
 ·rename_i e he
  exact .inr (h e (List.mem_of_find?_eq_some he))
theorem named_ge {ns : List Nd} (h : NsOk ns) {at_ : Int} (ha : hereB ns at_ = 0) (part : ByteArray) : namedB at_ (getL ns at_) part = -1 ∨ 0 ≤ namedB at_ (getL ns at_) part := by
 unfold namedB
 split
 ·exact .inr (here_pos ha)
 ·split
  ·exact .inr ((h.get at_).up (here_dir ha))
  ·exact ino_ge (h.get at_).inos
def Wk.spot (k : Wk) : Sp := ⟨k.dir, k.name, k.ino, k.slashed⟩
def meas (hops : Int) (n : Nat) : Nat := (8 - hops).toNat * 200 + n
theorem check_parts {p : ByteArray} (h : checkB p = 0) : (partsB p).length ≤ 101 := by
 have h1 := parts_le p
 unfold checkB at h
 split at h
 ·cases h
 ·split at h
  ·cases h
  ·omega
theorem step_go {ns : List Nd} (hn : NsOk ns) (k : Wk) (part : ByteArray) (rest : List ByteArray) (f : Nat) (ho : k.over = false) (hh : 0 ≤ k.hops ∧ k.hops ≤ 8) :
  ((stepF hopF ns k part rest).1 ≠ 0 → walkGo ns k.who k.follow k.slash (f + 1) k.at_ k.hops (part :: rest) = (zSp, (stepF hopF ns k part rest).1)) ∧
  ((stepF hopF ns k part rest).1 = 0 → ((stepF hopF ns k part rest).2.1.over = true ∧ walkGo ns k.who k.follow k.slash (f + 1) k.at_ k.hops (part :: rest) = ((stepF hopF ns k part rest).2.1.spot, 0)) ∨
   ((stepF hopF ns k part rest).2.1.over = false ∧ walkGo ns k.who k.follow k.slash (f + 1) k.at_ k.hops (part :: rest) = walkGo ns k.who k.follow k.slash f (stepF hopF ns k part rest).2.1.at_ (stepF hopF ns k part rest).2.1.hops (stepF hopF ns k part rest).2.2 ∧
    meas (stepF hopF ns k part rest).2.1.hops (stepF hopF ns k part rest).2.2.length < meas k.hops (rest.length + 1) ∧ (stepF hopF ns k part rest).2.2 ≠ [] ∧ 0 ≤ (stepF hopF ns k part rest).2.1.hops ∧ (stepF hopF ns k part rest).2.1.hops ≤ 8)) ∧
  (stepF hopF ns k part rest).2.1.who = k.who ∧ (stepF hopF ns k part rest).2.1.follow = k.follow ∧ (stepF hopF ns k part rest).2.1.slash = k.slash := by
 simp only [walkGo, stepF]
 by_cases h0 : hereB ns k.at_ = 0
 case neg => simp [h0]
 simp only [h0, not_true, if_false]
 by_cases h1 : mayB (getL ns k.at_).f1 (getL ns k.at_).f2 k.who 1 = false
 ·simp [h1]
 have h1 : mayB (getL ns k.at_).f1 (getL ns k.at_).f2 k.who 1 = true := by simpa using h1
 simp only [h1, Bool.true_eq_false, if_false]
 have hge := named_ge hn h0 part
 generalize namedB k.at_ (getL ns k.at_) part = ino at *
 generalize getL ns ino = n at *
 unfold tailF
 rcases hge with rfl | hge
 ·simp only [if_true, show (-1 : Int) < 0 by decide]
  by_cases hr : rest = []
  ·simp [hr, Wk.ended, Wk.spot]
  ·simp [hr]
 have n1 : ¬ ino = -1 := by omega
 have n2 : ¬ ino < 0 := by omega
 simp only [n1, n2, if_false]
 by_cases h3 : n.f0 = 3 ∧ (¬ rest = [] ∨ k.follow = true ∨ k.slash = true)
 ·simp only [if_pos h3, hopF]
  by_cases h8 : k.hops = 8
  ·simp [h8]
  simp only [h8, if_false]
  by_cases hc : checkB n.f6 = 0
  case neg => simp [hc]
  have hw : IntKind.i64.wrap (k.hops + 1) = k.hops + 1 := by rw [IntKind.wrap_i64] <;> omega
  simp only [hc, not_true, if_false, hw]
  by_cases he : partsB n.f6 ++ rest = []
  ·simp [he, Wk.spot]
  ·simp only [he, if_false]
   refine ⟨fun h => absurd rfl h, fun _ => .inr ⟨ho, trivial, ?_, he, by omega, by omega⟩, trivial, trivial, trivial⟩
   have := check_parts hc
   simp only [meas, List.length_append]
   omega
 ·simp only [if_neg h3]
  by_cases hr : rest = []
  ·simp only [hr, if_true]
   by_cases hs : k.slash = true ∧ ¬ n.f0 = 2
   ·simp [hs]
   ·simp [hs, Wk.ended, Wk.spot]
  ·simp only [hr, if_false]
   refine ⟨fun h => absurd rfl h, fun _ => .inr ⟨ho, trivial, ?_, hr, hh.1, hh.2⟩, trivial, trivial, trivial⟩
   simp only [meas]; omega
end Go.Proofs.YtpfbimkpcnnfkaaGreatDoor.Sx
set_option maxRecDepth 100000
set_option linter.unusedVariables false
set_option linter.unusedSimpArgs false
namespace Go.Proofs.YtpfbimkpcnnfkaaGreatDoor.Sx
open Go Go.RowKit Go.Proofs.YtpfbimkpcnnfkaaGreatDoor Go.Proofs.YtpfbimkpcnnfkaaGreatDoor.Ext
def ErrW (u : Mem) (v : Value) (no : Int) : Prop := (no = 0 ∧ v = .nilIface) ∨ (no ≠ 0 ∧ ∃ p, u p 0 = some (.int .i64 no) ∧ (v = .iface 164 (.pointer (some ⟨p, 0, none⟩)) ∨
 ∃ q, v = .iface 187 (.pointer (some ⟨q, 0, none⟩)) ∧ u q 1 = some (.iface 164 (.pointer (some ⟨p, 0, none⟩)))))
theorem ErrAt.toW {u : Mem} {v : Value} {no : Int} (h : ErrAt u v no) : ErrW u v no := h.imp (fun h => h) fun ⟨h, p, h1, h2⟩ => ⟨h, p, h2, .inl h1⟩
def AllR (A : Option Addr) (n c : Nat) (m r : Int) (res : Sp × Int) (v : Value) (cs : List (List Value)) (u' : Mem) : Prop :=
 ∃ (no : Int) (k : Wk) (p : Option Addr × Nat × Nat), cs = [cv K1 (k.row (A, n, c) m r p)] ∧ ErrW u' v no ∧ (no ≠ 0 → res = (zSp, no)) ∧ (no = 0 → res = (k.spot, 0))
set_option maxHeartbeats 1000000 in
theorem all.cv (A : Option Addr) (c : Nat) (ns : List Nd) (m r : Int) (k : Wk) (ps : List ByteArray) (p : Option Addr × Nat × Nat) (b : Nat) (u : Mem)
  (hd : DiskAt u A ns) (hn : NsOk ns) (hp : PartsAt u p ps) (hl : ps.length ≤ 101) (hh : k.hops = 0) (ho : k.over = false) :
  CV Tryz.prog 116 [.pointer (some ⟨b, 0, none⟩)] [(b, cv K1 (k.row (A, ns.length, c) m r p))] u (AllR A ns.length c m r (goF ns k.who k.at_ ps k.follow k.slash)) := by
 refine cv_of names draws (fn := Tryz.f116) (b := bodyOf Tryz.f116) rfl rfl [⟨5, [], [50]⟩] (all.args (k.row (A, ns.length, c) m r p)) (all.giv _) (fun _ => b) (all.run _) (by kernel_rfl) rfl rfl ?_
 unfold all.T
 refine ⟨fun h0 => ?_, fun h0 => ?_⟩
 all_goals simp only [E.den, cT_eql, cF_eql] at h0
 ·have hps : ps = [] := by
   have h0 : (p.2.1 : Int) = 0 := h0
   rw [hp.len] at h0
   exact List.length_eq_zero_iff.1 (by omega)
  simp only [Hold, PubTo, SV.den, E.den, denL, binI, cT_eql, cF_eql, cT_neq, cF_neq, cT_lss, cF_lss, cT_leq, cF_leq, cT_gtr, cF_gtr, cT_geq, cF_geq, tT_eql, tF_eql, tT_neq, tF_neq, rowsD, denLL, Ob.den, den_cells, List.map_nil, List.map_cons, true_implies, forall_const, true_and, and_true, Bool.true_eq_false, Bool.false_eq_true, reduceCtorEq, false_implies, implies_true, Bool.not_not, Bool.not_true, Bool.not_false, Bool.not_eq_true', Bool.not_eq_false', cond_true, cond_false, Nat.add_eq, Nat.mul_eq, Nat.sub_eq, Nat.add_zero, Nat.zero_mul, Nat.zero_add]
  refine (here.cv k ns A c m r p b u hd hn.len).mono fun v cs u1 hu1 ⟨hc, a7, c7, e, hv, hE, h7, h8⟩ => ?_
  refine ⟨((getL ns k.at_).f0, (getL ns k.at_).f1, (getL ns k.at_).f2, (getL ns k.at_).f3, (getL ns k.at_).f4, (getL ns k.at_).f5, (getL ns k.at_).f6, (a7, (getL ns k.at_).f7.length, c7), e, ()), (k.row (A, ns.length, c) m r p, ()), hv, hc, fun b1 hb1 => ?_⟩
  have hend := end_.cv2 k ⟨k.at_, ⟨#[]⟩, k.at_, true⟩ (A, ns.length, c) m r p b u1
  refine CV.mono hend fun v cs u2 hu2 h5 => ?_
  refine ⟨(), ((k.ended ⟨k.at_, ⟨#[]⟩, k.at_, true⟩).row (A, ns.length, c) m r p, ()), h5.1, h5.2, hereB ns k.at_, _, p, rfl, (hE.mono hu2).toW, fun h => ?_, fun h => ?_⟩
  ·unfold goF; rw [if_pos hps, if_pos h]
  ·unfold goF; rw [if_pos hps, if_neg (by simp [h])]; rfl
 have hps : ps ≠ [] := fun e => h0 (by show (p.2.1 : Int) = 0; rw [hp.len, e]; rfl)
 refine hold_loop (sk := []) (oks := [K1]) (fun _ y u' => u.le u' ∧ ∃ (k' : Wk) (ps' : List ByteArray) (p' : Option Addr × Nat × Nat), y = (k'.row (A, ns.length, c) m r p', ()) ∧ PartsAt u' p' ps' ∧ k'.who = k.who ∧ k'.follow = k.follow ∧ k'.slash = k.slash ∧
   ((k'.over = true ∧ goF ns k.who k.at_ ps k.follow k.slash = (k'.spot, 0)) ∨
    (k'.over = false ∧ ps' ≠ [] ∧ 0 ≤ k'.hops ∧ k'.hops ≤ 8 ∧ ∃ f, goF ns k.who k.at_ ps k.follow k.slash = walkGo ns k.who k.follow k.slash f k'.at_ k'.hops ps' ∧ meas k'.hops ps'.length < f ∧ f ≤ 2000)))
  (fun _ y => if y.1.2.2.2.2.2.2.2.2.2.2.2.2.2.1 = true then 0 else 1 + meas y.1.2.2.2.2.2.2.2.2.1 y.1.2.2.2.2.2.1.2.1) () (k.row (A, ns.length, c) m r p, ()) rfl rfl
  ⟨Mem.le_refl u, k, ps, p, rfl, hp, rfl, rfl, rfl, .inr ⟨ho, hps, by omega, by omega, 2000, by unfold goF; rw [if_neg hps, hh], by simp only [meas]; omega, Nat.le_refl _⟩⟩ ?_
 rintro x y u1 ⟨hu1, k1, ps1, p1, rfl, hp1, w1, w2, w3, hI⟩
 unfold Wk.row
 simp only [Hold, PubTo, SV.den, E.den, denL, binI, cT_eql, cF_eql, cT_neq, cF_neq, cT_lss, cF_lss, cT_leq, cF_leq, cT_gtr, cF_gtr, cT_geq, cF_geq, tT_eql, tF_eql, tT_neq, tF_neq, rowsD, denLL, Ob.den, den_cells, List.map_nil, List.map_cons, true_implies, forall_const, true_and, and_true, Bool.true_eq_false, Bool.false_eq_true, reduceCtorEq, false_implies, implies_true, Bool.not_not, Bool.not_true, Bool.not_false, Bool.not_eq_true', Bool.not_eq_false', cond_true, cond_false, Nat.add_eq, Nat.mul_eq, Nat.sub_eq, Nat.add_zero, Nat.zero_mul, Nat.zero_add]
 refine ⟨fun hov => ?_, fun hov => ?_⟩
 ·have hov : k1.over = false := hov
  rcases hI with ⟨h, _⟩ | ⟨_, hps1, hh0, hh8, f, hf, hm, hf2⟩
  ·rw [hov] at h; cases h
  obtain ⟨part, rest, rfl⟩ : ∃ part rest, ps1 = part :: rest := by cases ps1 with | nil => exact absurd rfl hps1 | cons x r => exact ⟨x, r, rfl⟩
  obtain ⟨f, rfl⟩ : ∃ f', f = f' + 1 := ⟨f - 1, by omega⟩
  obtain ⟨pa, pn, pc⟩ := p1
  obtain ⟨q1, q2, q3⟩ := id hp1
  simp only [List.length_cons] at q1 q2 q3
  have hx := q3 0 part rfl
  have n0 : (0 : Int) < (pn : Int) := by omega
  refine ⟨⟨Int.le_refl 0, n0, hx.some⟩, (part, ()), hx, ?_⟩
  have hm' : meas k1.hops (rest.length + 1) < f + 1 := hm
  have hrl : rest.length ≤ 1000000 := by have h1 : (8 - k1.hops).toNat * 200 + (rest.length + 1) < f + 1 := hm'; omega
  have hst := step.cv A c ns m r (hop.cv A ns.length c m r) k1 part rest (pa, pn, pc) b u1 (hd.mono hu1) hn.len (fun i => ⟨(hn.get i).names, (hn.get i).sorted part, (hn.get i).data⟩) hrl hp1
  refine CV.mono hst fun v cs u2 hu2 ⟨hE, p2, hcs, hp2⟩ => ?_
  obtain ⟨g1, g2, g3, g4, g5⟩ := step_go hn k1 part rest f hov ⟨hh0, hh8⟩
  rw [w1, w2, w3] at g1 g2
  generalize stepF hopF ns k1 part rest = s at *
  obtain ⟨no, k2, ps2⟩ := s
  simp only at hE hcs hp2 g1 g2 g3 g4 g5
  refine ⟨(v, ()), (k2.row (A, ns.length, c) m r p2, ()), rfl, hcs, ?_, fun hnil => ?_, fun hnil => ?_⟩
  ·rcases hE with ⟨_, rfl⟩ | ⟨_, q, rfl, _⟩
   ·exact .inl rfl
   ·exact .inr ⟨_, _, rfl⟩
  ·rcases hE with ⟨_, rfl⟩ | ⟨hno, q, rfl, hq⟩
   ·cases hnil
   refine ⟨rfl, fun b2 hb2 u3 hu3 hw => ⟨no, k2, p2, rfl, .inr ⟨hno, q, hu3 _ _ _ hq, .inr ⟨b2, rfl, hw _ (List.mem_singleton.2 rfl) 1 _ rfl⟩⟩, fun _ => ?_, fun h => absurd h hno⟩⟩
   rw [hf]; exact g1 hno
  ·obtain ⟨h0, rfl⟩ : no = 0 ∧ v = .nilIface := by
    rcases hE with h | ⟨_, q, rfl, _⟩
    ·exact h
    ·cases hnil
   refine ⟨by simp, ?_⟩
   have hpn := hp2 h0
   rcases g2 h0 with ⟨e1, e2⟩ | ⟨e1, e2, e3, e4, e5, e6⟩
   ·refine ⟨(), (k2.row (A, ns.length, c) m r p2, ()), rfl, rfl, ⟨Mem.le_trans hu1 hu2, k2, ps2, p2, rfl, hpn, g3.trans w1, g4.trans w2, g5.trans w3, .inl ⟨e1, by rw [hf]; exact e2⟩⟩, ?_⟩
    show (if k2.over = true then 0 else _) < (if k1.over = true then 0 else _)
    rw [if_pos e1, if_neg (by rw [hov]; simp)]; omega
   ·refine ⟨(), (k2.row (A, ns.length, c) m r p2, ()), rfl, rfl, ⟨Mem.le_trans hu1 hu2, k2, ps2, p2, rfl, hpn, g3.trans w1, g4.trans w2, g5.trans w3, .inr ⟨e1, e4, e5, e6, f, by rw [hf]; exact e2, by omega, by omega⟩⟩, ?_⟩
    show (if k2.over = true then 0 else 1 + meas k2.hops p2.2.1) < (if k1.over = true then 0 else 1 + meas k1.hops pn)
    rw [if_neg (by rw [e1]; simp), if_neg (by rw [hov]; simp), hpn.len, q1]; omega
 ·have hov : k1.over = true := hov
  rcases hI with ⟨_, h⟩ | ⟨h, _⟩
  ·exact ⟨0, k1, p1, rfl, .inl ⟨rfl, rfl⟩, fun h => absurd rfl h, fun _ => h⟩
  ·rw [hov] at h; cases h
end Go.Proofs.YtpfbimkpcnnfkaaGreatDoor.Sx
