/- By Sx: errors.As of a way's error; walk.Walk, walk.Node. -/
import Derived.Test.YtpfbimkpcnnfkaaGreatDoorSwH
import Derived.Test.YtpfbimkpcnnfkaaGreatDoorAs
set_option maxRecDepth 100000
set_option linter.unusedVariables false
set_option linter.unusedSimpArgs false
namespace Go.Proofs.YtpfbimkpcnnfkaaGreatDoor.Sx
open Go Go.RowKit Go.Proofs.YtpfbimkpcnnfkaaGreatDoor Go.Proofs.YtpfbimkpcnnfkaaGreatDoor.Ext
def EgM (u : Mem) : Prop := u 1 0 = some (.iface 201 (.agg #[.pointer (some ⟨5, 85, none⟩)]))
theorem EgM.mono {u u' : Mem} (h : EgM u) (hu : u.le u') : EgM u' := hu _ _ _ h
theorem post_of_gro {u : Mem} {w w' : World} {t : Nat} {c0 c : List Value} (hs : Sees u w) (ho : ∀ o, u t o = none) (hg : Gro (· = t) w w') (hh : Has w' t c) : Post [(t, c0)] u w w' [c] u := by
 have hne : ∀ b o, u b o ≠ none → b ≠ t := fun b o h e => h (e ▸ ho o)
 refine ⟨⟨hg.os, hg.tape, hg.output, hg.size, fun k hk hB => hg.block k hk (by simpa using hB)⟩, rfl, fun j b c' hb hc => ?_, fun b o x hx => ?_, Mem.le_refl u, fun b o h => ⟨.inl h, by simpa using hne b o h⟩, fun b o h => .inl h⟩
 ·cases j with
  | zero => simp at hb hc; subst hb hc; exact hh
  | succ j => simp at hb
 ·have hn : u b o ≠ none := by rw [hx]; simp
  rw [cell_eq (hg.block b (cell_lt (hs b o x hx)) (hne b o hn))]; exact hs b o x hx
theorem has_alloc {w : World} {b : Nat} {cs : List Value} (h : Has w b cs) (o : Obj) : Has (w.alloc o) b cs := by
 have := has_lt h
 obtain ⟨t, h⟩ := h
 exact ⟨t, (Below.heap_alloc w o b this).trans h⟩
theorem has_set {w : World} {b : Nat} {x : Value} (h : Has w b [x]) (v : Value) : Has (w.setCell ⟨b, 0, none⟩ v) b [v] := by
 obtain ⟨t, h⟩ := h
 exact ⟨t, by simp [World.setCell, Array.getElem?_modify, h]⟩
theorem as.cv (ev : Value) (no : Int) (t : Nat) (u : Mem) (hg : EgM u) (h : ErrW u ev no) : CV Tryz.prog 117 [ev, .iface 167 (.pointer (some ⟨t, 0, none⟩))] [(t, [.pointer none])] u fun v cs u' => v = .bool (!decide (no = 0)) ∧
  ∃ a : Option Addr, cs = [[.pointer a]] ∧ (no ≠ 0 → ∃ p, a = some ⟨p, 0, none⟩ ∧ u' p 0 = some (.int .i64 no)) := by
 intro w hs hO _
 obtain ⟨hb, ho⟩ := hO (t, [.pointer none]) (List.mem_singleton.2 rfl)
 simp only at hb ho
 have hgw := hs _ _ _ hg
 have htc : w.cell? ⟨t, 0, none⟩ = some (.pointer none) := has_cell hb 0
 have fin : ∀ o1 o2 o3 o4 p, Post [(t, [.pointer none])] u w (((((w.alloc o1).alloc o2).alloc o3).alloc o4).setCell ⟨t, 0, none⟩ (.pointer (some p))) [[.pointer (some p)]] u := fun o1 o2 o3 o4 p =>
  post_of_gro hs ho (Gro.setCell (B := fun x => x = t) (((((Gro.refl _ w).alloc o1).alloc o2).alloc o3).alloc o4) (p := ⟨t, 0, none⟩) (.inl rfl) _) (has_set (has_alloc (has_alloc (has_alloc (has_alloc hb o1) o2) o3) o4) _)
 rcases h with ⟨h0, rfl⟩ | ⟨h0, p, hp, hc⟩
 ·refine (as_nil _ w).mono ?_
  rintro e w' ⟨rfl, rfl⟩
  exact ⟨_, _, _, rfl, post_of_gro hs ho (Gro.refl _ _) hb, by simp [h0], none, rfl, fun h => absurd h0 h⟩
 ·have hd : (!decide (no = 0)) = true := by simp [h0]
  rw [hd]
  rcases hc with rfl | ⟨q, rfl, hq⟩
  ·refine (as_hit ⟨p, 0, none⟩ ⟨t, 0, none⟩ _ w hgw htc (has_frozen hb 0)).mono ?_
   rintro e w' ⟨rfl, rfl⟩
   exact ⟨_, _, _, rfl, fin _ _ _ _ _, rfl, _, rfl, fun _ => ⟨p, rfl, hp⟩⟩
  ·refine (as_chain q ⟨p, 0, none⟩ ⟨t, 0, none⟩ _ w hgw htc (has_frozen hb 0) (hs _ _ _ hq)).mono ?_
   rintro e w' ⟨rfl, rfl⟩
   exact ⟨_, _, _, rfl, fin _ _ _ _ _, rfl, _, rfl, fun _ => ⟨p, rfl, hp⟩⟩
theorem pre.cv (a b : ByteArray) (u : Mem) : CV Tryz.prog 115 [.string a, .string b] [] u fun v cs _ => cs = [] ∧ v = .bool (Lib.hasPrefix a.data.toList b.data.toList) :=
 cv_still fun w => (Tryz.strings_HasPrefix a b w).mono fun e w' ⟨he, hw⟩ => ⟨he, hw ▸ Below.refl _ _⟩
set_option maxHeartbeats 1000000 in
theorem walk.cv (A : Option Addr) (c : Nat) (ns : List Nd) (m r who from_ : Int) (path : ByteArray) (follow : Bool) (u : Mem) (hd : DiskAt u A ns) (hn : NsOk ns) (hg : EgM u) (hp : path.size ≤ 1000000000000) :
  CV Tryz.prog 89 [.agg #[.slice A ns.length c, .int .i64 m, .int .i64 r], .int .i64 who, .int .i64 from_, .string path, .bool follow] [] u fun v cs u' => cs = [] ∧ v = .tuple #[.agg (cv K3 (walkF ns who from_ path follow).1.row).toArray, .int .i64 (walkF ns who from_ path follow).2] := by
 refine cv_of names draws (fn := Tryz.f89) (b := bodyOf Tryz.f89) rfl rfl [] (walk.args ((A, ns.length, c), m, r, ()) (who, ()) (from_, ()) (path, ()) (follow, ())) (walk.giv _ _ _ _ _) (fun _ => 0) (walk.run _ _ _ _ _) (by kernel_rfl) rfl rfl ?_
 simp only [walk.T, Hold, PubTo, SV.den, E.den, denL, binI, cT_eql, cF_eql, cT_neq, cF_neq, cT_lss, cF_lss, cT_leq, cF_leq, cT_gtr, cF_gtr, cT_geq, cF_geq, tT_eql, tF_eql, tT_neq, tF_neq, rowsD, denLL, Ob.den, den_cells, List.map_nil, List.map_cons, true_implies, forall_const, true_and, and_true, Bool.true_eq_false, Bool.false_eq_true, reduceCtorEq, false_implies, implies_true, Bool.not_not, Bool.not_true, Bool.not_false, Bool.not_eq_true', Bool.not_eq_false', cond_true, cond_false, Nat.add_eq, Nat.mul_eq, Nat.sub_eq, Nat.add_zero, Nat.zero_mul, Nat.zero_add]
 intro b1 hb1 b2 hb2
 refine (check.cv path u hp).mono fun v cs u1 hu1 ⟨hc, hv⟩ => ⟨(checkB path, ()), (), hv, hc, fun h0 => ?_, fun h0 => ?_⟩
 ·have h0 : ¬ checkB path = 0 := h0
  unfold walkF; rw [if_pos h0]; rfl
 have h0 : checkB path = 0 := h0
 have hF : walkF ns who from_ path follow = goF ns who (if pre47 path then 0 else from_) (partsB path) follow (suf47 path) := by unfold walkF; rw [if_neg (by simp [h0])]
 rw [hF]
 clear hF
 intro b3 hb3
 refine (split.cv path u1 hp).mono fun v cs u2 hu2 ⟨hc2, s, hv2, hs2, hg2⟩ => ⟨(s, pre47 path, suf47 path, ()), (), hv2, hc2, ?_⟩
 have hps := (strs_at hg2 hs2)
 have hu02 := Mem.le_trans hu1 hu2
 have hl := check_parts h0
 refine (pre.cv path ⟨#[47]⟩ u2).mono fun v cs u3 hu3 ⟨hc3, hv3⟩ => ⟨(pre47 path, ()), (), hv3, hc3, fun hp => ?_, fun hp => ?_⟩
 ·have hp : pre47 path = true := hp
  rw [hp]
  intro b4 hb4
  have hall := all.cv A c ns m r ⟨who, 0, follow, suf47 path, 0, 0, ⟨#[]⟩, 0, false, false⟩ (partsB path) s b3 u3 (hd.mono (Mem.le_trans hu02 hu3)) hn (hps.mono hu3) hl rfl rfl
  refine CV.mono hall fun v cs u4 hu4 ⟨no, k, p, hcs, hE, e1, e2⟩ => ⟨(v, ()), (k.row (A, ns.length, c) m r p, ()), rfl, hcs, ?_⟩
  refine CV.mono (as.cv v no b4 u4 (hg.mono (Mem.le_trans (Mem.le_trans hu02 hu3) hu4)) hE) fun w cs u5 hu5 ⟨hv5, a, hcs5, h5⟩ => ⟨(!decide (no = 0), ()), ((.pointer a, ()), ()), hv5, hcs5, fun ht => ?_, fun hf => ?_⟩
  ·have hno : no ≠ 0 := by have ht : (!decide (no = 0)) = true := ht; simpa using ht
   obtain ⟨p, rfl, hp5⟩ := h5 hno
   refine ⟨rfl, rfl, (no, ()), ⟨p, 0, rfl, fun j v hj => ?_⟩, ?_⟩
   ·cases j with
    | zero => cases hj; exact hp5
    | succ j => cases hj
   ·have := e1 hno
    simp only at this
    rw [show goF ns who (if true = true then 0 else from_) (partsB path) follow (suf47 path) = (zSp, no) from this]; rfl
  ·have hno : no = 0 := by have hf : (!decide (no = 0)) = false := hf; simpa using hf
   have := e2 hno
   simp only at this
   rw [show goF ns who (if true = true then 0 else from_) (partsB path) follow (suf47 path) = (k.spot, 0) from this]; rfl
 ·have hp : pre47 path = false := hp
  rw [hp]
  intro b4 hb4
  have hall := all.cv A c ns m r ⟨who, from_, follow, suf47 path, 0, 0, ⟨#[]⟩, 0, false, false⟩ (partsB path) s b3 u3 (hd.mono (Mem.le_trans hu02 hu3)) hn (hps.mono hu3) hl rfl rfl
  refine CV.mono hall fun v cs u4 hu4 ⟨no, k, p, hcs, hE, e1, e2⟩ => ⟨(v, ()), (k.row (A, ns.length, c) m r p, ()), rfl, hcs, ?_⟩
  refine CV.mono (as.cv v no b4 u4 (hg.mono (Mem.le_trans (Mem.le_trans hu02 hu3) hu4)) hE) fun w cs u5 hu5 ⟨hv5, a, hcs5, h5⟩ => ⟨(!decide (no = 0), ()), ((.pointer a, ()), ()), hv5, hcs5, fun ht => ?_, fun hf => ?_⟩
  ·have hno : no ≠ 0 := by have ht : (!decide (no = 0)) = true := ht; simpa using ht
   obtain ⟨p, rfl, hp5⟩ := h5 hno
   refine ⟨rfl, rfl, (no, ()), ⟨p, 0, rfl, fun j v hj => ?_⟩, ?_⟩
   ·cases j with
    | zero => cases hj; exact hp5
    | succ j => cases hj
   ·have := e1 hno
    simp only at this
    rw [show goF ns who (if false = true then 0 else from_) (partsB path) follow (suf47 path) = (zSp, no) from this]; rfl
  ·have hno : no = 0 := by have hf : (!decide (no = 0)) = false := hf; simpa using hf
   have := e2 hno
   simp only at this
   rw [show goF ns who (if false = true then 0 else from_) (partsB path) follow (suf47 path) = (k.spot, 0) from this]; rfl
theorem node.cv (A : Option Addr) (c : Nat) (ns : List Nd) (m r who from_ : Int) (path : ByteArray) (follow : Bool) (u : Mem) (hd : DiskAt u A ns) (hn : NsOk ns) (hg : EgM u) (hp : path.size ≤ 1000000000000) :
  CV Tryz.prog 41 [.agg #[.slice A ns.length c, .int .i64 m, .int .i64 r], .int .i64 who, .int .i64 from_, .string path, .bool follow] [] u fun v cs u' => cs = [] ∧ v = .tuple #[.int .i64 (nodeF ns who from_ path follow).1, .int .i64 (nodeF ns who from_ path follow).2] := by
 refine cv_of names draws (fn := Tryz.f41) (b := bodyOf Tryz.f41) rfl rfl [] (node.args ((A, ns.length, c), m, r, ()) (who, ()) (from_, ()) (path, ()) (follow, ())) (node.giv _ _ _ _ _) (fun _ => 0) (node.run _ _ _ _ _) (by kernel_rfl) rfl rfl ?_
 simp only [node.T, Hold, PubTo, SV.den, E.den, denL, binI, cT_eql, cF_eql, cT_neq, cF_neq, cT_lss, cF_lss, cT_leq, cF_leq, cT_gtr, cF_gtr, cT_geq, cF_geq, tT_eql, tF_eql, tT_neq, tF_neq, rowsD, denLL, Ob.den, den_cells, List.map_nil, List.map_cons, true_implies, forall_const, true_and, and_true, Bool.true_eq_false, Bool.false_eq_true, reduceCtorEq, false_implies, implies_true, Bool.not_not, Bool.not_true, Bool.not_false, Bool.not_eq_true', Bool.not_eq_false', cond_true, cond_false, Nat.add_eq, Nat.mul_eq, Nat.sub_eq, Nat.add_zero, Nat.zero_mul, Nat.zero_add]
 intro b1 hb1
 unfold nodeF
 refine (walk.cv A c ns m r who from_ path follow u hd hn hg hp).mono fun v cs u1 hu1 ⟨hc, hv⟩ => ?_
 generalize walkF ns who from_ path follow = w at *
 obtain ⟨sp, e⟩ := w
 refine ⟨(sp.f0, sp.f1, sp.f2, sp.f3, e, ()), (), hv, hc, fun b2 hb2 => ⟨fun h => ?_, fun h => ⟨fun h2 => ?_, fun h2 => ?_⟩⟩⟩
 ·rw [if_pos h]
 ·rw [if_neg (fun hh => hh h), if_pos h2]
 ·rw [if_neg (fun hh => hh h), if_neg h2]
end Go.Proofs.YtpfbimkpcnnfkaaGreatDoor.Sx
