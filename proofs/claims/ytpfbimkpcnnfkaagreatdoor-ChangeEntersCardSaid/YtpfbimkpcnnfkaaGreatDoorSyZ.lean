/- By Sx: the reference's Add, and what enters. -/
import Derived.Test.YtpfbimkpcnnfkaaGreatDoorSyQ
import Derived.Test.YtpfbimkpcnnfkaaGreatDoorSxTh
/- By Sx: the reference's changes. -/
/- By Sx: the reference's disks and changes. -/
/- By Sx: the reference's entries and disks: Drop, Put; Set, Used, Add, Settle, Same. -/
set_option maxRecDepth 100000
set_option linter.unusedVariables false
set_option linter.unusedSimpArgs false
namespace Go.Proofs.YtpfbimkpcnnfkaaGreatDoor.Sx
open Go Go.RowKit Go.Proofs.YtpfbimkpcnnfkaaGreatDoor Go.Proofs.YtpfbimkpcnnfkaaGreatDoor.Ext
theorem filter_succ {l : List En} (p : En → Bool) (i : Nat) (e : En) (h : l[i]? = some e) : (l.take (i + 1)).filter p = (l.take i).filter p ++ if p e = true then [e] else [] := by
 obtain ⟨g, rfl⟩ := List.getElem?_eq_some_iff.1 h
 rw [List.take_succ_eq_append_getElem g, List.filter_append]
 congr 1
 by_cases hx : p l[i] = true
 ·rw [if_pos hx, List.filter_cons_of_pos hx]; rfl
 ·rw [if_neg hx, List.filter_cons_of_neg hx]; rfl
theorem ent_one {u u1 v : Mem} {s : Option Addr × Nat × Nat} {es : List Value} {b : Nat} {e : En} (hv : u.le v) (hg : Grow v u1 s 2 es) {u2 : Mem} (h2 : u1.le u2) (hw : ∀ (j : Nat) x, ([.string e.f0, .int .i64 e.f1] : List Value)[j]? = some x → u2 b j = some x) (hs : s.2.1 ≤ 1000000) :
  BV Tryz.prog (.bi .append #[62, 62] 62) [.slice s.1 s.2.1 s.2.2, .slice (some ⟨b, 0, none⟩) 1 1] u u2 fun r u' => ∃ s' : Option Addr × Nat × Nat, r = .slice s'.1 s'.2.1 s'.2.2 ∧ s'.2.1 = s.2.1 + 1 ∧ Grow v u' s' 2 (es ++ [.string e.f0, .int .i64 e.f1]) :=
 bv_one (P := Tryz.prog) (t := 62) (ty := 62) (e := 124) (z := .agg #[.string ⟨#[]⟩, .int .i64 0]) (size := 2) (bytes := 24) (by kernel_rfl) (by kernel_rfl) rfl (by decide) (u0 := u) (b := b) (ys := [.string e.f0, .int .i64 e.f1]) hv hg h2 hw rfl (by simp [Value.oneCell']) (by omega) (by omega)
theorem rdrop.cv (A : Option Addr) (c : Nat) (l : List En) (name : ByteArray) (u : Mem) (hd : EntAt u A l) (hl : l.length ≤ 100000) :
  CV Tryz.prog 61 [.slice A l.length c, .string name] [] u fun v cs u' => cs = [] ∧ ∃ A' c', v = .slice A' (dropF l name).length c' ∧ (dropF l name).length ≤ c' ∧ EntAt u' A' (dropF l name) := by
 refine cv_of names draws (fn := Tryz.f61) (b := bodyOf Tryz.f61) rfl rfl [⟨3, [5, 6], []⟩] (rdrop.args ((A, l.length, c), ()) (name, ())) (rdrop.giv _ _) (fun _ => 0) (rdrop.run _ _) (by kernel_rfl) rfl rfl ?_
 unfold rdrop.T
 refine hold_bi ((bv_emp (P := Tryz.prog) (t := 62) (e := 124) (n := 2) (by kernel_rfl) (by kernel_rfl) 2).mono fun v u1 ⟨s0, hv0, hs0, hg0⟩ => ⟨(s0, ()), hv0, ?_⟩)
 have hfl : ∀ i, (dropF (l.take i) name).length ≤ l.length := fun i => Nat.le_trans (List.length_filter_le _ _) (by rw [List.length_take]; omega)
 refine hold_loop (sk := [.s, .i .i64]) (oks := []) (fun x y u' => ∃ (i : Nat) (s : Option Addr × Nat × Nat), x = (s, (i : Int), ()) ∧ i ≤ l.length ∧ s.2.1 = (dropF (l.take i) name).length ∧ Grow u u' s 2 (entC (dropF (l.take i) name))) (fun x _ => ((l.length : Int) - x.2.1).toNat) (s0, 0, ()) () rfl rfl ⟨0, s0, rfl, by omega, hs0, hg0⟩ ?_
 rintro x y u2 ⟨i, s, rfl, hi, hsi, hg⟩
 refine ⟨fun hlt => ?_, fun hge => ?_⟩
 ·simp only [E.den, cT_lss] at hlt
  have hlt : (i : Int) < (l.length : Int) := hlt
  have hil : i < l.length := by omega
  obtain ⟨e, he⟩ : ∃ e, l[i]? = some e := ⟨_, List.getElem?_eq_getElem hil⟩
  have re := (hd i e he).mono hg.le
  have b1 : (0 : Int) ≤ (i : Int) ∧ (i : Int) < (l.length : Int) ∧ A.isSome = true := ⟨by omega, hlt, re.some⟩
  have rr : Reads u2 A ((i : Int).toNat * 2) [.string e.f0, .int .i64 e.f1] := by rw [Int.toNat_natCast]; exact re
  have hfs := filter_succ (fun x => decide (¬ ord x name = 0)) i e he
  have hfi := hfl i
  refine ⟨fun _ => b1, fun _ => b1.2.2, fun _ => ⟨(e.f0, ()), rr.part 0 1, fun h => ?_, fun h => ?_⟩, fun h => by cases h⟩
  ·simp only [E.den, tT_neq] at h
   have h : ¬ ord e name = 0 := fun h0 => h ((ord_zero e name).1 h0)
   rw [if_pos (by simpa using h)] at hfs
   refine ⟨fun _ => b1, fun _ => ⟨(e.f0, e.f1, ()), rr, fun b4 hb4 => ⟨fun _ u3 h3 hw => ?_, fun h => by cases h⟩⟩, fun h => by cases h⟩
   refine (ent_one (Mem.le_refl u) hg h3 (hw _ (List.mem_singleton.2 rfl)) (by omega)).mono fun v u4 ⟨s', hv', hs', hg'⟩ => ⟨(s', ()), hv', by simp, ?_⟩
   simp only [if_true]
   refine ⟨(s', ((i + 1 : Nat) : Int), ()), (), by rw [← wrap_succ (show i < 4611686018427387904 by omega)]; rfl, rfl, ⟨i + 1, s', rfl, by omega, ?_, ?_⟩, by simp only; omega⟩
   ·rw [hs', hsi]; unfold dropF; rw [hfs, List.length_append]; rfl
   ·unfold dropF at hg' ⊢; rw [hfs, entC_app]; exact hg'
  ·simp only [E.den, tF_neq] at h
   have h : ord e name = 0 := (ord_zero e name).2 h
   rw [if_neg (by simpa using h), List.append_nil] at hfs
   refine ⟨by simp, ?_⟩
   simp only [if_true]
   refine ⟨(s, ((i + 1 : Nat) : Int), ()), (), by rw [← wrap_succ (show i < 4611686018427387904 by omega)]; rfl, rfl, ⟨i + 1, s, rfl, by omega, ?_, ?_⟩, by simp only; omega⟩
   ·rw [hsi]; unfold dropF; rw [hfs]
   ·unfold dropF at hg ⊢; rw [hfs]; exact hg
 ·simp only [E.den, cF_lss] at hge
  have hge : (l.length : Int) ≤ (i : Int) := hge
  obtain rfl : i = l.length := by omega
  rw [List.take_length] at hg hsi
  refine ⟨rfl, s.1, s.2.2, by rw [← hsi]; rfl, by rw [← hsi]; exact hg.cap, grow_ent hg⟩
theorem cmp_pos (a b : List UInt8) : 0 < Lib.compareBytes a b ↔ (!(Op.bytesLess a b || a == b)) = true := by
 rcases Int.lt_trichotomy (Lib.compareBytes a b) 0 with h | h | h
 ·rw [(cmp_neg a b).1 h]; simp; omega
 ·have e := (cmp_zero a b).1 h
  subst e
  rw [h]; simp
 ·have h1 : Op.bytesLess a b = false := by
   cases hh : Op.bytesLess a b with
   | false => rfl
   | true => have := (cmp_neg a b).2 hh; omega
  have h2 : (a == b) = false := by
   rw [beq_eq_false_iff_ne]; intro e; have := (cmp_zero a b).2 e; omega
  rw [h1, h2]; simp [h]
theorem rput.cv (A : Option Addr) (c : Nat) (l0 : List En) (e0 : En) (u : Mem) (hd0 : EntAt u A l0) (hl0 : l0.length ≤ 100000) :
  CV Tryz.prog 106 [.slice A l0.length c, .agg #[.string e0.f0, .int .i64 e0.f1]] [] u fun v cs u' => cs = [] ∧ ∃ A' c', v = .slice A' (putF l0 e0).length c' ∧ (putF l0 e0).length ≤ c' ∧ EntAt u' A' (putF l0 e0) := by
 refine cv_of names draws (fn := Tryz.f106) (b := bodyOf Tryz.f106) rfl rfl [⟨4, [6, 7], []⟩, ⟨10, [6, 8], []⟩] (rput.args ((A, l0.length, c), ()) (e0.f0, e0.f1, ())) (rput.giv _ _) (fun _ => 0) (rput.run _ _) (by kernel_rfl) rfl rfl ?_
 unfold rput.T
 intro b1 hb1
 refine hold_call ((rdrop.cv A c l0 e0.f0 u hd0 hl0).mono fun v cs ua hua ⟨hc, A1, c1, hv, hcap, hd⟩ => ⟨((A1, (dropF l0 e0.f0).length, c1), ()), (), hv, hc, ?_⟩)
 have hl : (dropF l0 e0.f0).length ≤ 100000 := Nat.le_trans (List.length_filter_le _ _) hl0
 have hput : putF l0 e0 = (dropF l0 e0.f0).filter (fun x => decide (ord x e0.f0 < 0)) ++ [e0] ++ (dropF l0 e0.f0).filter (fun x => decide (0 < ord x e0.f0)) := by
  unfold putF dropF
  rw [List.filter_filter, List.filter_filter]
  congr 1
  ·congr 1
   exact List.filter_congr fun x _ => by rw [Bool.eq_iff_iff]; simp; omega
  ·exact List.filter_congr fun x _ => by rw [Bool.eq_iff_iff]; simp; omega
 rw [hput]
 generalize dropF l0 e0.f0 = l at hd hl hcap ⊢
 have cl : ∀ e : En, (ord e e0.f0 < 0) ↔ Op.bytesLess e.f0.toList e0.f0.toList = true := fun e => by unfold ord; rw [cmp_neg, toList_data, toList_data]
 have cg : ∀ e : En, (0 < ord e e0.f0) ↔ (!(Op.bytesLess e.f0.toList e0.f0.toList || e.f0.toList == e0.f0.toList)) = true := fun e => by unfold ord; rw [cmp_pos, toList_data, toList_data]
 refine hold_bi ((bv_emp (P := Tryz.prog) (t := 62) (e := 124) (n := 2) (by kernel_rfl) (by kernel_rfl) 2).mono fun v u1 ⟨s0, hv0, hs0, hg0⟩ => ⟨(s0, ()), hv0, ?_⟩)
 have hfl : ∀ i, ((l.take i).filter (fun x => decide (ord x e0.f0 < 0))).length ≤ l.length := fun i => Nat.le_trans (List.length_filter_le _ _) (by rw [List.length_take]; omega)
 have hfg : ∀ i, ((l.take i).filter (fun x => decide (0 < ord x e0.f0))).length ≤ l.length := fun i => Nat.le_trans (List.length_filter_le _ _) (by rw [List.length_take]; omega)
 refine hold_loop (sk := [.s, .i .i64]) (oks := []) (fun x y u' => ∃ (i : Nat) (s : Option Addr × Nat × Nat), x = (s, (i : Int), ()) ∧ i ≤ l.length ∧ s.2.1 = ((l.take i).filter (fun x => decide (ord x e0.f0 < 0))).length ∧ Grow ua u' s 2 (entC ((l.take i).filter (fun x => decide (ord x e0.f0 < 0))))) (fun x _ => ((l.length : Int) - x.2.1).toNat) (s0, 0, ()) () rfl rfl ⟨0, s0, rfl, by omega, hs0, hg0⟩ ?_
 rintro x y u2 ⟨i, s, rfl, hi, hsi, hg⟩
 refine ⟨fun hlt => ?_, fun hge => ?_⟩
 ·simp only [E.den, cT_lss] at hlt
  have hlt : (i : Int) < (l.length : Int) := hlt
  have hil : i < l.length := by omega
  obtain ⟨e, he⟩ : ∃ e, l[i]? = some e := ⟨_, List.getElem?_eq_getElem hil⟩
  have re := (hd i e he).mono hg.le
  have b1 : (0 : Int) ≤ (i : Int) ∧ (i : Int) < (l.length : Int) ∧ A1.isSome = true := ⟨by omega, hlt, re.some⟩
  have rr : Reads u2 A1 ((i : Int).toNat * 2) [.string e.f0, .int .i64 e.f1] := by rw [Int.toNat_natCast]; exact re
  have hfs := filter_succ (fun x => decide (ord x e0.f0 < 0)) i e he
  have hfi := hfl i
  refine ⟨fun _ => b1, fun _ => b1.2.2, fun _ => ⟨(e.f0, ()), rr.part 0 1, fun h => ?_, fun h => ?_⟩, fun h => by cases h⟩
  ·have h : Op.bytesLess e.f0.toList e0.f0.toList = true := h
   have h := (cl e).2 h
   rw [if_pos (by simpa using h)] at hfs
   refine ⟨fun _ => b1, fun _ => ⟨(e.f0, e.f1, ()), rr, fun b4 hb4 => ⟨fun _ u3 h3 hw => ?_, fun h => by cases h⟩⟩, fun h => by cases h⟩
   refine (ent_one hua hg h3 (hw _ (List.mem_singleton.2 rfl)) (by omega)).mono fun v u4 ⟨s', hv', hs', hg'⟩ => ⟨(s', ()), hv', by simp, ?_⟩
   simp only [if_true]
   refine ⟨(s', ((i + 1 : Nat) : Int), ()), (), by rw [← wrap_succ (show i < 4611686018427387904 by omega)]; rfl, rfl, ⟨i + 1, s', rfl, by omega, ?_, ?_⟩, by simp only; omega⟩
   ·rw [hs', hsi, hfs]; simp only [List.length_append, List.length_cons, List.length_nil]; try omega
   ·rw [hfs]; simp only [← List.append_assoc, entC_app] at hg' ⊢; exact hg'
  ·have h : Op.bytesLess e.f0.toList e0.f0.toList = false := h
   have h : ¬ (ord e e0.f0 < 0) := fun h' => by rw [(cl e).1 h'] at h; cases h
   rw [if_neg (by simpa using h), List.append_nil] at hfs
   refine ⟨by simp, ?_⟩
   simp only [if_true]
   refine ⟨(s, ((i + 1 : Nat) : Int), ()), (), by rw [← wrap_succ (show i < 4611686018427387904 by omega)]; rfl, rfl, ⟨i + 1, s, rfl, by omega, by rw [hsi, hfs], by rw [hfs]; exact hg⟩, by simp only; omega⟩
 simp only [E.den, cF_lss] at hge
 have hge : (l.length : Int) ≤ (i : Int) := hge
 obtain rfl : i = l.length := by omega
 rw [List.take_length] at hg hsi
 have hfll := hfl l.length
 rw [List.take_length] at hfll
 intro b37 hb37
 refine ⟨fun _ u3 h3 hw => ?_, fun h => by cases h⟩
 refine (ent_one (e := e0) hua hg h3 (hw _ (List.mem_singleton.2 rfl)) (by omega)).mono fun v u4 ⟨s1, hv1, hs1, hg1⟩ => ⟨(s1, ()), hv1, ?_⟩
 clear hg hw h3
 obtain ⟨F, hF⟩ : ∃ F, l.filter (fun x => decide (ord x e0.f0 < 0)) = F := ⟨_, rfl⟩
 rw [hF] at hsi hg1 hfll ⊢
 have hg1 : Grow ua u4 s1 2 (entC (F ++ [e0])) := by rw [entC_app]; exact hg1
 have hs1 : s1.2.1 = (F ++ [e0]).length := by rw [hs1, hsi, List.length_append]; rfl
 have hFl : (F ++ [e0]).length ≤ 100001 := by rw [List.length_append]; simp only [List.length_cons, List.length_nil]; omega
 generalize F ++ [e0] = F at hg1 hs1 hFl ⊢
 refine hold_loop (sk := [.s, .i .i64]) (oks := []) (fun x y u' => ∃ (i : Nat) (s : Option Addr × Nat × Nat), x = (s, (i : Int), ()) ∧ i ≤ l.length ∧ s.2.1 = (F ++ (l.take i).filter (fun x => decide (0 < ord x e0.f0))).length ∧ Grow ua u' s 2 (entC (F ++ (l.take i).filter (fun x => decide (0 < ord x e0.f0))))) (fun x _ => ((l.length : Int) - x.2.1).toNat) (s1, 0, ()) () rfl rfl ⟨0, s1, rfl, by omega, by simpa using hs1, by simpa using hg1⟩ ?_
 clear hs1 hg1 hsi hge
 rintro x y u2 ⟨i, s, rfl, hi, hsi, hg⟩
 refine ⟨fun hlt => ?_, fun hge => ?_⟩
 ·simp only [E.den, cT_lss] at hlt
  have hlt : (i : Int) < (l.length : Int) := hlt
  have hfl := hfg
  rw [List.length_append] at hsi
  have hil : i < l.length := by omega
  obtain ⟨e, he⟩ : ∃ e, l[i]? = some e := ⟨_, List.getElem?_eq_getElem hil⟩
  have re := (hd i e he).mono hg.le
  have b1 : (0 : Int) ≤ (i : Int) ∧ (i : Int) < (l.length : Int) ∧ A1.isSome = true := ⟨by omega, hlt, re.some⟩
  have rr : Reads u2 A1 ((i : Int).toNat * 2) [.string e.f0, .int .i64 e.f1] := by rw [Int.toNat_natCast]; exact re
  have hfs := filter_succ (fun x => decide (0 < ord x e0.f0)) i e he
  have hfi := hfl i
  refine ⟨fun _ => b1, fun _ => b1.2.2, fun _ => ⟨(e.f0, ()), rr.part 0 1, fun h => ?_, fun h => ?_⟩, fun h => by cases h⟩
  ·have h : (!(Op.bytesLess e.f0.toList e0.f0.toList || e.f0.toList == e0.f0.toList)) = true := h
   have h := (cg e).2 h
   rw [if_pos (by simpa using h)] at hfs
   refine ⟨fun _ => b1, fun _ => ⟨(e.f0, e.f1, ()), rr, fun b4 hb4 => ⟨fun _ u3 h3 hw => ?_, fun h => by cases h⟩⟩, fun h => by cases h⟩
   refine (ent_one hua hg h3 (hw _ (List.mem_singleton.2 rfl)) (by omega)).mono fun v u4 ⟨s', hv', hs', hg'⟩ => ⟨(s', ()), hv', by simp, ?_⟩
   simp only [if_true]
   refine ⟨(s', ((i + 1 : Nat) : Int), ()), (), by rw [← wrap_succ (show i < 4611686018427387904 by omega)]; rfl, rfl, ⟨i + 1, s', rfl, by omega, ?_, ?_⟩, by simp only; omega⟩
   ·rw [hs', hsi, hfs]; simp only [List.length_append, List.length_cons, List.length_nil]; try omega
   ·rw [hfs]; simp only [← List.append_assoc, entC_app] at hg' ⊢; exact hg'
  ·have h : (!(Op.bytesLess e.f0.toList e0.f0.toList || e.f0.toList == e0.f0.toList)) = false := h
   have h : ¬ (0 < ord e e0.f0) := fun h' => by rw [(cg e).1 h'] at h; cases h
   rw [if_neg (by simpa using h), List.append_nil] at hfs
   refine ⟨by simp, ?_⟩
   simp only [if_true]
   refine ⟨(s, ((i + 1 : Nat) : Int), ()), (), by rw [← wrap_succ (show i < 4611686018427387904 by omega)]; rfl, rfl, ⟨i + 1, s, rfl, by omega, by rw [hsi, hfs, List.length_append], by rw [hfs]; exact hg⟩, by simp only; omega⟩
 ·simp only [E.den, cF_lss] at hge
  have hge : (l.length : Int) ≤ (i : Int) := hge
  obtain rfl : i = l.length := by omega
  rw [List.take_length] at hg hsi
  refine ⟨rfl, s.1, s.2.2, by rw [← hsi]; rfl, by rw [← hsi]; exact hg.cap, grow_ent hg⟩
theorem r6set.cv (A : Option Addr) (c : Nat) (ns : List Nd) (m r i : Int) (n : Nd) (a7 : Option Addr) (c7 : Nat) (u : Mem) (hd : DiskAt u A ns) (hn : EntAt u a7 n.f7) (h7 : n.f7.length ≤ c7) (hl : ns.length ≤ 1000000) :
  CV Tryz.prog 62 [.agg #[.slice A ns.length c, .int .i64 m, .int .i64 r], .int .i64 i, .agg (cv K0 (n.row a7 c7)).toArray] [] u fun v cs u' => cs = [] ∧ ∃ A' c', v = .agg #[.slice A' (setL ns i n).length c', .int .i64 m, .int .i64 r] ∧ DiskAt u' A' (setL ns i n) := by
 refine cv_of names draws (fn := Tryz.f62) (b := bodyOf Tryz.f62) rfl rfl [] (r6set.args ((A, ns.length, c), m, r, ()) (i, ()) (n.row a7 c7)) (r6set.giv _ _ _) (fun _ => 0) (r6set.run _ _ _) (by kernel_rfl) rfl rfl ?_
 unfold r6set.T
 intro b1 hb1 b2 hb2 b3 hb3
 have hcnd : (bif cmpI .lss i 0 then true else cmpI .geq i (ns.length : Int)) = decide (i < 0 ∨ (ns.length : Int) ≤ i) := by
  rw [cD_lss, cD_geq, Bool.eq_iff_iff]; simp [Bool.cond_eq_ite]
 refine ⟨fun h => ?_, fun h => ?_⟩
 ·have h := of_decide_eq_true (hcnd.symm.trans h)
  have e1 : setL ns i n = ns := by unfold setL; rw [if_neg (by omega)]
  rw [e1]; exact ⟨rfl, A, c, rfl, hd⟩
 have h := of_decide_eq_false (hcnd.symm.trans h)
 have hin : 0 ≤ i ∧ i < (ns.length : Int) := by omega
 have e1 : setL ns i n = ns.set i.toNat n := by unfold setL; rw [if_pos hin]
 obtain ⟨es, h1, h2, h3⟩ := disk_cells hd
 refine hold_bi ((bv_emp (P := Tryz.prog) (t := 33) (e := 64) (n := 8) (by kernel_rfl) (by kernel_rfl) 8).mono fun v u1 ⟨s0, hv0, hs0, hg0⟩ => ⟨(s0, ()), hv0, ?_⟩)
 refine hold_bi ((bv_app (P := Tryz.prog) (t := 33) (ty := 33) (e := 64) (z := .agg #[.int .i64 0, .int .i64 0, .int .i64 0, .int .i64 0, .int .i64 0, .int .i64 0, .string ⟨#[]⟩, .slice none 0 0]) (size := 8) (bytes := 88) (by kernel_rfl) (by kernel_rfl) rfl (by decide) (u0 := u) (m := ns.length) (c := c) (a := A) (ys := es) (Mem.le_refl u) hg0 h1.len
  (fun hm => by obtain ⟨b, f, e, h4⟩ := h3 (fun e => hm (by rw [e]; rfl)); exact ⟨b, f, e, fun j v hj => hg0.le _ _ _ (h4 j v hj)⟩) h2 (by omega) (by omega)).mono fun v u2 ⟨s, hv, hs, hg⟩ => ⟨(s, ()), hv, ?_⟩)
 have hs : s.2.1 = ns.length := by rw [hs, hs0]; omega
 obtain ⟨sa, sn, sc⟩ := s
 have hs : sn = ns.length := hs
 subst hs
 have hg : Grow u u2 (sa, ns.length, sc) 8 es := hg
 obtain ⟨b, q1, q2, q3, q4⟩ := hg.put (i := i.toNat) (vs := Sx.cv K0 (n.row a7 c7)) (by show i.toNat < ns.length; omega) (by decide) rfl
 refine ⟨fun _ => (⟨hin.1, hin.2, by show sa.isSome = true; rw [show sa = _ from q1]; rfl⟩ : 0 ≤ i ∧ i < (ns.length : Int) ∧ sa.isSome = true), b, 0, q1, fun o => q2 o, fun j hj => q3 j hj, rfl, sa, sc, ?_, ?_⟩
 ·rw [setL_len]; rfl
 ·rw [e1]; exact grow_disk q4 (h1.set (by omega) h7 hn)
end Go.Proofs.YtpfbimkpcnnfkaaGreatDoor.Sx
set_option maxRecDepth 100000
set_option linter.unusedVariables false
set_option linter.unusedSimpArgs false
namespace Go.Proofs.YtpfbimkpcnnfkaaGreatDoor.Sx
open Go Go.RowKit Go.Proofs.YtpfbimkpcnnfkaaGreatDoor Go.Proofs.YtpfbimkpcnnfkaaGreatDoor.Ext
abbrev fls (n : Nd) (a : Option Addr) (c : Nat) (b : Bool) : Cells S.ty K2 := (n.f0, n.f1, n.f2, n.f3, n.f4, n.f5, n.f6, (a, n.f7.length, c), b, ())
theorem usedF_succ (ns : List Nd) (i : Nat) (n : Nd) (h : ns[i]? = some n) : usedF (ns.take (i + 1)) = usedF (ns.take i) + if n.f0 = 0 then 0 else 1 := by
 obtain ⟨g, rfl⟩ := List.getElem?_eq_some_iff.1 h
 unfold usedF
 rw [List.take_succ_eq_append_getElem g, List.filter_append, List.length_append]
 by_cases hx : ns[i].f0 = 0
 ·rw [List.filter_cons_of_neg (by simp [hx]), if_pos hx]; rfl
 ·rw [List.filter_cons_of_pos (by simp [hx]), if_neg hx]; rfl
variable (A : Option Addr) (c : Nat) (ns : List Nd) (m r : Int) (u : Mem)
theorem r6used.cv (hd : DiskAt u A ns) (hl : ns.length ≤ 1000000) :
  CV Tryz.prog 127 [.agg #[.slice A ns.length c, .int .i64 m, .int .i64 r]] [] u fun v cs _ => cs = [] ∧ v = .int .i64 (usedF ns) := by
 refine cv_of names draws (fn := Tryz.f127) (b := bodyOf Tryz.f127) rfl rfl [⟨3, [3, 4], []⟩] (r6used.args ((A, ns.length, c), m, r, ())) (r6used.giv _) (fun _ => 0) (r6used.run _) (by kernel_rfl) rfl rfl ?_
 unfold r6used.T
 intro b1 hb1
 have hul : ∀ i, usedF (ns.take i) ≤ ns.length := fun i => Nat.le_trans (usedF_le _) (by rw [List.length_take]; omega)
 refine hold_loop (sk := [.i .i64, .i .i64]) (oks := []) (fun x _ u' => u.le u' ∧ ∃ i : Nat, x = ((usedF (ns.take i) : Int), (i : Int), ()) ∧ i ≤ ns.length) (fun x _ => ((ns.length : Int) - x.2.1).toNat) (0, 0, ()) () rfl rfl ⟨Mem.le_refl u, 0, rfl, by omega⟩ ?_
 rintro x y u1 ⟨hu1, i, rfl, hi⟩
 refine ⟨fun hlt => ?_, fun hge => ?_⟩
 ·simp only [E.den, cT_lss] at hlt
  have hlt : (i : Int) < (ns.length : Int) := hlt
  have hil : i < ns.length := by omega
  obtain ⟨n, hx⟩ : ∃ n, ns[i]? = some n := ⟨_, List.getElem?_eq_getElem hil⟩
  obtain ⟨a7, c7, k1, k2, k3⟩ := hd i n hx
  have rx : Reads u1 A ((i : Int).toNat * 8) (Sx.cv K0 (n.row a7 c7)) := by rw [Int.toNat_natCast]; exact k2.mono hu1
  have b1 : (0 : Int) ≤ (i : Int) ∧ (i : Int) < (ns.length : Int) ∧ A.isSome = true := ⟨by omega, hlt, rx.some⟩
  have e1 := usedF_succ ns i n hx
  have hui := hul i
  refine ⟨fun _ => b1, fun _ => b1.2.2, fun _ => ⟨(n.f0, ()), rx.part 0 1, fun h => ?_, fun h => ?_⟩, fun h => by cases h⟩
  ·simp only [E.den, cT_neq] at h
   have h : ¬ n.f0 = 0 := h
   rw [if_neg h] at e1
   refine ⟨by simp, ?_⟩
   simp only [if_true]
   exact ⟨((usedF (ns.take (i + 1)) : Int), ((i + 1 : Nat) : Int), ()), (), by rw [e1, ← wrap_succ (show i < 4611686018427387904 by omega), ← wrap_succ (show usedF (ns.take i) < 4611686018427387904 by omega)]; rfl, rfl, ⟨hu1, i + 1, rfl, by omega⟩, by simp only; omega⟩
  ·simp only [E.den, cF_neq] at h
   have h : n.f0 = 0 := h
   rw [if_pos h] at e1
   refine ⟨by simp, ?_⟩
   simp only [if_true]
   exact ⟨((usedF (ns.take (i + 1)) : Int), ((i + 1 : Nat) : Int), ()), (), by rw [e1, ← wrap_succ (show i < 4611686018427387904 by omega)]; rfl, rfl, ⟨hu1, i + 1, rfl, by omega⟩, by simp only; omega⟩
 ·simp only [E.den, cF_lss] at hge
  have hge : (ns.length : Int) ≤ (i : Int) := hge
  obtain rfl : i = ns.length := by omega
  show _ ∧ Value.int .i64 (usedF (ns.take ns.length) : Int) = _
  rw [List.take_length]; exact ⟨rfl, rfl⟩
theorem r8writes.cv (who dir : Int) (hd : DiskAt u A ns) (hn : NsOk ns) :
  CV Tryz.prog 58 [.agg #[.slice A ns.length c, .int .i64 m, .int .i64 r], .int .i64 who, .int .i64 dir] [] u fun v cs _ => cs = [] ∧ v = .bool (writesB ns who dir) := by
 refine cv_of names draws (fn := Tryz.f58) (b := bodyOf Tryz.f58) rfl rfl [] (r8writes.args ((A, ns.length, c), m, r, ()) (who, ()) (dir, ())) (r8writes.giv _ _ _) (fun _ => 0) (r8writes.run _ _ _) (by kernel_rfl) rfl rfl ?_
 unfold r8writes.T
 intro b1 hb1
 refine hold_call ((rget.cv A c ns m r dir u hd hn.len).mono fun v cs u1 hu1 ⟨hc, a7, c7, hv, _, _⟩ => ⟨fls (getL ns dir) a7 c7 (getB ns dir), (), hv, hc, fun b3 hb3 => ?_⟩)
 exact hold_call ((rmay.cv (getL ns dir).f1 (getL ns dir).f2 who 2 u1 (hn.get dir).mode (by decide)).mono fun v cs u2 hu2 ⟨hc, hv⟩ => ⟨(writesB ns who dir, ()), (), hv, hc, rfl, rfl⟩)
theorem r8free.cv (who from_ : Int) (s : Sp) (hd : DiskAt u A ns) (hn : NsOk ns) :
  CV Tryz.prog 82 [.agg #[.slice A ns.length c, .int .i64 m, .int .i64 r], .agg #[.int .i64 who, .int .i64 from_], .agg (Sx.cv K3 s.row).toArray] [] u fun v cs _ => cs = [] ∧ v = .int .i64 (freeE ns who s) := by
 refine cv_of names draws (fn := Tryz.f82) (b := bodyOf Tryz.f82) rfl rfl [] (r8free.args ((A, ns.length, c), m, r, ()) (who, from_, ()) s.row) (r8free.giv _ _ _) (fun _ => 0) (r8free.run _ _ _) (by kernel_rfl) rfl rfl ?_
 unfold r8free.T freeE writesE
 intro b1 hb1 b2 hb2 b3 hb3
 refine ⟨fun h => ?_, fun h => ?_⟩
 ·simp only [E.den, cT_geq] at h
  have h : 0 ≤ s.f2 := h
  rw [if_pos h]; exact ⟨rfl, rfl⟩
 simp only [E.den, cF_geq] at h
 have h : s.f2 < 0 := h
 rw [if_neg (by omega)]
 refine hold_call ((rget.cv A c ns m r s.f0 u hd hn.len).mono fun v cs u1 hu1 ⟨hc, a7, c7, hv, _, _⟩ => ⟨fls (getL ns s.f0) a7 c7 (getB ns s.f0), (), hv, hc, fun b3 hb3 => ⟨fun h => ?_, fun h => ?_⟩⟩)
 ·simp only [E.den, cT_lss] at h
  have h : (getL ns s.f0).f3 < 1 := h
  rw [if_pos h]; exact ⟨rfl, rfl⟩
 simp only [E.den, cF_lss] at h
 have h : 1 ≤ (getL ns s.f0).f3 := h
 rw [if_neg (by omega)]
 refine hold_call ((r8writes.cv A c ns m r u1 who s.f0 (hd.mono hu1) hn).mono fun v cs u2 hu2 ⟨hc, hv⟩ => ⟨(writesB ns who s.f0, ()), (), hv, hc, fun h => ?_, fun h => ?_⟩)
 ·have h : (!writesB ns who s.f0) = true := h
  rw [if_neg (by simpa using h)]; exact ⟨rfl, rfl⟩
 ·have h : (!writesB ns who s.f0) = false := h
  rw [if_pos (by simpa using h)]; exact ⟨rfl, rfl⟩
theorem r8named.cv (s : Sp) (ino : Int) (hd : DiskAt u A ns) (hl : ns.length ≤ 1000000) (hr : NsR ns) :
  CV Tryz.prog 64 [.agg #[.slice A ns.length c, .int .i64 m, .int .i64 r], .agg (Sx.cv K3 s.row).toArray, .int .i64 ino] [] u fun v cs u' => cs = [] ∧ ∃ A' c', v = .agg #[.slice A' (putN ns s ino).length c', .int .i64 m, .int .i64 r] ∧ DiskAt u' A' (putN ns s ino) := by
 refine cv_of names draws (fn := Tryz.f64) (b := bodyOf Tryz.f64) rfl rfl [] (r8named.args ((A, ns.length, c), m, r, ()) s.row (ino, ())) (r8named.giv _ _ _) (fun _ => 0) (r8named.run _ _ _) (by kernel_rfl) rfl rfl ?_
 unfold r8named.T
 intro b1 hb1 b2 hb2 b3 hb3
 refine hold_call ((rget.cv A c ns m r s.f0 u hd hl).mono fun v cs u1 hu1 ⟨hc, a7, c7, hv, h7, h8⟩ => ⟨fls (getL ns s.f0) a7 c7 (getB ns s.f0), (), hv, hc, fun b3 hb3 => ?_⟩)
 refine hold_call ((rput.cv a7 c7 (getL ns s.f0).f7 ⟨s.f1, ino⟩ u1 h8 (hr.get _).len).mono fun v cs u2 hu2 ⟨hc, A2, c2, hv, hcap, he⟩ => ⟨((A2, (putF (getL ns s.f0).f7 ⟨s.f1, ino⟩).length, c2), ()), (), hv, hc, ?_⟩)
 exact hold_call ((r6set.cv A c ns m r s.f0 (nPut s ino (getL ns s.f0)) A2 c2 u2 (hd.mono (Mem.le_trans hu1 hu2)) he hcap hl).mono fun v cs u3 hu3 ⟨hc, A3, c3, hv, hd3⟩ => ⟨((A3, (putN ns s ino).length, c3), m, r, ()), (), hv, hc, rfl, A3, c3, rfl, hd3⟩)
end Go.Proofs.YtpfbimkpcnnfkaaGreatDoor.Sx
set_option maxRecDepth 100000
set_option linter.unusedVariables false
set_option linter.unusedSimpArgs false
namespace Go.Proofs.YtpfbimkpcnnfkaaGreatDoor.Sx
open Go Go.RowKit Go.Proofs.YtpfbimkpcnnfkaaGreatDoor Go.Proofs.YtpfbimkpcnnfkaaGreatDoor.Ext
def enter1 (ns : List Nd) (m r who : Int) (s : Sp) (N : Nd) : List Nd × Int × Int :=
 if ¬ freeE ns who s = 0 then (ns, 0, freeE ns who s)
 else if ¬ (addF ns m r N).2.2 = 0 then (ns, 0, (addF ns m r N).2.2)
 else (putN (addF ns m r N).1 s (addF ns m r N).2.1, (addF ns m r N).2.1, 0)
theorem enterAt_eq (ns : List Nd) (m r who : Int) (s : Sp) (n : Nd) (slash : Int) : enterAt ns m r who s n slash = if s.f3 = true ∧ s.f2 < 0 ∧ ¬ slash = 0 then (ns, 0, slash) else enter1 ns m r who s (newNd who s.f0 n) := rfl
variable (A : Option Addr) (c : Nat) (ns : List Nd) (m r : Int) (u : Mem)
theorem rsame.cv (B : Option Addr) (d : Nat) (ms : List Nd) (ha : DiskAt u A ns) (hb : DiskAt u B ms) (hl : ns.length ≤ 1000000) (hs : ∀ n ∈ ns, n.f7.length ≤ 1000000) :
  CV Tryz.prog 17 [.agg #[.slice A ns.length c, .int .i64 m, .int .i64 r], .agg #[.slice B ms.length d, .int .i64 m, .int .i64 r]] [] u fun v cs _ => cs = [] ∧ v = .bool (decide (ns = ms)) := by
 refine cv_of names draws (fn := Tryz.f17) (b := bodyOf Tryz.f17) rfl rfl [⟨4, [5], []⟩] (rsame.args ((A, ns.length, c), m, r, ()) ((B, ms.length, d), m, r, ())) (rsame.giv _ _) (fun _ => 0) (rsame.run _ _) (by kernel_rfl) rfl rfl ?_
 unfold rsame.T
 intro b1 hb1 b2 hb2
 have hcnd : (bif bif cmpI .neq m m then true else cmpI .neq r r then true else cmpI .neq (ns.length : Int) (ms.length : Int)) = decide (¬ ns.length = ms.length) := by
  rw [cD_neq, cD_neq, cD_neq, Bool.eq_iff_iff]; simp [Bool.cond_eq_ite]; omega
 refine ⟨fun h => ?_, fun h => ?_⟩
 ·have h := of_decide_eq_true (hcnd.symm.trans h)
  exact ⟨rfl, by rw [decide_eq_false (fun e => h (by rw [e]))]; rfl⟩
 have h := of_decide_eq_false (hcnd.symm.trans h)
 have hlen : ns.length = ms.length := by omega
 refine hold_count ns.length (fun i u' => u.le u' ∧ ns.take i = ms.take i) ⟨Mem.le_refl u, rfl⟩ ?_
 rintro i u1 hi ⟨hu1, hI⟩
 refine ⟨fun hlt => ?_, fun hge => ?_⟩
 ·simp only [E.den, cT_lss] at hlt
  have hlt : (i : Int) < (ns.length : Int) := hlt
  have hil : i < ns.length := by omega
  obtain ⟨x, hx⟩ : ∃ n, ns[i]? = some n := ⟨_, List.getElem?_eq_getElem hil⟩
  obtain ⟨y, hy⟩ : ∃ n, ms[i]? = some n := ⟨_, List.getElem?_eq_getElem (by omega)⟩
  obtain ⟨a7, c7, k1, k2, k3⟩ := ha i x hx
  obtain ⟨a8, c8, g1, g2, g3⟩ := hb i y hy
  have rx : Reads u1 A ((i : Int).toNat * 8) (Sx.cv K0 (x.row a7 c7)) := by rw [Int.toNat_natCast]; exact k2.mono hu1
  have ry : Reads u1 B ((i : Int).toNat * 8) (Sx.cv K0 (y.row a8 c8)) := by rw [Int.toNat_natCast]; exact g2.mono hu1
  have b1 : (0 : Int) ≤ (i : Int) ∧ (i : Int) < (ns.length : Int) ∧ A.isSome = true := ⟨by omega, hlt, rx.some⟩
  have b2 : (0 : Int) ≤ (i : Int) ∧ (i : Int) < (ms.length : Int) ∧ B.isSome = true := ⟨by omega, by omega, ry.some⟩
  refine ⟨fun _ => b1, fun _ => ⟨x.row a7 c7, rx, fun _ => b2, fun _ => ⟨y.row a8 c8, ry, ?_⟩, fun h => by cases h⟩, fun h => by cases h⟩
  refine hold_call ((ralike.cv x y a7 a8 c7 c8 u1 (k3.mono hu1) (g3.mono hu1) (hs x (List.mem_of_getElem? hx))).mono fun v cs u2 hu2 ⟨hc, hv⟩ => ⟨(decide (x = y), ()), (), hv, hc, fun h => ?_, fun h => ?_⟩)
  ·have h : (!decide (x = y)) = true := h
   have h : ¬ x = y := by simpa using h
   refine ⟨rfl, ?_⟩
   rw [decide_eq_false (fun e => h (by rw [e] at hx; rw [hx] at hy; cases hy; rfl))]; rfl
  ·have h : (!decide (x = y)) = false := h
   have h : x = y := by simpa using h
   refine ⟨by simp, ?_⟩
   simp only [if_true]
   obtain ⟨q1, q2⟩ := List.getElem?_eq_some_iff.1 hx
   obtain ⟨q3, q4⟩ := List.getElem?_eq_some_iff.1 hy
   refine ⟨by rw [← wrap_succ (show i < 4611686018427387904 by omega)]; rfl, rfl, hil, Mem.le_trans hu1 hu2, ?_⟩
   rw [List.take_succ_eq_append_getElem q1, List.take_succ_eq_append_getElem q3, hI, q2, q4, h]
 ·simp only [E.den, cF_lss] at hge
  have hge : (ns.length : Int) ≤ (i : Int) := hge
  obtain rfl : i = ns.length := by omega
  rw [List.take_length, hlen, List.take_length] at hI
  exact ⟨rfl, by rw [decide_eq_true hI]; rfl⟩
section
variable (hd : DiskAt u A ns) (hn : Ok8 ns)
include hd hn
end
end Go.Proofs.YtpfbimkpcnnfkaaGreatDoor.Sx
set_option maxRecDepth 100000
set_option linter.unusedVariables false
set_option linter.unusedSimpArgs false
namespace Go.Proofs.YtpfbimkpcnnfkaaGreatDoor.Sx
open Go Go.RowKit Go.Proofs.YtpfbimkpcnnfkaaGreatDoor Go.Proofs.YtpfbimkpcnnfkaaGreatDoor.Ext
variable (A : Option Addr) (c : Nat) (ns : List Nd) (m r : Int) (u : Mem)
set_option maxHeartbeats 1000000 in
theorem r6add.cv (n : Nd) (a7 : Option Addr) (c7 : Nat) (hd : DiskAt u A ns) (hn : EntAt u a7 n.f7) (h7 : n.f7.length ≤ c7) (hl : ns.length ≤ 100000) (hs : ∀ n ∈ ns, n.f6.size ≤ 1000000000) (h6 : n.f6.size ≤ 1000000000) :
  CV Tryz.prog 108 [.agg #[.slice A ns.length c, .int .i64 m, .int .i64 r], .agg (Sx.cv K0 (n.row a7 c7)).toArray] [] u fun v cs u' => cs = [] ∧ ∃ A' c', v = .tuple #[.agg #[.slice A' (addF ns m r n).1.length c', .int .i64 m, .int .i64 r], .int .i64 (addF ns m r n).2.1, .int .i64 (addF ns m r n).2.2] ∧ DiskAt u' A' (addF ns m r n).1 := by
 refine cv_of names draws (fn := Tryz.f108) (b := bodyOf Tryz.f108) rfl rfl [⟨4, [7], [4]⟩] (r6add.args ((A, ns.length, c), m, r, ()) (n.row a7 c7)) (r6add.giv _ _) (fun _ => 0) (r6add.run _ _) (by kernel_rfl) rfl rfl ?_
 have hbb := bytesF_bound hs
 have hwn := weight_nn n
 have hwb : weightF n ≤ 1000000000 := by unfold weightF; split <;> omega
 unfold r6add.T
 intro b1 hb1 b2 hb2 b3 hb3
 refine hold_call ((r6used.cv A c ns m r u hd (by omega)).mono fun v cs u1 hu1 ⟨hc, hv⟩ => ⟨((usedF ns : Int), ()), (), hv, hc, ?_⟩)
 have hg0 : ∀ b : Bool, E.den (.not (.cmp .geq (.at (usedF ns : Int)) (.at m)) : E S.ty .B) = b → decide (¬ m ≤ (usedF ns : Int)) = b := fun b hb => by
  rw [← hb]; show _ = !cmpI .geq (usedF ns : Int) m
  rw [cD_geq, bNot]
 refine hold_callg (fun xs _ u2 => u.le u2 ∧ (¬ m ≤ (usedF ns : Int) → xs.1 = bytesF ns)) (fun hg => (rbytes.cv A c ns m r u1 (hd.mono hu1) (by omega) hs).mono' fun v cs u2 hu2 ⟨hc, hv⟩ => ⟨(bytesF ns, ()), (), hv, hc, Mem.le_trans hu1 hu2, fun _ => rfl⟩) (fun hg => ⟨hu1, fun h => absurd h (of_decide_eq_false (hg0 _ hg))⟩) ?_
 rintro ⟨x1, _⟩ _ u2 ⟨hu2, hx1⟩
 refine hold_callg (fun xs _ u3 => u.le u3 ∧ (¬ m ≤ (usedF ns : Int) → xs.1 = weightF n)) (fun hg => (rweight.cv n a7 c7 u2).mono' fun v cs u3 hu3 ⟨hc, hv⟩ => ⟨(weightF n, ()), (), hv, hc, Mem.le_trans hu2 hu3, fun _ => rfl⟩) (fun hg => ⟨hu2, fun h => absurd h (of_decide_eq_false (hg0 _ hg))⟩) ?_
 rintro ⟨x2, _⟩ _ u3 ⟨hu3, hx2⟩
 have hcnd : (bif cmpI .geq (usedF ns : Int) m then true else cmpI .gtr (IntKind.i64.wrap (x1 + x2)) r) = decide (m ≤ (usedF ns : Int) ∨ r < bytesF ns + weightF n) := by
  rw [cD_geq, cD_gtr]
  by_cases h : m ≤ (usedF ns : Int)
  ·simp [h]
  ·rw [show x1 = bytesF ns from hx1 h, show x2 = weightF n from hx2 h, show IntKind.i64.wrap (bytesF ns + weightF n) = bytesF ns + weightF n by rw [IntKind.wrap_i64] <;> omega]
   simp [h]
 refine ⟨fun h => ?_, fun h => ?_⟩
 ·have h := of_decide_eq_true (hcnd.symm.trans h)
  unfold addF
  rw [if_pos h]
  exact ⟨rfl, A, c, rfl, hd.mono hu3⟩
 have h := of_decide_eq_false (hcnd.symm.trans h)
 unfold addF
 rw [if_neg h]
 refine hold_loop (sk := [.i .i64]) (oks := [[.s, .i .i64, .i .i64]]) (fun x y u' => u.le u' ∧ ∃ i : Nat, x = ((i : Int), ()) ∧ i ≤ ns.length ∧ ∀ (j : Nat) n', j < i → ns[j]? = some n' → ¬ n'.f0 = 0) (fun x _ => ((ns.length : Int) - x.1).toNat) (0, ()) (((none, 0, 0), 0, 0, ()), ()) rfl rfl ⟨hu3, 0, rfl, by omega, fun j _ hj => by omega⟩ ?_
 rintro x y u4 ⟨hu4, i, rfl, hi, hI⟩
 refine ⟨fun hlt => ?_, fun hge => ?_⟩
 ·simp only [E.den, cT_lss] at hlt
  have hlt : (i : Int) < (ns.length : Int) := hlt
  have hil : i < ns.length := by omega
  obtain ⟨x, hx⟩ : ∃ n, ns[i]? = some n := ⟨_, List.getElem?_eq_getElem hil⟩
  obtain ⟨b7, d7, k1, k2, k3⟩ := hd i x hx
  have rx : Reads u4 A ((i : Int).toNat * 8) (Sx.cv K0 (x.row b7 d7)) := by rw [Int.toNat_natCast]; exact k2.mono hu4
  have g1 : (0 : Int) ≤ (i : Int) ∧ (i : Int) < (ns.length : Int) ∧ A.isSome = true := ⟨by omega, hlt, rx.some⟩
  refine ⟨fun _ => g1, fun _ => g1.2.2, fun _ => ⟨(x.f0, ()), rx.part 0 1, fun h => ?_, fun h => ?_⟩, fun h => by cases h⟩
  ·simp only [E.den, cT_eql] at h
   have h : x.f0 = 0 := h
   have hf : ns.findIdx? (fun n => decide (n.f0 = 0)) = some i := by
    rw [List.findIdx?_eq_some_iff_getElem]
    refine ⟨hil, ?_, fun j hj => ?_⟩
    ·rw [(List.getElem?_eq_some_iff.1 hx).2]; exact decide_eq_true h
    ·have := hI j _ hj (List.getElem?_eq_getElem (by omega))
     simpa using this
   have e2 : setL ns (i : Int) n = ns.set i n := by unfold setL; rw [if_pos (by omega), Int.toNat_natCast]
   have hds := r6set.cv A c ns m r (i : Int) n a7 c7 u4 (hd.mono hu4) (hn.mono hu4) h7 (by omega)
   rw [e2] at hds
   simp only [hf]
   exact hold_call (hds.mono fun v cs u5 hu5 ⟨hc2, A', c', hv2, hd2⟩ => ⟨((A', (ns.set i n).length, c'), m, r, ()), (), hv2, hc2, rfl, A', c', rfl, hd2⟩)
  ·simp only [E.den, cF_eql] at h
   have h : ¬ x.f0 = 0 := h
   refine ⟨by simp, ?_⟩
   simp only [if_true]
   refine ⟨(((i + 1 : Nat) : Int), ()), y, by rw [← wrap_succ (show i < 4611686018427387904 by omega)]; rfl, rfl, ⟨hu4, i + 1, rfl, by omega, fun j n' hj hn' => ?_⟩, by simp only; omega⟩
   rcases Nat.lt_or_ge j i with h5 | h5
   ·exact hI j n' h5 hn'
   ·obtain rfl : j = i := by omega
    rw [hx] at hn'; cases hn'; exact h
 ·simp only [E.den, cF_lss] at hge
  have hge : (ns.length : Int) ≤ (i : Int) := hge
  obtain rfl : i = ns.length := by omega
  have hf : ns.findIdx? (fun n => decide (n.f0 = 0)) = none := by
   rw [List.findIdx?_eq_none_iff]
   intro x hx
   obtain ⟨j, hj⟩ := List.getElem?_of_mem hx
   exact decide_eq_false (hI j x (List.getElem?_eq_some_iff.1 hj).1 hj)
  simp only [hf]
  obtain ⟨es, h1, h2, h3⟩ := disk_cells hd
  refine hold_bi ((bv_emp (P := Tryz.prog) (t := 33) (e := 64) (n := 8) (by kernel_rfl) (by kernel_rfl) 8).mono fun v u5 ⟨s0, hv0, hs0, hg0⟩ => ⟨(s0, ()), hv0, ?_⟩)
  refine hold_bi ((bv_app (P := Tryz.prog) (t := 33) (ty := 33) (e := 64) (z := .agg #[.int .i64 0, .int .i64 0, .int .i64 0, .int .i64 0, .int .i64 0, .int .i64 0, .string ⟨#[]⟩, .slice none 0 0]) (size := 8) (bytes := 88) (by kernel_rfl) (by kernel_rfl) rfl (by decide) (u0 := u) (m := ns.length) (c := c) (a := A) (ys := es) hu4 hg0 h1.len
   (fun hm => by obtain ⟨b, f, e, h4⟩ := h3 (fun e => hm (by rw [e]; rfl)); exact ⟨b, f, e, fun j v hj => hg0.le _ _ _ (hu4 _ _ _ (h4 j v hj))⟩) h2 (by omega) (by omega)).mono fun v u6 ⟨s, hv, hs, hg⟩ => ⟨(s, ()), hv, fun b49 hb49 => ⟨fun _ u7 h7' hw => ?_, fun h => by cases h⟩⟩)
  have hs : s.2.1 = ns.length := by rw [hs, hs0]; omega
  have hg : Grow u4 u6 s 8 es := hg
  refine (bv_one (P := Tryz.prog) (t := 33) (ty := 33) (e := 64) (z := .agg #[.int .i64 0, .int .i64 0, .int .i64 0, .int .i64 0, .int .i64 0, .int .i64 0, .string ⟨#[]⟩, .slice none 0 0]) (size := 8) (bytes := 88) (by kernel_rfl) (by kernel_rfl) rfl (by decide) (u0 := u) (b := b49) (ys := Sx.cv K0 (n.row a7 c7)) hu4 hg h7' (hw _ (List.mem_singleton.2 rfl)) rfl
   (by intro y hy; simp only [Nd.row, Sx.cv, List.mem_cons, List.mem_nil_iff, or_false] at hy; rcases hy with rfl | rfl | rfl | rfl | rfl | rfl | rfl | rfl <;> rfl) (by omega) (by omega)).mono fun v u8 ⟨s', hv', hs', hg'⟩ => ⟨(s', ()), hv', ?_⟩
  obtain ⟨sa, sn, sc⟩ := s'
  have hsn : sn = (ns ++ [n]).length := by rw [List.length_append]; show sn = ns.length + 1; rw [← hs]; exact hs'
  subst hsn
  exact ⟨rfl, sa, sc, rfl, grow_disk hg' ((h1.mono hu4).snoc h7 (hn.mono hu4))⟩
section
variable (hd : DiskAt u A ns) (hn : Ok8 ns)
include hd hn
theorem r8enter.cv (who from_ : Int) (s : Sp) (n : Nd) (a7 : Option Addr) (c7 : Nat) (h7 : n.f7.length ≤ c7) (h8 : EntAt u a7 n.f7) (hr : NdR n) (h6 : n.f6.size ≤ 1000000000) :
  CV Tryz.prog 77 [.agg #[.slice A ns.length c, .int .i64 m, .int .i64 r], .agg #[.int .i64 who, .int .i64 from_], .agg (Sx.cv K3 s.row).toArray, .agg (Sx.cv K0 (n.row a7 c7)).toArray] [] u fun v cs u' => cs = [] ∧ ∃ A' c', v = .tuple #[.agg #[.slice A' (enter1 ns m r who s { n with f3 := 1, f2 := who }).1.length c', .int .i64 m, .int .i64 r], .int .i64 (enter1 ns m r who s { n with f3 := 1, f2 := who }).2.1, .int .i64 (enter1 ns m r who s { n with f3 := 1, f2 := who }).2.2] ∧ DiskAt u' A' (enter1 ns m r who s { n with f3 := 1, f2 := who }).1 := by
 refine cv_of names draws (fn := Tryz.f77) (b := bodyOf Tryz.f77) rfl rfl [] (r8enter.args ((A, ns.length, c), m, r, ()) (who, from_, ()) s.row (n.row a7 c7)) (r8enter.giv _ _ _ _) (fun _ => 0) (r8enter.run _ _ _ _) (by kernel_rfl) rfl rfl ?_
 unfold r8enter.T enter1
 intro b1 hb1 b2 hb2 b3 hb3 b4 hb4 b5 hb5
 refine hold_call ((r8free.cv A c ns m r u who from_ s hd hn.ok).mono fun v cs u1 hu1 ⟨hc, hv⟩ => ⟨(freeE ns who s, ()), (), hv, hc, fun h => ?_, fun h => ?_⟩)
 ·simp only [E.den, cT_neq] at h
  have h : ¬ freeE ns who s = 0 := h
  rw [if_pos h]; exact ⟨rfl, A, c, rfl, hd.mono hu1⟩
 simp only [E.den, cF_neq] at h
 have h : freeE ns who s = 0 := h
 rw [if_neg (fun h' => h' h)]
 have hadd := r6add.cv A c ns m r u1 { n with f3 := 1, f2 := who } a7 c7 (hd.mono hu1) (h8.mono hu1) h7 (by have := hn.len; omega) (fun x hx => Nat.le_trans (hn.ok.all_ x hx).data (by decide)) h6
 have hRa := hn.ris.add (m := m) (r := r) (n := { n with f3 := 1, f2 := who }) ⟨hr.rise, hr.len⟩
 have hla := add_len ns m r { n with f3 := 1, f2 := who }
 generalize addF ns m r { n with f3 := 1, f2 := who } = w at hadd hRa hla ⊢
 obtain ⟨ns1, i, e1⟩ := w
 have hl1 : ns1.length ≤ 1000000 := by have := hn.len; simp only at hla; omega
 refine hold_call (hadd.mono fun v cs u2 hu2 ⟨hc, A2, c2, hv, hd2⟩ => ⟨((A2, ns1.length, c2), m, r, i, e1, ()), (), hv, hc, fun b6 hb6 => ⟨fun h => ?_, fun h => ?_⟩⟩)
 ·simp only [E.den, cT_neq] at h
  have h : ¬ e1 = 0 := h
  simp only [if_pos h]; exact ⟨rfl, A, c, rfl, (hd.mono hu1).mono hu2⟩
 simp only [E.den, cF_neq] at h
 have h : e1 = 0 := h
 subst h
 simp only [not_true, if_false]
 exact hold_call ((r8named.cv A2 c2 ns1 m r u2 s i hd2 hl1 hRa).mono fun v cs u3 hu3 ⟨hc, A3, c3, hv, hd3⟩ => ⟨((A3, (putN ns1 s i).length, c3), m, r, ()), (), hv, hc, rfl, A3, c3, rfl, hd3⟩)
theorem r8make.cv (who from_ : Int) (path : ByteArray) (mode : Int) (hp : path.size ≤ 1000000000) :
  CV Tryz.prog 29 [.agg #[.slice A ns.length c, .int .i64 m, .int .i64 r], .agg #[.int .i64 who, .int .i64 from_], .string path, .int .i64 mode] [] u fun v cs u' => cs = [] ∧ ∃ A' c', v = .tuple #[.agg #[.slice A' (makeF ns m r who from_ path mode).1.length c', .int .i64 m, .int .i64 r], .int .i64 (makeF ns m r who from_ path mode).2.1, .int .i64 (makeF ns m r who from_ path mode).2.2] ∧ DiskAt u' A' (makeF ns m r who from_ path mode).1 := by
 refine cv_of names draws (fn := Tryz.f29) (b := bodyOf Tryz.f29) rfl rfl [] (r8make.args ((A, ns.length, c), m, r, ()) (who, from_, ()) (path, ()) (mode, ())) (r8make.giv _ _ _ _) (fun _ => 0) (r8make.run _ _ _ _) (by kernel_rfl) rfl rfl ?_
 unfold r8make.T makeF enterF
 intro b1 hb1 b2 hb2 b3 hb3
 have hw := rwalk.cv A c ns m r who from_ path false u hd hn.ok hp
 generalize walkF ns who from_ path false = w at hw ⊢
 obtain ⟨sp, e⟩ := w
 refine hold_call (hw.mono fun v cs u1 hu1 ⟨hc, hv⟩ => ⟨(sp.f0, sp.f1, sp.f2, sp.f3, e, ()), (), hv, hc, fun b4 hb4 => ⟨fun h => ?_, fun h => ?_⟩⟩)
 ·simp only [E.den, cT_neq] at h
  have h : ¬ e = 0 := h
  simp only [if_pos h]; exact ⟨rfl, A, c, rfl, hd.mono hu1⟩
 simp only [E.den, cF_neq] at h
 have h : e = 0 := h
 subst h
 simp only [not_true, if_false]
 rw [enterAt_eq]
 have hk : (bif sp.f3 then cmpI .lss sp.f2 0 else false) = decide (sp.f3 = true ∧ sp.f2 < 0 ∧ ¬ (5 : Int) = 0) := by rw [cD_lss]; cases sp.f3 <;> simp
 refine ⟨fun h => ?_, fun h => ?_⟩
 ·rw [if_pos (of_decide_eq_true (hk.symm.trans h))]; exact ⟨rfl, A, c, rfl, hd.mono hu1⟩
 rw [if_neg (of_decide_eq_false (hk.symm.trans h))]
 have he := r8enter.cv A c ns m r u1 (hd.mono hu1) hn who from_ sp (fileN mode) none 0 (Nat.zero_le _) (fun i e hi => by simp [fileN, zNd] at hi) ⟨zNd_r.rise, zNd_r.len⟩ (by show (⟨#[]⟩ : ByteArray).size ≤ 1000000000; decide)
 rw [show ({ fileN mode with f3 := 1, f2 := who } : Nd) = newNd who sp.f0 (fileN mode) from rfl] at he
 generalize enter1 ns m r who sp (newNd who sp.f0 (fileN mode)) = w at he ⊢
 obtain ⟨x, i, e⟩ := w
 exact hold_call (he.mono fun v cs u2 hu2 ⟨hc, A2, c2, hv, hd2⟩ => ⟨((A2, x.length, c2), m, r, i, e, ()), (), hv, hc, rfl, A2, c2, rfl, hd2⟩)
theorem r8mkdir.cv (who from_ : Int) (path : ByteArray) (mode : Int) (hp : path.size ≤ 1000000000) :
  CV Tryz.prog 30 [.agg #[.slice A ns.length c, .int .i64 m, .int .i64 r], .agg #[.int .i64 who, .int .i64 from_], .string path, .int .i64 mode] [] u fun v cs u' => cs = [] ∧ ∃ A' c', v = .tuple #[.agg #[.slice A' (mkdirF ns m r who from_ path mode).1.length c', .int .i64 m, .int .i64 r], .int .i64 (mkdirF ns m r who from_ path mode).2.2] ∧ DiskAt u' A' (mkdirF ns m r who from_ path mode).1 := by
 refine cv_of names draws (fn := Tryz.f30) (b := bodyOf Tryz.f30) rfl rfl [] (r8mkdir.args ((A, ns.length, c), m, r, ()) (who, from_, ()) (path, ()) (mode, ())) (r8mkdir.giv _ _ _ _) (fun _ => 0) (r8mkdir.run _ _ _ _) (by kernel_rfl) rfl rfl ?_
 unfold r8mkdir.T mkdirF enterF
 intro b1 hb1 b2 hb2 b3 hb3
 have hw := rwalk.cv A c ns m r who from_ path false u hd hn.ok hp
 generalize walkF ns who from_ path false = w at hw ⊢
 obtain ⟨sp, e⟩ := w
 refine hold_call (hw.mono fun v cs u1 hu1 ⟨hc, hv⟩ => ⟨(sp.f0, sp.f1, sp.f2, sp.f3, e, ()), (), hv, hc, fun b4 hb4 => ⟨fun h => ?_, fun h => ?_⟩⟩)
 ·simp only [E.den, cT_neq] at h
  have h : ¬ e = 0 := h
  simp only [if_pos h]; exact ⟨rfl, A, c, rfl, hd.mono hu1⟩
 simp only [E.den, cF_neq] at h
 have h : e = 0 := h
 subst h
 simp only [not_true, if_false]
 rw [enterAt_eq, if_neg (fun h => h.2.2 rfl)]
 have he := r8enter.cv A c ns m r u1 (hd.mono hu1) hn who from_ sp { dirN mode with f5 := sp.f0 } none 0 (Nat.zero_le _) (fun i e hi => by simp [dirN, zNd] at hi) ⟨zNd_r.rise, zNd_r.len⟩ (by show (⟨#[]⟩ : ByteArray).size ≤ 1000000000; decide)
 rw [show ({ ({ dirN mode with f5 := sp.f0 } : Nd) with f3 := 1, f2 := who } : Nd) = newNd who sp.f0 (dirN mode) from rfl] at he
 generalize enter1 ns m r who sp (newNd who sp.f0 (dirN mode)) = w at he ⊢
 obtain ⟨x, i, e⟩ := w
 exact hold_call (he.mono fun v cs u2 hu2 ⟨hc, A2, c2, hv, hd2⟩ => ⟨((A2, x.length, c2), m, r, i, e, ()), (), hv, hc, fun b7 hb7 => ⟨rfl, A2, c2, rfl, hd2⟩⟩)
theorem r8sym.cv (who from_ : Int) (text path : ByteArray) (hp : path.size ≤ 1000000000) :
  CV Tryz.prog 32 [.agg #[.slice A ns.length c, .int .i64 m, .int .i64 r], .agg #[.int .i64 who, .int .i64 from_], .string text, .string path] [] u fun v cs u' => cs = [] ∧ ∃ A' c', v = .tuple #[.agg #[.slice A' (symF ns m r who from_ text path).1.length c', .int .i64 m, .int .i64 r], .int .i64 (symF ns m r who from_ text path).2.2] ∧ DiskAt u' A' (symF ns m r who from_ text path).1 := by
 refine cv_of names draws (fn := Tryz.f32) (b := bodyOf Tryz.f32) rfl rfl [] (r8sym.args ((A, ns.length, c), m, r, ()) (who, from_, ()) (text, ()) (path, ())) (r8sym.giv _ _ _ _) (fun _ => 0) (r8sym.run _ _ _ _) (by kernel_rfl) rfl rfl ?_
 unfold r8sym.T symF enterF
 intro b1 hb1 b2 hb2 b3 hb3
 refine ⟨fun h => ?_, fun h => ?_⟩
 ·simp only [E.den, tT_eql, dot0] at h
  have h : text.toList = [] := h
  rw [if_pos h]; exact ⟨rfl, A, c, rfl, hd⟩
 simp only [E.den, tF_eql, dot0] at h
 have h : ¬ text.toList = [] := h
 rw [if_neg h]
 refine ⟨fun h => ?_, fun h => ?_⟩
 ·simp only [E.den, cT_gtr] at h
  have h : (100 : Int) < (text.size : Int) := h
  rw [if_pos (by omega)]; exact ⟨rfl, A, c, rfl, hd⟩
 simp only [E.den, cF_gtr] at h
 have h : (text.size : Int) ≤ 100 := h
 rw [if_neg (by omega)]
 have hw := rwalk.cv A c ns m r who from_ path false u hd hn.ok hp
 generalize walkF ns who from_ path false = w at hw ⊢
 obtain ⟨sp, e⟩ := w
 refine hold_call (hw.mono fun v cs u1 hu1 ⟨hc, hv⟩ => ⟨(sp.f0, sp.f1, sp.f2, sp.f3, e, ()), (), hv, hc, fun b4 hb4 => ⟨fun h => ?_, fun h => ?_⟩⟩)
 ·simp only [E.den, cT_neq] at h
  have h : ¬ e = 0 := h
  simp only [if_pos h]; exact ⟨rfl, A, c, rfl, hd.mono hu1⟩
 simp only [E.den, cF_neq] at h
 have h : e = 0 := h
 subst h
 simp only [not_true, if_false]
 rw [enterAt_eq]
 have hk : (bif sp.f3 then cmpI .lss sp.f2 0 else false) = decide (sp.f3 = true ∧ sp.f2 < 0 ∧ ¬ (4 : Int) = 0) := by rw [cD_lss]; cases sp.f3 <;> simp
 refine ⟨fun h => ?_, fun h => ?_⟩
 ·rw [if_pos (of_decide_eq_true (hk.symm.trans h))]; exact ⟨rfl, A, c, rfl, hd.mono hu1⟩
 rw [if_neg (of_decide_eq_false (hk.symm.trans h))]
 have he := r8enter.cv A c ns m r u1 (hd.mono hu1) hn who from_ sp (linkN text) none 0 (Nat.zero_le _) (fun i e hi => by simp [linkN, zNd] at hi) ⟨zNd_r.rise, zNd_r.len⟩ (by show text.size ≤ 1000000000; omega)
 rw [show ({ linkN text with f3 := 1, f2 := who } : Nd) = newNd who sp.f0 (linkN text) from rfl] at he
 generalize enter1 ns m r who sp (newNd who sp.f0 (linkN text)) = w at he ⊢
 obtain ⟨x, i, e⟩ := w
 exact hold_call (he.mono fun v cs u2 hu2 ⟨hc, A2, c2, hv, hd2⟩ => ⟨((A2, x.length, c2), m, r, i, e, ()), (), hv, hc, fun b7 hb7 => ⟨rfl, A2, c2, rfl, hd2⟩⟩)
end
end Go.Proofs.YtpfbimkpcnnfkaaGreatDoor.Sx
