/- By Sx: the reference's changes. -/
import Derived.Test.YtpfbimkpcnnfkaaGreatDoorSyQ
import Derived.Test.YtpfbimkpcnnfkaaGreatDoorSxTh
/- By Sx: the reference's disks and changes. -/
/- By Sx: the reference's entries and disks: Drop, Put; Set, Used, Add, Settle, Same. -/
set_option maxRecDepth 100000
set_option linter.unusedVariables false
set_option linter.unusedSimpArgs false
namespace Go.Proofs.YtpfbimkpcnnfkaaGreatDoor.Sx
open Go Go.RowKit Go.Proofs.YtpfbimkpcnnfkaaGreatDoor Go.Proofs.YtpfbimkpcnnfkaaGreatDoor.Ext
theorem filter_succ {l : List En} (p : En → Bool) (i : Nat) (e : En) (h : l[i]? = some e) : (l.take (i + 1)).filter p = (l.take i).filter p ++ if p e = true then [e] else [] := by
 obtain ⟨g, rfl⟩ := List.getElem?_eq_some_iff.1 h
 rw [List.take_succ_eq_append_getElem g, List.filter_append]
 congr 1
 by_cases hx : p l[i] = true
 ·rw [if_pos hx, List.filter_cons_of_pos hx]; rfl
 ·rw [if_neg hx, List.filter_cons_of_neg hx]; rfl
theorem ent_one {u u1 v : Mem} {s : Option Addr × Nat × Nat} {es : List Value} {b : Nat} {e : En} (hv : u.le v) (hg : Grow v u1 s 2 es) {u2 : Mem} (h2 : u1.le u2) (hw : ∀ (j : Nat) x, ([.string e.f0, .int .i64 e.f1] : List Value)[j]? = some x → u2 b j = some x) (hs : s.2.1 ≤ 1000000) :
  BV Tryz.prog (.bi .append #[62, 62] 62) [.slice s.1 s.2.1 s.2.2, .slice (some ⟨b, 0, none⟩) 1 1] u u2 fun r u' => ∃ s' : Option Addr × Nat × Nat, r = .slice s'.1 s'.2.1 s'.2.2 ∧ s'.2.1 = s.2.1 + 1 ∧ Grow v u' s' 2 (es ++ [.string e.f0, .int .i64 e.f1]) :=
 bv_one (P := Tryz.prog) (t := 62) (ty := 62) (e := 124) (z := .agg #[.string ⟨#[]⟩, .int .i64 0]) (size := 2) (bytes := 24) (by kernel_rfl) (by kernel_rfl) rfl (by decide) (u0 := u) (b := b) (ys := [.string e.f0, .int .i64 e.f1]) hv hg h2 hw rfl (by simp [Value.oneCell']) (by omega) (by omega)
theorem rdrop.cv (A : Option Addr) (c : Nat) (l : List En) (name : ByteArray) (u : Mem) (hd : EntAt u A l) (hl : l.length ≤ 100000) :
  CV Tryz.prog 61 [.slice A l.length c, .string name] [] u fun v cs u' => cs = [] ∧ ∃ A' c', v = .slice A' (dropF l name).length c' ∧ (dropF l name).length ≤ c' ∧ EntAt u' A' (dropF l name) := by
 refine cv_of names draws (fn := Tryz.f61) (b := bodyOf Tryz.f61) rfl rfl [⟨3, [5, 6], []⟩] (rdrop.args ((A, l.length, c), ()) (name, ())) (rdrop.giv _ _) (fun _ => 0) (rdrop.run _ _) (by kernel_rfl) rfl rfl ?_
 unfold rdrop.T
 refine hold_bi ((bv_emp (P := Tryz.prog) (t := 62) (e := 124) (n := 2) (by kernel_rfl) (by kernel_rfl) 2).mono fun v u1 ⟨s0, hv0, hs0, hg0⟩ => ⟨(s0, ()), hv0, ?_⟩)
 have hfl : ∀ i, (dropF (l.take i) name).length ≤ l.length := fun i => Nat.le_trans (List.length_filter_le _ _) (by rw [List.length_take]; omega)
 refine hold_loop (sk := [.s, .i .i64]) (oks := []) (fun x y u' => ∃ (i : Nat) (s : Option Addr × Nat × Nat), x = (s, (i : Int), ()) ∧ i ≤ l.length ∧ s.2.1 = (dropF (l.take i) name).length ∧ Grow u u' s 2 (entC (dropF (l.take i) name))) (fun x _ => ((l.length : Int) - x.2.1).toNat) (s0, 0, ()) () rfl rfl ⟨0, s0, rfl, by omega, hs0, hg0⟩ ?_
 rintro x y u2 ⟨i, s, rfl, hi, hsi, hg⟩
 refine ⟨fun hlt => ?_, fun hge => ?_⟩
 ·simp only [E.den, cT_lss] at hlt
  have hlt : (i : Int) < (l.length : Int) := hlt
  have hil : i < l.length := by omega
  obtain ⟨e, he⟩ : ∃ e, l[i]? = some e := ⟨_, List.getElem?_eq_getElem hil⟩
  have re := (hd i e he).mono hg.le
  have b1 : (0 : Int) ≤ (i : Int) ∧ (i : Int) < (l.length : Int) ∧ A.isSome = true := ⟨by omega, hlt, re.some⟩
  have rr : Reads u2 A ((i : Int).toNat * 2) [.string e.f0, .int .i64 e.f1] := by rw [Int.toNat_natCast]; exact re
  have hfs := filter_succ (fun x => decide (¬ ord x name = 0)) i e he
  have hfi := hfl i
  refine ⟨fun _ => b1, fun _ => b1.2.2, fun _ => ⟨(e.f0, ()), rr.part 0 1, fun h => ?_, fun h => ?_⟩, fun h => by cases h⟩
  ·simp only [E.den, tT_neq] at h
   have h : ¬ ord e name = 0 := fun h0 => h ((ord_zero e name).1 h0)
   rw [if_pos (by simpa using h)] at hfs
   refine ⟨fun _ => b1, fun _ => ⟨(e.f0, e.f1, ()), rr, fun b4 hb4 => ⟨fun _ u3 h3 hw => ?_, fun h => by cases h⟩⟩, fun h => by cases h⟩
   refine (ent_one (Mem.le_refl u) hg h3 (hw _ (List.mem_singleton.2 rfl)) (by omega)).mono fun v u4 ⟨s', hv', hs', hg'⟩ => ⟨(s', ()), hv', by simp, ?_⟩
   simp only [if_true]
   refine ⟨(s', ((i + 1 : Nat) : Int), ()), (), by rw [← wrap_succ (show i < 4611686018427387904 by omega)]; rfl, rfl, ⟨i + 1, s', rfl, by omega, ?_, ?_⟩, by simp only; omega⟩
   ·rw [hs', hsi]; unfold dropF; rw [hfs, List.length_append]; rfl
   ·unfold dropF at hg' ⊢; rw [hfs, entC_app]; exact hg'
  ·simp only [E.den, tF_neq] at h
   have h : ord e name = 0 := (ord_zero e name).2 h
   rw [if_neg (by simpa using h), List.append_nil] at hfs
   refine ⟨by simp, ?_⟩
   simp only [if_true]
   refine ⟨(s, ((i + 1 : Nat) : Int), ()), (), by rw [← wrap_succ (show i < 4611686018427387904 by omega)]; rfl, rfl, ⟨i + 1, s, rfl, by omega, ?_, ?_⟩, by simp only; omega⟩
   ·rw [hsi]; unfold dropF; rw [hfs]
   ·unfold dropF at hg ⊢; rw [hfs]; exact hg
 ·simp only [E.den, cF_lss] at hge
  have hge : (l.length : Int) ≤ (i : Int) := hge
  obtain rfl : i = l.length := by omega
  rw [List.take_length] at hg hsi
  refine ⟨rfl, s.1, s.2.2, by rw [← hsi]; rfl, by rw [← hsi]; exact hg.cap, grow_ent hg⟩
theorem cmp_pos (a b : List UInt8) : 0 < Lib.compareBytes a b ↔ (!(Op.bytesLess a b || a == b)) = true := by
 rcases Int.lt_trichotomy (Lib.compareBytes a b) 0 with h | h | h
 ·rw [(cmp_neg a b).1 h]; simp; omega
 ·have e := (cmp_zero a b).1 h
  subst e
  rw [h]; simp
 ·have h1 : Op.bytesLess a b = false := by
   cases hh : Op.bytesLess a b with
   | false => rfl
   | true => have := (cmp_neg a b).2 hh; omega
  have h2 : (a == b) = false := by
   rw [beq_eq_false_iff_ne]; intro e; have := (cmp_zero a b).2 e; omega
  rw [h1, h2]; simp [h]
theorem rput.cv (A : Option Addr) (c : Nat) (l0 : List En) (e0 : En) (u : Mem) (hd0 : EntAt u A l0) (hl0 : l0.length ≤ 100000) :
  CV Tryz.prog 106 [.slice A l0.length c, .agg #[.string e0.f0, .int .i64 e0.f1]] [] u fun v cs u' => cs = [] ∧ ∃ A' c', v = .slice A' (putF l0 e0).length c' ∧ (putF l0 e0).length ≤ c' ∧ EntAt u' A' (putF l0 e0) := by
 refine cv_of names draws (fn := Tryz.f106) (b := bodyOf Tryz.f106) rfl rfl [⟨4, [6, 7], []⟩, ⟨10, [6, 8], []⟩] (rput.args ((A, l0.length, c), ()) (e0.f0, e0.f1, ())) (rput.giv _ _) (fun _ => 0) (rput.run _ _) (by kernel_rfl) rfl rfl ?_
 unfold rput.T
 intro b1 hb1
 refine hold_call ((rdrop.cv A c l0 e0.f0 u hd0 hl0).mono fun v cs ua hua ⟨hc, A1, c1, hv, hcap, hd⟩ => ⟨((A1, (dropF l0 e0.f0).length, c1), ()), (), hv, hc, ?_⟩)
 have hl : (dropF l0 e0.f0).length ≤ 100000 := Nat.le_trans (List.length_filter_le _ _) hl0
 have hput : putF l0 e0 = (dropF l0 e0.f0).filter (fun x => decide (ord x e0.f0 < 0)) ++ [e0] ++ (dropF l0 e0.f0).filter (fun x => decide (0 < ord x e0.f0)) := by
  unfold putF dropF
  rw [List.filter_filter, List.filter_filter]
  congr 1
  ·congr 1
   exact List.filter_congr fun x _ => by rw [Bool.eq_iff_iff]; simp; omega
  ·exact List.filter_congr fun x _ => by rw [Bool.eq_iff_iff]; simp; omega
 rw [hput]
 generalize dropF l0 e0.f0 = l at hd hl hcap ⊢
 have cl : ∀ e : En, (ord e e0.f0 < 0) ↔ Op.bytesLess e.f0.toList e0.f0.toList = true := fun e => by unfold ord; rw [cmp_neg, toList_data, toList_data]
 have cg : ∀ e : En, (0 < ord e e0.f0) ↔ (!(Op.bytesLess e.f0.toList e0.f0.toList || e.f0.toList == e0.f0.toList)) = true := fun e => by unfold ord; rw [cmp_pos, toList_data, toList_data]
 refine hold_bi ((bv_emp (P := Tryz.prog) (t := 62) (e := 124) (n := 2) (by kernel_rfl) (by kernel_rfl) 2).mono fun v u1 ⟨s0, hv0, hs0, hg0⟩ => ⟨(s0, ()), hv0, ?_⟩)
 have hfl : ∀ i, ((l.take i).filter (fun x => decide (ord x e0.f0 < 0))).length ≤ l.length := fun i => Nat.le_trans (List.length_filter_le _ _) (by rw [List.length_take]; omega)
 have hfg : ∀ i, ((l.take i).filter (fun x => decide (0 < ord x e0.f0))).length ≤ l.length := fun i => Nat.le_trans (List.length_filter_le _ _) (by rw [List.length_take]; omega)
 refine hold_loop (sk := [.s, .i .i64]) (oks := []) (fun x y u' => ∃ (i : Nat) (s : Option Addr × Nat × Nat), x = (s, (i : Int), ()) ∧ i ≤ l.length ∧ s.2.1 = ((l.take i).filter (fun x => decide (ord x e0.f0 < 0))).length ∧ Grow ua u' s 2 (entC ((l.take i).filter (fun x => decide (ord x e0.f0 < 0))))) (fun x _ => ((l.length : Int) - x.2.1).toNat) (s0, 0, ()) () rfl rfl ⟨0, s0, rfl, by omega, hs0, hg0⟩ ?_
 rintro x y u2 ⟨i, s, rfl, hi, hsi, hg⟩
 refine ⟨fun hlt => ?_, fun hge => ?_⟩
 ·simp only [E.den, cT_lss] at hlt
  have hlt : (i : Int) < (l.length : Int) := hlt
  have hil : i < l.length := by omega
  obtain ⟨e, he⟩ : ∃ e, l[i]? = some e := ⟨_, List.getElem?_eq_getElem hil⟩
  have re := (hd i e he).mono hg.le
  have b1 : (0 : Int) ≤ (i : Int) ∧ (i : Int) < (l.length : Int) ∧ A1.isSome = true := ⟨by omega, hlt, re.some⟩
  have rr : Reads u2 A1 ((i : Int).toNat * 2) [.string e.f0, .int .i64 e.f1] := by rw [Int.toNat_natCast]; exact re
  have hfs := filter_succ (fun x => decide (ord x e0.f0 < 0)) i e he
  have hfi := hfl i
  refine ⟨fun _ => b1, fun _ => b1.2.2, fun _ => ⟨(e.f0, ()), rr.part 0 1, fun h => ?_, fun h => ?_⟩, fun h => by cases h⟩
  ·have h : Op.bytesLess e.f0.toList e0.f0.toList = true := h
   have h := (cl e).2 h
   rw [if_pos (by simpa using h)] at hfs
   refine ⟨fun _ => b1, fun _ => ⟨(e.f0, e.f1, ()), rr, fun b4 hb4 => ⟨fun _ u3 h3 hw => ?_, fun h => by cases h⟩⟩, fun h => by cases h⟩
   refine (ent_one hua hg h3 (hw _ (List.mem_singleton.2 rfl)) (by omega)).mono fun v u4 ⟨s', hv', hs', hg'⟩ => ⟨(s', ()), hv', by simp, ?_⟩
   simp only [if_true]
   refine ⟨(s', ((i + 1 : Nat) : Int), ()), (), by rw [← wrap_succ (show i < 4611686018427387904 by omega)]; rfl, rfl, ⟨i + 1, s', rfl, by omega, ?_, ?_⟩, by simp only; omega⟩
   ·rw [hs', hsi, hfs]; simp only [List.length_append, List.length_cons, List.length_nil]; try omega
   ·rw [hfs]; simp only [← List.append_assoc, entC_app] at hg' ⊢; exact hg'
  ·have h : Op.bytesLess e.f0.toList e0.f0.toList = false := h
   have h : ¬ (ord e e0.f0 < 0) := fun h' => by rw [(cl e).1 h'] at h; cases h
   rw [if_neg (by simpa using h), List.append_nil] at hfs
   refine ⟨by simp, ?_⟩
   simp only [if_true]
   refine ⟨(s, ((i + 1 : Nat) : Int), ()), (), by rw [← wrap_succ (show i < 4611686018427387904 by omega)]; rfl, rfl, ⟨i + 1, s, rfl, by omega, by rw [hsi, hfs], by rw [hfs]; exact hg⟩, by simp only; omega⟩
 simp only [E.den, cF_lss] at hge
 have hge : (l.length : Int) ≤ (i : Int) := hge
 obtain rfl : i = l.length := by omega
 rw [List.take_length] at hg hsi
 have hfll := hfl l.length
 rw [List.take_length] at hfll
 intro b37 hb37
 refine ⟨fun _ u3 h3 hw => ?_, fun h => by cases h⟩
 refine (ent_one (e := e0) hua hg h3 (hw _ (List.mem_singleton.2 rfl)) (by omega)).mono fun v u4 ⟨s1, hv1, hs1, hg1⟩ => ⟨(s1, ()), hv1, ?_⟩
 clear hg hw h3
 obtain ⟨F, hF⟩ : ∃ F, l.filter (fun x => decide (ord x e0.f0 < 0)) = F := ⟨_, rfl⟩
 rw [hF] at hsi hg1 hfll ⊢
 have hg1 : Grow ua u4 s1 2 (entC (F ++ [e0])) := by rw [entC_app]; exact hg1
 have hs1 : s1.2.1 = (F ++ [e0]).length := by rw [hs1, hsi, List.length_append]; rfl
 have hFl : (F ++ [e0]).length ≤ 100001 := by rw [List.length_append]; simp only [List.length_cons, List.length_nil]; omega
 generalize F ++ [e0] = F at hg1 hs1 hFl ⊢
 refine hold_loop (sk := [.s, .i .i64]) (oks := []) (fun x y u' => ∃ (i : Nat) (s : Option Addr × Nat × Nat), x = (s, (i : Int), ()) ∧ i ≤ l.length ∧ s.2.1 = (F ++ (l.take i).filter (fun x => decide (0 < ord x e0.f0))).length ∧ Grow ua u' s 2 (entC (F ++ (l.take i).filter (fun x => decide (0 < ord x e0.f0))))) (fun x _ => ((l.length : Int) - x.2.1).toNat) (s1, 0, ()) () rfl rfl ⟨0, s1, rfl, by omega, by simpa using hs1, by simpa using hg1⟩ ?_
 clear hs1 hg1 hsi hge
 rintro x y u2 ⟨i, s, rfl, hi, hsi, hg⟩
 refine ⟨fun hlt => ?_, fun hge => ?_⟩
 ·simp only [E.den, cT_lss] at hlt
  have hlt : (i : Int) < (l.length : Int) := hlt
  have hfl := hfg
  rw [List.length_append] at hsi
  have hil : i < l.length := by omega
  obtain ⟨e, he⟩ : ∃ e, l[i]? = some e := ⟨_, List.getElem?_eq_getElem hil⟩
  have re := (hd i e he).mono hg.le
  have b1 : (0 : Int) ≤ (i : Int) ∧ (i : Int) < (l.length : Int) ∧ A1.isSome = true := ⟨by omega, hlt, re.some⟩
  have rr : Reads u2 A1 ((i : Int).toNat * 2) [.string e.f0, .int .i64 e.f1] := by rw [Int.toNat_natCast]; exact re
  have hfs := filter_succ (fun x => decide (0 < ord x e0.f0)) i e he
  have hfi := hfl i
  refine ⟨fun _ => b1, fun _ => b1.2.2, fun _ => ⟨(e.f0, ()), rr.part 0 1, fun h => ?_, fun h => ?_⟩, fun h => by cases h⟩
  ·have h : (!(Op.bytesLess e.f0.toList e0.f0.toList || e.f0.toList == e0.f0.toList)) = true := h
   have h := (cg e).2 h
   rw [if_pos (by simpa using h)] at hfs
   refine ⟨fun _ => b1, fun _ => ⟨(e.f0, e.f1, ()), rr, fun b4 hb4 => ⟨fun _ u3 h3 hw => ?_, fun h => by cases h⟩⟩, fun h => by cases h⟩
   refine (ent_one hua hg h3 (hw _ (List.mem_singleton.2 rfl)) (by omega)).mono fun v u4 ⟨s', hv', hs', hg'⟩ => ⟨(s', ()), hv', by simp, ?_⟩
   simp only [if_true]
   refine ⟨(s', ((i + 1 : Nat) : Int), ()), (), by rw [← wrap_succ (show i < 4611686018427387904 by omega)]; rfl, rfl, ⟨i + 1, s', rfl, by omega, ?_, ?_⟩, by simp only; omega⟩
   ·rw [hs', hsi, hfs]; simp only [List.length_append, List.length_cons, List.length_nil]; try omega
   ·rw [hfs]; simp only [← List.append_assoc, entC_app] at hg' ⊢; exact hg'
  ·have h : (!(Op.bytesLess e.f0.toList e0.f0.toList || e.f0.toList == e0.f0.toList)) = false := h
   have h : ¬ (0 < ord e e0.f0) := fun h' => by rw [(cg e).1 h'] at h; cases h
   rw [if_neg (by simpa using h), List.append_nil] at hfs
   refine ⟨by simp, ?_⟩
   simp only [if_true]
   refine ⟨(s, ((i + 1 : Nat) : Int), ()), (), by rw [← wrap_succ (show i < 4611686018427387904 by omega)]; rfl, rfl, ⟨i + 1, s, rfl, by omega, by rw [hsi, hfs, List.length_append], by rw [hfs]; exact hg⟩, by simp only; omega⟩
 ·simp only [E.den, cF_lss] at hge
  have hge : (l.length : Int) ≤ (i : Int) := hge
  obtain rfl : i = l.length := by omega
  rw [List.take_length] at hg hsi
  refine ⟨rfl, s.1, s.2.2, by rw [← hsi]; rfl, by rw [← hsi]; exact hg.cap, grow_ent hg⟩
theorem r6set.cv (A : Option Addr) (c : Nat) (ns : List Nd) (m r i : Int) (n : Nd) (a7 : Option Addr) (c7 : Nat) (u : Mem) (hd : DiskAt u A ns) (hn : EntAt u a7 n.f7) (h7 : n.f7.length ≤ c7) (hl : ns.length ≤ 1000000) :
  CV Tryz.prog 62 [.agg #[.slice A ns.length c, .int .i64 m, .int .i64 r], .int .i64 i, .agg (cv K0 (n.row a7 c7)).toArray] [] u fun v cs u' => cs = [] ∧ ∃ A' c', v = .agg #[.slice A' (setL ns i n).length c', .int .i64 m, .int .i64 r] ∧ DiskAt u' A' (setL ns i n) := by
 refine cv_of names draws (fn := Tryz.f62) (b := bodyOf Tryz.f62) rfl rfl [] (r6set.args ((A, ns.length, c), m, r, ()) (i, ()) (n.row a7 c7)) (r6set.giv _ _ _) (fun _ => 0) (r6set.run _ _ _) (by kernel_rfl) rfl rfl ?_
 unfold r6set.T
 intro b1 hb1 b2 hb2 b3 hb3
 have hcnd : (bif cmpI .lss i 0 then true else cmpI .geq i (ns.length : Int)) = decide (i < 0 ∨ (ns.length : Int) ≤ i) := by
  rw [cD_lss, cD_geq, Bool.eq_iff_iff]; simp [Bool.cond_eq_ite]
 refine ⟨fun h => ?_, fun h => ?_⟩
 ·have h := of_decide_eq_true (hcnd.symm.trans h)
  have e1 : setL ns i n = ns := by unfold setL; rw [if_neg (by omega)]
  rw [e1]; exact ⟨rfl, A, c, rfl, hd⟩
 have h := of_decide_eq_false (hcnd.symm.trans h)
 have hin : 0 ≤ i ∧ i < (ns.length : Int) := by omega
 have e1 : setL ns i n = ns.set i.toNat n := by unfold setL; rw [if_pos hin]
 obtain ⟨es, h1, h2, h3⟩ := disk_cells hd
 refine hold_bi ((bv_emp (P := Tryz.prog) (t := 33) (e := 64) (n := 8) (by kernel_rfl) (by kernel_rfl) 8).mono fun v u1 ⟨s0, hv0, hs0, hg0⟩ => ⟨(s0, ()), hv0, ?_⟩)
 refine hold_bi ((bv_app (P := Tryz.prog) (t := 33) (ty := 33) (e := 64) (z := .agg #[.int .i64 0, .int .i64 0, .int .i64 0, .int .i64 0, .int .i64 0, .int .i64 0, .string ⟨#[]⟩, .slice none 0 0]) (size := 8) (bytes := 88) (by kernel_rfl) (by kernel_rfl) rfl (by decide) (u0 := u) (m := ns.length) (c := c) (a := A) (ys := es) (Mem.le_refl u) hg0 h1.len
  (fun hm => by obtain ⟨b, f, e, h4⟩ := h3 (fun e => hm (by rw [e]; rfl)); exact ⟨b, f, e, fun j v hj => hg0.le _ _ _ (h4 j v hj)⟩) h2 (by omega) (by omega)).mono fun v u2 ⟨s, hv, hs, hg⟩ => ⟨(s, ()), hv, ?_⟩)
 have hs : s.2.1 = ns.length := by rw [hs, hs0]; omega
 obtain ⟨sa, sn, sc⟩ := s
 have hs : sn = ns.length := hs
 subst hs
 have hg : Grow u u2 (sa, ns.length, sc) 8 es := hg
 obtain ⟨b, q1, q2, q3, q4⟩ := hg.put (i := i.toNat) (vs := Sx.cv K0 (n.row a7 c7)) (by show i.toNat < ns.length; omega) (by decide) rfl
 refine ⟨fun _ => (⟨hin.1, hin.2, by show sa.isSome = true; rw [show sa = _ from q1]; rfl⟩ : 0 ≤ i ∧ i < (ns.length : Int) ∧ sa.isSome = true), b, 0, q1, fun o => q2 o, fun j hj => q3 j hj, rfl, sa, sc, ?_, ?_⟩
 ·rw [setL_len]; rfl
 ·rw [e1]; exact grow_disk q4 (h1.set (by omega) h7 hn)
end Go.Proofs.YtpfbimkpcnnfkaaGreatDoor.Sx
set_option maxRecDepth 100000
set_option linter.unusedVariables false
set_option linter.unusedSimpArgs false
namespace Go.Proofs.YtpfbimkpcnnfkaaGreatDoor.Sx
open Go Go.RowKit Go.Proofs.YtpfbimkpcnnfkaaGreatDoor Go.Proofs.YtpfbimkpcnnfkaaGreatDoor.Ext
abbrev fls (n : Nd) (a : Option Addr) (c : Nat) (b : Bool) : Cells S.ty K2 := (n.f0, n.f1, n.f2, n.f3, n.f4, n.f5, n.f6, (a, n.f7.length, c), b, ())
variable (A : Option Addr) (c : Nat) (ns : List Nd) (m r : Int) (u : Mem)
theorem r6settle.cv (i : Int) (hd : DiskAt u A ns) (hl : ns.length ≤ 1000000) :
  CV Tryz.prog 105 [.agg #[.slice A ns.length c, .int .i64 m, .int .i64 r], .int .i64 i] [] u fun v cs u' => cs = [] ∧ ∃ A' c', v = .agg #[.slice A' (settleF ns i).length c', .int .i64 m, .int .i64 r] ∧ DiskAt u' A' (settleF ns i) := by
 refine cv_of names draws (fn := Tryz.f105) (b := bodyOf Tryz.f105) rfl rfl [] (r6settle.args ((A, ns.length, c), m, r, ()) (i, ())) (r6settle.giv _ _) (fun _ => 0) (r6settle.run _ _) (by kernel_rfl) rfl rfl ?_
 unfold r6settle.T
 intro b1 hb1 b2 hb2
 refine hold_call ((rget.cv A c ns m r i u hd hl).mono fun v cs u1 hu1 ⟨hc, a7, c7, hv, _, _⟩ => ⟨fls (getL ns i) a7 c7 (getB ns i), (), hv, hc, fun b3 hb3 => ?_⟩)
 have hcnd : (bif bif bif !getB ns i then true else cmpI .eql i 0 then true else cmpI .gtr (getL ns i).f3 0 then true else cmpI .gtr (getL ns i).f4 0) = !decide (getB ns i = true ∧ ¬ i = 0 ∧ (getL ns i).f3 < 1 ∧ (getL ns i).f4 < 1) := by
  rw [cD_eql, cD_gtr, cD_gtr]
  cases getB ns i
  ·simp
  ·have e3 : decide (0 < (getL ns i).f3) = !decide ((getL ns i).f3 < 1) := by rw [Bool.eq_iff_iff]; simp; omega
   have e4 : decide (0 < (getL ns i).f4) = !decide ((getL ns i).f4 < 1) := by rw [Bool.eq_iff_iff]; simp; omega
   rw [e3, e4]
   by_cases h1 : i = 0 <;> by_cases h2 : (getL ns i).f3 < 1 <;> by_cases h3 : (getL ns i).f4 < 1 <;> simp [h1, h2, h3]
 refine ⟨fun h => ?_, fun h => ?_⟩
 ·have h := hcnd.symm.trans h
  have h : ¬ (getB ns i = true ∧ ¬ i = 0 ∧ (getL ns i).f3 < 1 ∧ (getL ns i).f4 < 1) := fun h' => by rw [decide_eq_true h'] at h; cases h
  unfold settleF
  rw [if_neg h]
  exact ⟨rfl, A, c, rfl, hd.mono hu1⟩
 ·have h := hcnd.symm.trans h
  have h : (getB ns i = true ∧ ¬ i = 0 ∧ (getL ns i).f3 < 1 ∧ (getL ns i).f4 < 1) := by
   cases hh : decide (getB ns i = true ∧ ¬ i = 0 ∧ (getL ns i).f3 < 1 ∧ (getL ns i).f4 < 1) with
   | true => exact of_decide_eq_true hh
   | false => rw [hh] at h; cases h
  unfold settleF
  rw [if_pos h]
  exact hold_call ((r6set.cv A c ns m r i zNd none 0 u1 (hd.mono hu1) (fun i e hi => by simp [zNd] at hi) (Nat.zero_le _) hl).mono fun v cs u2 hu2 ⟨hc2, A', c', hv2, hd2⟩ => ⟨((A', (setL ns i zNd).length, c'), m, r, ()), (), hv2, hc2, rfl, A', c', rfl, hd2⟩)
theorem r8writes.cv (who dir : Int) (hd : DiskAt u A ns) (hn : NsOk ns) :
  CV Tryz.prog 58 [.agg #[.slice A ns.length c, .int .i64 m, .int .i64 r], .int .i64 who, .int .i64 dir] [] u fun v cs _ => cs = [] ∧ v = .bool (writesB ns who dir) := by
 refine cv_of names draws (fn := Tryz.f58) (b := bodyOf Tryz.f58) rfl rfl [] (r8writes.args ((A, ns.length, c), m, r, ()) (who, ()) (dir, ())) (r8writes.giv _ _ _) (fun _ => 0) (r8writes.run _ _ _) (by kernel_rfl) rfl rfl ?_
 unfold r8writes.T
 intro b1 hb1
 refine hold_call ((rget.cv A c ns m r dir u hd hn.len).mono fun v cs u1 hu1 ⟨hc, a7, c7, hv, _, _⟩ => ⟨fls (getL ns dir) a7 c7 (getB ns dir), (), hv, hc, fun b3 hb3 => ?_⟩)
 exact hold_call ((rmay.cv (getL ns dir).f1 (getL ns dir).f2 who 2 u1 (hn.get dir).mode (by decide)).mono fun v cs u2 hu2 ⟨hc, hv⟩ => ⟨(writesB ns who dir, ()), (), hv, hc, rfl, rfl⟩)
theorem r8free.cv (who from_ : Int) (s : Sp) (hd : DiskAt u A ns) (hn : NsOk ns) :
  CV Tryz.prog 82 [.agg #[.slice A ns.length c, .int .i64 m, .int .i64 r], .agg #[.int .i64 who, .int .i64 from_], .agg (Sx.cv K3 s.row).toArray] [] u fun v cs _ => cs = [] ∧ v = .int .i64 (freeE ns who s) := by
 refine cv_of names draws (fn := Tryz.f82) (b := bodyOf Tryz.f82) rfl rfl [] (r8free.args ((A, ns.length, c), m, r, ()) (who, from_, ()) s.row) (r8free.giv _ _ _) (fun _ => 0) (r8free.run _ _ _) (by kernel_rfl) rfl rfl ?_
 unfold r8free.T freeE writesE
 intro b1 hb1 b2 hb2 b3 hb3
 refine ⟨fun h => ?_, fun h => ?_⟩
 ·simp only [E.den, cT_geq] at h
  have h : 0 ≤ s.f2 := h
  rw [if_pos h]; exact ⟨rfl, rfl⟩
 simp only [E.den, cF_geq] at h
 have h : s.f2 < 0 := h
 rw [if_neg (by omega)]
 refine hold_call ((rget.cv A c ns m r s.f0 u hd hn.len).mono fun v cs u1 hu1 ⟨hc, a7, c7, hv, _, _⟩ => ⟨fls (getL ns s.f0) a7 c7 (getB ns s.f0), (), hv, hc, fun b3 hb3 => ⟨fun h => ?_, fun h => ?_⟩⟩)
 ·simp only [E.den, cT_lss] at h
  have h : (getL ns s.f0).f3 < 1 := h
  rw [if_pos h]; exact ⟨rfl, rfl⟩
 simp only [E.den, cF_lss] at h
 have h : 1 ≤ (getL ns s.f0).f3 := h
 rw [if_neg (by omega)]
 refine hold_call ((r8writes.cv A c ns m r u1 who s.f0 (hd.mono hu1) hn).mono fun v cs u2 hu2 ⟨hc, hv⟩ => ⟨(writesB ns who s.f0, ()), (), hv, hc, fun h => ?_, fun h => ?_⟩)
 ·have h : (!writesB ns who s.f0) = true := h
  rw [if_neg (by simpa using h)]; exact ⟨rfl, rfl⟩
 ·have h : (!writesB ns who s.f0) = false := h
  rw [if_pos (by simpa using h)]; exact ⟨rfl, rfl⟩
theorem r8named.cv (s : Sp) (ino : Int) (hd : DiskAt u A ns) (hl : ns.length ≤ 1000000) (hr : NsR ns) :
  CV Tryz.prog 64 [.agg #[.slice A ns.length c, .int .i64 m, .int .i64 r], .agg (Sx.cv K3 s.row).toArray, .int .i64 ino] [] u fun v cs u' => cs = [] ∧ ∃ A' c', v = .agg #[.slice A' (putN ns s ino).length c', .int .i64 m, .int .i64 r] ∧ DiskAt u' A' (putN ns s ino) := by
 refine cv_of names draws (fn := Tryz.f64) (b := bodyOf Tryz.f64) rfl rfl [] (r8named.args ((A, ns.length, c), m, r, ()) s.row (ino, ())) (r8named.giv _ _ _) (fun _ => 0) (r8named.run _ _ _) (by kernel_rfl) rfl rfl ?_
 unfold r8named.T
 intro b1 hb1 b2 hb2 b3 hb3
 refine hold_call ((rget.cv A c ns m r s.f0 u hd hl).mono fun v cs u1 hu1 ⟨hc, a7, c7, hv, h7, h8⟩ => ⟨fls (getL ns s.f0) a7 c7 (getB ns s.f0), (), hv, hc, fun b3 hb3 => ?_⟩)
 refine hold_call ((rput.cv a7 c7 (getL ns s.f0).f7 ⟨s.f1, ino⟩ u1 h8 (hr.get _).len).mono fun v cs u2 hu2 ⟨hc, A2, c2, hv, hcap, he⟩ => ⟨((A2, (putF (getL ns s.f0).f7 ⟨s.f1, ino⟩).length, c2), ()), (), hv, hc, ?_⟩)
 exact hold_call ((r6set.cv A c ns m r s.f0 (nPut s ino (getL ns s.f0)) A2 c2 u2 (hd.mono (Mem.le_trans hu1 hu2)) he hcap hl).mono fun v cs u3 hu3 ⟨hc, A3, c3, hv, hd3⟩ => ⟨((A3, (putN ns s ino).length, c3), m, r, ()), (), hv, hc, rfl, A3, c3, rfl, hd3⟩)
theorem r8lost.cv (s : Sp) (hd : DiskAt u A ns) (hl : ns.length ≤ 1000000) (hr : NsR ns) :
  CV Tryz.prog 63 [.agg #[.slice A ns.length c, .int .i64 m, .int .i64 r], .agg (Sx.cv K3 s.row).toArray] [] u fun v cs u' => cs = [] ∧ ∃ A' c', v = .agg #[.slice A' (loseN ns s).length c', .int .i64 m, .int .i64 r] ∧ DiskAt u' A' (loseN ns s) := by
 refine cv_of names draws (fn := Tryz.f63) (b := bodyOf Tryz.f63) rfl rfl [] (r8lost.args ((A, ns.length, c), m, r, ()) s.row) (r8lost.giv _ _) (fun _ => 0) (r8lost.run _ _) (by kernel_rfl) rfl rfl ?_
 unfold r8lost.T
 intro b1 hb1 b2 hb2 b3 hb3
 refine hold_call ((rget.cv A c ns m r s.f0 u hd hl).mono fun v cs u1 hu1 ⟨hc, a7, c7, hv, h7, h8⟩ => ⟨fls (getL ns s.f0) a7 c7 (getB ns s.f0), (), hv, hc, fun b3 hb3 => ?_⟩)
 refine hold_call ((rdrop.cv a7 c7 (getL ns s.f0).f7 s.f1 u1 h8 (hr.get _).len).mono fun v cs u2 hu2 ⟨hc, A2, c2, hv, hcap, he⟩ => ⟨((A2, (dropF (getL ns s.f0).f7 s.f1).length, c2), ()), (), hv, hc, ?_⟩)
 refine hold_call ((r6set.cv A c ns m r s.f0 (nDrop s (getL ns s.f0)) A2 c2 u2 (hd.mono (Mem.le_trans hu1 hu2)) he hcap hl).mono fun v cs u3 hu3 ⟨hc, A3, c3, hv, hd3⟩ => ⟨((A3, (dropN ns s).length, c3), m, r, ()), (), hv, hc, ?_⟩)
 have hl1 : (dropN ns s).length ≤ 1000000 := by unfold dropN; rw [turn_len]; exact hl
 unfold loseN
 have hd3 : DiskAt u3 A3 (dropN ns s) := hd3
 generalize dropN ns s = n1 at hd3 hl1 ⊢
 refine hold_call ((rget.cv A3 c3 n1 m r s.f2 u3 hd3 hl1).mono fun v cs u4 hu4 ⟨hc, a7, c7, hv, h7, h8⟩ => ⟨fls (getL n1 s.f2) a7 c7 (getB n1 s.f2), (), hv, hc, fun b3 hb3 => ⟨fun h => ?_, fun h => ?_⟩⟩)
 ·simp only [E.den, cT_eql] at h
  have h : (getL n1 s.f2).f0 = 2 := h
  have hN : nLess (getL n1 s.f2) = { getL n1 s.f2 with f3 := IntKind.i64.wrap ((getL n1 s.f2).f3 - 1), f5 := 0 } := by unfold nLess; rw [if_pos h]
  unfold turnF
  rw [hN]
  refine hold_call ((r6set.cv A3 c3 n1 m r s.f2 { getL n1 s.f2 with f3 := IntKind.i64.wrap ((getL n1 s.f2).f3 - 1), f5 := 0 } a7 c7 u4 (hd3.mono hu4) h8 h7 hl1).mono fun v cs u5 hu5 ⟨hc, A4, c4, hv, hd4⟩ => ⟨((A4, (setL n1 s.f2 { getL n1 s.f2 with f3 := IntKind.i64.wrap ((getL n1 s.f2).f3 - 1), f5 := 0 }).length, c4), m, r, ()), (), hv, hc, ?_⟩)
  exact hold_call ((r6settle.cv A4 c4 _ m r u5 s.f2 hd4 (by rw [setL_len]; exact hl1)).mono fun v cs u6 hu6 ⟨hc, A5, c5, hv, hd5⟩ => ⟨((A5, (settleF (setL n1 s.f2 { getL n1 s.f2 with f3 := IntKind.i64.wrap ((getL n1 s.f2).f3 - 1), f5 := 0 }) s.f2).length, c5), m, r, ()), (), hv, hc, rfl, A5, c5, rfl, hd5⟩)
 ·simp only [E.den, cF_eql] at h
  have h : ¬ (getL n1 s.f2).f0 = 2 := h
  have hN : nLess (getL n1 s.f2) = { getL n1 s.f2 with f3 := IntKind.i64.wrap ((getL n1 s.f2).f3 - 1) } := by unfold nLess; rw [if_neg h]
  unfold turnF
  rw [hN]
  refine hold_call ((r6set.cv A3 c3 n1 m r s.f2 { getL n1 s.f2 with f3 := IntKind.i64.wrap ((getL n1 s.f2).f3 - 1) } a7 c7 u4 (hd3.mono hu4) h8 h7 hl1).mono fun v cs u5 hu5 ⟨hc, A4, c4, hv, hd4⟩ => ⟨((A4, (setL n1 s.f2 { getL n1 s.f2 with f3 := IntKind.i64.wrap ((getL n1 s.f2).f3 - 1) }).length, c4), m, r, ()), (), hv, hc, ?_⟩)
  exact hold_call ((r6settle.cv A4 c4 _ m r u5 s.f2 hd4 (by rw [setL_len]; exact hl1)).mono fun v cs u6 hu6 ⟨hc, A5, c5, hv, hd5⟩ => ⟨((A5, (settleF (setL n1 s.f2 { getL n1 s.f2 with f3 := IntKind.i64.wrap ((getL n1 s.f2).f3 - 1) }) s.f2).length, c5), m, r, ()), (), hv, hc, rfl, A5, c5, rfl, hd5⟩)
theorem r8there.cv (who from_ : Int) (path : ByteArray) (hd : DiskAt u A ns) (hn : NsOk ns) (hp : path.size ≤ 1000000000) :
  CV Tryz.prog 56 [.agg #[.slice A ns.length c, .int .i64 m, .int .i64 r], .agg #[.int .i64 who, .int .i64 from_], .string path] [] u fun v cs u' => cs = [] ∧ ∃ a7 c7, v = .tuple #[.agg (Sx.cv K3 (thereF ns who from_ path).1.row).toArray, .agg (Sx.cv K0 ((getL ns (thereF ns who from_ path).1.f2).row a7 c7)).toArray, .int .i64 (thereF ns who from_ path).2] := by
 refine cv_of names draws (fn := Tryz.f56) (b := bodyOf Tryz.f56) rfl rfl [] (r8there.args ((A, ns.length, c), m, r, ()) (who, from_, ()) (path, ())) (r8there.giv _ _ _) (fun _ => 0) (r8there.run _ _ _) (by kernel_rfl) rfl rfl ?_
 unfold r8there.T thereF
 intro b1 hb1 b2 hb2 b3 hb3 b4 hb4
 generalize hw : walkF ns who from_ path false = w
 obtain ⟨sp, e⟩ := w
 have ht := rwalk.cv A c ns m r who from_ path false u hd hn hp
 rw [hw] at ht
 refine hold_call (ht.mono fun v cs u1 hu1 ⟨hc, hv⟩ => ⟨(sp.f0, sp.f1, sp.f2, sp.f3, e, ()), (), hv, hc, fun b5 hb5 => ?_⟩)
 have hcnd : (bif cmpI .eql e 0 then cmpI .lss sp.f2 0 else false) = decide (e = 0 ∧ sp.f2 < 0) := by
  rw [cD_eql, cD_lss, Bool.eq_iff_iff]; simp [Bool.cond_eq_ite]
 refine ⟨fun h => ?_, fun h => ?_⟩
 ·have h := of_decide_eq_true (hcnd.symm.trans h)
  refine hold_call ((rget.cv A c ns m r sp.f2 u1 (hd.mono hu1) hn.len).mono fun v cs u2 hu2 ⟨hc, a7, c7, hv, h7, h8⟩ => ⟨fls (getL ns sp.f2) a7 c7 (getB ns sp.f2), (), hv, hc, fun b3 hb3 => ⟨rfl, a7, c7, ?_⟩⟩)
  simp only
  rw [if_pos h]; rfl
 ·have h := of_decide_eq_false (hcnd.symm.trans h)
  refine hold_call ((rget.cv A c ns m r sp.f2 u1 (hd.mono hu1) hn.len).mono fun v cs u2 hu2 ⟨hc, a7, c7, hv, h7, h8⟩ => ⟨fls (getL ns sp.f2) a7 c7 (getB ns sp.f2), (), hv, hc, fun b3 hb3 => ⟨rfl, a7, c7, ?_⟩⟩)
  simp only
  rw [if_neg h]; rfl
end Go.Proofs.YtpfbimkpcnnfkaaGreatDoor.Sx
set_option maxRecDepth 100000
set_option linter.unusedVariables false
set_option linter.unusedSimpArgs false
namespace Go.Proofs.YtpfbimkpcnnfkaaGreatDoor.Sx
open Go Go.RowKit Go.Proofs.YtpfbimkpcnnfkaaGreatDoor Go.Proofs.YtpfbimkpcnnfkaaGreatDoor.Ext
def rlinkF (ns : List Nd) (who from_ : Int) (old path : ByteArray) : List Nd × Int :=
 if ¬ (nodeF ns who from_ old false).2 = 0 then (ns, (nodeF ns who from_ old false).2)
 else linkAt ns who ⟨0, ⟨#[]⟩, (nodeF ns who from_ old false).1, false⟩ (walkF ns who from_ path false).1 (walkF ns who from_ path false).2
def roverE (ns : List Nd) (s t : Sp) : Int :=
 if (getL ns t.f0).f3 < 1 then 2
 else if (getL ns s.f2).f0 = 2 ∧ benF ns ns.length t.f0 s.f2 = true then 15
 else if (getL ns s.f2).f0 = 2 ∧ getB ns t.f2 = true ∧ ¬ (getL ns t.f2).f0 = 2 then 4
 else if (getL ns s.f2).f0 = 2 ∧ getB ns t.f2 = true ∧ ¬ (getL ns t.f2).f7 = [] then 6
 else if ¬ (getL ns s.f2).f0 = 2 ∧ getB ns t.f2 = true ∧ (getL ns t.f2).f0 = 2 then 5
 else if ¬ (getL ns s.f2).f0 = 2 ∧ t.f3 = true then 4 else 0
def rrenAt (ns : List Nd) (s t : Sp) : List Nd :=
 let n1 := dropN ns s
 let n2 := if 0 ≤ t.f2 then loseN n1 t else n1
 let n3 := putN n2 t s.f2
 if (getL n3 s.f2).f0 = 2 then turnF n3 s.f2 (nUp t.f0) else setL n3 s.f2 (getL n3 s.f2)
def rrenSp (ns : List Nd) (wa wb : Int) (s t : Sp) : List Nd × Int :=
 if dotsB s.f1 = true ∨ dotsB t.f1 = true then (ns, 1)
 else if writesB ns wa s.f0 = false ∨ writesB ns wb t.f0 = false then (ns, 7)
 else if s.f2 = t.f2 then (ns, 0)
 else if ¬ roverE ns s t = 0 then (ns, roverE ns s t) else (rrenAt ns s t, 0)
def rrenF (ns : List Nd) (wa fa wb fb : Int) (old path : ByteArray) : List Nd × Int :=
 if ¬ (thereF ns wa fa old).2 = 0 then (ns, (thereF ns wa fa old).2)
 else if ¬ (walkF ns wb fb path false).2 = 0 then (ns, (walkF ns wb fb path false).2)
 else rrenSp ns wa wb (thereF ns wa fa old).1 (walkF ns wb fb path false).1
variable (A : Option Addr) (c : Nat) (ns : List Nd) (m r : Int) (u : Mem)
theorem rsame.cv (B : Option Addr) (d : Nat) (ms : List Nd) (ha : DiskAt u A ns) (hb : DiskAt u B ms) (hl : ns.length ≤ 1000000) (hs : ∀ n ∈ ns, n.f7.length ≤ 1000000) :
  CV Tryz.prog 17 [.agg #[.slice A ns.length c, .int .i64 m, .int .i64 r], .agg #[.slice B ms.length d, .int .i64 m, .int .i64 r]] [] u fun v cs _ => cs = [] ∧ v = .bool (decide (ns = ms)) := by
 refine cv_of names draws (fn := Tryz.f17) (b := bodyOf Tryz.f17) rfl rfl [⟨4, [5], []⟩] (rsame.args ((A, ns.length, c), m, r, ()) ((B, ms.length, d), m, r, ())) (rsame.giv _ _) (fun _ => 0) (rsame.run _ _) (by kernel_rfl) rfl rfl ?_
 unfold rsame.T
 intro b1 hb1 b2 hb2
 have hcnd : (bif bif cmpI .neq m m then true else cmpI .neq r r then true else cmpI .neq (ns.length : Int) (ms.length : Int)) = decide (¬ ns.length = ms.length) := by
  rw [cD_neq, cD_neq, cD_neq, Bool.eq_iff_iff]; simp [Bool.cond_eq_ite]; omega
 refine ⟨fun h => ?_, fun h => ?_⟩
 ·have h := of_decide_eq_true (hcnd.symm.trans h)
  exact ⟨rfl, by rw [decide_eq_false (fun e => h (by rw [e]))]; rfl⟩
 have h := of_decide_eq_false (hcnd.symm.trans h)
 have hlen : ns.length = ms.length := by omega
 refine hold_count ns.length (fun i u' => u.le u' ∧ ns.take i = ms.take i) ⟨Mem.le_refl u, rfl⟩ ?_
 rintro i u1 hi ⟨hu1, hI⟩
 refine ⟨fun hlt => ?_, fun hge => ?_⟩
 ·simp only [E.den, cT_lss] at hlt
  have hlt : (i : Int) < (ns.length : Int) := hlt
  have hil : i < ns.length := by omega
  obtain ⟨x, hx⟩ : ∃ n, ns[i]? = some n := ⟨_, List.getElem?_eq_getElem hil⟩
  obtain ⟨y, hy⟩ : ∃ n, ms[i]? = some n := ⟨_, List.getElem?_eq_getElem (by omega)⟩
  obtain ⟨a7, c7, k1, k2, k3⟩ := ha i x hx
  obtain ⟨a8, c8, g1, g2, g3⟩ := hb i y hy
  have rx : Reads u1 A ((i : Int).toNat * 8) (Sx.cv K0 (x.row a7 c7)) := by rw [Int.toNat_natCast]; exact k2.mono hu1
  have ry : Reads u1 B ((i : Int).toNat * 8) (Sx.cv K0 (y.row a8 c8)) := by rw [Int.toNat_natCast]; exact g2.mono hu1
  have b1 : (0 : Int) ≤ (i : Int) ∧ (i : Int) < (ns.length : Int) ∧ A.isSome = true := ⟨by omega, hlt, rx.some⟩
  have b2 : (0 : Int) ≤ (i : Int) ∧ (i : Int) < (ms.length : Int) ∧ B.isSome = true := ⟨by omega, by omega, ry.some⟩
  refine ⟨fun _ => b1, fun _ => ⟨x.row a7 c7, rx, fun _ => b2, fun _ => ⟨y.row a8 c8, ry, ?_⟩, fun h => by cases h⟩, fun h => by cases h⟩
  refine hold_call ((ralike.cv x y a7 a8 c7 c8 u1 (k3.mono hu1) (g3.mono hu1) (hs x (List.mem_of_getElem? hx))).mono fun v cs u2 hu2 ⟨hc, hv⟩ => ⟨(decide (x = y), ()), (), hv, hc, fun h => ?_, fun h => ?_⟩)
  ·have h : (!decide (x = y)) = true := h
   have h : ¬ x = y := by simpa using h
   refine ⟨rfl, ?_⟩
   rw [decide_eq_false (fun e => h (by rw [e] at hx; rw [hx] at hy; cases hy; rfl))]; rfl
  ·have h : (!decide (x = y)) = false := h
   have h : x = y := by simpa using h
   refine ⟨by simp, ?_⟩
   simp only [if_true]
   obtain ⟨q1, q2⟩ := List.getElem?_eq_some_iff.1 hx
   obtain ⟨q3, q4⟩ := List.getElem?_eq_some_iff.1 hy
   refine ⟨by rw [← wrap_succ (show i < 4611686018427387904 by omega)]; rfl, rfl, hil, Mem.le_trans hu1 hu2, ?_⟩
   rw [List.take_succ_eq_append_getElem q1, List.take_succ_eq_append_getElem q3, hI, q2, q4, h]
 ·simp only [E.den, cF_lss] at hge
  have hge : (ns.length : Int) ≤ (i : Int) := hge
  obtain rfl : i = ns.length := by omega
  rw [List.take_length, hlen, List.take_length] at hI
  exact ⟨rfl, by rw [decide_eq_true hI]; rfl⟩
theorem r8ben.cv (i top : Int) (hd : DiskAt u A ns) (hl : ns.length ≤ 1000000) :
  CV Tryz.prog 104 [.agg #[.slice A ns.length c, .int .i64 m, .int .i64 r], .int .i64 i, .int .i64 top] [] u fun v cs u' => cs = [] ∧ v = .bool (benF ns ns.length i top) := by
 refine cv_of names draws (fn := Tryz.f104) (b := bodyOf Tryz.f104) rfl rfl [⟨2, [1, 7], []⟩] (r8ben.args ((A, ns.length, c), m, r, ()) (i, ()) (top, ())) (r8ben.giv _ _ _) (fun _ => 0) (r8ben.run _ _ _) (by kernel_rfl) rfl rfl ?_
 unfold r8ben.T
 intro b1 hb1
 refine hold_loop (sk := [.i .i64, .i .i64]) (oks := []) (fun x y u' => u.le u' ∧ ∃ (j : Int) (k : Nat), x = (j, (k : Int), ()) ∧ k ≤ ns.length + 1 ∧ (k ≤ ns.length → benF ns ns.length i top = benF ns (ns.length - k) j top) ∧ (k = ns.length + 1 → benF ns ns.length i top = false)) (fun x _ => ((ns.length : Int) + 1 - x.2.1).toNat) (i, 0, ()) () rfl rfl ⟨Mem.le_refl u, i, 0, rfl, by omega, fun _ => rfl, fun h => by omega⟩ ?_
 rintro x y u1 ⟨hu1, j, k, rfl, hk, hI, hE⟩
 refine ⟨fun h => ?_, fun h => ?_⟩
 ·simp only [E.den, cT_leq] at h
  have h : (k : Int) ≤ (ns.length : Int) := h
  have hI := hI (by omega)
  refine ⟨fun h1 => ?_, fun h1 => ?_⟩
  ·simp only [E.den, cT_eql] at h1
   have h1 : j = top := h1
   refine ⟨rfl, ?_⟩
   rw [hI]
   cases ns.length - k with
   | zero => unfold benF; rw [decide_eq_true h1]; rfl
   | succ f => unfold benF; rw [if_pos h1]; rfl
  ·simp only [E.den, cF_eql] at h1
   have h1 : ¬ j = top := h1
   refine ⟨fun h2 => ?_, fun h2 => ?_⟩
   ·simp only [E.den, cT_eql] at h2
    have h2 : j = 0 := h2
    refine ⟨rfl, ?_⟩
    rw [hI]
    cases ns.length - k with
    | zero => unfold benF; rw [decide_eq_false h1]; rfl
    | succ f => unfold benF; rw [if_neg h1, if_pos h2]; rfl
   ·simp only [E.den, cF_eql] at h2
    have h2 : ¬ j = 0 := h2
    refine hold_call ((rget.cv A c ns m r j u1 (hd.mono hu1) hl).mono fun v cs u2 hu2 ⟨hc, a7, c7, hv, h7, h8⟩ => ⟨fls (getL ns j) a7 c7 (getB ns j), (), hv, hc, fun b8 hb8 => ⟨by simp, ?_⟩⟩)
    simp only [if_true]
    refine ⟨((getL ns j).f5, ((k + 1 : Nat) : Int), ()), (), by rw [← wrap_succ (show k < 4611686018427387904 by omega)]; rfl, rfl, ⟨Mem.le_trans hu1 hu2, _, k + 1, rfl, by omega, fun h3 => ?_, fun h3 => ?_⟩, by simp only; omega⟩
    ·rw [hI, show ns.length - k = (ns.length - (k + 1)) + 1 by omega]
     conv => lhs; unfold benF
     rw [if_neg h1, if_neg h2]
    ·rw [hI, show ns.length - k = 0 by omega]
     unfold benF
     exact decide_eq_false h1
 ·simp only [E.den, cF_leq] at h
  have h : (ns.length : Int) < (k : Int) := h
  refine ⟨rfl, ?_⟩
  rw [hE (by omega)]; rfl
theorem r8dots.cv (name : ByteArray) : CV Tryz.prog 57 [.string name] [] u fun v cs _ => cs = [] ∧ v = .bool (dotsB name) := by
 refine cv_of names draws (fn := Tryz.f57) (b := bodyOf Tryz.f57) rfl rfl [] (r8dots.args (name, ())) (r8dots.giv _) (fun _ => 0) (r8dots.run _) (by kernel_rfl) rfl rfl ?_
 refine ⟨rfl, ?_⟩
 show Value.bool (bif bif cmpT .eql name ⟨#[]⟩ then true else cmpT .eql name ⟨#[46]⟩ then true else cmpT .eql name ⟨#[46, 46]⟩) = _
 congr 1
 unfold dotsB
 rw [Bool.eq_iff_iff]
 simp only [Bool.cond_eq_ite, Bool.ite_eq_true_distrib, if_true_left, tT_eql, dot0, dot1, dot2, decide_eq_true_eq]
 by_cases h1 : name.toList = [] <;> by_cases h2 : name.toList = [46] <;> by_cases h3 : name.toList = [46, 46] <;> simp [h1, h2, h3]
theorem r8over.cv (s t : Sp) (hd : DiskAt u A ns) (hl : ns.length ≤ 1000000) :
  CV Tryz.prog 59 [.agg #[.slice A ns.length c, .int .i64 m, .int .i64 r], .agg (Sx.cv K3 s.row).toArray, .agg (Sx.cv K3 t.row).toArray] [] u fun v cs u' => cs = [] ∧ v = .int .i64 (roverE ns s t) := by
 refine cv_of names draws (fn := Tryz.f59) (b := bodyOf Tryz.f59) rfl rfl [] (r8over.args ((A, ns.length, c), m, r, ()) s.row t.row) (r8over.giv _ _ _) (fun _ => 0) (r8over.run _ _ _) (by kernel_rfl) rfl rfl ?_
 unfold r8over.T roverE
 intro b1 hb1 b2 hb2 b3 hb3
 refine hold_call ((rget.cv A c ns m r s.f2 u hd hl).mono fun v cs u1 hu1 ⟨hc, a7, c7, hv, _, _⟩ => ⟨fls (getL ns s.f2) a7 c7 (getB ns s.f2), (), hv, hc, fun b3 hb3 => ?_⟩)
 refine hold_call ((rget.cv A c ns m r t.f2 u1 (hd.mono hu1) hl).mono fun v cs u2 hu2 ⟨hc, a8, c8, hv, _, _⟩ => ⟨fls (getL ns t.f2) a8 c8 (getB ns t.f2), (), hv, hc, fun b3 hb3 => ?_⟩)
 have hu02 := Mem.le_trans hu1 hu2
 refine hold_call ((rget.cv A c ns m r t.f0 u2 (hd.mono hu02) hl).mono fun v cs u3 hu3 ⟨hc, a9, c9, hv, _, _⟩ => ⟨fls (getL ns t.f0) a9 c9 (getB ns t.f0), (), hv, hc, fun b3 hb3 => ?_⟩)
 have hu03 := Mem.le_trans hu02 hu3
 refine ⟨fun h => ?_, fun h => ?_⟩
 ·simp only [E.den, cT_lss] at h
  have h : (getL ns t.f0).f3 < 1 := h
  rw [if_pos h]; exact ⟨rfl, rfl⟩
 simp only [E.den, cF_lss] at h
 have h : 1 ≤ (getL ns t.f0).f3 := h
 rw [if_neg (by omega)]
 refine hold_callg (fun xs _ u4 => u.le u4 ∧ ((getL ns s.f2).f0 = 2 → xs.1 = benF ns ns.length t.f0 s.f2)) (fun _ => (r8ben.cv A c ns m r u3 t.f0 s.f2 (hd.mono hu03) hl).mono fun v cs u4 hu4 ⟨hc, hv⟩ => ⟨(benF ns ns.length t.f0 s.f2, ()), (), hv, hc, Mem.le_trans hu03 hu4, fun _ => rfl⟩) (fun hg => ⟨hu03, fun h => by
  simp only [E.den, cF_eql] at hg
  have hg : ¬ (getL ns s.f2).f0 = 2 := hg
  exact absurd h hg⟩) ?_
 rintro ⟨x, _⟩ _ u4 ⟨hu4, hx⟩
 have hx : (getL ns s.f2).f0 = 2 → x = benF ns ns.length t.f0 s.f2 := hx
 have k1 : (bif cmpI .eql (getL ns s.f2).f0 2 then x else false) = decide ((getL ns s.f2).f0 = 2 ∧ benF ns ns.length t.f0 s.f2 = true) := by
  rw [cD_eql]
  by_cases h2 : (getL ns s.f2).f0 = 2
  ·rw [hx h2]; simp [h2]
  ·simp [h2]
 have k2 : (bif bif cmpI .eql (getL ns s.f2).f0 2 then getB ns t.f2 else false then cmpI .neq (getL ns t.f2).f0 2 else false) = decide ((getL ns s.f2).f0 = 2 ∧ getB ns t.f2 = true ∧ ¬ (getL ns t.f2).f0 = 2) := by
  rw [cD_eql, cD_neq, Bool.eq_iff_iff]; simp [Bool.cond_eq_ite, and_assoc]
 have k3 : (bif bif cmpI .eql (getL ns s.f2).f0 2 then getB ns t.f2 else false then cmpI .gtr ((getL ns t.f2).f7.length : Int) 0 else false) = decide ((getL ns s.f2).f0 = 2 ∧ getB ns t.f2 = true ∧ ¬ (getL ns t.f2).f7 = []) := by
  rw [cD_eql, cD_gtr, Bool.eq_iff_iff]; simp [Bool.cond_eq_ite, and_assoc, List.length_pos_iff]
 have k4 : (bif bif cmpI .neq (getL ns s.f2).f0 2 then getB ns t.f2 else false then cmpI .eql (getL ns t.f2).f0 2 else false) = decide (¬ (getL ns s.f2).f0 = 2 ∧ getB ns t.f2 = true ∧ (getL ns t.f2).f0 = 2) := by
  rw [cD_neq, cD_eql, Bool.eq_iff_iff]; simp [Bool.cond_eq_ite, and_assoc]
 have k5 : (bif cmpI .neq (getL ns s.f2).f0 2 then t.f3 else false) = decide (¬ (getL ns s.f2).f0 = 2 ∧ t.f3 = true) := by
  rw [cD_neq, Bool.eq_iff_iff]; simp [Bool.cond_eq_ite]
 refine ⟨fun h => ?_, fun h => ?_⟩
 ·rw [if_pos (of_decide_eq_true (k1.symm.trans h))]; exact ⟨rfl, rfl⟩
 rw [if_neg (of_decide_eq_false (k1.symm.trans h))]
 refine ⟨fun h => ?_, fun h => ?_⟩
 ·rw [if_pos (of_decide_eq_true (k2.symm.trans h))]; exact ⟨rfl, rfl⟩
 rw [if_neg (of_decide_eq_false (k2.symm.trans h))]
 refine ⟨fun h => ?_, fun h => ?_⟩
 ·rw [if_pos (of_decide_eq_true (k3.symm.trans h))]; exact ⟨rfl, rfl⟩
 rw [if_neg (of_decide_eq_false (k3.symm.trans h))]
 refine ⟨fun h => ?_, fun h => ?_⟩
 ·rw [if_pos (of_decide_eq_true (k4.symm.trans h))]; exact ⟨rfl, rfl⟩
 rw [if_neg (of_decide_eq_false (k4.symm.trans h))]
 refine ⟨fun h => ?_, fun h => ?_⟩
 ·rw [if_pos (of_decide_eq_true (k5.symm.trans h))]; exact ⟨rfl, rfl⟩
 ·rw [if_neg (of_decide_eq_false (k5.symm.trans h))]; exact ⟨rfl, rfl⟩
section
variable (hd : DiskAt u A ns) (hn : Ok8 ns)
include hd hn
theorem r8unl.cv (who from_ : Int) (path : ByteArray) (hp : path.size ≤ 1000000000) :
  CV Tryz.prog 35 [.agg #[.slice A ns.length c, .int .i64 m, .int .i64 r], .agg #[.int .i64 who, .int .i64 from_], .string path] [] u fun v cs u' => cs = [] ∧ ∃ A' c', v = .tuple #[.agg #[.slice A' (unlF ns who from_ path).1.length c', .int .i64 m, .int .i64 r], .int .i64 (unlF ns who from_ path).2] ∧ DiskAt u' A' (unlF ns who from_ path).1 := by
 refine cv_of names draws (fn := Tryz.f35) (b := bodyOf Tryz.f35) rfl rfl [] (r8unl.args ((A, ns.length, c), m, r, ()) (who, from_, ()) (path, ())) (r8unl.giv _ _ _) (fun _ => 0) (r8unl.run _ _ _) (by kernel_rfl) rfl rfl ?_
 unfold r8unl.T unlF
 intro b1 hb1 b2 hb2 b3 hb3
 have hl := hn.ok.len
 have ht := r8there.cv A c ns m r u who from_ path hd hn.ok hp
 generalize thereF ns who from_ path = w at ht
 obtain ⟨o, e⟩ := w
 refine hold_call (ht.mono fun v cs u1 hu1 ⟨hc, a7, c7, hv⟩ => ⟨(o.f0, o.f1, o.f2, o.f3, (getL ns o.f2).f0, (getL ns o.f2).f1, (getL ns o.f2).f2, (getL ns o.f2).f3, (getL ns o.f2).f4, (getL ns o.f2).f5, (getL ns o.f2).f6, (a7, (getL ns o.f2).f7.length, c7), e, ()), (), hv, hc, fun b5 hb5 b6 hb6 => ⟨fun h => ?_, fun h => ?_⟩⟩)
 ·simp only [E.den, cT_neq] at h
  have h : ¬ e = 0 := h
  simp only [if_pos h]; exact ⟨rfl, A, c, rfl, hd.mono hu1⟩
 simp only [E.den, cF_neq] at h
 have h : e = 0 := h
 subst h
 simp only [not_true, if_false]
 refine ⟨fun h => ?_, fun h => ?_⟩
 ·simp only [E.den, cT_eql] at h
  have h : (getL ns o.f2).f0 = 2 := h
  rw [if_pos h]; exact ⟨rfl, A, c, rfl, hd.mono hu1⟩
 simp only [E.den, cF_eql] at h
 have h : ¬ (getL ns o.f2).f0 = 2 := h
 rw [if_neg h]
 refine hold_call ((r8writes.cv A c ns m r u1 who o.f0 (hd.mono hu1) hn.ok).mono fun v cs u2 hu2 ⟨hc, hv⟩ => ⟨(writesB ns who o.f0, ()), (), hv, hc, fun h => ?_, fun h => ?_⟩)
 ·have h : (!writesB ns who o.f0) = true := h
  rw [if_pos (by simpa using h)]; exact ⟨rfl, A, c, rfl, (hd.mono hu1).mono hu2⟩
 ·have h : (!writesB ns who o.f0) = false := h
  rw [if_neg (by simpa using h)]
  exact hold_call ((r8lost.cv A c ns m r u2 o ((hd.mono hu1).mono hu2) hl hn.ris).mono fun v cs u3 hu3 ⟨hc, A3, c3, hv, hd3⟩ => ⟨((A3, (loseN ns o).length, c3), m, r, ()), (), hv, hc, rfl, A3, c3, rfl, hd3⟩)
theorem r8rmd.cv (who from_ : Int) (path : ByteArray) (hp : path.size ≤ 1000000000) :
  CV Tryz.prog 36 [.agg #[.slice A ns.length c, .int .i64 m, .int .i64 r], .agg #[.int .i64 who, .int .i64 from_], .string path] [] u fun v cs u' => cs = [] ∧ ∃ A' c', v = .tuple #[.agg #[.slice A' (rmdF ns who from_ path).1.length c', .int .i64 m, .int .i64 r], .int .i64 (rmdF ns who from_ path).2] ∧ DiskAt u' A' (rmdF ns who from_ path).1 := by
 refine cv_of names draws (fn := Tryz.f36) (b := bodyOf Tryz.f36) rfl rfl [] (r8rmd.args ((A, ns.length, c), m, r, ()) (who, from_, ()) (path, ())) (r8rmd.giv _ _ _) (fun _ => 0) (r8rmd.run _ _ _) (by kernel_rfl) rfl rfl ?_
 unfold r8rmd.T rmdF
 intro b1 hb1 b2 hb2 b3 hb3
 have hl := hn.ok.len
 have ht := r8there.cv A c ns m r u who from_ path hd hn.ok hp
 generalize thereF ns who from_ path = w at ht
 obtain ⟨o, e⟩ := w
 refine hold_call (ht.mono fun v cs u1 hu1 ⟨hc, a7, c7, hv⟩ => ⟨(o.f0, o.f1, o.f2, o.f3, (getL ns o.f2).f0, (getL ns o.f2).f1, (getL ns o.f2).f2, (getL ns o.f2).f3, (getL ns o.f2).f4, (getL ns o.f2).f5, (getL ns o.f2).f6, (a7, (getL ns o.f2).f7.length, c7), e, ()), (), hv, hc, fun b5 hb5 b6 hb6 => ⟨fun h => ?_, fun h => ?_⟩⟩)
 ·simp only [E.den, cT_neq] at h
  have h : ¬ e = 0 := h
  simp only [if_pos h]; exact ⟨rfl, A, c, rfl, hd.mono hu1⟩
 simp only [E.den, cF_neq] at h
 have h : e = 0 := h
 subst h
 simp only [not_true, if_false]
 unfold rmdAt
 refine ⟨fun h => ?_, fun h => ?_⟩
 ·simp only [E.den, cT_neq] at h
  have h : ¬ (getL ns o.f2).f0 = 2 := h
  rw [if_pos h]; exact ⟨rfl, A, c, rfl, hd.mono hu1⟩
 simp only [E.den, cF_neq] at h
 have h : (getL ns o.f2).f0 = 2 := h
 rw [if_neg (fun h' => h' h)]
 have hk : (bif cmpT .eql o.f1 ⟨#[]⟩ then true else cmpT .eql o.f1 ⟨#[46]⟩) = decide (o.f1.toList = [] ∨ o.f1.toList = [46]) := by
  rw [Bool.eq_iff_iff]
  simp only [Bool.cond_eq_ite, Bool.ite_eq_true_distrib, if_true_left, tT_eql, dot0, dot1, decide_eq_true_eq]
  by_cases h1 : o.f1.toList = [] <;> simp [h1]
 refine ⟨fun h => ?_, fun h => ?_⟩
 ·rw [if_pos (of_decide_eq_true (hk.symm.trans h))]; exact ⟨rfl, A, c, rfl, hd.mono hu1⟩
 rw [if_neg (of_decide_eq_false (hk.symm.trans h))]
 refine ⟨fun h => ?_, fun h => ?_⟩
 ·simp only [E.den, tT_eql, dot2] at h
  have h : o.f1.toList = [46, 46] := h
  rw [if_pos h]; exact ⟨rfl, A, c, rfl, hd.mono hu1⟩
 simp only [E.den, tF_eql, dot2] at h
 have h : ¬ o.f1.toList = [46, 46] := h
 rw [if_neg h]
 refine hold_call ((r8writes.cv A c ns m r u1 who o.f0 (hd.mono hu1) hn.ok).mono fun v cs u2 hu2 ⟨hc, hv⟩ => ⟨(writesB ns who o.f0, ()), (), hv, hc, fun h => ?_, fun h => ?_⟩)
 ·have h : (!writesB ns who o.f0) = true := h
  rw [if_pos (by simpa using h)]; exact ⟨rfl, A, c, rfl, (hd.mono hu1).mono hu2⟩
 have h : (!writesB ns who o.f0) = false := h
 rw [if_neg (by simpa using h)]
 refine ⟨fun h5 => ?_, fun h5 => ?_⟩
 ·simp only [E.den, cT_gtr] at h5
  have h5 : (0 : Int) < ((getL ns o.f2).f7.length : Int) := h5
  rw [if_pos (by intro e; rw [e] at h5; simp at h5)]; exact ⟨rfl, A, c, rfl, (hd.mono hu1).mono hu2⟩
 ·simp only [E.den, cF_gtr] at h5
  have h5 : ((getL ns o.f2).f7.length : Int) ≤ 0 := h5
  rw [if_neg (fun h' => h' (List.eq_nil_of_length_eq_zero (by omega)))]
  exact hold_call ((r8lost.cv A c ns m r u2 o ((hd.mono hu1).mono hu2) hl hn.ris).mono fun v cs u3 hu3 ⟨hc, A3, c3, hv, hd3⟩ => ⟨((A3, (loseN ns o).length, c3), m, r, ()), (), hv, hc, rfl, A3, c3, rfl, hd3⟩)
theorem r8chm.cv (who from_ : Int) (path : ByteArray) (mode : Int) (hp : path.size ≤ 1000000000) :
  CV Tryz.prog 38 [.agg #[.slice A ns.length c, .int .i64 m, .int .i64 r], .agg #[.int .i64 who, .int .i64 from_], .string path, .int .i64 mode] [] u fun v cs u' => cs = [] ∧ ∃ A' c', v = .tuple #[.agg #[.slice A' (chmF ns who from_ path mode).1.length c', .int .i64 m, .int .i64 r], .int .i64 (chmF ns who from_ path mode).2] ∧ DiskAt u' A' (chmF ns who from_ path mode).1 := by
 refine cv_of names draws (fn := Tryz.f38) (b := bodyOf Tryz.f38) rfl rfl [] (r8chm.args ((A, ns.length, c), m, r, ()) (who, from_, ()) (path, ()) (mode, ())) (r8chm.giv _ _ _ _) (fun _ => 0) (r8chm.run _ _ _ _) (by kernel_rfl) rfl rfl ?_
 unfold r8chm.T chmF
 intro b1 hb1 b2 hb2 b3 hb3
 have hl := hn.ok.len
 have ht := rnode.cv A c ns m r who from_ path true u hd hn.ok hp
 generalize nodeF ns who from_ path true = w at ht
 obtain ⟨i, e⟩ := w
 refine hold_call (ht.mono fun v cs u1 hu1 ⟨hc, hv⟩ => ⟨(i, e, ()), (), hv, hc, fun h => ?_, fun h => ?_⟩)
 ·simp only [E.den, cT_neq] at h
  have h : ¬ e = 0 := h
  simp only [if_pos h]; exact ⟨rfl, A, c, rfl, hd.mono hu1⟩
 simp only [E.den, cF_neq] at h
 have h : e = 0 := h
 subst h
 simp only [not_true, if_false]
 refine hold_call ((rget.cv A c ns m r i u1 (hd.mono hu1) hl).mono fun v cs u2 hu2 ⟨hc, a7, c7, hv, h7, h8⟩ => ⟨fls (getL ns i) a7 c7 (getB ns i), (), hv, hc, fun b3 hb3 => ?_⟩)
 have hk : (bif cmpI .neq who 0 then cmpI .neq who (getL ns i).f2 else false) = decide (¬ who = 0 ∧ ¬ who = (getL ns i).f2) := by
  rw [cD_neq, cD_neq, Bool.eq_iff_iff]; simp [Bool.cond_eq_ite]
 refine ⟨fun h => ?_, fun h => ?_⟩
 ·rw [if_pos (of_decide_eq_true (hk.symm.trans h))]; exact ⟨rfl, A, c, rfl, (hd.mono hu1).mono hu2⟩
 rw [if_neg (of_decide_eq_false (hk.symm.trans h))]
 exact hold_call ((r6set.cv A c ns m r i (nMode mode (getL ns i)) a7 c7 u2 ((hd.mono hu1).mono hu2) h8 h7 hl).mono fun v cs u3 hu3 ⟨hc, A3, c3, hv, hd3⟩ => ⟨((A3, (turnF ns i (nMode mode)).length, c3), m, r, ()), (), hv, hc, rfl, A3, c3, rfl, hd3⟩)
theorem r8ren.cv (wa fa wb fb : Int) (old path : ByteArray) (hp : path.size ≤ 1000000000) (ho : old.size ≤ 1000000000) :
  CV Tryz.prog 14 [.agg #[.slice A ns.length c, .int .i64 m, .int .i64 r], .agg #[.int .i64 wa, .int .i64 fa], .agg #[.int .i64 wb, .int .i64 fb], .string old, .string path] [] u fun v cs u' => cs = [] ∧ ∃ A' c', v = .tuple #[.agg #[.slice A' (rrenF ns wa fa wb fb old path).1.length c', .int .i64 m, .int .i64 r], .int .i64 (rrenF ns wa fa wb fb old path).2] ∧ DiskAt u' A' (rrenF ns wa fa wb fb old path).1 := by
 refine cv_of names draws (fn := Tryz.f14) (b := bodyOf Tryz.f14) rfl rfl [] (r8ren.args ((A, ns.length, c), m, r, ()) (wa, fa, ()) (wb, fb, ()) (old, ()) (path, ())) (r8ren.giv _ _ _ _ _) (fun _ => 0) (r8ren.run _ _ _ _ _) (by kernel_rfl) rfl rfl ?_
 unfold r8ren.T rrenF
 intro b1 hb1 b2 hb2 b3 hb3 b4 hb4
 have hl := hn.ok.len
 have ht := r8there.cv A c ns m r u wa fa old hd hn.ok ho
 generalize thereF ns wa fa old = w at ht
 obtain ⟨o, e⟩ := w
 refine hold_call (ht.mono fun v cs u1 hu1 ⟨hc, a7, c7, hv⟩ => ⟨(o.f0, o.f1, o.f2, o.f3, (getL ns o.f2).f0, (getL ns o.f2).f1, (getL ns o.f2).f2, (getL ns o.f2).f3, (getL ns o.f2).f4, (getL ns o.f2).f5, (getL ns o.f2).f6, (a7, (getL ns o.f2).f7.length, c7), e, ()), (), hv, hc, fun b5 hb5 b6 hb6 => ⟨fun h => ?_, fun h => ?_⟩⟩)
 ·simp only [E.den, cT_neq] at h
  have h : ¬ e = 0 := h
  simp only [if_pos h]; exact ⟨rfl, A, c, rfl, hd.mono hu1⟩
 simp only [E.den, cF_neq] at h
 have h : e = 0 := h
 subst h
 simp only [not_true, if_false]
 have ht := rwalk.cv A c ns m r wb fb path false u1 (hd.mono hu1) hn.ok hp
 generalize walkF ns wb fb path false = w at ht
 obtain ⟨t, e⟩ := w
 refine hold_call (ht.mono fun v cs u2 hu2 ⟨hc, hv⟩ => ⟨(t.f0, t.f1, t.f2, t.f3, e, ()), (), hv, hc, fun b5 hb5 => ⟨fun h => ?_, fun h => ?_⟩⟩)
 ·simp only [E.den, cT_neq] at h
  have h : ¬ e = 0 := h
  simp only [if_pos h]; exact ⟨rfl, A, c, rfl, (hd.mono hu1).mono hu2⟩
 simp only [E.den, cF_neq] at h
 have h : e = 0 := h
 subst h
 simp only [not_true, if_false]
 have hu02 := Mem.le_trans hu1 hu2
 unfold rrenSp
 refine hold_call ((r8dots.cv u2 o.f1).mono fun v cs u3 hu3 ⟨hc, hv⟩ => ⟨(dotsB o.f1, ()), (), hv, hc, ?_⟩)
 refine hold_callg (fun xs _ u4 => u2.le u4 ∧ (dotsB o.f1 = false → xs.1 = dotsB t.f1)) (fun _ => (r8dots.cv u3 t.f1).mono fun v cs u4 hu4 ⟨hc, hv⟩ => ⟨(dotsB t.f1, ()), (), hv, hc, Mem.le_trans hu3 hu4, fun _ => rfl⟩) (fun hg => ⟨hu3, fun h => by
  have hg : (!dotsB o.f1) = false := hg
  rw [h] at hg; cases hg⟩) ?_
 rintro ⟨x, _⟩ _ u4 ⟨hu24, hx⟩
 have hu04 := Mem.le_trans hu02 hu24
 have hcnd : (bif dotsB o.f1 then true else x) = decide (dotsB o.f1 = true ∨ dotsB t.f1 = true) := by
  cases hh : dotsB o.f1 with
  | true => simp
  | false => rw [cond_false, show x = dotsB t.f1 from hx hh]; simp
 refine ⟨fun h => ?_, fun h => ?_⟩
 ·rw [if_pos (of_decide_eq_true (hcnd.symm.trans h))]; exact ⟨rfl, A, c, rfl, hd.mono hu04⟩
 rw [if_neg (of_decide_eq_false (hcnd.symm.trans h))]
 clear hcnd hx
 refine hold_call ((r8writes.cv A c ns m r u4 wa o.f0 (hd.mono hu04) hn.ok).mono fun v cs u5 hu5 ⟨hc, hv⟩ => ⟨(writesB ns wa o.f0, ()), (), hv, hc, ?_⟩)
 have hu05 := Mem.le_trans hu04 hu5
 refine hold_callg (fun xs _ u6 => u.le u6 ∧ (writesB ns wa o.f0 = true → xs.1 = writesB ns wb t.f0)) (fun _ => (r8writes.cv A c ns m r u5 wb t.f0 (hd.mono hu05) hn.ok).mono fun v cs u6 hu6 ⟨hc, hv⟩ => ⟨(writesB ns wb t.f0, ()), (), hv, hc, Mem.le_trans hu05 hu6, fun _ => rfl⟩) (fun hg => ⟨hu05, fun h => by
  have hg : (!!writesB ns wa o.f0) = false := hg
  rw [h] at hg; cases hg⟩) ?_
 rintro ⟨x2, _⟩ _ u6 ⟨hu06, hx⟩
 have hcnd : (bif !writesB ns wa o.f0 then true else !x2) = decide (writesB ns wa o.f0 = false ∨ writesB ns wb t.f0 = false) := by
  cases hh : writesB ns wa o.f0 with
  | false => simp
  | true => rw [show x2 = writesB ns wb t.f0 from hx hh]; simp
 refine ⟨fun h => ?_, fun h => ?_⟩
 ·rw [if_pos (of_decide_eq_true (hcnd.symm.trans h))]; exact ⟨rfl, A, c, rfl, hd.mono hu06⟩
 rw [if_neg (of_decide_eq_false (hcnd.symm.trans h))]
 refine ⟨fun h2 => ?_, fun h2 => ?_⟩
 ·simp only [E.den, cT_eql] at h2
  have h2 : o.f2 = t.f2 := h2
  rw [if_pos h2]; exact ⟨rfl, A, c, rfl, hd.mono hu06⟩
 simp only [E.den, cF_eql] at h2
 have h2 : ¬ o.f2 = t.f2 := h2
 rw [if_neg h2]
 refine hold_call ((r8over.cv A c ns m r u6 o t (hd.mono hu06) hl).mono fun v cs u7 hu7 ⟨hc, hv⟩ => ⟨(roverE ns o t, ()), (), hv, hc, fun h => ?_, fun h => ?_⟩)
 ·simp only [E.den, cT_neq] at h
  have h : ¬ roverE ns o t = 0 := h
  rw [if_pos h]; exact ⟨rfl, A, c, rfl, (hd.mono hu06).mono hu7⟩
 simp only [E.den, cF_neq] at h
 have h : roverE ns o t = 0 := h
 rw [if_neg (fun h' => h' h)]
 have hu07 := Mem.le_trans hu06 hu7
 refine hold_call ((rget.cv A c ns m r o.f0 u7 (hd.mono hu07) hl).mono fun v cs u8 hu8 ⟨hc, a7, c7, hv, h7, h8⟩ => ⟨fls (getL ns o.f0) a7 c7 (getB ns o.f0), (), hv, hc, fun b3 hb3 => ?_⟩)
 refine hold_call ((rdrop.cv a7 c7 (getL ns o.f0).f7 o.f1 u8 h8 (hn.ris.get _).len).mono fun v cs u9 hu9 ⟨hc, A2, c2, hv, hcap, he⟩ => ⟨((A2, (dropF (getL ns o.f0).f7 o.f1).length, c2), ()), (), hv, hc, ?_⟩)
 refine hold_call ((r6set.cv A c ns m r o.f0 (nDrop o (getL ns o.f0)) A2 c2 u9 ((hd.mono hu07).mono (Mem.le_trans hu8 hu9)) he hcap hl).mono fun v cs u10 hu10 ⟨hc, A1, c1, hv, hd1⟩ => ⟨((A1, (dropN ns o).length, c1), m, r, ()), (), hv, hc, ?_⟩)
 have hr1 := hn.ris.dropN o
 have hl1 : (dropN ns o).length ≤ 1000000 := by unfold dropN; rw [turn_len]; exact hl
 unfold rrenAt
 simp only
 have hd1 : DiskAt u10 A1 (dropN ns o) := hd1
 generalize dropN ns o = n1 at hd1 hr1 hl1 ⊢
 refine ⟨fun h3 => ?_, fun h3 => ?_⟩
 ·simp only [E.den, cT_geq] at h3
  have h3 : 0 ≤ t.f2 := h3
  simp only [if_pos h3]
  refine hold_call ((r8lost.cv A1 c1 n1 m r u10 t hd1 hl1 hr1).mono fun v cs u11 hu11 ⟨hc, A2, c2, hv, hd2⟩ => ⟨((A2, (loseN n1 t).length, c2), m, r, ()), (), hv, hc, ?_⟩)
  have hr2 := hr1.lose t
  have hl2 : (loseN n1 t).length ≤ 1000000 := by rw [lose_len]; exact hl1
  generalize loseN n1 t = n2 at hd2 hr2 hl2 ⊢
  refine hold_call ((r8named.cv A2 c2 n2 m r u11 t o.f2 hd2 hl2 hr2).mono fun v cs u12 hu12 ⟨hc, A3, c3, hv, hd3⟩ => ⟨((A3, (putN n2 t o.f2).length, c3), m, r, ()), (), hv, hc, ?_⟩)
  have hl3 : (putN n2 t o.f2).length ≤ 1000000 := by unfold putN; rw [turn_len]; exact hl2
  generalize putN n2 t o.f2 = n3 at hd3 hl3 ⊢
  refine hold_call ((rget.cv A3 c3 n3 m r o.f2 u12 hd3 hl3).mono fun v cs u13 hu13 ⟨hc, a9, c9, hv, h7, h8⟩ => ⟨fls (getL n3 o.f2) a9 c9 (getB n3 o.f2), (), hv, hc, fun b20 hb20 => ⟨fun h4 => ?_, fun h4 => ?_⟩⟩)
  ·simp only [E.den, cT_eql] at h4
   have h4 : (getL n3 o.f2).f0 = 2 := h4
   rw [if_pos h4]
   exact hold_call ((r6set.cv A3 c3 n3 m r o.f2 (nUp t.f0 (getL n3 o.f2)) a9 c9 u13 (hd3.mono hu13) h8 h7 hl3).mono fun v cs u14 hu14 ⟨hc, A4, c4, hv, hd4⟩ => ⟨((A4, (turnF n3 o.f2 (nUp t.f0)).length, c4), m, r, ()), (), hv, hc, rfl, A4, c4, rfl, hd4⟩)
  ·simp only [E.den, cF_eql] at h4
   have h4 : ¬ (getL n3 o.f2).f0 = 2 := h4
   rw [if_neg h4]
   exact hold_call ((r6set.cv A3 c3 n3 m r o.f2 (getL n3 o.f2) a9 c9 u13 (hd3.mono hu13) h8 h7 hl3).mono fun v cs u14 hu14 ⟨hc, A4, c4, hv, hd4⟩ => ⟨((A4, (setL n3 o.f2 (getL n3 o.f2)).length, c4), m, r, ()), (), hv, hc, rfl, A4, c4, rfl, hd4⟩)
 ·simp only [E.den, cF_geq] at h3
  have h3 : t.f2 < 0 := h3
  simp only [if_neg (show ¬ 0 ≤ t.f2 by omega)]
  have hd2 := hd1
  have hr2 := hr1
  have hl2 := hl1
  generalize hA2 : A1 = A2 at hd2 ⊢
  generalize hc2 : c1 = c2 at ⊢
  generalize n1 = n2 at hd2 hr2 hl2 ⊢
  generalize hu11 : u10 = u11 at hd2 ⊢
  refine hold_call ((r8named.cv A2 c2 n2 m r u11 t o.f2 hd2 hl2 hr2).mono fun v cs u12 hu12 ⟨hc, A3, c3, hv, hd3⟩ => ⟨((A3, (putN n2 t o.f2).length, c3), m, r, ()), (), hv, hc, ?_⟩)
  have hl3 : (putN n2 t o.f2).length ≤ 1000000 := by unfold putN; rw [turn_len]; exact hl2
  generalize putN n2 t o.f2 = n3 at hd3 hl3 ⊢
  refine hold_call ((rget.cv A3 c3 n3 m r o.f2 u12 hd3 hl3).mono fun v cs u13 hu13 ⟨hc, a9, c9, hv, h7, h8⟩ => ⟨fls (getL n3 o.f2) a9 c9 (getB n3 o.f2), (), hv, hc, fun b20 hb20 => ⟨fun h4 => ?_, fun h4 => ?_⟩⟩)
  ·simp only [E.den, cT_eql] at h4
   have h4 : (getL n3 o.f2).f0 = 2 := h4
   rw [if_pos h4]
   exact hold_call ((r6set.cv A3 c3 n3 m r o.f2 (nUp t.f0 (getL n3 o.f2)) a9 c9 u13 (hd3.mono hu13) h8 h7 hl3).mono fun v cs u14 hu14 ⟨hc, A4, c4, hv, hd4⟩ => ⟨((A4, (turnF n3 o.f2 (nUp t.f0)).length, c4), m, r, ()), (), hv, hc, rfl, A4, c4, rfl, hd4⟩)
  ·simp only [E.den, cF_eql] at h4
   have h4 : ¬ (getL n3 o.f2).f0 = 2 := h4
   rw [if_neg h4]
   exact hold_call ((r6set.cv A3 c3 n3 m r o.f2 (getL n3 o.f2) a9 c9 u13 (hd3.mono hu13) h8 h7 hl3).mono fun v cs u14 hu14 ⟨hc, A4, c4, hv, hd4⟩ => ⟨((A4, (setL n3 o.f2 (getL n3 o.f2)).length, c4), m, r, ()), (), hv, hc, rfl, A4, c4, rfl, hd4⟩)
end
end Go.Proofs.YtpfbimkpcnnfkaaGreatDoor.Sx
