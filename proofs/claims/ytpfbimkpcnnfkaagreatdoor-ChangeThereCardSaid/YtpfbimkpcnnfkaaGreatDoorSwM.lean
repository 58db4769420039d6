/- By Sx: the document's Walk, Node. -/
import Derived.Test.YtpfbimkpcnnfkaaGreatDoorSwL
set_option maxRecDepth 100000
set_option linter.unusedVariables false
set_option linter.unusedSimpArgs false
namespace Go.Proofs.YtpfbimkpcnnfkaaGreatDoor.Sx
open Go Go.RowKit Go.Proofs.YtpfbimkpcnnfkaaGreatDoor Go.Proofs.YtpfbimkpcnnfkaaGreatDoor.Ext
set_option maxHeartbeats 4000000 in
theorem rwalk.cv (A : Option Addr) (c : Nat) (ns : List Nd) (m r who from_ : Int) (path : ByteArray) (follow : Bool) (u : Mem) (hd : DiskAt u A ns) (hn : NsOk ns) (hp : path.size ≤ 1000000000) :
  CV Tryz.prog 25 [.agg #[.slice A ns.length c, .int .i64 m, .int .i64 r], .int .i64 who, .int .i64 from_, .string path, .bool follow] [] u fun v cs u' => cs = [] ∧ v = .tuple #[.agg (Sx.cv K3 (walkF ns who from_ path follow).1.row).toArray, .int .i64 (walkF ns who from_ path follow).2] := by
 refine cv_of names draws (fn := Tryz.f25) (b := bodyOf Tryz.f25) rfl rfl [⟨14, [13, 16, 17], [10]⟩] (rwalk.args ((A, ns.length, c), m, r, ()) (who, ()) (from_, ()) (path, ()) (follow, ())) (rwalk.giv _ _ _ _ _) (fun _ => 0) (rwalk.run _ _ _ _ _) (by kernel_rfl) rfl rfl ?_
 unfold rwalk.T
 intro b1 hb1 b2 hb2
 refine hold_call ((rcheck.cv path u hp).mono fun v cs u1 hu1 ⟨hc, hv⟩ => ⟨(checkB path, ()), (), hv, hc, fun h0 => ?_, fun h0 => ?_⟩)
 ·simp only [E.den, cT_neq] at h0
  have h0 : ¬ checkB path = 0 := h0
  unfold walkF; rw [if_pos h0]; exact ⟨rfl, rfl⟩
 simp only [E.den, cF_neq] at h0
 have h0 : checkB path = 0 := h0
 have hF : walkF ns who from_ path follow = goF ns who (if pre47 path then 0 else from_) (partsB path) follow (suf47 path) := by unfold walkF; rw [if_neg (by simp [h0])]
 rw [hF]
 clear hF
 refine hold_call ((rsplit.cv path u1 hp).mono fun v cs u2 hu2 ⟨hc2, s, hv2, hs2, hg2⟩ => ⟨(s, pre47 path, suf47 path, ()), (), hv2, hc2, fun hp => ?_, fun hp => ?_⟩)
 ·have hp : pre47 path = true := hp
  rw [hp]
  obtain ⟨res, hres⟩ : ∃ res, res = goF ns who 0 (partsB path) follow (suf47 path) := ⟨_, rfl⟩
  rw [show goF ns who (if true = true then 0 else from_) (partsB path) follow (suf47 path) = res from hres.symm]
  have hps := (strs_at hg2 hs2)
  have hu02 := Mem.le_trans hu1 hu2
  have hl := check_parts h0
  generalize hsl : suf47 path = slash at *
  generalize partsB path = ps at *
  refine ⟨fun hz => ?_, fun hz => ?_⟩
  ·simp only [E.den, cT_eql] at hz
   have hps0 : ps = [] := List.length_eq_zero_iff.1 (by rw [← hs2]; have hz : (s.2.1 : Int) = 0 := hz; omega)
   refine hold_call ((rdir.cv A c ns m r 0 u2 (hd.mono hu02) hn.len).mono fun v cs u3 hu3 ⟨hc3, hv3⟩ => ⟨(hereB ns 0, ()), (), hv3, hc3, fun h => ?_, fun h => ?_⟩)
   ·simp only [E.den, cT_neq] at h
    have h : ¬ hereB ns 0 = 0 := h
    rw [hres]; unfold goF; rw [if_pos hps0, if_pos h]; exact ⟨rfl, rfl⟩
   ·simp only [E.den, cF_neq] at h
    have h : hereB ns 0 = 0 := h
    rw [hres]; unfold goF; rw [if_pos hps0, if_neg (by simp [h])]; exact ⟨rfl, rfl⟩
  simp only [E.den, cF_eql] at hz
  have hps0 : ps ≠ [] := fun e => hz (by show ((s.2.1 : Nat) : Int) = 0; rw [hs2, e]; rfl)
  refine hold_loop (sk := [.s, .i .i64, .i .i64]) (oks := [K3]) (fun x _ u' => u.le u' ∧ ∃ (p : Option Addr × Nat × Nat) (at_ hops : Int) (ps' : List ByteArray), x = (p, at_, hops, ()) ∧ PartsAt u' p ps' ∧ ps' ≠ [] ∧ 0 ≤ hops ∧ hops ≤ 8 ∧
    ∃ f, res = walkGo ns who follow slash f at_ hops ps' ∧ meas hops ps'.length < f ∧ f ≤ 2000)
   (fun x _ => meas x.2.2.1 x.1.2.1) (s, 0, 0, ()) ((0, ⟨#[]⟩, 0, false, ()), ()) rfl rfl
   ⟨hu02, s, 0, 0, ps, rfl, hps, hps0, by omega, by omega, 2000, by rw [hres]; unfold goF; rw [if_neg hps0], by simp only [meas]; omega, Nat.le_refl _⟩ ?_
  rintro x y u3 ⟨hu3, p, at_, hops, ps1, rfl, hp3, hne, hh0, hh8, f, hf, hm, hf2⟩
  obtain ⟨part, rest, rfl⟩ : ∃ part rest, ps1 = part :: rest := by cases ps1 with | nil => exact absurd rfl hne | cons x r => exact ⟨x, r, rfl⟩
  obtain ⟨f, rfl⟩ : ∃ f', f = f' + 1 := ⟨f - 1, by omega⟩
  obtain ⟨pa, pn, pc⟩ := p
  obtain ⟨q1, q2, q3⟩ := id hp3
  simp only [List.length_cons] at q1 q2 q3
  have hm' : meas hops (rest.length + 1) < f + 1 := hm
  have hrl : rest.length ≤ 2000 := by have h1 : (8 - hops).toNat * 200 + (rest.length + 1) < f + 1 := hm'; omega
  have hd3 := hd.mono hu3
  simp only [walkGo] at hf
  refine hold_call ((rdir.cv A c ns m r at_ u3 hd3 hn.len).mono fun v cs u4 hu4 ⟨hc4, hv4⟩ => ⟨(hereB ns at_, ()), (), hv4, hc4, fun h => ?_, fun h => ?_⟩)
  ·simp only [E.den, cT_neq] at h
   have h : ¬ hereB ns at_ = 0 := h
   rw [hf, if_pos h]; exact ⟨rfl, rfl⟩
  simp only [E.den, cF_neq] at h
  have hat : hereB ns at_ = 0 := h
  rw [if_neg (by simp [hat])] at hf
  clear h
  refine hold_call ((rget.cv A c ns m r at_ u4 (hd3.mono hu4) hn.len).mono fun v cs u5 hu5 ⟨hc5, a7, c7, hv5, h7, h8⟩ => ⟨((getL ns at_).f0, (getL ns at_).f1, (getL ns at_).f2, (getL ns at_).f3, (getL ns at_).f4, (getL ns at_).f5, (getL ns at_).f6, (a7, (getL ns at_).f7.length, c7), getB ns at_, ()), (), hv5, hc5, fun b5 hb5 => ?_⟩)
  refine hold_call ((rmay.cv (getL ns at_).f1 (getL ns at_).f2 who 1 u5 (hn.get at_).mode (by decide)).mono fun v cs u6 hu6 ⟨hc6, hv6⟩ => ⟨(mayB (getL ns at_).f1 (getL ns at_).f2 who 1, ()), (), hv6, hc6, fun h => ?_, fun h => ?_⟩)
  ·have h : mayB (getL ns at_).f1 (getL ns at_).f2 who 1 = false := by simpa [E.den] using h
   rw [hf, if_pos h]; exact ⟨rfl, rfl⟩
  have h : mayB (getL ns at_).f1 (getL ns at_).f2 who 1 = true := by simpa [E.den] using h
  rw [if_neg (by rw [h]; simp)] at hf
  clear h
  have hu36 := Mem.le_trans (Mem.le_trans hu4 hu5) hu6
  have hx := (q3 0 part rfl).mono hu36
  have n0 : (0 : Int) < (pn : Int) := by omega
  have n1 : (1 : Int) ≤ (pn : Int) := by omega
  have n2 : (pn : Int) ≤ (pc : Int) := by omega
  have d1 : (0 : Int) ≤ 1 := by decide
  refine ⟨fun _ => ⟨Int.le_refl 0, n0, hx.some⟩, fun _ => ⟨(part, ()), hx, fun _ => ⟨d1, n1, n2⟩, ?_⟩, fun h => by cases h⟩
  have hd6 := hd3.mono hu36
  refine hold_call ((rlook.cv A c ns m r at_ part u6 hd6 hn.len (hn.get at_).names).mono fun v cs u7 hu7 ⟨hc7, hv7⟩ => ⟨(namedB at_ (getL ns at_) part, ()), (), hv7, hc7, ?_⟩)
  have pr : PartsAt u7 (rest1 (pa, pn, pc)) rest := ((hp3.mono hu36).mono hu7).rest
  have hrn : ((pn - 1 : Nat) : Int) = (rest.length : Int) := by rw [q1]; rfl
  have hz0 : (rest = []) = ((rest.length : Int) = 0) := propext ⟨fun h => by rw [h]; rfl, fun h => List.length_eq_zero_iff.1 (by omega)⟩
  generalize namedB at_ (getL ns at_) part = ino at *
  refine ⟨fun h => ⟨fun h2 => ?_, fun h2 => ?_⟩, fun h => ?_⟩
  ·simp only [E.den, cT_lss, cT_gtr, Nat.sub_eq, hrn] at h h2
   have h : ino < 0 := h
   have h2 : (0 : Int) < (rest.length : Int) := h2
   rw [hf, if_pos h, if_neg (by rw [hz0]; omega)]; exact ⟨rfl, rfl⟩
  ·simp only [E.den, cT_lss, cF_gtr, Nat.sub_eq, hrn] at h h2
   have h : ino < 0 := h
   have h2 : (rest.length : Int) ≤ 0 := h2
   rw [hf, if_pos h, if_pos (by rw [hz0]; omega)]; exact ⟨rfl, rfl⟩
  simp only [E.den, cF_lss] at h
  have h : ¬ ino < 0 := by have h : (0 : Int) ≤ ino := h; omega
  rw [if_neg h] at hf
  clear h
  have hd7 := hd6.mono hu7
  refine hold_call ((rget.cv A c ns m r ino u7 hd7 hn.len).mono fun v cs u8 hu8 ⟨hc8, a8, c8, hv8, h9, h10⟩ => ⟨((getL ns ino).f0, (getL ns ino).f1, (getL ns ino).f2, (getL ns ino).f3, (getL ns ino).f4, (getL ns ino).f5, (getL ns ino).f6, (a8, (getL ns ino).f7.length, c8), getB ns ino, ()), (), hv8, hc8, fun b8 hb8 => ?_⟩)
  have hsz := (hn.get ino).data
  generalize getL ns ino = N at *
  have cr : cmpI .gtr (((pn - 1 : Nat)) : Int) 0 = !decide (rest = []) := by
   rw [hrn, Bool.eq_iff_iff]; simp only [cT_gtr, Bool.not_eq_true', decide_eq_false_iff_not, hz0]; omega
  have c3 : cmpI .eql N.f0 3 = decide (N.f0 = 3) := cD_eql
  have c2 : cmpI .neq N.f0 2 = decide (¬ N.f0 = 2) := cD_neq
  have cF : ∀ x y : Bool, (bif x then y else false) = (x && y) := fun x y => by cases x <;> rfl
  have cT : ∀ x y : Bool, (bif x then true else y) = (x || y) := fun x y => by cases x <;> rfl
  refine ⟨fun ht => ?_, fun ht => ?_⟩
  ·simp only [E.den, Nat.sub_eq, cr, c3, cF, cT, Bool.and_eq_true, Bool.or_eq_true, Bool.not_eq_true', decide_eq_true_eq, decide_eq_false_iff_not, or_assoc] at ht
   rw [if_pos ht] at hf
   refine ⟨fun h => ?_, fun h => ?_⟩
   ·simp only [E.den, cT_eql] at h
    have h : hops = 8 := h
    rw [hf, if_pos h]; exact ⟨rfl, rfl⟩
   simp only [E.den, cF_eql] at h
   have h : ¬ hops = 8 := h
   rw [if_neg h] at hf
   refine hold_call ((rcheck.cv N.f6 u8 (by omega)).mono fun v cs u9 hu9 ⟨hc9, hv9⟩ => ⟨(checkB N.f6, ()), (), hv9, hc9, fun hck => ?_, fun hck => ?_⟩)
   ·simp only [E.den, cT_neq] at hck
    have hck : ¬ checkB N.f6 = 0 := hck
    rw [hf, if_pos hck]; exact ⟨rfl, rfl⟩
   simp only [E.den, cF_neq] at hck
   have hck : checkB N.f6 = 0 := hck
   rw [if_neg (by simp [hck])] at hf
   have hcp := check_parts hck
   refine hold_call ((rsplit.cv N.f6 u9 (by omega)).mono fun v cs u10 hu10 ⟨hc10, s10, hv10, hs10, hg10⟩ => ⟨(s10, pre47 N.f6, suf47 N.f6, ()), (), hv10, hc10, ?_⟩)
   have hmore := strs_at hg10 hs10
   have hu010 : u.le u10 := Mem.le_trans hu3 (Mem.le_trans hu36 (Mem.le_trans hu7 (Mem.le_trans hu8 (Mem.le_trans hu9 hu10))))
   have hr10 := pr.mono (Mem.le_trans hu8 (Mem.le_trans hu9 hu10))
   have key : ∀ (R : Value → List (List Value) → Mem → Prop) (Ag : Nat → List Value → List (List Value) → Mem → Prop) (bk : Nat → Nat) (Tr : Cells S.ty [.s] → Tree S.ty), (∀ (s13 : Option Addr × Nat × Nat) (u13 : Mem), u.le u13 → PartsAt u13 s13 (partsB N.f6 ++ rest) → Hold Tryz.prog u R (Tr (s13, ())) bk u13 Ag) →
     Hold Tryz.prog u R (.bi (.b true) (.emp 78) [] [] [(false, [.s])] fun x11 => .bi (.b true) (.bi .append #[78, 78] 78) [.s (.at x11.1.1) (.at x11.1.2.1) (.at x11.1.2.2), .s (.at s10.1) (.at s10.2.1) (.at s10.2.2)] [] [(false, [.s])] fun x12 =>
      .bi (.b true) (.bi .append #[78, 78] 78) [.s (.at x12.1.1) (.at x12.1.2.1) (.at x12.1.2.2), .s (.adv (.at pa) (.at pc) (.n 1) 1) (.sub (.at pn) (.n 1)) (.sub (.at pc) (.n 1))] [] [(false, [.s])] Tr) bk u10 Ag := fun R Ag bk Tr hTr => by
    refine hold_bi ((bv_emp (P := Tryz.prog) (t := 78) (e := 9) (n := 1) (by kernel_rfl) (by kernel_rfl) 1).mono fun v u11 ⟨s11, hv11, hs11, hg11⟩ => ⟨(s11, ()), hv11, ?_⟩)
    refine hold_bi ((bv_app (P := Tryz.prog) (t := 78) (ty := 78) (e := 9) (z := .string ⟨#[]⟩) (size := 1) (bytes := 16) (by kernel_rfl) (by kernel_rfl) rfl (by decide) (u0 := u) (m := s10.2.1) (c := s10.2.2) (a := s10.1) (ys := (partsB N.f6).map .string) hu010 hg11 (by rw [hs10, List.length_map, Nat.mul_one]) (fun hm => strs_reads (hmore.at_.mono hg11.le) (fun e => hm (by rw [hs10, e]; rfl))) (fun y hy => by obtain ⟨x, _, rfl⟩ := List.mem_map.1 hy; rfl) (by rw [hs11, hs10]; omega) (by rw [hs11, hs10]; omega)).mono fun v u12 ⟨s12, hv12, hs12, hg12⟩ => ⟨(s12, ()), hv12, ?_⟩)
    rw [List.nil_append] at hg12
    have hra : (if pc = 1 then pa else pa.map fun x => x.add 1) = (rest1 (pa, pn, pc)).1 := rfl
    refine hold_bi ((bv_app (P := Tryz.prog) (t := 78) (ty := 78) (e := 9) (z := .string ⟨#[]⟩) (size := 1) (bytes := 16) (by kernel_rfl) (by kernel_rfl) rfl (by decide) (u0 := u) (m := pn - 1) (c := pc - 1) (a := (rest1 (pa, pn, pc)).1) (ys := rest.map .string) hu010 hg12 (by rw [q1, List.length_map, Nat.mul_one]; rfl) (fun hm => strs_reads (hr10.at_.mono hg12.le) (fun e => hm (by rw [q1, e]; rfl))) (fun y hy => by obtain ⟨x, _, rfl⟩ := List.mem_map.1 hy; rfl) (by rw [hs12, hs11, hs10, q1]; omega) (by rw [hs12, hs11, hs10, q1]; omega)).mono fun v u13 ⟨s13, hv13, hs13, hg13⟩ => ⟨(s13, ()), hv13, ?_⟩)
    refine hTr s13 u13 (Mem.le_trans hu010 hg13.le) (strs_at (by rw [List.map_append]; exact hg13) ?_)
    rw [hs13, hs12, hs11, hs10, q1, List.length_append]; omega
   have hend : ∀ (s13 : Option Addr × Nat × Nat) (u13 : Mem), PartsAt u13 s13 (partsB N.f6 ++ rest) → (((s13.2.1 : Nat) : Int) = 0 ↔ partsB N.f6 ++ rest = []) := fun s13 u13 hp13 => by
    rw [hp13.len]
    constructor
    ·intro h; exact List.length_eq_zero_iff.1 (by omega)
    ·intro h; rw [h]; rfl
   have hmeas : ∀ (s13 : Option Addr × Nat × Nat) (u13 : Mem), PartsAt u13 s13 (partsB N.f6 ++ rest) → meas (hops + 1) s13.2.1 < meas hops pn := fun s13 u13 hp13 => by
    rw [hp13.len, q1, List.length_append]; simp only [meas]; omega
   have hw1 : IntKind.i64.wrap (hops + 1) = hops + 1 := by rw [IntKind.wrap_i64] <;> omega
   refine ⟨fun hr => ?_, fun hr => ?_⟩
   ·have hr : pre47 N.f6 = true := hr
    rw [hr] at hf
    refine key _ _ _ _ fun s13 u13 hu13 hp13 => ⟨fun he => ?_, fun he => ?_⟩
    ·simp only [E.den, cT_eql] at he
     rw [if_pos ((hend s13 u13 hp13).1 he)] at hf
     rw [hf]; exact ⟨rfl, rfl⟩
    ·simp only [E.den, cF_eql] at he
     have hne2 := fun e => he ((hend s13 u13 hp13).2 e)
     rw [if_neg hne2] at hf
     refine ⟨by simp, ?_⟩
     simp only [if_true]
     refine ⟨(s13, 0, hops + 1, ()), y, by rw [← hw1]; rfl, by simp only [List.map_cons, List.map_nil, den_cells]; rfl, ⟨hu13, s13, 0, hops + 1, _, rfl, hp13, hne2, by omega, by omega, f, hf, ?_, by omega⟩, hmeas s13 u13 hp13⟩
     have := hmeas s13 u13 hp13
     rw [← hp13.len]; rw [q1] at this; omega
   ·have hr : pre47 N.f6 = false := hr
    rw [hr] at hf
    refine key _ _ _ _ fun s13 u13 hu13 hp13 => ⟨fun he => ?_, fun he => ?_⟩
    ·simp only [E.den, cT_eql] at he
     rw [if_pos ((hend s13 u13 hp13).1 he)] at hf
     rw [hf]; exact ⟨rfl, rfl⟩
    ·simp only [E.den, cF_eql] at he
     have hne2 := fun e => he ((hend s13 u13 hp13).2 e)
     rw [if_neg hne2] at hf
     refine ⟨by simp, ?_⟩
     simp only [if_true]
     refine ⟨(s13, at_, hops + 1, ()), y, by rw [← hw1]; rfl, by simp only [List.map_cons, List.map_nil, den_cells]; rfl, ⟨hu13, s13, at_, hops + 1, _, rfl, hp13, hne2, by omega, by omega, f, hf, ?_, by omega⟩, hmeas s13 u13 hp13⟩
     have := hmeas s13 u13 hp13
     rw [← hp13.len]; rw [q1] at this; omega
  ·simp only [E.den, Nat.sub_eq, cr, c3, cF, cT] at ht
   have ht : ¬ (N.f0 = 3 ∧ (¬ rest = [] ∨ follow = true ∨ slash = true)) := fun hh => by
    have h2 : (decide (N.f0 = 3) && (!decide (rest = []) || follow || slash)) = true := by simpa [or_assoc] using hh
    rw [h2] at ht; cases ht
   rw [if_neg ht] at hf
   refine ⟨fun hr => ⟨fun h => ?_, fun h => ?_⟩, fun hr => ?_⟩
   ·simp only [E.den, cT_eql, Nat.sub_eq, hrn, c2, cF, Bool.and_eq_true, decide_eq_true_eq] at hr h
    have hr : rest = [] := by rw [hz0]; exact hr
    rw [hf, if_pos hr, if_pos h]; exact ⟨rfl, rfl⟩
   ·simp only [E.den, cT_eql, Nat.sub_eq, hrn, c2, cF] at hr h
    have hr : rest = [] := by rw [hz0]; exact hr
    have h : ¬ (slash = true ∧ ¬ N.f0 = 2) := fun hh => by rw [hh.1, decide_eq_true hh.2] at h; cases h
    rw [hf, if_pos hr, if_neg h]; exact ⟨rfl, rfl⟩
   ·simp only [E.den, cF_eql, Nat.sub_eq, hrn] at hr
    have hr : ¬ rest = [] := by rw [hz0]; exact hr
    rw [if_neg hr] at hf
    refine ⟨by simp, ?_⟩
    simp only [if_true]
    refine ⟨(rest1 (pa, pn, pc), ino, hops, ()), y, rfl, by simp only [List.map_cons, List.map_nil, den_cells]; rfl, ⟨Mem.le_trans hu3 (Mem.le_trans hu36 (Mem.le_trans hu7 hu8)), rest1 (pa, pn, pc), ino, hops, rest, rfl, pr.mono hu8, hr, hh0, hh8, f, hf, by simp only [meas] at hm' ⊢; omega, by omega⟩, ?_⟩
    show meas hops (pn - 1) < meas hops pn
    simp only [meas]; omega
 ·have hp : pre47 path = false := hp
  rw [hp]
  obtain ⟨res, hres⟩ : ∃ res, res = goF ns who from_ (partsB path) follow (suf47 path) := ⟨_, rfl⟩
  rw [show goF ns who (if false = true then 0 else from_) (partsB path) follow (suf47 path) = res from hres.symm]
  have hps := (strs_at hg2 hs2)
  have hu02 := Mem.le_trans hu1 hu2
  have hl := check_parts h0
  generalize hsl : suf47 path = slash at *
  generalize partsB path = ps at *
  refine ⟨fun hz => ?_, fun hz => ?_⟩
  ·simp only [E.den, cT_eql] at hz
   have hps0 : ps = [] := List.length_eq_zero_iff.1 (by rw [← hs2]; have hz : (s.2.1 : Int) = 0 := hz; omega)
   refine hold_call ((rdir.cv A c ns m r from_ u2 (hd.mono hu02) hn.len).mono fun v cs u3 hu3 ⟨hc3, hv3⟩ => ⟨(hereB ns from_, ()), (), hv3, hc3, fun h => ?_, fun h => ?_⟩)
   ·simp only [E.den, cT_neq] at h
    have h : ¬ hereB ns from_ = 0 := h
    rw [hres]; unfold goF; rw [if_pos hps0, if_pos h]; exact ⟨rfl, rfl⟩
   ·simp only [E.den, cF_neq] at h
    have h : hereB ns from_ = 0 := h
    rw [hres]; unfold goF; rw [if_pos hps0, if_neg (by simp [h])]; exact ⟨rfl, rfl⟩
  simp only [E.den, cF_eql] at hz
  have hps0 : ps ≠ [] := fun e => hz (by show ((s.2.1 : Nat) : Int) = 0; rw [hs2, e]; rfl)
  refine hold_loop (sk := [.s, .i .i64, .i .i64]) (oks := [K3]) (fun x _ u' => u.le u' ∧ ∃ (p : Option Addr × Nat × Nat) (at_ hops : Int) (ps' : List ByteArray), x = (p, at_, hops, ()) ∧ PartsAt u' p ps' ∧ ps' ≠ [] ∧ 0 ≤ hops ∧ hops ≤ 8 ∧
    ∃ f, res = walkGo ns who follow slash f at_ hops ps' ∧ meas hops ps'.length < f ∧ f ≤ 2000)
   (fun x _ => meas x.2.2.1 x.1.2.1) (s, from_, 0, ()) ((0, ⟨#[]⟩, 0, false, ()), ()) rfl rfl
   ⟨hu02, s, from_, 0, ps, rfl, hps, hps0, by omega, by omega, 2000, by rw [hres]; unfold goF; rw [if_neg hps0], by simp only [meas]; omega, Nat.le_refl _⟩ ?_
  rintro x y u3 ⟨hu3, p, at_, hops, ps1, rfl, hp3, hne, hh0, hh8, f, hf, hm, hf2⟩
  obtain ⟨part, rest, rfl⟩ : ∃ part rest, ps1 = part :: rest := by cases ps1 with | nil => exact absurd rfl hne | cons x r => exact ⟨x, r, rfl⟩
  obtain ⟨f, rfl⟩ : ∃ f', f = f' + 1 := ⟨f - 1, by omega⟩
  obtain ⟨pa, pn, pc⟩ := p
  obtain ⟨q1, q2, q3⟩ := id hp3
  simp only [List.length_cons] at q1 q2 q3
  have hm' : meas hops (rest.length + 1) < f + 1 := hm
  have hrl : rest.length ≤ 2000 := by have h1 : (8 - hops).toNat * 200 + (rest.length + 1) < f + 1 := hm'; omega
  have hd3 := hd.mono hu3
  simp only [walkGo] at hf
  refine hold_call ((rdir.cv A c ns m r at_ u3 hd3 hn.len).mono fun v cs u4 hu4 ⟨hc4, hv4⟩ => ⟨(hereB ns at_, ()), (), hv4, hc4, fun h => ?_, fun h => ?_⟩)
  ·simp only [E.den, cT_neq] at h
   have h : ¬ hereB ns at_ = 0 := h
   rw [hf, if_pos h]; exact ⟨rfl, rfl⟩
  simp only [E.den, cF_neq] at h
  have hat : hereB ns at_ = 0 := h
  rw [if_neg (by simp [hat])] at hf
  clear h
  refine hold_call ((rget.cv A c ns m r at_ u4 (hd3.mono hu4) hn.len).mono fun v cs u5 hu5 ⟨hc5, a7, c7, hv5, h7, h8⟩ => ⟨((getL ns at_).f0, (getL ns at_).f1, (getL ns at_).f2, (getL ns at_).f3, (getL ns at_).f4, (getL ns at_).f5, (getL ns at_).f6, (a7, (getL ns at_).f7.length, c7), getB ns at_, ()), (), hv5, hc5, fun b5 hb5 => ?_⟩)
  refine hold_call ((rmay.cv (getL ns at_).f1 (getL ns at_).f2 who 1 u5 (hn.get at_).mode (by decide)).mono fun v cs u6 hu6 ⟨hc6, hv6⟩ => ⟨(mayB (getL ns at_).f1 (getL ns at_).f2 who 1, ()), (), hv6, hc6, fun h => ?_, fun h => ?_⟩)
  ·have h : mayB (getL ns at_).f1 (getL ns at_).f2 who 1 = false := by simpa [E.den] using h
   rw [hf, if_pos h]; exact ⟨rfl, rfl⟩
  have h : mayB (getL ns at_).f1 (getL ns at_).f2 who 1 = true := by simpa [E.den] using h
  rw [if_neg (by rw [h]; simp)] at hf
  clear h
  have hu36 := Mem.le_trans (Mem.le_trans hu4 hu5) hu6
  have hx := (q3 0 part rfl).mono hu36
  have n0 : (0 : Int) < (pn : Int) := by omega
  have n1 : (1 : Int) ≤ (pn : Int) := by omega
  have n2 : (pn : Int) ≤ (pc : Int) := by omega
  have d1 : (0 : Int) ≤ 1 := by decide
  refine ⟨fun _ => ⟨Int.le_refl 0, n0, hx.some⟩, fun _ => ⟨(part, ()), hx, fun _ => ⟨d1, n1, n2⟩, ?_⟩, fun h => by cases h⟩
  have hd6 := hd3.mono hu36
  refine hold_call ((rlook.cv A c ns m r at_ part u6 hd6 hn.len (hn.get at_).names).mono fun v cs u7 hu7 ⟨hc7, hv7⟩ => ⟨(namedB at_ (getL ns at_) part, ()), (), hv7, hc7, ?_⟩)
  have pr : PartsAt u7 (rest1 (pa, pn, pc)) rest := ((hp3.mono hu36).mono hu7).rest
  have hrn : ((pn - 1 : Nat) : Int) = (rest.length : Int) := by rw [q1]; rfl
  have hz0 : (rest = []) = ((rest.length : Int) = 0) := propext ⟨fun h => by rw [h]; rfl, fun h => List.length_eq_zero_iff.1 (by omega)⟩
  generalize namedB at_ (getL ns at_) part = ino at *
  refine ⟨fun h => ⟨fun h2 => ?_, fun h2 => ?_⟩, fun h => ?_⟩
  ·simp only [E.den, cT_lss, cT_gtr, Nat.sub_eq, hrn] at h h2
   have h : ino < 0 := h
   have h2 : (0 : Int) < (rest.length : Int) := h2
   rw [hf, if_pos h, if_neg (by rw [hz0]; omega)]; exact ⟨rfl, rfl⟩
  ·simp only [E.den, cT_lss, cF_gtr, Nat.sub_eq, hrn] at h h2
   have h : ino < 0 := h
   have h2 : (rest.length : Int) ≤ 0 := h2
   rw [hf, if_pos h, if_pos (by rw [hz0]; omega)]; exact ⟨rfl, rfl⟩
  simp only [E.den, cF_lss] at h
  have h : ¬ ino < 0 := by have h : (0 : Int) ≤ ino := h; omega
  rw [if_neg h] at hf
  clear h
  have hd7 := hd6.mono hu7
  refine hold_call ((rget.cv A c ns m r ino u7 hd7 hn.len).mono fun v cs u8 hu8 ⟨hc8, a8, c8, hv8, h9, h10⟩ => ⟨((getL ns ino).f0, (getL ns ino).f1, (getL ns ino).f2, (getL ns ino).f3, (getL ns ino).f4, (getL ns ino).f5, (getL ns ino).f6, (a8, (getL ns ino).f7.length, c8), getB ns ino, ()), (), hv8, hc8, fun b8 hb8 => ?_⟩)
  have hsz := (hn.get ino).data
  generalize getL ns ino = N at *
  have cr : cmpI .gtr (((pn - 1 : Nat)) : Int) 0 = !decide (rest = []) := by
   rw [hrn, Bool.eq_iff_iff]; simp only [cT_gtr, Bool.not_eq_true', decide_eq_false_iff_not, hz0]; omega
  have c3 : cmpI .eql N.f0 3 = decide (N.f0 = 3) := cD_eql
  have c2 : cmpI .neq N.f0 2 = decide (¬ N.f0 = 2) := cD_neq
  have cF : ∀ x y : Bool, (bif x then y else false) = (x && y) := fun x y => by cases x <;> rfl
  have cT : ∀ x y : Bool, (bif x then true else y) = (x || y) := fun x y => by cases x <;> rfl
  refine ⟨fun ht => ?_, fun ht => ?_⟩
  ·simp only [E.den, Nat.sub_eq, cr, c3, cF, cT, Bool.and_eq_true, Bool.or_eq_true, Bool.not_eq_true', decide_eq_true_eq, decide_eq_false_iff_not, or_assoc] at ht
   rw [if_pos ht] at hf
   refine ⟨fun h => ?_, fun h => ?_⟩
   ·simp only [E.den, cT_eql] at h
    have h : hops = 8 := h
    rw [hf, if_pos h]; exact ⟨rfl, rfl⟩
   simp only [E.den, cF_eql] at h
   have h : ¬ hops = 8 := h
   rw [if_neg h] at hf
   refine hold_call ((rcheck.cv N.f6 u8 (by omega)).mono fun v cs u9 hu9 ⟨hc9, hv9⟩ => ⟨(checkB N.f6, ()), (), hv9, hc9, fun hck => ?_, fun hck => ?_⟩)
   ·simp only [E.den, cT_neq] at hck
    have hck : ¬ checkB N.f6 = 0 := hck
    rw [hf, if_pos hck]; exact ⟨rfl, rfl⟩
   simp only [E.den, cF_neq] at hck
   have hck : checkB N.f6 = 0 := hck
   rw [if_neg (by simp [hck])] at hf
   have hcp := check_parts hck
   refine hold_call ((rsplit.cv N.f6 u9 (by omega)).mono fun v cs u10 hu10 ⟨hc10, s10, hv10, hs10, hg10⟩ => ⟨(s10, pre47 N.f6, suf47 N.f6, ()), (), hv10, hc10, ?_⟩)
   have hmore := strs_at hg10 hs10
   have hu010 : u.le u10 := Mem.le_trans hu3 (Mem.le_trans hu36 (Mem.le_trans hu7 (Mem.le_trans hu8 (Mem.le_trans hu9 hu10))))
   have hr10 := pr.mono (Mem.le_trans hu8 (Mem.le_trans hu9 hu10))
   have key : ∀ (R : Value → List (List Value) → Mem → Prop) (Ag : Nat → List Value → List (List Value) → Mem → Prop) (bk : Nat → Nat) (Tr : Cells S.ty [.s] → Tree S.ty), (∀ (s13 : Option Addr × Nat × Nat) (u13 : Mem), u.le u13 → PartsAt u13 s13 (partsB N.f6 ++ rest) → Hold Tryz.prog u R (Tr (s13, ())) bk u13 Ag) →
     Hold Tryz.prog u R (.bi (.b true) (.emp 78) [] [] [(false, [.s])] fun x11 => .bi (.b true) (.bi .append #[78, 78] 78) [.s (.at x11.1.1) (.at x11.1.2.1) (.at x11.1.2.2), .s (.at s10.1) (.at s10.2.1) (.at s10.2.2)] [] [(false, [.s])] fun x12 =>
      .bi (.b true) (.bi .append #[78, 78] 78) [.s (.at x12.1.1) (.at x12.1.2.1) (.at x12.1.2.2), .s (.adv (.at pa) (.at pc) (.n 1) 1) (.sub (.at pn) (.n 1)) (.sub (.at pc) (.n 1))] [] [(false, [.s])] Tr) bk u10 Ag := fun R Ag bk Tr hTr => by
    refine hold_bi ((bv_emp (P := Tryz.prog) (t := 78) (e := 9) (n := 1) (by kernel_rfl) (by kernel_rfl) 1).mono fun v u11 ⟨s11, hv11, hs11, hg11⟩ => ⟨(s11, ()), hv11, ?_⟩)
    refine hold_bi ((bv_app (P := Tryz.prog) (t := 78) (ty := 78) (e := 9) (z := .string ⟨#[]⟩) (size := 1) (bytes := 16) (by kernel_rfl) (by kernel_rfl) rfl (by decide) (u0 := u) (m := s10.2.1) (c := s10.2.2) (a := s10.1) (ys := (partsB N.f6).map .string) hu010 hg11 (by rw [hs10, List.length_map, Nat.mul_one]) (fun hm => strs_reads (hmore.at_.mono hg11.le) (fun e => hm (by rw [hs10, e]; rfl))) (fun y hy => by obtain ⟨x, _, rfl⟩ := List.mem_map.1 hy; rfl) (by rw [hs11, hs10]; omega) (by rw [hs11, hs10]; omega)).mono fun v u12 ⟨s12, hv12, hs12, hg12⟩ => ⟨(s12, ()), hv12, ?_⟩)
    rw [List.nil_append] at hg12
    have hra : (if pc = 1 then pa else pa.map fun x => x.add 1) = (rest1 (pa, pn, pc)).1 := rfl
    refine hold_bi ((bv_app (P := Tryz.prog) (t := 78) (ty := 78) (e := 9) (z := .string ⟨#[]⟩) (size := 1) (bytes := 16) (by kernel_rfl) (by kernel_rfl) rfl (by decide) (u0 := u) (m := pn - 1) (c := pc - 1) (a := (rest1 (pa, pn, pc)).1) (ys := rest.map .string) hu010 hg12 (by rw [q1, List.length_map, Nat.mul_one]; rfl) (fun hm => strs_reads (hr10.at_.mono hg12.le) (fun e => hm (by rw [q1, e]; rfl))) (fun y hy => by obtain ⟨x, _, rfl⟩ := List.mem_map.1 hy; rfl) (by rw [hs12, hs11, hs10, q1]; omega) (by rw [hs12, hs11, hs10, q1]; omega)).mono fun v u13 ⟨s13, hv13, hs13, hg13⟩ => ⟨(s13, ()), hv13, ?_⟩)
    refine hTr s13 u13 (Mem.le_trans hu010 hg13.le) (strs_at (by rw [List.map_append]; exact hg13) ?_)
    rw [hs13, hs12, hs11, hs10, q1, List.length_append]; omega
   have hend : ∀ (s13 : Option Addr × Nat × Nat) (u13 : Mem), PartsAt u13 s13 (partsB N.f6 ++ rest) → (((s13.2.1 : Nat) : Int) = 0 ↔ partsB N.f6 ++ rest = []) := fun s13 u13 hp13 => by
    rw [hp13.len]
    constructor
    ·intro h; exact List.length_eq_zero_iff.1 (by omega)
    ·intro h; rw [h]; rfl
   have hmeas : ∀ (s13 : Option Addr × Nat × Nat) (u13 : Mem), PartsAt u13 s13 (partsB N.f6 ++ rest) → meas (hops + 1) s13.2.1 < meas hops pn := fun s13 u13 hp13 => by
    rw [hp13.len, q1, List.length_append]; simp only [meas]; omega
   have hw1 : IntKind.i64.wrap (hops + 1) = hops + 1 := by rw [IntKind.wrap_i64] <;> omega
   refine ⟨fun hr => ?_, fun hr => ?_⟩
   ·have hr : pre47 N.f6 = true := hr
    rw [hr] at hf
    refine key _ _ _ _ fun s13 u13 hu13 hp13 => ⟨fun he => ?_, fun he => ?_⟩
    ·simp only [E.den, cT_eql] at he
     rw [if_pos ((hend s13 u13 hp13).1 he)] at hf
     rw [hf]; exact ⟨rfl, rfl⟩
    ·simp only [E.den, cF_eql] at he
     have hne2 := fun e => he ((hend s13 u13 hp13).2 e)
     rw [if_neg hne2] at hf
     refine ⟨by simp, ?_⟩
     simp only [if_true]
     refine ⟨(s13, 0, hops + 1, ()), y, by rw [← hw1]; rfl, by simp only [List.map_cons, List.map_nil, den_cells]; rfl, ⟨hu13, s13, 0, hops + 1, _, rfl, hp13, hne2, by omega, by omega, f, hf, ?_, by omega⟩, hmeas s13 u13 hp13⟩
     have := hmeas s13 u13 hp13
     rw [← hp13.len]; rw [q1] at this; omega
   ·have hr : pre47 N.f6 = false := hr
    rw [hr] at hf
    refine key _ _ _ _ fun s13 u13 hu13 hp13 => ⟨fun he => ?_, fun he => ?_⟩
    ·simp only [E.den, cT_eql] at he
     rw [if_pos ((hend s13 u13 hp13).1 he)] at hf
     rw [hf]; exact ⟨rfl, rfl⟩
    ·simp only [E.den, cF_eql] at he
     have hne2 := fun e => he ((hend s13 u13 hp13).2 e)
     rw [if_neg hne2] at hf
     refine ⟨by simp, ?_⟩
     simp only [if_true]
     refine ⟨(s13, at_, hops + 1, ()), y, by rw [← hw1]; rfl, by simp only [List.map_cons, List.map_nil, den_cells]; rfl, ⟨hu13, s13, at_, hops + 1, _, rfl, hp13, hne2, by omega, by omega, f, hf, ?_, by omega⟩, hmeas s13 u13 hp13⟩
     have := hmeas s13 u13 hp13
     rw [← hp13.len]; rw [q1] at this; omega
  ·simp only [E.den, Nat.sub_eq, cr, c3, cF, cT] at ht
   have ht : ¬ (N.f0 = 3 ∧ (¬ rest = [] ∨ follow = true ∨ slash = true)) := fun hh => by
    have h2 : (decide (N.f0 = 3) && (!decide (rest = []) || follow || slash)) = true := by simpa [or_assoc] using hh
    rw [h2] at ht; cases ht
   rw [if_neg ht] at hf
   refine ⟨fun hr => ⟨fun h => ?_, fun h => ?_⟩, fun hr => ?_⟩
   ·simp only [E.den, cT_eql, Nat.sub_eq, hrn, c2, cF, Bool.and_eq_true, decide_eq_true_eq] at hr h
    have hr : rest = [] := by rw [hz0]; exact hr
    rw [hf, if_pos hr, if_pos h]; exact ⟨rfl, rfl⟩
   ·simp only [E.den, cT_eql, Nat.sub_eq, hrn, c2, cF] at hr h
    have hr : rest = [] := by rw [hz0]; exact hr
    have h : ¬ (slash = true ∧ ¬ N.f0 = 2) := fun hh => by rw [hh.1, decide_eq_true hh.2] at h; cases h
    rw [hf, if_pos hr, if_neg h]; exact ⟨rfl, rfl⟩
   ·simp only [E.den, cF_eql, Nat.sub_eq, hrn] at hr
    have hr : ¬ rest = [] := by rw [hz0]; exact hr
    rw [if_neg hr] at hf
    refine ⟨by simp, ?_⟩
    simp only [if_true]
    refine ⟨(rest1 (pa, pn, pc), ino, hops, ()), y, rfl, by simp only [List.map_cons, List.map_nil, den_cells]; rfl, ⟨Mem.le_trans hu3 (Mem.le_trans hu36 (Mem.le_trans hu7 hu8)), rest1 (pa, pn, pc), ino, hops, rest, rfl, pr.mono hu8, hr, hh0, hh8, f, hf, by simp only [meas] at hm' ⊢; omega, by omega⟩, ?_⟩
    show meas hops (pn - 1) < meas hops pn
    simp only [meas]; omega
theorem go_ino {ns : List Nd} (hn : NsOk ns) (who : Int) (follow slash : Bool) : ∀ (f : Nat) (at_ hops : Int) (ps : List ByteArray), (walkGo ns who follow slash f at_ hops ps).1.f2 = -1 ∨ 0 ≤ (walkGo ns who follow slash f at_ hops ps).1.f2
 | 0, _, _, _ => .inr (Int.le_refl 0)
 | _ + 1, _, _, [] => .inr (Int.le_refl 0)
 | f + 1, at_, hops, part :: rest => by
  simp only [walkGo]
  have z : zSp.f2 = -1 ∨ 0 ≤ zSp.f2 := .inr (Int.le_refl 0)
  split
  ·exact z
  split
  ·exact z
  split
  ·split
   ·exact .inl rfl
   ·exact z
  rename_i h
  split
  ·split
   ·exact z
   split
   ·exact z
   split
   ·exact .inr (Int.le_refl 0)
   ·exact go_ino hn who follow slash f _ _ _
  split
  ·split
   ·exact z
   ·exact .inr (by simp only; omega)
  ·exact go_ino hn who follow slash f _ _ _
theorem walk_ino {ns : List Nd} (hn : NsOk ns) (who from_ : Int) (path : ByteArray) (follow : Bool) : (walkF ns who from_ path follow).1.f2 = -1 ∨ 0 ≤ (walkF ns who from_ path follow).1.f2 := by
 have z : zSp.f2 = -1 ∨ 0 ≤ zSp.f2 := .inr (Int.le_refl 0)
 unfold walkF
 split
 ·exact z
 unfold goF
 generalize (if pre47 path = true then 0 else from_) = a
 split
 ·split
  ·exact z
  ·rename_i h; exact .inr (here_pos (by simpa using h))
 ·exact go_ino hn who follow _ _ _ _ _
theorem rnode.cv (A : Option Addr) (c : Nat) (ns : List Nd) (m r who from_ : Int) (path : ByteArray) (follow : Bool) (u : Mem) (hd : DiskAt u A ns) (hn : NsOk ns) (hp : path.size ≤ 1000000000) :
  CV Tryz.prog 23 [.agg #[.slice A ns.length c, .int .i64 m, .int .i64 r], .int .i64 who, .int .i64 from_, .string path, .bool follow] [] u fun v cs u' => cs = [] ∧ v = .tuple #[.int .i64 (nodeF ns who from_ path follow).1, .int .i64 (nodeF ns who from_ path follow).2] := by
 refine cv_of names draws (fn := Tryz.f23) (b := bodyOf Tryz.f23) rfl rfl [] (rnode.args ((A, ns.length, c), m, r, ()) (who, ()) (from_, ()) (path, ()) (follow, ())) (rnode.giv _ _ _ _ _) (fun _ => 0) (rnode.run _ _ _ _ _) (by kernel_rfl) rfl rfl ?_
 simp only [rnode.T, Hold, PubTo, SV.den, E.den, denL, binI, cT_eql, cF_eql, cT_neq, cF_neq, cT_lss, cF_lss, cT_leq, cF_leq, cT_gtr, cF_gtr, cT_geq, cF_geq, tT_eql, tF_eql, tT_neq, tF_neq, rowsD, denLL, Ob.den, den_cells, List.map_nil, List.map_cons, true_implies, forall_const, true_and, and_true, Bool.true_eq_false, Bool.false_eq_true, reduceCtorEq, false_implies, implies_true, Bool.not_not, Bool.not_true, Bool.not_false, Bool.not_eq_true', Bool.not_eq_false', cond_true, cond_false, Nat.add_eq, Nat.mul_eq, Nat.sub_eq, Nat.add_zero, Nat.zero_mul, Nat.zero_add]
 intro b1 hb1
 unfold nodeF
 refine (rwalk.cv A c ns m r who from_ path follow u hd hn hp).mono fun v cs u1 hu1 ⟨hc, hv⟩ => ?_
 have hge := walk_ino hn who from_ path follow
 generalize walkF ns who from_ path follow = w at *
 obtain ⟨sp, e⟩ := w
 refine ⟨(sp.f0, sp.f1, sp.f2, sp.f3, e, ()), (), hv, hc, fun b2 hb2 => ⟨fun h => ?_, fun h => ⟨fun h2 => ?_, fun h2 => ?_⟩⟩⟩
 ·rw [if_pos h]
 ·have h2 : sp.f2 < 0 := h2
  rw [if_neg (fun hh => hh h), if_pos (by rcases hge with h3 | h3; exact h3; simp only at h3; omega)]
 ·have h2 : 0 ≤ sp.f2 := h2
  rw [if_neg (fun hh => hh h), if_neg (by simp only; omega)]
end Go.Proofs.YtpfbimkpcnnfkaaGreatDoor.Sx
