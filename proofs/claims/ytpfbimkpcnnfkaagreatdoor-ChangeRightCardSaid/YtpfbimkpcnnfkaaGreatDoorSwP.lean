/- By Sx: the document's Right. -/
import Derived.Test.YtpfbimkpcnnfkaaGreatDoorSwM
/- By Sx: the document's Same, Alike, names, rooted, Bytes, right, Right. -/
/- By Sx: the document's right disks, in plain words. -/
set_option maxRecDepth 100000
set_option linter.unusedVariables false
set_option linter.unusedSimpArgs false
namespace Go.Proofs.YtpfbimkpcnnfkaaGreatDoor.Sx
open Go Go.RowKit Go.Proofs.YtpfbimkpcnnfkaaGreatDoor Go.Proofs.YtpfbimkpcnnfkaaGreatDoor.Ext
def zEn : En := ⟨⟨#[]⟩, 0⟩
def legalF (name : ByteArray) : Int := if name.toList = [] ∨ name.toList = [46] ∨ name.toList = [46, 46] then 1 else if name.data.toList.any (fun c => c == 47 || c == 0) = true then 1 else if 12 < name.size then 9 else 0
def sortedAt (l : List En) (i : Nat) : Bool := decide (legalF (l.getD i zEn).f0 = 0) && (decide (i = 0) || !cmpT .leq (l.getD i zEn).f0 (l.getD (i - 1) zEn).f0)
def sortedF (l : List En) : Bool := (List.range l.length).all (sortedAt l)
def weightF (n : Nd) : Int := if n.f0 = 1 ∨ n.f0 = 3 then (n.f6.size : Int) else 0
def bytesF (ns : List Nd) : Int := (ns.map weightF).sum
def countF (n : Nd) (i : Int) : Nat := (n.f7.filter fun e => e.f1 == i).length
def namesAt (ns : List Nd) (i : Int) : Nat → Int × Int
 | 0 => (0, -1)
 | k + 1 => ((namesAt ns i k).1 + countF (ns.getD k zNd) i, if countF (ns.getD k zNd) i = 0 then (namesAt ns i k).2 else k)
def namesF (ns : List Nd) (i : Int) : Int × Int := namesAt ns i ns.length
def rootGo (ns : List Nd) : Nat → Int → Bool
 | 0, _ => false
 | f + 1, i => if i = 0 then true else if getB ns i = true ∧ (getL ns i).f0 = 2 then rootGo ns f (getL ns i).f5 else false
def rootedF (ns : List Nd) (i : Int) : Bool := rootGo ns (ns.length + 1) i
def entOk (ns : List Nd) (l : List En) (k : Nat) : Bool := getB ns (l.getD k zEn).f1 && !decide ((l.getD k zEn).f1 = 0)
def right1F (ns : List Nd) (i : Nat) : Bool :=
 let n := ns.getD i zNd
 if n.f0 = 0 then decide (n = zNd)
 else if n.f0 < 1 ∨ 3 < n.f0 ∨ n.f1 < 0 ∨ 63 < n.f1 ∨ n.f4 < 0 then false
 else if (¬ n.f0 = 2 ∧ ¬ n.f7 = []) ∨ (n.f0 = 2 ∧ ¬ n.f6.toList = []) ∨ sortedF n.f7 = false then false
 else if (List.range n.f7.length).all (entOk ns n.f7) = false then false
 else if i = 0 then decide (n.f0 = 2 ∧ n.f5 = 0 ∧ n.f3 = 1)
 else if ¬ n.f3 = (namesF ns i).1 ∨ ((namesF ns i).1 = 0 ∧ n.f4 < 1) then false
 else if ¬ n.f0 = 2 then true
 else if (namesF ns i).1 = 0 then decide (n.f7 = [] ∧ n.f5 = 0)
 else decide ((namesF ns i).1 = 1 ∧ n.f5 = (namesF ns i).2) && rootedF ns i
def rightF (ns : List Nd) (m r : Int) : Bool := decide (ns ≠ [] ∧ (ns.length : Int) ≤ m ∧ bytesF ns ≤ r ∧ (ns.getD 0 zNd).f0 = 2) && (List.range ns.length).all (right1F ns)
theorem all_succ (p : Nat → Bool) (i : Nat) : (List.range (i + 1)).all p = ((List.range i).all p && p i) := by rw [List.range_succ, List.all_append]; simp
theorem all_no {p : Nat → Bool} {i N : Nat} (h : i < N) (hp : p i = false) : (List.range N).all p = false := by
 rw [Bool.eq_false_iff]; intro ha
 have := List.all_eq_true.1 ha i (List.mem_range.2 h)
 rw [hp] at this; cases this
theorem getD_of {α : Type} {l : List α} {i : Nat} {x d : α} (h : l[i]? = some x) : l.getD i d = x := by simp [List.getD, h]
theorem tE : (⟨#[]⟩ : ByteArray).toList = [] := by rw [toList_data]
theorem rlegal.cv (p : ByteArray) (u : Mem) (hp : p.size ≤ 1000000000000000) : CV Tryz.prog 128 [.string p] [] u fun v cs u' => cs = [] ∧ v = .int .i64 (legalF p) := by
 obtain ⟨l, rfl⟩ : ∃ l, p = bs l := ⟨p.data.toList, (bs_of p).symm⟩
 rw [bs_size] at hp
 refine cv_of names draws (fn := Tryz.f128) (b := bodyOf Tryz.f128) rfl rfl [⟨4, [3], []⟩] (rlegal.args (bs l, ())) (rlegal.giv _) (fun _ => 0) (rlegal.run _) (by kernel_rfl) rfl rfl ?_
 have hz : ((bs l).size : Int) = (l.length : Int) := by rw [bs_size]
 have hc : E.den (.ite (.ite (.scmp .eql (.at (bs l)) (.t ⟨#[]⟩)) (.b true) (.scmp .eql (.at (bs l)) (.t ⟨#[46]⟩))) (.b true) (.scmp .eql (.at (bs l)) (.t ⟨#[46, 46]⟩)) : E S.ty .B) = decide ((bs l).toList = [] ∨ (bs l).toList = [46] ∨ (bs l).toList = [46, 46]) := by
  simp only [E.den, cmpT, tE, dot1, dot2]
  rw [Bool.eq_iff_iff]
  simp only [Bool.cond_eq_ite, decide_eq_true_eq, beq_iff_eq]
  by_cases h1 : (bs l).toList = [] <;> by_cases h2 : (bs l).toList = [46] <;> by_cases h3 : (bs l).toList = [46, 46] <;> simp_all
 unfold rlegal.T legalF
 refine ⟨fun h => ?_, fun h => ?_⟩
 ·have h : _ = true := h
  rw [hc, decide_eq_true_eq] at h
  rw [if_pos h]; exact ⟨rfl, rfl⟩
 have h : _ = false := h
 rw [hc, decide_eq_false_iff_not] at h
 rw [if_neg h, bs_data, bs_size]
 refine hold_count l.length (fun i u' => u.le u' ∧ (l.take i).any (fun c => c == 47 || c == 0) = false) ⟨Mem.le_refl u, rfl⟩ ?_
 rintro i u1 hi ⟨hu1, hI⟩
 refine ⟨fun hlt => ?_, fun hge => ?_⟩
 ·simp only [E.den, cT_lss, hz] at hlt
  have hlt : (i : Int) < (l.length : Int) := hlt
  have hil : i < l.length := by omega
  have e1 : byteAt (bs l) (i : Int) = ((l[i]).toNat : Int) := byte_bs l i hil
  have htk : l.take (i + 1) = l.take i ++ [l[i]] := List.take_succ_eq_append_getElem hil
  have hbo : (0 : Int) ≤ (i : Int) ∧ (i : Int) < (l.length : Int) := ⟨by omega, hlt⟩
  have e4 : ∀ c d : UInt8, cmpI .eql (c.toNat : Int) (d.toNat : Int) = (c == d) := fun c d => by rw [cD_eql, Bool.eq_iff_iff]; simp only [decide_eq_true_eq, beq_iff_eq]; exact u8_eq c d
  have e47 := e4 l[i] 47
  have e00 := e4 l[i] 0
  rw [show ((47 : UInt8).toNat : Int) = 47 from rfl] at e47
  rw [show ((0 : UInt8).toNat : Int) = 0 from rfl] at e00
  simp only [Hold, PubTo, SV.den, E.den, denL, binI, cT_eql, cF_eql, cT_neq, cF_neq, cT_lss, cF_lss, cT_leq, cF_leq, cT_gtr, cF_gtr, cT_geq, cF_geq, tT_eql, tF_eql, tT_neq, tF_neq, rowsD, denLL, Ob.den, den_cells, List.map_nil, List.map_cons, true_implies, forall_const, true_and, and_true, Bool.true_eq_false, Bool.false_eq_true, reduceCtorEq, false_implies, implies_true, Bool.not_not, Bool.not_true, Bool.not_false, Bool.not_eq_true', Bool.not_eq_false', cond_true, cond_false, Nat.add_eq, Nat.mul_eq, Nat.sub_eq, Nat.add_zero, Nat.zero_mul, Nat.zero_add, hz, e1, e47, e00, wrap_succ (show i < 4611686018427387904 by omega)]
  refine ⟨hbo, fun _ => hbo, fun h0 => ?_, fun h0 => ⟨by simp, rfl, rfl, hil, hu1, ?_⟩⟩
  ·have h0 : (l[i] == 47 || l[i] == 0) = true := by
    have h0 : (bif l[i] == 47 then true else l[i] == 0) = true := h0
    rw [Bool.or_eq_true]; revert h0; cases l[i] == 47 <;> simp
   rw [if_pos (List.any_eq_true.2 ⟨_, List.getElem_mem hil, h0⟩)]
  ·have h0 : (l[i] == 47 || l[i] == 0) = false := by
    have h0 : (bif l[i] == 47 then true else l[i] == 0) = false := h0
    revert h0; cases l[i] == 47 <;> simp
   rw [htk, List.any_append, hI]; simpa using h0
 ·simp only [E.den, cF_lss, hz] at hge
  have hge : (l.length : Int) ≤ (i : Int) := hge
  obtain rfl : i = l.length := by omega
  rw [List.take_length] at hI
  rw [if_neg (by rw [hI]; simp)]
  refine ⟨fun h3 => ?_, fun h3 => ?_⟩
  ·simp only [E.den, cT_gtr, hz] at h3
   have h3 : (12 : Int) < (l.length : Int) := h3
   rw [if_pos (by omega)]; exact ⟨rfl, rfl⟩
  ·simp only [E.den, cF_gtr, hz] at h3
   have h3 : (l.length : Int) ≤ 12 := h3
   rw [if_neg (by omega)]; exact ⟨rfl, rfl⟩
theorem rsorted.cv (A : Option Addr) (c : Nat) (l : List En) (u : Mem) (hd : EntAt u A l) (hl : l.length ≤ 1000000) (hs : ∀ e ∈ l, e.f0.size ≤ 1000000000000000) :
  CV Tryz.prog 110 [.slice A l.length c] [] u fun v cs _ => cs = [] ∧ v = .bool (sortedF l) := by
 refine cv_of names draws (fn := Tryz.f110) (b := bodyOf Tryz.f110) rfl rfl [⟨2, [3], []⟩] (rsorted.args ((A, l.length, c), ())) (rsorted.giv _) (fun _ => 0) (rsorted.run _) (by kernel_rfl) rfl rfl ?_
 unfold rsorted.T
 refine hold_count l.length (fun i u' => u.le u' ∧ (List.range i).all (sortedAt l) = true) ⟨Mem.le_refl u, rfl⟩ ?_
 rintro i u1 hi ⟨hu1, hI⟩
 refine ⟨fun hlt => ?_, fun hge => ?_⟩
 ·simp only [E.den, cT_lss] at hlt
  have hlt : (i : Int) < (l.length : Int) := hlt
  have hil : i < l.length := by omega
  obtain ⟨e, he⟩ : ∃ e, l[i]? = some e := ⟨_, List.getElem?_eq_getElem hil⟩
  have hx := (hd i e he).mono hu1
  have hpb : (0 : Int) ≤ (i : Int) ∧ (i : Int) < (l.length : Int) ∧ A.isSome = true := ⟨by omega, hlt, hx.some⟩
  have hp : sortedAt l i = (decide (legalF e.f0 = 0) && (decide (i = 0) || !cmpT .leq e.f0 (l.getD (i - 1) zEn).f0)) := by unfold sortedAt; rw [getD_of he]
  simp only [Hold, PubTo, SV.den, E.den, denL, binI, cT_eql, cF_eql, cT_neq, cF_neq, cT_lss, cF_lss, cT_leq, cF_leq, cT_gtr, cF_gtr, cT_geq, cF_geq, tT_eql, tF_eql, tT_neq, tF_neq, rowsD, denLL, Ob.den, den_cells, List.map_nil, List.map_cons, true_implies, forall_const, true_and, and_true, Bool.true_eq_false, Bool.false_eq_true, reduceCtorEq, false_implies, implies_true, Bool.not_not, Bool.not_true, Bool.not_false, Bool.not_eq_true', Bool.not_eq_false', cond_true, cond_false, Nat.add_eq, Nat.mul_eq, Nat.sub_eq, Nat.add_zero, Nat.zero_mul, Nat.zero_add]
  refine ⟨hpb, hx.some, (e.f0, ()), by rw [Int.toNat_natCast]; exact hx.part 0 1, ?_⟩
  refine (rlegal.cv e.f0 u1 (hs e (List.mem_of_getElem? he))).mono fun v cs u2 hu2 ⟨hc, hv⟩ => ⟨(legalF e.f0, ()), (), hv, hc, ?_⟩
  have hx2 := hx.mono hu2
  have c1 : cmpI .neq (legalF e.f0) 0 = decide (¬ legalF e.f0 = 0) := cD_neq
  have c2 : cmpI .gtr (i : Int) 0 = decide (0 < i) := by rw [Bool.eq_iff_iff]; simp only [cT_gtr, decide_eq_true_eq]; omega
  simp only [c1, c2]
  have fin : ∀ b : Bool, sortedAt l i = !b → (b = true → sortedF l = false) ∧ (b = false → (List.range (i + 1)).all (sortedAt l) = true) := fun b hb => ⟨fun h => all_no hil (by rw [hb, h]; rfl), fun h => by rw [all_succ, hI, hb, h]; rfl⟩
  by_cases hg : legalF e.f0 = 0 ∧ 0 < i
  ·obtain ⟨f, hf⟩ : ∃ f, l[i - 1]? = some f := ⟨_, List.getElem?_eq_getElem (by omega)⟩
   have hy := (hd (i - 1) f hf).mono (Mem.le_trans hu1 hu2)
   have w1 : IntKind.i64.wrap ((i : Int) - 1) = ((i - 1 : Nat) : Int) := by rw [IntKind.wrap_i64] <;> omega
   have hpb2 : (0 : Int) ≤ ((i - 1 : Nat) : Int) ∧ ((i - 1 : Nat) : Int) < (l.length : Int) ∧ A.isSome = true := ⟨by omega, by omega, hx.some⟩
   rw [getD_of hf] at hp
   simp only [hg.1, hg.2, not_true, decide_false, decide_true, Bool.not_false, cond_true, cond_false, w1, Hold, PubTo, SV.den, E.den, denL, binI, cT_eql, cF_eql, cT_neq, cF_neq, cT_lss, cF_lss, cT_leq, cF_leq, cT_gtr, cF_gtr, cT_geq, cF_geq, tT_eql, tF_eql, tT_neq, tF_neq, rowsD, denLL, Ob.den, den_cells, List.map_nil, List.map_cons, true_implies, forall_const, true_and, and_true, Bool.true_eq_false, Bool.false_eq_true, reduceCtorEq, false_implies, implies_true, Bool.not_not, Bool.not_true, Bool.not_false, Bool.not_eq_true', Bool.not_eq_false', cond_true, cond_false, Nat.add_eq, Nat.mul_eq, Nat.sub_eq, Nat.add_zero, Nat.zero_mul, Nat.zero_add, wrap_succ (show i < 4611686018427387904 by omega)]
   have hb := fin (cmpT .leq e.f0 f.f0) (by rw [hp, hg.1, decide_eq_false (show ¬ i = 0 by omega)]; rfl)
   refine ⟨hpb, hx.some, (e.f0, ()), by rw [Int.toNat_natCast]; exact hx2.part 0 1, hpb2, hy.some, (f.f0, ()), by rw [Int.toNat_natCast]; exact hy.part 0 1, fun h => ?_, fun h => ⟨by simp, rfl, rfl, hil, Mem.le_trans hu1 hu2, hb.2 h⟩⟩
   rw [hb.1 h]
  ·have hgd : (bif !decide (¬ legalF e.f0 = 0) then decide (0 < i) else false) = false := by
    by_cases h1 : legalF e.f0 = 0
    ·have : ¬ 0 < i := fun h => hg ⟨h1, h⟩
     simp [h1, this]
    ·simp [h1]
   simp only [hgd, Hold, PubTo, SV.den, E.den, denL, binI, cT_eql, cF_eql, cT_neq, cF_neq, cT_lss, cF_lss, cT_leq, cF_leq, cT_gtr, cF_gtr, cT_geq, cF_geq, tT_eql, tF_eql, tT_neq, tF_neq, rowsD, denLL, Ob.den, den_cells, List.map_nil, List.map_cons, true_implies, forall_const, true_and, and_true, Bool.true_eq_false, Bool.false_eq_true, reduceCtorEq, false_implies, implies_true, Bool.not_not, Bool.not_true, Bool.not_false, Bool.not_eq_true', Bool.not_eq_false', cond_true, cond_false, Nat.add_eq, Nat.mul_eq, Nat.sub_eq, Nat.add_zero, Nat.zero_mul, Nat.zero_add, dflt, wrap_succ (show i < 4611686018427387904 by omega)]
   have hb := fin (decide (¬ legalF e.f0 = 0)) (by
    rw [hp]
    by_cases h1 : legalF e.f0 = 0
    ·have : i = 0 := by have : ¬ 0 < i := fun h => hg ⟨h1, h⟩; omega
     simp [h1, this]
    ·simp [h1])
   have he2 : (bif decide (¬ legalF e.f0 = 0) then true else bif decide (0 < i) then cmpT .leq (dfltK .t) (dfltK .t) else false) = decide (¬ legalF e.f0 = 0) := by
    by_cases h1 : legalF e.f0 = 0
    ·have : ¬ 0 < i := fun h => hg ⟨h1, h⟩
     simp [h1, this]
    ·simp [h1]
   refine ⟨fun h => ?_, fun h => ⟨by simp, rfl, rfl, hil, Mem.le_trans hu1 hu2, hb.2 (he2 ▸ h)⟩⟩
   rw [hb.1 (he2 ▸ h)]
 ·simp only [E.den, cF_lss] at hge
  have hge : (l.length : Int) ≤ (i : Int) := hge
  obtain rfl : i = l.length := by omega
  unfold sortedF; rw [hI]; exact ⟨rfl, rfl⟩
end Go.Proofs.YtpfbimkpcnnfkaaGreatDoor.Sx
set_option maxRecDepth 100000
set_option linter.unusedVariables false
set_option linter.unusedSimpArgs false
namespace Go.Proofs.YtpfbimkpcnnfkaaGreatDoor.Sx
open Go Go.RowKit Go.Proofs.YtpfbimkpcnnfkaaGreatDoor Go.Proofs.YtpfbimkpcnnfkaaGreatDoor.Ext
theorem ba_eq {a b : ByteArray} : a.toList = b.toList ↔ a = b := by rw [toList_data, toList_data]; exact ⟨fun h => ba_ext h, fun h => by rw [h]⟩
theorem cT_t {a b : ByteArray} : cmpT .eql a b = decide (a = b) := by
 rw [Bool.eq_iff_iff]; simp only [tT_eql, decide_eq_true_eq]; exact ba_eq
theorem take_eq {α : Type} {l r : List α} {i : Nat} {x y : α} (h : l.take i = r.take i) (hx : l[i]? = some x) (hy : r[i]? = some y) : l.take (i + 1) = r.take (i + 1) ↔ x = y := by
 have h1 := (List.getElem?_eq_some_iff.1 hx)
 have h2 := (List.getElem?_eq_some_iff.1 hy)
 obtain ⟨g1, rfl⟩ := h1
 obtain ⟨g2, rfl⟩ := h2
 rw [List.take_succ_eq_append_getElem g1, List.take_succ_eq_append_getElem (l := r) g2, h]
 exact ⟨fun e => (List.cons.inj (List.append_cancel_left e)).1, fun e => by rw [e]⟩
theorem resame.cv (A B : Option Addr) (c d : Nat) (l r : List En) (u : Mem) (hl : EntAt u A l) (hr : EntAt u B r) (hn : l.length ≤ 1000000) :
  CV Tryz.prog 28 [.slice A l.length c, .slice B r.length d] [] u fun v cs _ => cs = [] ∧ v = .bool (decide (l = r)) := by
 refine cv_of names draws (fn := Tryz.f28) (b := bodyOf Tryz.f28) rfl rfl [⟨4, [5], []⟩] (resame.args ((A, l.length, c), ()) ((B, r.length, d), ())) (resame.giv _ _) (fun _ => 0) (resame.run _ _) (by kernel_rfl) rfl rfl ?_
 unfold resame.T
 refine ⟨fun h => ?_, fun h => ?_⟩
 ·simp only [E.den, cT_neq] at h
  have h : ¬ (l.length : Int) = (r.length : Int) := h
  rw [decide_eq_false (fun e => h (by rw [e]))]; exact ⟨rfl, rfl⟩
 simp only [E.den, cF_neq] at h
 have h : (l.length : Int) = (r.length : Int) := h
 have hlr : l.length = r.length := by omega
 refine hold_count l.length (fun i u' => u.le u' ∧ l.take i = r.take i) ⟨Mem.le_refl u, rfl⟩ ?_
 rintro i u1 hi ⟨hu1, hI⟩
 refine ⟨fun hlt => ?_, fun hge => ?_⟩
 ·simp only [E.den, cT_lss] at hlt
  have hlt : (i : Int) < (l.length : Int) := hlt
  have hil : i < l.length := by omega
  obtain ⟨x, hx⟩ : ∃ x, l[i]? = some x := ⟨_, List.getElem?_eq_getElem hil⟩
  obtain ⟨y, hy⟩ : ∃ y, r[i]? = some y := ⟨_, List.getElem?_eq_getElem (by omega)⟩
  have rx := (hl i x hx).mono hu1
  have ry := (hr i y hy).mono hu1
  have b1 : (0 : Int) ≤ (i : Int) ∧ (i : Int) < (l.length : Int) ∧ A.isSome = true := ⟨by omega, hlt, rx.some⟩
  have b2 : (0 : Int) ≤ (i : Int) ∧ (i : Int) < (r.length : Int) ∧ B.isSome = true := ⟨by omega, by omega, ry.some⟩
  have hte := take_eq hI hx hy
  have hxy : (bif cmpT .eql x.f0 y.f0 then bif cmpI .eql x.f1 y.f1 then true else false else false) = decide (x = y) := by
   rw [cT_t, cD_eql]
   obtain ⟨x0, x1⟩ := x
   obtain ⟨y0, y1⟩ := y
   by_cases e0 : x0 = y0 <;> by_cases e1 : x1 = y1 <;> simp [e0, e1]
  simp only [Hold, PubTo, SV.den, E.den, denL, binI, cT_eql, cF_eql, cT_neq, cF_neq, cT_lss, cF_lss, cT_leq, cF_leq, cT_gtr, cF_gtr, cT_geq, cF_geq, tT_eql, tF_eql, tT_neq, tF_neq, rowsD, denLL, Ob.den, den_cells, List.map_nil, List.map_cons, true_implies, forall_const, true_and, and_true, Bool.true_eq_false, Bool.false_eq_true, reduceCtorEq, false_implies, implies_true, Bool.not_not, Bool.not_true, Bool.not_false, Bool.not_eq_true', Bool.not_eq_false', cond_true, cond_false, Nat.add_eq, Nat.mul_eq, Nat.sub_eq, Nat.add_zero, Nat.zero_mul, Nat.zero_add, wrap_succ (show i < 4611686018427387904 by omega)]
  refine ⟨b1, (x.f0, x.f1, ()), by rw [Int.toNat_natCast]; exact rx, b2, (y.f0, y.f1, ()), by rw [Int.toNat_natCast]; exact ry, fun h0 => ?_, fun h0 => ⟨by simp, rfl, rfl, hil, hu1, ?_⟩⟩
  ·have h0 : (bif cmpT .eql x.f0 y.f0 then bif cmpI .eql x.f1 y.f1 then true else false else false) = false := h0
   rw [hxy, decide_eq_false_iff_not] at h0
   rw [decide_eq_false (fun e => h0 (hte.1 (by rw [e])))]
  ·have h0 : (bif cmpT .eql x.f0 y.f0 then bif cmpI .eql x.f1 y.f1 then true else false else false) = true := h0
   rw [hxy, decide_eq_true_eq] at h0
   exact hte.2 h0
 ·simp only [E.den, cF_lss] at hge
  have hge : (l.length : Int) ≤ (i : Int) := hge
  obtain rfl : i = l.length := by omega
  rw [List.take_length, List.take_of_length_le (by omega)] at hI
  rw [decide_eq_true hI]; exact ⟨rfl, rfl⟩
theorem ralike.cv (a b : Nd) (A B : Option Addr) (c d : Nat) (u : Mem) (ha : EntAt u A a.f7) (hb : EntAt u B b.f7) (hn : a.f7.length ≤ 1000000) :
  CV Tryz.prog 65 [.agg (cv K0 (a.row A c)).toArray, .agg (cv K0 (b.row B d)).toArray] [] u fun v cs _ => cs = [] ∧ v = .bool (decide (a = b)) := by
 refine cv_of names draws (fn := Tryz.f65) (b := bodyOf Tryz.f65) rfl rfl [] (ralike.args (a.row A c) (b.row B d)) (ralike.giv _ _) (fun _ => 0) (ralike.run _ _) (by kernel_rfl) rfl rfl ?_
 obtain ⟨a0, a1, a2, a3, a4, a5, a6, a7⟩ := a
 obtain ⟨b0, b1, b2, b3, b4, b5, b6, b7⟩ := b
 simp only [ralike.T, Hold, PubTo, SV.den, E.den, denL, binI, cT_eql, cF_eql, cT_neq, cF_neq, cT_lss, cF_lss, cT_leq, cF_leq, cT_gtr, cF_gtr, cT_geq, cF_geq, tT_eql, tF_eql, tT_neq, tF_neq, rowsD, denLL, Ob.den, den_cells, List.map_nil, List.map_cons, true_implies, forall_const, true_and, and_true, Bool.true_eq_false, Bool.false_eq_true, reduceCtorEq, false_implies, implies_true, Bool.not_not, Bool.not_true, Bool.not_false, Bool.not_eq_true', Bool.not_eq_false', cond_true, cond_false, Nat.add_eq, Nat.mul_eq, Nat.sub_eq, Nat.add_zero, Nat.zero_mul, Nat.zero_add, Nd.row, cT_t, cD_eql]
 intro p1 q1 p2 q2
 have hc : (bif bif bif bif bif bif decide (a0 = b0) then decide (a1 = b1) else false then decide (a2 = b2) else false then decide (a3 = b3) else false then decide (a4 = b4) else false then decide (a5 = b5) else false then decide (a6 = b6) else false) = decide (a0 = b0 ∧ a1 = b1 ∧ a2 = b2 ∧ a3 = b3 ∧ a4 = b4 ∧ a5 = b5 ∧ a6 = b6) := by
  by_cases e0 : a0 = b0 <;> by_cases e1 : a1 = b1 <;> by_cases e2 : a2 = b2 <;> by_cases e3 : a3 = b3 <;> by_cases e4 : a4 = b4 <;> by_cases e5 : a5 = b5 <;> by_cases e6 : a6 = b6 <;> simp [e0, e1, e2, e3, e4, e5, e6]
 simp only [hc]
 by_cases h : a0 = b0 ∧ a1 = b1 ∧ a2 = b2 ∧ a3 = b3 ∧ a4 = b4 ∧ a5 = b5 ∧ a6 = b6
 ·rw [decide_eq_true h]
  refine ⟨fun _ => (resame.cv A B c d a7 b7 u ha hb hn).mono fun v cs u2 hu2 ⟨hc, hv⟩ => ⟨(decide (a7 = b7), ()), (), hv, hc, ?_⟩, fun h => (by cases h)⟩
  obtain ⟨rfl, rfl, rfl, rfl, rfl, rfl, rfl⟩ := h
  simp
 ·rw [decide_eq_false h]
  refine ⟨fun h => (by cases h), fun _ => ?_⟩
  simp only [cond_false]
  congr 1
  symm
  rw [decide_eq_false_iff_not]
  intro e
  injection e with e0 e1 e2 e3 e4 e5 e6 e7
  exact h ⟨e0, e1, e2, e3, e4, e5, e6⟩
theorem rweight.cv (n : Nd) (A : Option Addr) (c : Nat) (u : Mem) : CV Tryz.prog 109 [.agg (cv K0 (n.row A c)).toArray] [] u fun v cs _ => cs = [] ∧ v = .int .i64 (weightF n) := by
 refine cv_of names draws (fn := Tryz.f109) (b := bodyOf Tryz.f109) rfl rfl [] (rweight.args (n.row A c)) (rweight.giv _) (fun _ => 0) (rweight.run _) (by kernel_rfl) rfl rfl ?_
 simp only [rweight.T, Hold, PubTo, SV.den, E.den, denL, binI, cT_eql, cF_eql, cT_neq, cF_neq, cT_lss, cF_lss, cT_leq, cF_leq, cT_gtr, cF_gtr, cT_geq, cF_geq, tT_eql, tF_eql, tT_neq, tF_neq, rowsD, denLL, Ob.den, den_cells, List.map_nil, List.map_cons, true_implies, forall_const, true_and, and_true, Bool.true_eq_false, Bool.false_eq_true, reduceCtorEq, false_implies, implies_true, Bool.not_not, Bool.not_true, Bool.not_false, Bool.not_eq_true', Bool.not_eq_false', cond_true, cond_false, Nat.add_eq, Nat.mul_eq, Nat.sub_eq, Nat.add_zero, Nat.zero_mul, Nat.zero_add, cD_eql]
 intro b1 h1
 unfold weightF Nd.row
 have hc : (bif decide (n.f0 = 1) then true else decide (n.f0 = 3)) = decide (n.f0 = 1 ∨ n.f0 = 3) := by by_cases e : n.f0 = 1 <;> simp [e]
 simp only [hc, decide_eq_true_eq, decide_eq_false_iff_not]
 exact ⟨fun h => by rw [if_pos h], fun h => by rw [if_neg h]⟩
theorem weight_nn (n : Nd) : 0 ≤ weightF n := by unfold weightF; split <;> omega
theorem rbytes.cv (A : Option Addr) (c : Nat) (ns : List Nd) (m r : Int) (u : Mem) (hd : DiskAt u A ns) (hl : ns.length ≤ 1000000) (hs : ∀ n ∈ ns, n.f6.size ≤ 1000000000) :
  CV Tryz.prog 87 [.agg #[.slice A ns.length c, .int .i64 m, .int .i64 r]] [] u fun v cs _ => cs = [] ∧ v = .int .i64 (bytesF ns) := by
 refine cv_of names draws (fn := Tryz.f87) (b := bodyOf Tryz.f87) rfl rfl [⟨3, [3, 4], []⟩] (rbytes.args ((A, ns.length, c), m, r, ())) (rbytes.giv _) (fun _ => 0) (rbytes.run _) (by kernel_rfl) rfl rfl ?_
 have hw : ∀ i, i ≤ ns.length → 0 ≤ bytesF (ns.take i) ∧ bytesF (ns.take i) ≤ i * 1000000000 := by
  intro i
  induction i with
  | zero => intro _; simp [bytesF]
  | succ i ih =>
   intro hi
   have := ih (by omega)
   rw [List.take_succ_eq_append_getElem (by omega)]
   have h1 := hs ns[i] (List.getElem_mem _)
   have h2 := weight_nn ns[i]
   have h3 : weightF ns[i] ≤ 1000000000 := by unfold weightF; split <;> omega
   simp only [bytesF, List.map_append, List.map_cons, List.map_nil, List.sum_append, List.sum_cons, List.sum_nil] at this ⊢
   omega
 unfold rbytes.T
 intro b1 hb1
 refine hold_loop (sk := [.i .i64, .i .i64]) (oks := []) (fun x _ u' => u.le u' ∧ ∃ i : Nat, x = (bytesF (ns.take i), (i : Int), ()) ∧ i ≤ ns.length) (fun x _ => ((ns.length : Int) - x.2.1).toNat) (0, 0, ()) () rfl rfl ⟨Mem.le_refl u, 0, rfl, by omega⟩ ?_
 rintro x y u1 ⟨hu1, i, rfl, hi⟩
 refine ⟨fun hlt => ?_, fun hge => ?_⟩
 ·simp only [E.den, cT_lss] at hlt
  have hlt : (i : Int) < (ns.length : Int) := hlt
  have hil : i < ns.length := by omega
  obtain ⟨n, hx⟩ : ∃ n, ns[i]? = some n := ⟨_, List.getElem?_eq_getElem hil⟩
  obtain ⟨a7, c7, k1, k2, k3⟩ := hd i n hx
  have rx := k2.mono hu1
  have b1 : (0 : Int) ≤ (i : Int) ∧ (i : Int) < (ns.length : Int) ∧ A.isSome = true := ⟨by omega, hlt, rx.some⟩
  have e1 : bytesF (ns.take (i + 1)) = bytesF (ns.take i) + weightF n := by
   rw [List.take_succ_eq_append_getElem hil]; rw [List.getElem?_eq_getElem hil] at hx; cases hx
   simp only [bytesF, List.map_append, List.map_cons, List.map_nil, List.sum_append, List.sum_cons, List.sum_nil, Int.add_zero]
  have w1 : IntKind.i64.wrap (bytesF (ns.take i) + weightF n) = bytesF (ns.take (i + 1)) := by
   rw [← e1]; have := hw (i + 1) (by omega); rw [IntKind.wrap_i64] <;> omega
  simp only [Hold, PubTo, SV.den, E.den, denL, binI, cT_eql, cF_eql, cT_neq, cF_neq, cT_lss, cF_lss, cT_leq, cF_leq, cT_gtr, cF_gtr, cT_geq, cF_geq, tT_eql, tF_eql, tT_neq, tF_neq, rowsD, denLL, Ob.den, den_cells, List.map_nil, List.map_cons, true_implies, forall_const, true_and, and_true, Bool.true_eq_false, Bool.false_eq_true, reduceCtorEq, false_implies, implies_true, Bool.not_not, Bool.not_true, Bool.not_false, Bool.not_eq_true', Bool.not_eq_false', cond_true, cond_false, Nat.add_eq, Nat.mul_eq, Nat.sub_eq, Nat.add_zero, Nat.zero_mul, Nat.zero_add]
  refine ⟨b1, n.row a7 c7, by rw [Int.toNat_natCast]; exact rx, ?_⟩
  refine (rweight.cv n a7 c7 u1).mono fun v cs u2 hu2 ⟨hc, hv⟩ => ⟨(weightF n, ()), (), hv, hc, by simp, ?_⟩
  exact ⟨(bytesF (ns.take (i + 1)), ((i + 1 : Nat) : Int), ()), (), by rw [← w1, ← wrap_succ (show i < 4611686018427387904 by omega)]; rfl, rfl, ⟨Mem.le_trans hu1 hu2, i + 1, rfl, by omega⟩, by simp only; omega⟩
 ·simp only [E.den, cF_lss] at hge
  have hge : (ns.length : Int) ≤ (i : Int) := hge
  obtain rfl : i = ns.length := by omega
  show _ ∧ Value.int .i64 (bytesF (ns.take ns.length)) = _
  rw [List.take_length]; exact ⟨rfl, rfl⟩
theorem countF_take (n : Nd) (i : Int) (j : Nat) (e : En) (h : n.f7[j]? = some e) : ((n.f7.take (j + 1)).filter fun e => e.f1 == i).length = ((n.f7.take j).filter fun e => e.f1 == i).length + if e.f1 = i then 1 else 0 := by
 obtain ⟨g, rfl⟩ := List.getElem?_eq_some_iff.1 h
 rw [List.take_succ_eq_append_getElem g, List.filter_append, List.length_append]
 by_cases he : n.f7[j].f1 = i <;> simp [he]
theorem names_bound (ns : List Nd) (i : Int) (hs : ∀ n ∈ ns, n.f7.length ≤ 1000000) : ∀ k, k ≤ ns.length → 0 ≤ (namesAt ns i k).1 ∧ (namesAt ns i k).1 ≤ k * 1000000
 | 0, _ => by simp [namesAt]
 | k + 1, h => by
  have ih := names_bound ns i hs k (by omega)
  have h1 : countF (ns.getD k zNd) i ≤ 1000000 := by
   rw [getD_of (List.getElem?_eq_getElem (show k < ns.length by omega))]
   exact Nat.le_trans (List.length_filter_le _ _) (hs _ (List.getElem_mem _))
  simp only [namesAt]; omega
theorem rnames.cv (A : Option Addr) (c : Nat) (ns : List Nd) (m r i : Int) (u : Mem) (hd : DiskAt u A ns) (hl : ns.length ≤ 1000000) (hs : ∀ n ∈ ns, n.f7.length ≤ 1000000) :
  CV Tryz.prog 111 [.agg #[.slice A ns.length c, .int .i64 m, .int .i64 r], .int .i64 i] [] u fun v cs _ => cs = [] ∧ v = .tuple #[.int .i64 (namesF ns i).1, .int .i64 (namesF ns i).2] := by
 refine cv_of names draws (fn := Tryz.f111) (b := bodyOf Tryz.f111) rfl rfl [⟨4, [6, 7, 8], []⟩, ⟨7, [6, 7, 9], []⟩] (rnames.args ((A, ns.length, c), m, r, ()) (i, ())) (rnames.giv _ _) (fun _ => 0) (rnames.run _ _) (by kernel_rfl) rfl rfl ?_
 unfold rnames.T
 intro b1 hb1
 refine hold_loop (sk := [.i .i64, .i .i64, .i .i64]) (oks := []) (fun x _ u' => u.le u' ∧ ∃ k : Nat, x = ((namesAt ns i k).1, (namesAt ns i k).2, (k : Int), ()) ∧ k ≤ ns.length) (fun x _ => ((ns.length : Int) - x.2.2.1).toNat) (0, -1, 0, ()) () rfl rfl ⟨Mem.le_refl u, 0, rfl, by omega⟩ ?_
 rintro x y u1 ⟨hu1, k, rfl, hk⟩
 refine ⟨fun hlt => ?_, fun hge => ?_⟩
 ·simp only [E.den, cT_lss] at hlt
  have hlt : (k : Int) < (ns.length : Int) := hlt
  have hil : k < ns.length := by omega
  obtain ⟨n, hx⟩ : ∃ n, ns[k]? = some n := ⟨_, List.getElem?_eq_getElem hil⟩
  have hng : ns.getD k zNd = n := getD_of hx
  have hnl := hs n (List.mem_of_getElem? hx)
  have hb := names_bound ns i hs k hk
  refine hold_loop (sk := [.i .i64, .i .i64, .i .i64]) (oks := []) (fun x _ u' => u.le u' ∧ ∃ j : Nat, x = ((namesAt ns i k).1 + ((n.f7.take j).filter fun e => e.f1 == i).length, if ((n.f7.take j).filter fun e => e.f1 == i).length = 0 then (namesAt ns i k).2 else k, (j : Int), ()) ∧ j ≤ n.f7.length) (fun x _ => ((n.f7.length : Int) - x.2.2.1).toNat)
   ((namesAt ns i k).1, (namesAt ns i k).2, 0, ()) () rfl rfl ⟨hu1, 0, by simp, by omega⟩ ?_
  rintro x y u2 ⟨hu2, j, rfl, hj⟩
  obtain ⟨a7, c7, k1, k2, k3⟩ := hd k n hx
  have rx := k2.mono hu2
  have b1 : (0 : Int) ≤ (k : Int) ∧ (k : Int) < (ns.length : Int) ∧ A.isSome = true := ⟨by omega, hlt, rx.some⟩
  simp only [Hold, PubTo, SV.den, E.den, denL, binI, cT_eql, cF_eql, cT_neq, cF_neq, cT_lss, cF_lss, cT_leq, cF_leq, cT_gtr, cF_gtr, cT_geq, cF_geq, tT_eql, tF_eql, tT_neq, tF_neq, rowsD, denLL, Ob.den, den_cells, List.map_nil, List.map_cons, true_implies, forall_const, true_and, and_true, Bool.true_eq_false, Bool.false_eq_true, reduceCtorEq, false_implies, implies_true, Bool.not_not, Bool.not_true, Bool.not_false, Bool.not_eq_true', Bool.not_eq_false', cond_true, cond_false, Nat.add_eq, Nat.mul_eq, Nat.sub_eq, Nat.add_zero, Nat.zero_mul, Nat.zero_add]
  refine ⟨b1, rx.some, ((a7, n.f7.length, c7), ()), by rw [Int.toNat_natCast]; exact rx.part 7 1, fun hlt2 => ?_, fun hge2 => ?_⟩
  ·have hlt2 : (j : Int) < (n.f7.length : Int) := hlt2
   have hjl : j < n.f7.length := by omega
   obtain ⟨e, he⟩ : ∃ e, n.f7[j]? = some e := ⟨_, List.getElem?_eq_getElem hjl⟩
   have re := (k3 j e he).mono hu2
   have b2 : (0 : Int) ≤ (j : Int) ∧ (j : Int) < (n.f7.length : Int) ∧ a7.isSome = true := ⟨by omega, hlt2, re.some⟩
   have hct := countF_take n i j e he
   have hc0 : ((n.f7.take j).filter fun e => e.f1 == i).length ≤ 1000000 := Nat.le_trans (List.length_filter_le _ _) (by rw [List.length_take]; omega)
   generalize ((n.f7.take j).filter fun e => e.f1 == i).length = q at hct hc0 ⊢
   refine ⟨b1, rx.some, ((a7, n.f7.length, c7), ()), by rw [Int.toNat_natCast]; exact rx.part 7 1, b2, re.some, (e.f1, ()), by rw [Int.toNat_natCast]; exact re.part 1 1, fun h => ⟨by simp, ?_⟩, fun h => ⟨by simp, ?_⟩⟩
   ·have h : e.f1 = i := h
    rw [if_pos h] at hct
    simp only [if_true]
    have w1 : IntKind.i64.wrap ((namesAt ns i k).1 + (q : Int) + 1) = (namesAt ns i k).1 + ((q + 1 : Nat) : Int) := by rw [IntKind.wrap_i64] <;> omega
    refine ⟨((namesAt ns i k).1 + ((q + 1 : Nat) : Int), (k : Int), ((j + 1 : Nat) : Int), ()), (), by rw [← w1, ← wrap_succ (show j < 4611686018427387904 by omega)]; rfl, rfl, ⟨hu2, j + 1, by rw [hct]; simp, by omega⟩, by simp only; omega⟩
   ·have h : ¬ e.f1 = i := h
    rw [if_neg h] at hct
    replace hct := hct.trans (Nat.add_zero q)
    simp only [if_true]
    refine ⟨((namesAt ns i k).1 + (q : Int), (if q = 0 then (namesAt ns i k).2 else k), ((j + 1 : Nat) : Int), ()), (), by rw [← wrap_succ (show j < 4611686018427387904 by omega)]; rfl, rfl, ⟨hu2, j + 1, by rw [hct], by omega⟩, by simp only; omega⟩
  ·have hge2 : (n.f7.length : Int) ≤ (j : Int) := hge2
   obtain rfl : j = n.f7.length := by omega
   refine ⟨by simp, ?_⟩
   simp only [if_neg (show ¬ (0 : Nat) = 1 by decide), if_true]
   have hct : ((n.f7.take n.f7.length).filter fun e => e.f1 == i).length = countF n i := by rw [List.take_length]; rfl
   rw [hct]
   refine ⟨((namesAt ns i (k + 1)).1, (namesAt ns i (k + 1)).2, ((k + 1 : Nat) : Int), ()), (), ?_, rfl, ⟨hu2, k + 1, rfl, by omega⟩, by simp only; omega⟩
   rw [← wrap_succ (show k < 4611686018427387904 by omega)]
   simp only [namesAt, hng]; rfl
 ·simp only [E.den, cF_lss] at hge
  have hge : (ns.length : Int) ≤ (k : Int) := hge
  obtain rfl : k = ns.length := by omega
  exact ⟨rfl, rfl⟩
theorem rrooted.cv (A : Option Addr) (c : Nat) (ns : List Nd) (m r i : Int) (u : Mem) (hd : DiskAt u A ns) (hl : ns.length ≤ 1000000) :
  CV Tryz.prog 112 [.agg #[.slice A ns.length c, .int .i64 m, .int .i64 r], .int .i64 i] [] u fun v cs _ => cs = [] ∧ v = .bool (rootedF ns i) := by
 refine cv_of names draws (fn := Tryz.f112) (b := bodyOf Tryz.f112) rfl rfl [⟨2, [1, 5], []⟩] (rrooted.args ((A, ns.length, c), m, r, ()) (i, ())) (rrooted.giv _ _) (fun _ => 0) (rrooted.run _ _) (by kernel_rfl) rfl rfl ?_
 unfold rrooted.T
 intro b1 hb1
 refine hold_loop (sk := [.i .i64, .i .i64]) (oks := []) (fun x _ u' => u.le u' ∧ ∃ (k : Nat) (j : Int), x = (j, (k : Int), ()) ∧ k ≤ ns.length + 1 ∧ rootGo ns (ns.length + 1 - k) j = rootedF ns i) (fun x _ => ((ns.length : Int) + 1 - x.2.1).toNat) (i, 0, ()) () rfl rfl ⟨Mem.le_refl u, 0, i, rfl, by omega, rfl⟩ ?_
 rintro x y u1 ⟨hu1, k, j, rfl, hk, hg⟩
 refine ⟨fun hlt => ⟨fun h0 => ?_, fun h0 => ?_⟩, fun hge => ?_⟩
 ·simp only [E.den, cT_leq, cT_eql] at hlt h0
  have hlt : (k : Int) ≤ (ns.length : Int) := hlt
  have h0 : j = 0 := h0
  rw [show ns.length + 1 - k = (ns.length - k) + 1 by omega, rootGo, if_pos h0] at hg
  rw [← hg]; exact ⟨rfl, rfl⟩
 ·simp only [E.den, cT_leq, cF_eql] at hlt h0
  have hlt : (k : Int) ≤ (ns.length : Int) := hlt
  have h0 : ¬ j = 0 := h0
  rw [show ns.length + 1 - k = (ns.length - k) + 1 by omega, rootGo, if_neg h0] at hg
  refine hold_call ((rget.cv A c ns m r j u1 (hd.mono hu1) hl).mono fun v cs u2 hu2 ⟨hc, a7, c7, hv, _, _⟩ => ⟨((getL ns j).f0, (getL ns j).f1, (getL ns j).f2, (getL ns j).f3, (getL ns j).f4, (getL ns j).f5, (getL ns j).f6, (a7, (getL ns j).f7.length, c7), getB ns j, ()), (), hv, hc, fun b2 hb2 => ?_⟩)
  have hcnd : (bif !getB ns j then true else cmpI .neq (getL ns j).f0 2) = !decide (getB ns j = true ∧ (getL ns j).f0 = 2) := by
   rw [cD_neq]; cases getB ns j <;> simp
  refine ⟨fun h => ?_, fun h => ⟨by simp, ?_⟩⟩
  ·have h : (bif !getB ns j then true else cmpI .neq (getL ns j).f0 2) = true := h
   rw [hcnd, Bool.not_eq_true', decide_eq_false_iff_not] at h
   rw [if_neg h] at hg
   rw [← hg]; exact ⟨rfl, rfl⟩
  ·have h : (bif !getB ns j then true else cmpI .neq (getL ns j).f0 2) = false := h
   rw [hcnd, Bool.not_eq_false', decide_eq_true_eq] at h
   rw [if_pos h] at hg
   simp only [if_true]
   exact ⟨((getL ns j).f5, ((k + 1 : Nat) : Int), ()), (), by rw [← wrap_succ (show k < 4611686018427387904 by omega)]; rfl, rfl, ⟨Mem.le_trans hu1 hu2, k + 1, _, rfl, by omega, by rw [show ns.length + 1 - (k + 1) = ns.length - k by omega]; exact hg⟩, by simp only; omega⟩
 ·simp only [E.den, cF_leq] at hge
  have hge : (ns.length : Int) < (k : Int) := hge
  rw [show ns.length + 1 - k = 0 by omega, rootGo] at hg
  rw [← hg]; exact ⟨rfl, rfl⟩
end Go.Proofs.YtpfbimkpcnnfkaaGreatDoor.Sx
set_option maxRecDepth 100000
set_option linter.unusedVariables false
set_option linter.unusedSimpArgs false
namespace Go.Proofs.YtpfbimkpcnnfkaaGreatDoor.Sx
open Go Go.RowKit Go.Proofs.YtpfbimkpcnnfkaaGreatDoor Go.Proofs.YtpfbimkpcnnfkaaGreatDoor.Ext
structure Szs (ns : List Nd) : Prop where
 len : ns.length ≤ 1000000
 names : ∀ n ∈ ns, n.f7.length ≤ 1000000
 name : ∀ n ∈ ns, ∀ e ∈ n.f7, e.f0.size ≤ 1000000000000000
 data : ∀ n ∈ ns, n.f6.size ≤ 1000000000
theorem bOr {x y : Prop} [Decidable x] [Decidable y] : (bif decide x then true else decide y) = decide (x ∨ y) := by by_cases h : x <;> simp [h]
theorem bAnd {x y : Prop} [Decidable x] [Decidable y] : (bif decide x then decide y else false) = decide (x ∧ y) := by by_cases h : x <;> simp [h]
theorem cD_lss {x y : Int} : cmpI .lss x y = decide (x < y) := rfl
theorem cD_gtr {x y : Int} : cmpI .gtr x y = decide (y < x) := by rw [Bool.eq_iff_iff]; simp [cmpI]
theorem cD_leq {x y : Int} : cmpI .leq x y = decide (x ≤ y) := rfl
theorem cD_geq {x y : Int} : cmpI .geq x y = decide (y ≤ x) := by rw [Bool.eq_iff_iff]; simp [cmpI]
theorem tD_neq {x y : ByteArray} : cmpT .neq x y = decide (¬ x.toList = y.toList) := by rw [Bool.eq_iff_iff]; simp [cmpT]
theorem bNot {x : Prop} [Decidable x] : (!decide x) = decide (¬ x) := by by_cases h : x <;> simp [h]
theorem zEnts {u : Mem} {a : Option Addr} : EntAt u a [] := fun i e h => by simp at h
set_option maxHeartbeats 2000000 in
theorem rright1.cv (A : Option Addr) (c : Nat) (ns : List Nd) (m r : Int) (i : Nat) (u : Mem) (hd : DiskAt u A ns) (hs : Szs ns) (hi : i < ns.length) :
  CV Tryz.prog 88 [.agg #[.slice A ns.length c, .int .i64 m, .int .i64 r], .int .i64 i] [] u fun v cs _ => cs = [] ∧ v = .bool (right1F ns i) := by
 refine cv_of names draws (fn := Tryz.f88) (b := bodyOf Tryz.f88) rfl rfl [⟨9, [6], []⟩] (rright1.args ((A, ns.length, c), m, r, ()) (i, ())) (rright1.giv _ _) (fun _ => 0) (rright1.run _ _) (by kernel_rfl) rfl rfl ?_
 obtain ⟨n, hx⟩ : ∃ n, ns[i]? = some n := ⟨_, List.getElem?_eq_getElem hi⟩
 have hnm := List.mem_of_getElem? hx
 have hng : ns.getD i zNd = n := getD_of hx
 obtain ⟨a7, c7, k1, k2, k3⟩ := hd i n hx
 have b1 : (0 : Int) ≤ (i : Int) ∧ (i : Int) < (ns.length : Int) ∧ A.isSome = true := ⟨by omega, by omega, k2.some⟩
 obtain ⟨res, hres⟩ : ∃ res, res = right1F ns i := ⟨_, rfl⟩
 rw [← hres]
 unfold right1F at hres
 simp only [hng] at hres
 unfold rright1.T
 intro p1 q1
 refine ⟨fun _ => b1, fun _ => ⟨n.row a7 c7, by show Reads u A ((i : Int).toNat * 8) _; rw [Int.toNat_natCast]; exact k2, ?_⟩, fun h => by cases h⟩
 intro p2 q2
 refine ⟨fun h => ?_, fun h => ?_⟩
 ·simp only [E.den, cT_eql] at h
  have h : n.f0 = 0 := h
  rw [if_pos h] at hres
  exact hold_call ((ralike.cv n zNd a7 none c7 0 u k3 zEnts (hs.names n hnm)).mono fun v cs u2 hu2 ⟨hc, hv⟩ => ⟨(decide (n = zNd), ()), (), hv, hc, by rw [hres]; exact ⟨rfl, rfl⟩⟩)
 simp only [E.den, cF_eql] at h
 have h : ¬ n.f0 = 0 := h
 rw [if_neg h] at hres
 clear h
 refine ⟨fun h => ?_, fun h => ?_⟩
 ·simp only [E.den, cD_lss, cD_gtr, bOr, decide_eq_true_eq, or_assoc] at h
  have h : n.f0 < 1 ∨ 3 < n.f0 ∨ n.f1 < 0 ∨ 63 < n.f1 ∨ n.f4 < 0 := h
  rw [if_pos h] at hres
  rw [hres]; exact ⟨rfl, rfl⟩
 simp only [E.den, cD_lss, cD_gtr, bOr, decide_eq_false_iff_not, or_assoc] at h
 have h : ¬ (n.f0 < 1 ∨ 3 < n.f0 ∨ n.f1 < 0 ∨ 63 < n.f1 ∨ n.f4 < 0) := h
 rw [if_neg h] at hres
 clear h
 have hl0 : ((0 : Int) < (n.f7.length : Int)) = (¬ n.f7 = []) := propext ⟨fun h e => by rw [e] at h; simp at h, fun h => by have := List.length_pos_iff.2 h; omega⟩
 have hcnd : ∀ s : Bool, (bif (bif (bif decide (¬ n.f0 = 2) then decide ((0 : Int) < (n.f7.length : Int)) else false) then true else (bif decide (n.f0 = 2) then decide (¬ n.f6.toList = []) else false)) then true else !s) = decide ((¬ n.f0 = 2 ∧ ¬ n.f7 = []) ∨ (n.f0 = 2 ∧ ¬ n.f6.toList = []) ∨ s = false) := fun s => by
  simp only [bAnd, bOr, hl0]
  cases s
  ·simp
  ·rw [Bool.eq_iff_iff]; simp
 have hcn2 : (bif (bif decide (¬ n.f0 = 2) then decide ((0 : Int) < (n.f7.length : Int)) else false) then true else (bif decide (n.f0 = 2) then decide (¬ n.f6.toList = []) else false)) = decide ((¬ n.f0 = 2 ∧ ¬ n.f7 = []) ∨ (n.f0 = 2 ∧ ¬ n.f6.toList = [])) := by simp only [bAnd, bOr, hl0]
 refine hold_callg (fun xs _ u2 => u.le u2 ∧ (¬ ((¬ n.f0 = 2 ∧ ¬ n.f7 = []) ∨ (n.f0 = 2 ∧ ¬ n.f6.toList = [])) → xs.1 = sortedF n.f7)) (fun hg => ?_) (fun hg => ⟨Mem.le_refl u, fun h => ?_⟩) ?_
 ·exact (rsorted.cv a7 c7 n.f7 u k3 (hs.names n hnm) (hs.name n hnm)).mono fun v cs u2 hu2 ⟨hc, hv⟩ => ⟨(sortedF n.f7, ()), (), hv, hc, hu2, fun _ => rfl⟩
 ·simp only [E.den, cD_neq, cD_eql, cD_gtr, tD_neq, tE] at hg
  have hg : (!(bif (bif decide (¬ n.f0 = 2) then decide ((0 : Int) < (n.f7.length : Int)) else false) then true else (bif decide (n.f0 = 2) then decide (¬ n.f6.toList = []) else false))) = false := hg
  rw [hcn2] at hg
  simp only [Bool.not_eq_false', decide_eq_true_eq] at hg
  exact absurd hg h
 rintro ⟨s, _⟩ _ u2 ⟨hu2, hso⟩
 have hso : ¬ ((¬ n.f0 = 2 ∧ ¬ n.f7 = []) ∨ (n.f0 = 2 ∧ ¬ n.f6.toList = [])) → s = sortedF n.f7 := hso
 have hcc : ((¬ n.f0 = 2 ∧ ¬ n.f7 = []) ∨ (n.f0 = 2 ∧ ¬ n.f6.toList = []) ∨ s = false) ↔ ((¬ n.f0 = 2 ∧ ¬ n.f7 = []) ∨ (n.f0 = 2 ∧ ¬ n.f6.toList = []) ∨ sortedF n.f7 = false) := by
  by_cases h : (¬ n.f0 = 2 ∧ ¬ n.f7 = []) ∨ (n.f0 = 2 ∧ ¬ n.f6.toList = [])
  ·exact ⟨fun _ => h.elim .inl fun h => .inr (.inl h), fun _ => h.elim .inl fun h => .inr (.inl h)⟩
  ·rw [hso h]
 refine ⟨fun h => ?_, fun h => ?_⟩
 ·simp only [E.den, cD_neq, cD_eql, cD_gtr, tD_neq, tE] at h
  have h := (hcnd s).symm.trans h
  rw [decide_eq_true_eq, hcc] at h
  rw [if_pos h] at hres
  rw [hres]; exact ⟨rfl, rfl⟩
 simp only [E.den, cD_neq, cD_eql, cD_gtr, tD_neq, tE] at h
 have h := (hcnd s).symm.trans h
 rw [decide_eq_false_iff_not, hcc] at h
 rw [if_neg h] at hres
 clear h hcc hso hcnd hcn2
 refine hold_count n.f7.length (fun j u' => u.le u' ∧ (List.range j).all (entOk ns n.f7) = true) ⟨hu2, rfl⟩ ?_
 rintro j u3 hj ⟨hu3, hI⟩
 refine ⟨fun hlt => ?_, fun hge => ?_⟩
 ·simp only [E.den, cT_lss] at hlt
  have hlt : (j : Int) < (n.f7.length : Int) := hlt
  have hjl : j < n.f7.length := by omega
  obtain ⟨e, he⟩ : ∃ e, n.f7[j]? = some e := ⟨_, List.getElem?_eq_getElem hjl⟩
  have re := (k3 j e he).mono hu3
  have b2 : (0 : Int) ≤ (j : Int) ∧ (j : Int) < (n.f7.length : Int) ∧ a7.isSome = true := ⟨by omega, hlt, re.some⟩
  have hp : entOk ns n.f7 j = (getB ns e.f1 && !decide (e.f1 = 0)) := by unfold entOk; rw [getD_of he]
  have rp : Reads u3 a7 (j * 2 + 1) [.int .i64 e.f1] := re.part 1 1
  refine ⟨fun _ => b2, fun _ => re.some, fun _ => ⟨(e.f1, ()), by show Reads u3 a7 ((j : Int).toNat * 2 + 1) _; rw [Int.toNat_natCast]; exact rp, ?_⟩, fun h => by cases h⟩
  refine hold_call ((rget.cv A c ns m r e.f1 u3 (hd.mono hu3) hs.len).mono fun v cs u4 hu4 ⟨hc, a8, c8, hv, _, _⟩ => ⟨((getL ns e.f1).f0, (getL ns e.f1).f1, (getL ns e.f1).f2, (getL ns e.f1).f3, (getL ns e.f1).f4, (getL ns e.f1).f5, (getL ns e.f1).f6, (a8, (getL ns e.f1).f7.length, c8), getB ns e.f1, ()), (), hv, hc, fun b4 hb4 => ?_⟩)
  refine ⟨fun _ => b2, fun _ => re.some, hold_uldg (fun x => getB ns e.f1 = true → x = (e.f1, ())) (fun _ => ⟨(e.f1, ()), by show Reads u4 a7 ((j : Int).toNat * 2 + 1) _; rw [Int.toNat_natCast]; exact rp.mono hu4, fun _ => rfl⟩) (fun hg h => ?_) ?_⟩
  ·have hg : (!!getB ns e.f1) = false := hg
   rw [h] at hg; cases hg
  rintro ⟨f1, _⟩ hf
  have hcd : (bif !getB ns e.f1 then true else cmpI .eql f1 0) = !entOk ns n.f7 j := by
   rw [hp]
   cases hgb : getB ns e.f1 with
   | false => rfl
   | true => cases hf hgb; simp [cD_eql]
  refine ⟨fun h => ?_, fun h => ⟨by simp, ?_⟩⟩
  ·have h := hcd.symm.trans h
   rw [Bool.not_eq_true'] at h
   rw [if_pos (all_no hjl h)] at hres
   rw [hres]; exact ⟨rfl, rfl⟩
  ·have h := hcd.symm.trans h
   rw [Bool.not_eq_false'] at h
   simp only [if_true]
   refine ⟨by rw [← wrap_succ (show j < 4611686018427387904 by have := hs.names n hnm; omega)]; rfl, rfl, hjl, Mem.le_trans hu3 hu4, ?_⟩
   rw [all_succ, hI, h]; rfl
 simp only [E.den, cF_lss] at hge
 have hge : (n.f7.length : Int) ≤ (j : Int) := hge
 obtain rfl : j = n.f7.length := by omega
 rw [if_neg (by rw [hI]; simp)] at hres
 clear hI hge
 refine hold_call ((rnames.cv A c ns m r i u3 (hd.mono hu3) hs.len hs.names).mono fun v cs u4 hu4 ⟨hc, hv⟩ => ⟨((namesF ns i).1, (namesF ns i).2, ()), (), hv, hc, ?_⟩)
 generalize namesF ns i = q at *
 obtain ⟨q1, q2⟩ := q
 simp only at hres
 have hi0 : ((i : Int) = 0) = (i = 0) := propext (by omega)
 refine ⟨fun h => ?_, fun h => ?_⟩
 ·simp only [E.den, cT_eql] at h
  have h : (i : Int) = 0 := h
  rw [if_pos (by omega)] at hres
  rw [hres]
  refine ⟨rfl, ?_⟩
  simp only [SV.den, E.den, cD_eql, bAnd]
  congr 1
  rw [Bool.eq_iff_iff]; simp only [decide_eq_true_eq]; rw [and_assoc]; rfl
 simp only [E.den, cF_eql] at h
 have h : ¬ (i : Int) = 0 := h
 rw [if_neg (by omega)] at hres
 clear h
 refine ⟨fun h => ?_, fun h => ?_⟩
 ·simp only [E.den, cD_neq, cD_eql, cD_lss, bAnd, bOr, decide_eq_true_eq] at h
  have h : ¬ n.f3 = q1 ∨ q1 = 0 ∧ n.f4 < 1 := h
  rw [if_pos h] at hres
  rw [hres]; exact ⟨rfl, rfl⟩
 simp only [E.den, cD_neq, cD_eql, cD_lss, bAnd, bOr, decide_eq_false_iff_not] at h
 have h : ¬ (¬ n.f3 = q1 ∨ q1 = 0 ∧ n.f4 < 1) := h
 rw [if_neg h] at hres
 clear h
 refine ⟨fun h => ?_, fun h => ?_⟩
 ·simp only [E.den, cT_neq] at h
  have h : ¬ n.f0 = 2 := h
  rw [if_pos h] at hres
  rw [hres]; exact ⟨rfl, rfl⟩
 simp only [E.den, cF_neq] at h
 have h : n.f0 = 2 := h
 rw [if_neg (fun hh => hh h)] at hres
 clear h
 refine ⟨fun h => ?_, fun h => ?_⟩
 ·simp only [E.den, cT_eql] at h
  have h : q1 = 0 := h
  rw [if_pos h] at hres
  rw [hres]
  refine ⟨rfl, ?_⟩
  simp only [SV.den, E.den, cD_eql, bAnd]
  congr 1
  have hl1 : ((n.f7.length : Int) = 0) = (n.f7 = []) := propext ⟨fun h => List.length_eq_zero_iff.1 (by omega), fun h => by rw [h]; rfl⟩
  rw [Bool.eq_iff_iff]; simp only [decide_eq_true_eq]
  show ((n.f7.length : Int) = 0 ∧ n.f5 = 0) ↔ _
  rw [hl1]
 simp only [E.den, cF_eql] at h
 have h : ¬ q1 = 0 := h
 rw [if_neg h] at hres
 clear h
 have hg1 : ∀ x : Bool, (bif (bif decide (q1 = 1) then decide (n.f5 = q2) else false) then x else false) = (decide (q1 = 1 ∧ n.f5 = q2) && x) := fun x => by rw [bAnd]; cases decide (q1 = 1 ∧ n.f5 = q2) <;> rfl
 refine hold_callg (fun xs _ u5 => (q1 = 1 ∧ n.f5 = q2 → xs.1 = rootedF ns i)) (fun hg => ?_) (fun hg h => ?_) ?_
 ·exact (rrooted.cv A c ns m r i u4 (hd.mono (Mem.le_trans hu3 hu4)) hs.len).mono fun v cs u5 hu5 ⟨hc, hv⟩ => ⟨(rootedF ns i, ()), (), hv, hc, fun _ => rfl⟩
 ·simp only [E.den, cD_eql, bAnd, decide_eq_false_iff_not] at hg
  exact absurd h hg
 rintro ⟨s, _⟩ _ u5 hso
 have hso : q1 = 1 ∧ n.f5 = q2 → s = rootedF ns i := hso
 refine ⟨rfl, ?_⟩
 rw [hres]
 simp only [SV.den, E.den, cD_eql]
 congr 1
 refine (hg1 s).trans ?_
 by_cases h : q1 = 1 ∧ n.f5 = q2
 ·rw [decide_eq_true h, hso h]
 ·rw [decide_eq_false h]; rfl
end Go.Proofs.YtpfbimkpcnnfkaaGreatDoor.Sx
