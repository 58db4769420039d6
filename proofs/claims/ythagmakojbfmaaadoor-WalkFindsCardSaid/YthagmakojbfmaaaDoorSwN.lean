/- By Sx: the document's right disks, in plain words. -/
import Derived.Test.YthagmakojbfmaaaDoorSwM
set_option maxRecDepth 100000
set_option linter.unusedVariables false
set_option linter.unusedSimpArgs false
namespace Go.Proofs.YthagmakojbfmaaaDoor.Sx
open Go Go.RowKit Go.Proofs.YthagmakojbfmaaaDoor Go.Proofs.YthagmakojbfmaaaDoor.Ext
def zEn : En := ⟨⟨#[]⟩, 0⟩
def legalF (name : ByteArray) : Int := if name.toList = [] ∨ name.toList = [46] ∨ name.toList = [46, 46] then 1 else if name.data.toList.any (fun c => c == 47 || c == 0) = true then 1 else if 12 < name.size then 9 else 0
def sortedAt (l : List En) (i : Nat) : Bool := decide (legalF (l.getD i zEn).f0 = 0) && (decide (i = 0) || !cmpT .leq (l.getD i zEn).f0 (l.getD (i - 1) zEn).f0)
def sortedF (l : List En) : Bool := (List.range l.length).all (sortedAt l)
def weightF (n : Nd) : Int := if n.f0 = 1 ∨ n.f0 = 3 then (n.f6.size : Int) else 0
def bytesF (ns : List Nd) : Int := (ns.map weightF).sum
def countF (n : Nd) (i : Int) : Nat := (n.f7.filter fun e => e.f1 == i).length
def namesAt (ns : List Nd) (i : Int) : Nat → Int × Int
  | 0 => (0, -1)
  | k + 1 => ((namesAt ns i k).1 + countF (ns.getD k zNd) i, if countF (ns.getD k zNd) i = 0 then (namesAt ns i k).2 else k)
def namesF (ns : List Nd) (i : Int) : Int × Int := namesAt ns i ns.length
def rootGo (ns : List Nd) : Nat → Int → Bool
  | 0, _ => false
  | f + 1, i => if i = 0 then true else if getB ns i = true ∧ (getL ns i).f0 = 2 then rootGo ns f (getL ns i).f5 else false
def rootedF (ns : List Nd) (i : Int) : Bool := rootGo ns (ns.length + 1) i
def entOk (ns : List Nd) (l : List En) (k : Nat) : Bool := getB ns (l.getD k zEn).f1 && !decide ((l.getD k zEn).f1 = 0)
def right1F (ns : List Nd) (i : Nat) : Bool :=
  let n := ns.getD i zNd
  if n.f0 = 0 then decide (n = zNd)
  else if n.f0 < 1 ∨ 3 < n.f0 ∨ n.f1 < 0 ∨ 63 < n.f1 ∨ n.f4 < 0 then false
  else if (¬ n.f0 = 2 ∧ ¬ n.f7 = []) ∨ (n.f0 = 2 ∧ ¬ n.f6.toList = []) ∨ sortedF n.f7 = false then false
  else if (List.range n.f7.length).all (entOk ns n.f7) = false then false
  else if i = 0 then decide (n.f0 = 2 ∧ n.f5 = 0 ∧ n.f3 = 1)
  else if ¬ n.f3 = (namesF ns i).1 ∨ ((namesF ns i).1 = 0 ∧ n.f4 < 1) then false
  else if ¬ n.f0 = 2 then true
  else if (namesF ns i).1 = 0 then decide (n.f7 = [] ∧ n.f5 = 0)
  else decide ((namesF ns i).1 = 1 ∧ n.f5 = (namesF ns i).2) && rootedF ns i
def rightF (ns : List Nd) (m r : Int) : Bool := decide (ns ≠ [] ∧ (ns.length : Int) ≤ m ∧ bytesF ns ≤ r ∧ (ns.getD 0 zNd).f0 = 2) && (List.range ns.length).all (right1F ns)
theorem all_succ (p : Nat → Bool) (i : Nat) : (List.range (i + 1)).all p = ((List.range i).all p && p i) := by rw [List.range_succ, List.all_append]; simp
theorem all_no {p : Nat → Bool} {i N : Nat} (h : i < N) (hp : p i = false) : (List.range N).all p = false := by
  rw [Bool.eq_false_iff]; intro ha
  have := List.all_eq_true.1 ha i (List.mem_range.2 h)
  rw [hp] at this; cases this
theorem getD_of {α : Type} {l : List α} {i : Nat} {x d : α} (h : l[i]? = some x) : l.getD i d = x := by simp [List.getD, h]
theorem tE : (⟨#[]⟩ : ByteArray).toList = [] := by rw [toList_data]
theorem rlegal.cv (p : ByteArray) (u : Mem) (hp : p.size ≤ 1000000000000000) : CV Tryd.prog 62 [.string p] [] u fun v cs u' => cs = [] ∧ v = .int .i64 (legalF p) := by
  obtain ⟨l, rfl⟩ : ∃ l, p = bs l := ⟨p.data.toList, (bs_of p).symm⟩
  rw [bs_size] at hp
  refine cv_of names draws (fn := Tryd.f62) (b := bodyOf Tryd.f62) rfl rfl [⟨4, [3], []⟩] (rlegal.args (bs l, ())) (rlegal.giv _) (fun _ => 0) (rlegal.run _) (by kernel_rfl) rfl rfl ?_
  have hz : ((bs l).size : Int) = (l.length : Int) := by rw [bs_size]
  have hc : E.den (.ite (.ite (.scmp .eql (.at (bs l)) (.t ⟨#[]⟩)) (.b true) (.scmp .eql (.at (bs l)) (.t ⟨#[46]⟩))) (.b true) (.scmp .eql (.at (bs l)) (.t ⟨#[46, 46]⟩)) : E S.ty .B) = decide ((bs l).toList = [] ∨ (bs l).toList = [46] ∨ (bs l).toList = [46, 46]) := by
    simp only [E.den, cmpT, tE, dot1, dot2]
    rw [Bool.eq_iff_iff]
    simp only [Bool.cond_eq_ite, decide_eq_true_eq, beq_iff_eq]
    by_cases h1 : (bs l).toList = [] <;> by_cases h2 : (bs l).toList = [46] <;> by_cases h3 : (bs l).toList = [46, 46] <;> simp_all
  unfold rlegal.T legalF
  refine ⟨fun h => ?_, fun h => ?_⟩
  · have h : _ = true := h
    rw [hc, decide_eq_true_eq] at h
    rw [if_pos h]; exact ⟨rfl, rfl⟩
  have h : _ = false := h
  rw [hc, decide_eq_false_iff_not] at h
  rw [if_neg h, bs_data, bs_size]
  refine hold_count l.length (fun i u' => u.le u' ∧ (l.take i).any (fun c => c == 47 || c == 0) = false) ⟨Mem.le_refl u, rfl⟩ ?_
  rintro i u1 hi ⟨hu1, hI⟩
  refine ⟨fun hlt => ?_, fun hge => ?_⟩
  · simp only [E.den, cT_lss, hz] at hlt
    have hlt : (i : Int) < (l.length : Int) := hlt
    have hil : i < l.length := by omega
    have e1 : byteAt (bs l) (i : Int) = ((l[i]).toNat : Int) := byte_bs l i hil
    have htk : l.take (i + 1) = l.take i ++ [l[i]] := List.take_succ_eq_append_getElem hil
    have hbo : (0 : Int) ≤ (i : Int) ∧ (i : Int) < (l.length : Int) := ⟨by omega, hlt⟩
    have e4 : ∀ c d : UInt8, cmpI .eql (c.toNat : Int) (d.toNat : Int) = (c == d) := fun c d => by rw [cD_eql, Bool.eq_iff_iff]; simp only [decide_eq_true_eq, beq_iff_eq]; exact u8_eq c d
    have e47 := e4 l[i] 47
    have e00 := e4 l[i] 0
    rw [show ((47 : UInt8).toNat : Int) = 47 from rfl] at e47
    rw [show ((0 : UInt8).toNat : Int) = 0 from rfl] at e00
    simp only [Hold, PubTo, SV.den, E.den, denL, binI, cT_eql, cF_eql, cT_neq, cF_neq, cT_lss, cF_lss, cT_leq, cF_leq, cT_gtr, cF_gtr, cT_geq, cF_geq, tT_eql, tF_eql, tT_neq, tF_neq, rowsD, denLL, Ob.den, den_cells, List.map_nil, List.map_cons, true_implies, forall_const, true_and, and_true, Bool.true_eq_false, Bool.false_eq_true, reduceCtorEq, false_implies, implies_true, Bool.not_not, Bool.not_true, Bool.not_false, Bool.not_eq_true', Bool.not_eq_false', cond_true, cond_false, Nat.add_eq, Nat.mul_eq, Nat.sub_eq, Nat.add_zero, Nat.zero_mul, Nat.zero_add, hz, e1, e47, e00, wrap_succ (show i < 4611686018427387904 by omega)]
    refine ⟨hbo, fun _ => hbo, fun h0 => ?_, fun h0 => ⟨by simp, rfl, rfl, hil, hu1, ?_⟩⟩
    · have h0 : (l[i] == 47 || l[i] == 0) = true := by
        have h0 : (bif l[i] == 47 then true else l[i] == 0) = true := h0
        rw [Bool.or_eq_true]; revert h0; cases l[i] == 47 <;> simp
      rw [if_pos (List.any_eq_true.2 ⟨_, List.getElem_mem hil, h0⟩)]
    · have h0 : (l[i] == 47 || l[i] == 0) = false := by
        have h0 : (bif l[i] == 47 then true else l[i] == 0) = false := h0
        revert h0; cases l[i] == 47 <;> simp
      rw [htk, List.any_append, hI]; simpa using h0
  · simp only [E.den, cF_lss, hz] at hge
    have hge : (l.length : Int) ≤ (i : Int) := hge
    obtain rfl : i = l.length := by omega
    rw [List.take_length] at hI
    rw [if_neg (by rw [hI]; simp)]
    refine ⟨fun h3 => ?_, fun h3 => ?_⟩
    · simp only [E.den, cT_gtr, hz] at h3
      have h3 : (12 : Int) < (l.length : Int) := h3
      rw [if_pos (by omega)]; exact ⟨rfl, rfl⟩
    · simp only [E.den, cF_gtr, hz] at h3
      have h3 : (l.length : Int) ≤ 12 := h3
      rw [if_neg (by omega)]; exact ⟨rfl, rfl⟩
theorem rsorted.cv (A : Option Addr) (c : Nat) (l : List En) (u : Mem) (hd : EntAt u A l) (hl : l.length ≤ 1000000) (hs : ∀ e ∈ l, e.f0.size ≤ 1000000000000000) :
    CV Tryd.prog 47 [.slice A l.length c] [] u fun v cs _ => cs = [] ∧ v = .bool (sortedF l) := by
  refine cv_of names draws (fn := Tryd.f47) (b := bodyOf Tryd.f47) rfl rfl [⟨2, [3], []⟩] (rsorted.args ((A, l.length, c), ())) (rsorted.giv _) (fun _ => 0) (rsorted.run _) (by kernel_rfl) rfl rfl ?_
  unfold rsorted.T
  refine hold_count l.length (fun i u' => u.le u' ∧ (List.range i).all (sortedAt l) = true) ⟨Mem.le_refl u, rfl⟩ ?_
  rintro i u1 hi ⟨hu1, hI⟩
  refine ⟨fun hlt => ?_, fun hge => ?_⟩
  · simp only [E.den, cT_lss] at hlt
    have hlt : (i : Int) < (l.length : Int) := hlt
    have hil : i < l.length := by omega
    obtain ⟨e, he⟩ : ∃ e, l[i]? = some e := ⟨_, List.getElem?_eq_getElem hil⟩
    have hx := (hd i e he).mono hu1
    have hpb : (0 : Int) ≤ (i : Int) ∧ (i : Int) < (l.length : Int) ∧ A.isSome = true := ⟨by omega, hlt, hx.some⟩
    have hp : sortedAt l i = (decide (legalF e.f0 = 0) && (decide (i = 0) || !cmpT .leq e.f0 (l.getD (i - 1) zEn).f0)) := by unfold sortedAt; rw [getD_of he]
    simp only [Hold, PubTo, SV.den, E.den, denL, binI, cT_eql, cF_eql, cT_neq, cF_neq, cT_lss, cF_lss, cT_leq, cF_leq, cT_gtr, cF_gtr, cT_geq, cF_geq, tT_eql, tF_eql, tT_neq, tF_neq, rowsD, denLL, Ob.den, den_cells, List.map_nil, List.map_cons, true_implies, forall_const, true_and, and_true, Bool.true_eq_false, Bool.false_eq_true, reduceCtorEq, false_implies, implies_true, Bool.not_not, Bool.not_true, Bool.not_false, Bool.not_eq_true', Bool.not_eq_false', cond_true, cond_false, Nat.add_eq, Nat.mul_eq, Nat.sub_eq, Nat.add_zero, Nat.zero_mul, Nat.zero_add]
    refine ⟨hpb, hx.some, (e.f0, ()), by rw [Int.toNat_natCast]; exact hx.part 0 1, ?_⟩
    refine (rlegal.cv e.f0 u1 (hs e (List.mem_of_getElem? he))).mono fun v cs u2 hu2 ⟨hc, hv⟩ => ⟨(legalF e.f0, ()), (), hv, hc, ?_⟩
    have hx2 := hx.mono hu2
    have c1 : cmpI .neq (legalF e.f0) 0 = decide (¬ legalF e.f0 = 0) := cD_neq
    have c2 : cmpI .gtr (i : Int) 0 = decide (0 < i) := by rw [Bool.eq_iff_iff]; simp only [cT_gtr, decide_eq_true_eq]; omega
    simp only [c1, c2]
    have fin : ∀ b : Bool, sortedAt l i = !b → (b = true → sortedF l = false) ∧ (b = false → (List.range (i + 1)).all (sortedAt l) = true) := fun b hb => ⟨fun h => all_no hil (by rw [hb, h]; rfl), fun h => by rw [all_succ, hI, hb, h]; rfl⟩
    by_cases hg : legalF e.f0 = 0 ∧ 0 < i
    · obtain ⟨f, hf⟩ : ∃ f, l[i - 1]? = some f := ⟨_, List.getElem?_eq_getElem (by omega)⟩
      have hy := (hd (i - 1) f hf).mono (Mem.le_trans hu1 hu2)
      have w1 : IntKind.i64.wrap ((i : Int) - 1) = ((i - 1 : Nat) : Int) := by rw [IntKind.wrap_i64] <;> omega
      have hpb2 : (0 : Int) ≤ ((i - 1 : Nat) : Int) ∧ ((i - 1 : Nat) : Int) < (l.length : Int) ∧ A.isSome = true := ⟨by omega, by omega, hx.some⟩
      rw [getD_of hf] at hp
      simp only [hg.1, hg.2, not_true, decide_false, decide_true, Bool.not_false, cond_true, cond_false, w1, Hold, PubTo, SV.den, E.den, denL, binI, cT_eql, cF_eql, cT_neq, cF_neq, cT_lss, cF_lss, cT_leq, cF_leq, cT_gtr, cF_gtr, cT_geq, cF_geq, tT_eql, tF_eql, tT_neq, tF_neq, rowsD, denLL, Ob.den, den_cells, List.map_nil, List.map_cons, true_implies, forall_const, true_and, and_true, Bool.true_eq_false, Bool.false_eq_true, reduceCtorEq, false_implies, implies_true, Bool.not_not, Bool.not_true, Bool.not_false, Bool.not_eq_true', Bool.not_eq_false', cond_true, cond_false, Nat.add_eq, Nat.mul_eq, Nat.sub_eq, Nat.add_zero, Nat.zero_mul, Nat.zero_add, wrap_succ (show i < 4611686018427387904 by omega)]
      have hb := fin (cmpT .leq e.f0 f.f0) (by rw [hp, hg.1, decide_eq_false (show ¬ i = 0 by omega)]; rfl)
      refine ⟨hpb, hx.some, (e.f0, ()), by rw [Int.toNat_natCast]; exact hx2.part 0 1, hpb2, hy.some, (f.f0, ()), by rw [Int.toNat_natCast]; exact hy.part 0 1, fun h => ?_, fun h => ⟨by simp, rfl, rfl, hil, Mem.le_trans hu1 hu2, hb.2 h⟩⟩
      rw [hb.1 h]
    · have hgd : (bif !decide (¬ legalF e.f0 = 0) then decide (0 < i) else false) = false := by
        by_cases h1 : legalF e.f0 = 0
        · have : ¬ 0 < i := fun h => hg ⟨h1, h⟩
          simp [h1, this]
        · simp [h1]
      simp only [hgd, Hold, PubTo, SV.den, E.den, denL, binI, cT_eql, cF_eql, cT_neq, cF_neq, cT_lss, cF_lss, cT_leq, cF_leq, cT_gtr, cF_gtr, cT_geq, cF_geq, tT_eql, tF_eql, tT_neq, tF_neq, rowsD, denLL, Ob.den, den_cells, List.map_nil, List.map_cons, true_implies, forall_const, true_and, and_true, Bool.true_eq_false, Bool.false_eq_true, reduceCtorEq, false_implies, implies_true, Bool.not_not, Bool.not_true, Bool.not_false, Bool.not_eq_true', Bool.not_eq_false', cond_true, cond_false, Nat.add_eq, Nat.mul_eq, Nat.sub_eq, Nat.add_zero, Nat.zero_mul, Nat.zero_add, dflt, wrap_succ (show i < 4611686018427387904 by omega)]
      have hb := fin (decide (¬ legalF e.f0 = 0)) (by
        rw [hp]
        by_cases h1 : legalF e.f0 = 0
        · have : i = 0 := by have : ¬ 0 < i := fun h => hg ⟨h1, h⟩; omega
          simp [h1, this]
        · simp [h1])
      have he2 : (bif decide (¬ legalF e.f0 = 0) then true else bif decide (0 < i) then cmpT .leq (dfltK .t) (dfltK .t) else false) = decide (¬ legalF e.f0 = 0) := by
        by_cases h1 : legalF e.f0 = 0
        · have : ¬ 0 < i := fun h => hg ⟨h1, h⟩
          simp [h1, this]
        · simp [h1]
      refine ⟨fun h => ?_, fun h => ⟨by simp, rfl, rfl, hil, Mem.le_trans hu1 hu2, hb.2 (he2 ▸ h)⟩⟩
      rw [hb.1 (he2 ▸ h)]
  · simp only [E.den, cF_lss] at hge
    have hge : (l.length : Int) ≤ (i : Int) := hge
    obtain rfl : i = l.length := by omega
    unfold sortedF; rw [hI]; exact ⟨rfl, rfl⟩
end Go.Proofs.YthagmakojbfmaaaDoor.Sx
