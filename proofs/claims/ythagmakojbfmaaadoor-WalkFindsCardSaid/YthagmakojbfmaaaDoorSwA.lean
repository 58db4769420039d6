/- By Sx: nodes and entries, as they lie in memory; disk.Get, mode.May, small ones. -/
import Derived.Test.YthagmakojbfmaaaDoorSxTa
import Derived.Test.YthagmakojbfmaaaDoorSxX
set_option maxRecDepth 100000
set_option linter.unusedVariables false
set_option linter.unusedSimpArgs false
namespace Go.Proofs.YthagmakojbfmaaaDoor.Sx
open Go Go.RowKit Go.Proofs.YthagmakojbfmaaaDoor
structure En where
  f0 : ByteArray
  f1 : Int
deriving DecidableEq
structure Nd where
  f0 : Int
  f1 : Int
  f2 : Int
  f3 : Int
  f4 : Int
  f5 : Int
  f6 : ByteArray
  f7 : List En
deriving DecidableEq
def zNd : Nd := ⟨0, 0, 0, 0, 0, 0, ⟨#[]⟩, []⟩
def Nd.row (n : Nd) (a : Option Addr) (c : Nat) : Cells S.ty K0 := (n.f0, n.f1, n.f2, n.f3, n.f4, n.f5, n.f6, (a, n.f7.length, c), ())
def EntAt (u : Mem) (a : Option Addr) (l : List En) : Prop := ∀ (i : Nat) e, l[i]? = some e → Reads u a (i * 2) [.string e.f0, .int .i64 e.f1]
def DiskAt (u : Mem) (a : Option Addr) (l : List Nd) : Prop := ∀ (i : Nat) n, l[i]? = some n → ∃ a7 c7, n.f7.length ≤ c7 ∧ Reads u a (i * 8) (cv K0 (n.row a7 c7)) ∧ EntAt u a7 n.f7
theorem EntAt.mono {u u' : Mem} {a : Option Addr} {l : List En} (h : EntAt u a l) (hu : u.le u') : EntAt u' a l := fun i e hi => (h i e hi).mono hu
theorem DiskAt.mono {u u' : Mem} {a : Option Addr} {l : List Nd} (h : DiskAt u a l) (hu : u.le u') : DiskAt u' a l := fun i n hi => by
  obtain ⟨a7, c7, h1, h2, h3⟩ := h i n hi
  exact ⟨a7, c7, h1, h2.mono hu, h3.mono hu⟩
def getB (l : List Nd) (i : Int) : Bool := decide (0 ≤ i ∧ i < l.length ∧ (l.getD i.toNat zNd).f0 ≠ 0)
def getL (l : List Nd) (i : Int) : Nd := if getB l i = true then l.getD i.toNat zNd else zNd
theorem betw.cv (i a b : Int) (u : Mem) : CV Tryd.prog 65 [.int .i64 i, .int .i64 a, .int .i64 b] [] u fun v cs _ => cs = [] ∧ v = .bool (decide (a ≤ i ∧ i ≤ b)) := by
  refine cv_of names draws (fn := Tryd.f65) (b := bodyOf Tryd.f65) rfl rfl [] (betw.args (i, ()) (a, ()) (b, ())) (betw.giv (i, ()) (a, ()) (b, ())) (fun _ => 0) (betw.run _ _ _) (by kernel_rfl) rfl rfl ?_
  simp only [betw.T, Hold, PubTo, SV.den, E.den, cmpI, List.map_nil, true_and, Value.bool.injEq]
  by_cases h : a ≤ i <;> by_cases h' : i ≤ b <;> simp [h, h']
theorem get.cv (A : Option Addr) (c : Nat) (l : List Nd) (m r i : Int) (u : Mem) (hd : DiskAt u A l) (hl : l.length ≤ 1000000) :
    CV Tryd.prog 54 [.agg #[.slice A l.length c, .int .i64 m, .int .i64 r], .int .i64 i] [] u fun v cs u' => cs = [] ∧ ∃ a7 c7, v = .tuple #[.agg (cv K0 ((getL l i).row a7 c7)).toArray, .bool (getB l i)] ∧ (getL l i).f7.length ≤ c7 ∧ EntAt u' a7 (getL l i).f7 := by
  refine cv_of names draws (fn := Tryd.f54) (b := bodyOf Tryd.f54) rfl rfl [] (get.args ((A, l.length, c), m, r, ()) (i, ())) (get.giv _ _) (fun _ => 0) (get.run _ _) (by kernel_rfl) rfl rfl ?_
  simp only [get.T, Hold, PubTo, SV.den, E.den, denL, binI, cT_eql, cF_eql, cT_neq, cF_neq, cT_lss, cF_lss, cT_leq, cF_leq, cT_gtr, cF_gtr, cT_geq, cF_geq, tT_eql, tF_eql, tT_neq, tF_neq, rowsD, denLL, Ob.den, den_cells, List.map_nil, List.map_cons, true_implies, forall_const, true_and, and_true, Bool.true_eq_false, Bool.false_eq_true, reduceCtorEq, false_implies, implies_true, Bool.not_not, Bool.not_true, Bool.not_false, Bool.not_eq_true', Bool.not_eq_false', cond_true, cond_false, Nat.add_eq, Nat.mul_eq, Nat.sub_eq, Nat.add_zero, Nat.zero_mul, Nat.zero_add]
  rw [show IntKind.i64.wrap ((l.length : Int) - 1) = (l.length : Int) - 1 by rw [IntKind.wrap_i64] <;> omega]
  intro b1 h1 b2 h2
  refine (betw.cv _ _ _ _).mono fun v cs u' hu ⟨hc, hv⟩ => ⟨(decide (0 ≤ i ∧ i ≤ (l.length : Int) - 1), ()), (), hv, hc, ?_⟩
  by_cases hx : 0 ≤ i ∧ i ≤ (l.length : Int) - 1
  · have hil : i.toNat < l.length := by omega
    obtain ⟨a7, c7, k1, k2, k3⟩ := hd i.toNat l[i.toNat] (List.getElem?_eq_getElem hil)
    have hg : l.getD i.toNat zNd = l[i.toNat] := by simp [List.getD, hil]
    have hb : getB l i = (l[i.toNat].f0 != 0) := by
      unfold getB; rw [hg, Bool.eq_iff_iff]; simp; omega
    have hi : 0 ≤ i ∧ i < (l.length : Int) ∧ A.isSome = true := ⟨hx.1, by omega, k2.some⟩
    rw [decide_eq_true hx]
    simp only [Hold, PubTo, SV.den, E.den, denL, binI, cT_eql, cF_eql, cT_neq, cF_neq, cT_lss, cF_lss, cT_leq, cF_leq, cT_gtr, cF_gtr, cT_geq, cF_geq, tT_eql, tF_eql, tT_neq, tF_neq, rowsD, denLL, Ob.den, den_cells, List.map_nil, List.map_cons, true_implies, forall_const, true_and, and_true, Bool.true_eq_false, Bool.false_eq_true, reduceCtorEq, false_implies, implies_true, Bool.not_not, Bool.not_true, Bool.not_false, Bool.not_eq_true', Bool.not_eq_false', cond_true, cond_false, Nat.add_eq, Nat.mul_eq, Nat.sub_eq, Nat.add_zero, Nat.zero_mul, Nat.zero_add, hi.2.2, hi]
    refine ⟨(l[i.toNat].f0, ()), ((k2.part 0 1).mono hu), fun h0 => ?_, fun h0 => ⟨_, (k2.mono hu), ⟨a7, c7, ?_, ?_, ?_⟩⟩⟩
    · have : getB l i = false := by rw [hb]; simpa using h0
      unfold getL
      rw [this]
      exact ⟨none, 0, rfl, Nat.zero_le _, fun i e hi => by simp [zNd] at hi⟩
    all_goals
      have h0 : ¬ l[i.toNat].f0 = 0 := h0
      have : getB l i = true := by rw [hb]; simpa using h0
      unfold getL
      simp only [this, if_true, hg]
    · exact k1
    · exact k3.mono hu
  · have : getB l i = false := by unfold getB; simp; omega
    rw [decide_eq_false hx]
    simp only [Hold, PubTo, SV.den, E.den, denL, binI, cT_eql, cF_eql, cT_neq, cF_neq, cT_lss, cF_lss, cT_leq, cF_leq, cT_gtr, cF_gtr, cT_geq, cF_geq, tT_eql, tF_eql, tT_neq, tF_neq, rowsD, denLL, Ob.den, den_cells, List.map_nil, List.map_cons, true_implies, forall_const, true_and, and_true, Bool.true_eq_false, Bool.false_eq_true, reduceCtorEq, false_implies, implies_true, Bool.not_not, Bool.not_true, Bool.not_false, Bool.not_eq_true', Bool.not_eq_false', cond_true, cond_false, Nat.add_eq, Nat.mul_eq, Nat.sub_eq, Nat.add_zero, Nat.zero_mul, Nat.zero_add, getL, this, if_false]
    exact ⟨none, 0, rfl, Nat.zero_le _, fun i e hi => by simp [zNd] at hi⟩
end Go.Proofs.YthagmakojbfmaaaDoor.Sx
