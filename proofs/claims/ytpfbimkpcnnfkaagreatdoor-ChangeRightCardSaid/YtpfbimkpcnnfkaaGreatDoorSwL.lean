/- By Sx: the document's May, Find, Get, dir, look, Walk, Node. -/
import Derived.Test.YtpfbimkpcnnfkaaGreatDoorSwI
import Derived.Test.YtpfbimkpcnnfkaaGreatDoorSxTd
/- By Sx: the document's Check, May, Find, Get, dir, look. -/
/- The names of a path, in plain words; by Sx: the document's Split and Check. -/
set_option maxRecDepth 100000
set_option linter.unusedVariables false
set_option linter.unusedSimpArgs false
namespace Go.Proofs.YtpfbimkpcnnfkaaGreatDoor.Sx
open Go Go.RowKit Go.Proofs.YtpfbimkpcnnfkaaGreatDoor Go.Proofs.YtpfbimkpcnnfkaaGreatDoor.Ext
abbrev B := List UInt8
theorem u8_eq (c d : UInt8) : ((c.toNat : Int) = (d.toNat : Int)) ↔ c = d := by
 constructor
 ·intro h; exact UInt8.toNat_inj.1 (by omega)
 ·intro h; rw [h]
theorem byte_bs (l : B) (i : Nat) (h : i < l.length) : byteAt (bs l) (i : Int) = ((l[i]).toNat : Int) := by
 unfold byteAt
 have : (bs l)[(i : Int).toNat]? = some l[i] := by
  rw [Int.toNat_natCast]
  show (if h : i < (bs l).size then some (bs l)[i] else none) = _
  rw [dif_pos (by rw [bs_size]; exact h)]
  congr 1
 rw [this]; rfl
end Go.Proofs.YtpfbimkpcnnfkaaGreatDoor.Sx
set_option maxRecDepth 100000
set_option linter.unusedVariables false
set_option linter.unusedSimpArgs false
namespace Go.Proofs.YtpfbimkpcnnfkaaGreatDoor.Sx
open Go Go.RowKit Go.Proofs.YtpfbimkpcnnfkaaGreatDoor Go.Proofs.YtpfbimkpcnnfkaaGreatDoor.Ext
theorem index_of : ∀ (l : B) (c : UInt8), 0 ≤ Lib.indexByte l c ↔ c ∈ l
 | [], c => by simp [Lib.indexByte]
 | x :: r, c => by
  have ih := index_of r c
  unfold Lib.indexByte
  by_cases h : x = c
  ·subst h; simp
  ·simp only [beq_iff_eq, h, if_false, List.mem_cons]
   constructor
   ·intro h2
    refine .inr (ih.1 ?_)
    split at h2
    ·omega
    ·omega
   ·rintro (h2 | h2)
    ·exact absurd h2.symm h
    ·have := ih.2 h2
     split
     ·omega
     ·omega
theorem check_eq (p : ByteArray) : checkB p = if p.size = 0 then 2 else if 100 < p.size then 9 else if (0 : UInt8) ∈ p.data.toList then 1 else if (partsB p).any (fun x => decide (12 < x.size)) = true then 9 else 0 := by
 unfold checkB
 have h1 : (0 ≤ Lib.indexByte p.data.toList 0) = ((0 : UInt8) ∈ p.data.toList) := propext (index_of _ _)
 have h2 : (partsL p).any (fun x => decide (12 < x.2.size)) = (partsB p).any (fun x => decide (12 < x.size)) := by unfold partsB; rw [List.any_map]; rfl
 simp only [h1, h2]
end Go.Proofs.YtpfbimkpcnnfkaaGreatDoor.Sx
set_option maxRecDepth 100000
set_option linter.unusedVariables false
set_option linter.unusedSimpArgs false
namespace Go.Proofs.YtpfbimkpcnnfkaaGreatDoor.Sx
open Go Go.RowKit Go.Proofs.YtpfbimkpcnnfkaaGreatDoor Go.Proofs.YtpfbimkpcnnfkaaGreatDoor.Ext
theorem cmp_zero : ∀ a b : List UInt8, Lib.compareBytes a b = 0 ↔ a = b
 | [], [] => by simp [Lib.compareBytes]
 | [], _ :: _ => by simp [Lib.compareBytes]
 | _ :: _, [] => by simp [Lib.compareBytes]
 | a :: u, b :: v => by
  unfold Lib.compareBytes
  by_cases h1 : a < b
  ·have hne : ¬ a = b := by rintro rfl; exact UInt8.lt_irrefl _ h1
   simp [h1, hne]
  ·by_cases h2 : b < a
   ·have hne : ¬ a = b := by rintro rfl; exact h1 h2
    simp [h1, h2, hne]
   ·have he : a = b := UInt8.le_antisymm (UInt8.not_lt.1 h2) (UInt8.not_lt.1 h1)
    subst he
    simp [h1, cmp_zero u v]
theorem ord_zero (e : En) (name : ByteArray) : ord e name = 0 ↔ e.f0.toList = name.toList := by
 unfold ord; rw [cmp_zero, toList_data, toList_data]
theorem rget.cv (A : Option Addr) (c : Nat) (l : List Nd) (m r i : Int) (u : Mem) (hd : DiskAt u A l) (hl : l.length ≤ 1000000) :
  CV Tryz.prog 60 [.agg #[.slice A l.length c, .int .i64 m, .int .i64 r], .int .i64 i] [] u fun v cs u' => cs = [] ∧ ∃ a7 c7, v = .tuple #[.agg (cv K0 ((getL l i).row a7 c7)).toArray, .bool (getB l i)] ∧ (getL l i).f7.length ≤ c7 ∧ EntAt u' a7 (getL l i).f7 := by
 refine cv_of names draws (fn := Tryz.f60) (b := bodyOf Tryz.f60) rfl rfl [] (rget.args ((A, l.length, c), m, r, ()) (i, ())) (rget.giv _ _) (fun _ => 0) (rget.run _ _) (by kernel_rfl) rfl rfl ?_
 simp only [rget.T, Hold, PubTo, SV.den, E.den, denL, binI, cT_eql, cF_eql, cT_neq, cF_neq, cT_lss, cF_lss, cT_leq, cF_leq, cT_gtr, cF_gtr, cT_geq, cF_geq, tT_eql, tF_eql, tT_neq, tF_neq, rowsD, denLL, Ob.den, den_cells, List.map_nil, List.map_cons, true_implies, forall_const, true_and, and_true, Bool.true_eq_false, Bool.false_eq_true, reduceCtorEq, false_implies, implies_true, Bool.not_not, Bool.not_true, Bool.not_false, Bool.not_eq_true', Bool.not_eq_false', cond_true, cond_false, Nat.add_eq, Nat.mul_eq, Nat.sub_eq, Nat.add_zero, Nat.zero_mul, Nat.zero_add]
 intro b1 h1 b2 h2
 have hlss : cmpI .lss i 0 = decide (i < 0) := rfl
 have hgeq : cmpI .geq i (l.length : Int) = decide ((l.length : Int) ≤ i) := by rw [Bool.eq_iff_iff]; simp [cmpI]
 simp only [hlss, hgeq]
 by_cases hx : 0 ≤ i ∧ i < (l.length : Int)
 ·have hil : i.toNat < l.length := by omega
  obtain ⟨a7, c7, k1, k2, k3⟩ := hd i.toNat l[i.toNat] (List.getElem?_eq_getElem hil)
  have hg : l.getD i.toNat zNd = l[i.toNat] := by simp [List.getD, hil]
  have hb : getB l i = (l[i.toNat].f0 != 0) := by
   unfold getB; rw [hg, Bool.eq_iff_iff]; simp; omega
  have hi : 0 ≤ i ∧ i < (l.length : Int) ∧ A.isSome = true := ⟨hx.1, by omega, k2.some⟩
  have n1 : ¬ i < 0 := by omega
  have n2 : ¬ (l.length : Int) ≤ i := by omega
  simp only [decide_eq_false n1, decide_eq_false n2, cond_false, Bool.not_false, Hold, PubTo, SV.den, E.den, denL, binI, cT_eql, cF_eql, cT_neq, cF_neq, cT_lss, cF_lss, cT_leq, cF_leq, cT_gtr, cF_gtr, cT_geq, cF_geq, tT_eql, tF_eql, tT_neq, tF_neq, rowsD, denLL, Ob.den, den_cells, List.map_nil, List.map_cons, true_implies, forall_const, true_and, and_true, Bool.true_eq_false, Bool.false_eq_true, reduceCtorEq, false_implies, implies_true, Bool.not_not, Bool.not_true, Bool.not_false, Bool.not_eq_true', Bool.not_eq_false', cond_true, cond_false, Nat.add_eq, Nat.mul_eq, Nat.sub_eq, Nat.add_zero, Nat.zero_mul, Nat.zero_add]
  refine ⟨hi, k2.some, (l[i.toNat].f0, ()), k2.part 0 1, fun h0 => ?_, fun h0 => ⟨hi, l[i.toNat].row a7 c7, k2, ?_⟩⟩
  ·have h0 : l[i.toNat].f0 = 0 := h0
   have : getB l i = false := by rw [hb]; simpa using h0
   unfold getL; rw [this]
   exact ⟨none, 0, rfl, Nat.zero_le _, fun i e hi => by simp [zNd] at hi⟩
  ·have h0 : ¬ l[i.toNat].f0 = 0 := h0
   have : getB l i = true := by rw [hb]; simpa using h0
   unfold getL; rw [this, if_pos rfl, hg]
   exact ⟨a7, c7, rfl, k1, k3⟩
 ·have : getB l i = false := by unfold getB; simp; omega
  have hb : (bif decide (i < 0) then true else decide ((l.length : Int) ≤ i)) = true := by
   by_cases h : i < 0
   ·rw [decide_eq_true h]; rfl
   ·rw [decide_eq_false h]; simp; omega
  simp only [hb, Bool.not_true, Hold, PubTo, SV.den, E.den, denL, binI, cT_eql, cF_eql, cT_neq, cF_neq, cT_lss, cF_lss, cT_leq, cF_leq, cT_gtr, cF_gtr, cT_geq, cF_geq, tT_eql, tF_eql, tT_neq, tF_neq, rowsD, denLL, Ob.den, den_cells, List.map_nil, List.map_cons, true_implies, forall_const, true_and, and_true, Bool.true_eq_false, Bool.false_eq_true, reduceCtorEq, false_implies, implies_true, Bool.not_not, Bool.not_true, Bool.not_false, Bool.not_eq_true', Bool.not_eq_false', cond_true, cond_false, Nat.add_eq, Nat.mul_eq, Nat.sub_eq, Nat.add_zero, Nat.zero_mul, Nat.zero_add]
  unfold getL; rw [this]
  exact ⟨none, 0, rfl, Nat.zero_le _, fun i e hi => by simp [zNd] at hi⟩
end Go.Proofs.YtpfbimkpcnnfkaaGreatDoor.Sx
