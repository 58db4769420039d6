/- By Sx: the walker's step. -/
import Derived.Test.YthagmakojbfmaaaDoorSwC
set_option maxRecDepth 100000
set_option linter.unusedVariables false
set_option linter.unusedSimpArgs false
namespace Go.Proofs.YthagmakojbfmaaaDoor.Sx
open Go Go.RowKit Go.Proofs.YthagmakojbfmaaaDoor
def namedB (at_ : Int) (n : Nd) (part : ByteArray) : Int := if part.toList = [46] then at_ else if part.toList = [46, 46] then n.f5 else inoL n.f7 part
theorem toList_data (x : ByteArray) : x.toList = x.data.toList := by
  have := Lib.extract_toList x 0 x.size
  rw [ByteArray.extract_zero_size] at this
  rw [this, List.drop_zero, List.take_of_length_le (by simp)]
theorem dot1 : (⟨#[46]⟩ : ByteArray).toList = [46] := by rw [toList_data]
theorem dot2 : (⟨#[46, 46]⟩ : ByteArray).toList = [46, 46] := by rw [toList_data]
theorem named.cv (k : Wk) (n : Nd) (part : ByteArray) (a7 : Option Addr) (c7 : Nat) (d : Option Addr × Nat × Nat) (m r : Int) (p : Option Addr × Nat × Nat) (b : Nat) (u : Mem) (he : EntAt u a7 n.f7) (hl : n.f7.length ≤ 1000000) (hs : Sorted n.f7 part) :
    CV Tryd.prog 56 [.pointer (some ⟨b, 0, none⟩), .agg (cv K0 (n.row a7 c7)).toArray, .string part] [(b, cv K1 (k.row d m r p))] u fun v cs _ => cs = [cv K1 (k.row d m r p)] ∧ v = .int .i64 (namedB k.at_ n part) := by
  refine cv_of names draws (fn := Tryd.f56) (b := bodyOf Tryd.f56) rfl rfl [] (named.args (k.row d m r p) (n.row a7 c7) (part, ())) (named.giv _ _ _) (fun _ => b) (named.run _ _ _) (by kernel_rfl) rfl rfl ?_
  simp only [named.T, Hold, PubTo, SV.den, E.den, denL, binI, cT_eql, cF_eql, cT_neq, cF_neq, cT_lss, cF_lss, cT_leq, cF_leq, cT_gtr, cF_gtr, cT_geq, cF_geq, tT_eql, tF_eql, tT_neq, tF_neq, rowsD, denLL, Ob.den, den_cells, List.map_nil, List.map_cons, true_implies, forall_const, true_and, and_true, Bool.true_eq_false, Bool.false_eq_true, reduceCtorEq, false_implies, implies_true, Bool.not_not, Bool.not_true, Bool.not_false, Bool.not_eq_true', Bool.not_eq_false', cond_true, cond_false, Nat.add_eq, Nat.mul_eq, Nat.sub_eq, Nat.add_zero, Nat.zero_mul, Nat.zero_add, dot1, dot2]
  intro b1 h1
  refine ⟨fun h => ?_, fun h => ⟨fun h2 => ?_, fun h2 => ?_⟩⟩
  · unfold namedB; rw [if_pos h]; rfl
  · unfold namedB; rw [if_neg h, if_pos h2]; rfl
  · refine (find.cv a7 c7 n.f7 part u he hl hs).mono fun v cs u' hu ⟨hc, hv⟩ => ⟨(inoL n.f7 part, (findL n.f7 part).isSome, ()), (), hv, hc, ?_⟩
    unfold namedB; rw [if_neg h, if_neg h2]
end Go.Proofs.YthagmakojbfmaaaDoor.Sx
