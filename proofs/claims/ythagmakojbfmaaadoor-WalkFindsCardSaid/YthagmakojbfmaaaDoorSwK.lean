/- By Sx: the document's Check, May, Find, Get, dir, look. -/
import Derived.Test.YthagmakojbfmaaaDoorSwJ
set_option maxRecDepth 100000
set_option linter.unusedVariables false
set_option linter.unusedSimpArgs false
namespace Go.Proofs.YthagmakojbfmaaaDoor.Sx
open Go Go.RowKit Go.Proofs.YthagmakojbfmaaaDoor Go.Proofs.YthagmakojbfmaaaDoor.Ext
theorem index_of : ∀ (l : B) (c : UInt8), 0 ≤ Lib.indexByte l c ↔ c ∈ l
  | [], c => by simp [Lib.indexByte]
  | x :: r, c => by
    have ih := index_of r c
    unfold Lib.indexByte
    by_cases h : x = c
    · subst h; simp
    · simp only [beq_iff_eq, h, if_false, List.mem_cons]
      constructor
      · intro h2
        refine .inr (ih.1 ?_)
        split at h2
        · omega
        · omega
      · rintro (h2 | h2)
        · exact absurd h2.symm h
        · have := ih.2 h2
          split
          · omega
          · omega
theorem check_eq (p : ByteArray) : checkB p = if p.size = 0 then 2 else if 100 < p.size then 9 else if (0 : UInt8) ∈ p.data.toList then 1 else if (partsB p).any (fun x => decide (12 < x.size)) = true then 9 else 0 := by
  unfold checkB
  have h1 : (0 ≤ Lib.indexByte p.data.toList 0) = ((0 : UInt8) ∈ p.data.toList) := propext (index_of _ _)
  have h2 : (partsL p).any (fun x => decide (12 < x.2.size)) = (partsB p).any (fun x => decide (12 < x.size)) := by unfold partsB; rw [List.any_map]; rfl
  simp only [h1, h2]
theorem rcheck.cv (p : ByteArray) (u : Mem) (hp : p.size ≤ 1000000000) : CV Tryd.prog 25 [.string p] [] u fun v cs u' => cs = [] ∧ v = .int .i64 (checkB p) := by
  obtain ⟨l, rfl⟩ : ∃ l, p = bs l := ⟨p.data.toList, (bs_of p).symm⟩
  rw [bs_size] at hp
  refine cv_of names draws (fn := Tryd.f25) (b := bodyOf Tryd.f25) rfl rfl [⟨6, [3], []⟩, ⟨12, [7], []⟩] (rcheck.args (bs l, ())) (rcheck.giv _) (fun _ => 0) (rcheck.run _) (by kernel_rfl) rfl rfl ?_
  have hz : ((bs l).size : Int) = (l.length : Int) := by rw [bs_size]
  rw [check_eq, bs_size, bs_data]
  unfold rcheck.T
  refine ⟨fun h => ?_, fun h => ⟨fun h1 => ?_, fun h1 => ?_⟩⟩
  all_goals simp only [E.den, tT_eql, tF_eql, cT_gtr, cF_gtr, hz] at h
  · have : l = [] := by rw [show (⟨#[]⟩ : ByteArray) = bs [] from rfl] at h; simpa [bs_toList] using h
    rw [this]; exact ⟨rfl, rfl⟩
  all_goals
    have h0 : ¬ l.length = 0 := fun e => h (by rw [List.length_eq_zero_iff.1 e]; rfl)
    simp only [E.den, cT_gtr, cF_gtr, hz] at h1
    rw [if_neg h0]
  · rw [if_pos (by omega)]; exact ⟨rfl, rfl⟩
  rw [if_neg (by omega)]
  refine hold_count l.length (fun i u' => u.le u' ∧ (0 : UInt8) ∉ l.take i) ⟨Mem.le_refl u, by simp⟩ ?_
  rintro i u1 hi ⟨hu1, hI⟩
  refine ⟨fun hlt => ?_, fun hge => ?_⟩
  · simp only [E.den, cT_lss, hz] at hlt
    have hlt : (i : Int) < (l.length : Int) := hlt
    have hil : i < l.length := by omega
    have e1 : byteAt (bs l) (i : Int) = ((l[i]).toNat : Int) := byte_bs l i hil
    have htk : l.take (i + 1) = l.take i ++ [l[i]] := List.take_succ_eq_append_getElem hil
    simp only [Hold, PubTo, SV.den, E.den, denL, binI, cT_eql, cF_eql, cT_neq, cF_neq, cT_lss, cF_lss, cT_leq, cF_leq, cT_gtr, cF_gtr, cT_geq, cF_geq, tT_eql, tF_eql, tT_neq, tF_neq, rowsD, denLL, Ob.den, den_cells, List.map_nil, List.map_cons, true_implies, forall_const, true_and, and_true, Bool.true_eq_false, Bool.false_eq_true, reduceCtorEq, false_implies, implies_true, Bool.not_not, Bool.not_true, Bool.not_false, Bool.not_eq_true', Bool.not_eq_false', cond_true, cond_false, Nat.add_eq, Nat.mul_eq, Nat.sub_eq, Nat.add_zero, Nat.zero_mul, Nat.zero_add, hz, e1, wrap_succ (show i < 4611686018427387904 by omega)]
    have hbo : (0 : Int) ≤ (i : Int) ∧ (i : Int) < (l.length : Int) := ⟨by omega, hlt⟩
    refine ⟨hbo, fun h0 => ?_, fun h0 => ⟨by simp, rfl, rfl, hil, hu1, ?_⟩⟩
    · have : l[i] = 0 := (u8_eq _ 0).1 h0
      rw [if_pos (this ▸ List.getElem_mem hil)]
    · rw [htk, List.mem_append, List.mem_singleton]
      rintro (h2 | h2)
      · exact hI h2
      · exact h0 ((u8_eq _ 0).2 h2.symm)
  · simp only [E.den, cF_lss, hz] at hge
    have hge : (l.length : Int) ≤ (i : Int) := hge
    obtain rfl : i = l.length := by omega
    rw [List.take_length] at hI
    rw [if_neg hI]
    refine hold_call ((rsplit.cv (bs l) u1 (by rw [bs_size]; omega)).mono fun v cs u2 hu2 ⟨hc, s, hv, hs, hg⟩ => ⟨(s, pre47 (bs l), suf47 (bs l), ()), (), hv, hc, ?_⟩)
    have hpl := parts_le (bs l)
    rw [bs_size] at hpl
    have hps := strs_at hg hs
    generalize partsB (bs l) = ps at *
    refine hold_count ps.length (fun i u' => u2.le u' ∧ (ps.take i).any (fun x => decide (12 < x.size)) = false) ⟨Mem.le_refl _, by simp⟩ ?_
    rintro i u3 hi ⟨hu3, hI⟩
    refine ⟨fun hlt => ?_, fun hge => ?_⟩
    · simp only [E.den, cT_lss, hs] at hlt
      have hlt : (i : Int) < (ps.length : Int) := hlt
      have hil : i < ps.length := by omega
      obtain ⟨x, hx⟩ : ∃ x, ps[i]? = some x := ⟨_, List.getElem?_eq_getElem hil⟩
      have hr := (hps.at_ i x hx).mono hu3
      have htk : ps.take (i + 1) = ps.take i ++ [x] := by rw [List.take_succ_eq_append_getElem hil]; rw [List.getElem?_eq_getElem hil] at hx; cases hx; rfl
      have hpb : (0 : Int) ≤ (i : Int) ∧ (i : Int) < (ps.length : Int) ∧ s.1.isSome = true := ⟨by omega, hlt, hr.some⟩
      simp only [Hold, PubTo, SV.den, E.den, denL, binI, cT_eql, cF_eql, cT_neq, cF_neq, cT_lss, cF_lss, cT_leq, cF_leq, cT_gtr, cF_gtr, cT_geq, cF_geq, tT_eql, tF_eql, tT_neq, tF_neq, rowsD, denLL, Ob.den, den_cells, List.map_nil, List.map_cons, true_implies, forall_const, true_and, and_true, Bool.true_eq_false, Bool.false_eq_true, reduceCtorEq, false_implies, implies_true, Bool.not_not, Bool.not_true, Bool.not_false, Bool.not_eq_true', Bool.not_eq_false', cond_true, cond_false, Nat.add_eq, Nat.mul_eq, Nat.sub_eq, Nat.add_zero, Nat.zero_mul, Nat.zero_add, hs, wrap_succ (show i < 4611686018427387904 by omega)]
      refine ⟨hpb, (x, ()), by rw [Int.toNat_natCast, Nat.mul_one]; exact hr, fun h0 => ?_, fun h0 => ⟨by simp, rfl, rfl, hil, hu3, ?_⟩⟩
      · have h0 : (12 : Int) < (x.size : Int) := h0
        rw [if_pos (List.any_eq_true.2 ⟨x, List.mem_of_getElem? hx, by simp; omega⟩)]
      · have h0 : (x.size : Int) ≤ 12 := h0
        rw [htk, List.any_append, hI]; simp; omega
    · simp only [E.den, cF_lss, hs] at hge
      have hge : (ps.length : Int) ≤ (i : Int) := hge
      obtain rfl : i = ps.length := by omega
      rw [List.take_length] at hI
      rw [if_neg (by rw [hI]; simp)]
      exact ⟨rfl, rfl⟩
end Go.Proofs.YthagmakojbfmaaaDoor.Sx
