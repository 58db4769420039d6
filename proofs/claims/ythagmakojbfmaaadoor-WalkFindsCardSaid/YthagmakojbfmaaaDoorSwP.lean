/- By Sx: the document's Right. -/
import Derived.Test.YthagmakojbfmaaaDoorSwO
set_option maxRecDepth 100000
set_option linter.unusedVariables false
set_option linter.unusedSimpArgs false
namespace Go.Proofs.YthagmakojbfmaaaDoor.Sx
open Go Go.RowKit Go.Proofs.YthagmakojbfmaaaDoor Go.Proofs.YthagmakojbfmaaaDoor.Ext
structure Szs (ns : List Nd) : Prop where
  len : ns.length ≤ 1000000
  names : ∀ n ∈ ns, n.f7.length ≤ 1000000
  name : ∀ n ∈ ns, ∀ e ∈ n.f7, e.f0.size ≤ 1000000000000000
  data : ∀ n ∈ ns, n.f6.size ≤ 1000000000
theorem bOr {x y : Prop} [Decidable x] [Decidable y] : (bif decide x then true else decide y) = decide (x ∨ y) := by by_cases h : x <;> simp [h]
theorem bAnd {x y : Prop} [Decidable x] [Decidable y] : (bif decide x then decide y else false) = decide (x ∧ y) := by by_cases h : x <;> simp [h]
theorem cD_lss {x y : Int} : cmpI .lss x y = decide (x < y) := rfl
theorem cD_gtr {x y : Int} : cmpI .gtr x y = decide (y < x) := by rw [Bool.eq_iff_iff]; simp [cmpI]
theorem cD_leq {x y : Int} : cmpI .leq x y = decide (x ≤ y) := rfl
theorem tD_neq {x y : ByteArray} : cmpT .neq x y = decide (¬ x.toList = y.toList) := by rw [Bool.eq_iff_iff]; simp [cmpT]
theorem bNot {x : Prop} [Decidable x] : (!decide x) = decide (¬ x) := by by_cases h : x <;> simp [h]
theorem zEnts {u : Mem} {a : Option Addr} : EntAt u a [] := fun i e h => by simp at h
set_option maxHeartbeats 2000000 in
theorem rright1.cv (A : Option Addr) (c : Nat) (ns : List Nd) (m r : Int) (i : Nat) (u : Mem) (hd : DiskAt u A ns) (hs : Szs ns) (hi : i < ns.length) :
    CV Tryd.prog 33 [.agg #[.slice A ns.length c, .int .i64 m, .int .i64 r], .int .i64 i] [] u fun v cs _ => cs = [] ∧ v = .bool (right1F ns i) := by
  refine cv_of names draws (fn := Tryd.f33) (b := bodyOf Tryd.f33) rfl rfl [⟨9, [6], []⟩] (rright1.args ((A, ns.length, c), m, r, ()) (i, ())) (rright1.giv _ _) (fun _ => 0) (rright1.run _ _) (by kernel_rfl) rfl rfl ?_
  obtain ⟨n, hx⟩ : ∃ n, ns[i]? = some n := ⟨_, List.getElem?_eq_getElem hi⟩
  have hnm := List.mem_of_getElem? hx
  have hng : ns.getD i zNd = n := getD_of hx
  obtain ⟨a7, c7, k1, k2, k3⟩ := hd i n hx
  have b1 : (0 : Int) ≤ (i : Int) ∧ (i : Int) < (ns.length : Int) ∧ A.isSome = true := ⟨by omega, by omega, k2.some⟩
  obtain ⟨res, hres⟩ : ∃ res, res = right1F ns i := ⟨_, rfl⟩
  rw [← hres]
  unfold right1F at hres
  simp only [hng] at hres
  unfold rright1.T
  intro p1 q1
  refine ⟨fun _ => b1, fun _ => ⟨n.row a7 c7, by show Reads u A ((i : Int).toNat * 8) _; rw [Int.toNat_natCast]; exact k2, ?_⟩, fun h => by cases h⟩
  intro p2 q2
  refine ⟨fun h => ?_, fun h => ?_⟩
  · simp only [E.den, cT_eql] at h
    have h : n.f0 = 0 := h
    rw [if_pos h] at hres
    exact hold_call ((ralike.cv n zNd a7 none c7 0 u k3 zEnts (hs.names n hnm)).mono fun v cs u2 hu2 ⟨hc, hv⟩ => ⟨(decide (n = zNd), ()), (), hv, hc, by rw [hres]; exact ⟨rfl, rfl⟩⟩)
  simp only [E.den, cF_eql] at h
  have h : ¬ n.f0 = 0 := h
  rw [if_neg h] at hres
  clear h
  refine ⟨fun h => ?_, fun h => ?_⟩
  · simp only [E.den, cD_lss, cD_gtr, bOr, decide_eq_true_eq, or_assoc] at h
    have h : n.f0 < 1 ∨ 3 < n.f0 ∨ n.f1 < 0 ∨ 63 < n.f1 ∨ n.f4 < 0 := h
    rw [if_pos h] at hres
    rw [hres]; exact ⟨rfl, rfl⟩
  simp only [E.den, cD_lss, cD_gtr, bOr, decide_eq_false_iff_not, or_assoc] at h
  have h : ¬ (n.f0 < 1 ∨ 3 < n.f0 ∨ n.f1 < 0 ∨ 63 < n.f1 ∨ n.f4 < 0) := h
  rw [if_neg h] at hres
  clear h
  have hl0 : ((0 : Int) < (n.f7.length : Int)) = (¬ n.f7 = []) := propext ⟨fun h e => by rw [e] at h; simp at h, fun h => by have := List.length_pos_iff.2 h; omega⟩
  have hcnd : ∀ s : Bool, (bif (bif (bif decide (¬ n.f0 = 2) then decide ((0 : Int) < (n.f7.length : Int)) else false) then true else (bif decide (n.f0 = 2) then decide (¬ n.f6.toList = []) else false)) then true else !s) = decide ((¬ n.f0 = 2 ∧ ¬ n.f7 = []) ∨ (n.f0 = 2 ∧ ¬ n.f6.toList = []) ∨ s = false) := fun s => by
    simp only [bAnd, bOr, hl0]
    cases s
    · simp
    · rw [Bool.eq_iff_iff]; simp
  have hcn2 : (bif (bif decide (¬ n.f0 = 2) then decide ((0 : Int) < (n.f7.length : Int)) else false) then true else (bif decide (n.f0 = 2) then decide (¬ n.f6.toList = []) else false)) = decide ((¬ n.f0 = 2 ∧ ¬ n.f7 = []) ∨ (n.f0 = 2 ∧ ¬ n.f6.toList = [])) := by simp only [bAnd, bOr, hl0]
  refine hold_callg (fun xs _ u2 => u.le u2 ∧ (¬ ((¬ n.f0 = 2 ∧ ¬ n.f7 = []) ∨ (n.f0 = 2 ∧ ¬ n.f6.toList = [])) → xs.1 = sortedF n.f7)) (fun hg => ?_) (fun hg => ⟨Mem.le_refl u, fun h => ?_⟩) ?_
  · exact (rsorted.cv a7 c7 n.f7 u k3 (hs.names n hnm) (hs.name n hnm)).mono fun v cs u2 hu2 ⟨hc, hv⟩ => ⟨(sortedF n.f7, ()), (), hv, hc, hu2, fun _ => rfl⟩
  · simp only [E.den, cD_neq, cD_eql, cD_gtr, tD_neq, tE] at hg
    have hg : (!(bif (bif decide (¬ n.f0 = 2) then decide ((0 : Int) < (n.f7.length : Int)) else false) then true else (bif decide (n.f0 = 2) then decide (¬ n.f6.toList = []) else false))) = false := hg
    rw [hcn2] at hg
    simp only [Bool.not_eq_false', decide_eq_true_eq] at hg
    exact absurd hg h
  rintro ⟨s, _⟩ _ u2 ⟨hu2, hso⟩
  have hso : ¬ ((¬ n.f0 = 2 ∧ ¬ n.f7 = []) ∨ (n.f0 = 2 ∧ ¬ n.f6.toList = [])) → s = sortedF n.f7 := hso
  have hcc : ((¬ n.f0 = 2 ∧ ¬ n.f7 = []) ∨ (n.f0 = 2 ∧ ¬ n.f6.toList = []) ∨ s = false) ↔ ((¬ n.f0 = 2 ∧ ¬ n.f7 = []) ∨ (n.f0 = 2 ∧ ¬ n.f6.toList = []) ∨ sortedF n.f7 = false) := by
    by_cases h : (¬ n.f0 = 2 ∧ ¬ n.f7 = []) ∨ (n.f0 = 2 ∧ ¬ n.f6.toList = [])
    · exact ⟨fun _ => h.elim .inl fun h => .inr (.inl h), fun _ => h.elim .inl fun h => .inr (.inl h)⟩
    · rw [hso h]
  refine ⟨fun h => ?_, fun h => ?_⟩
  · simp only [E.den, cD_neq, cD_eql, cD_gtr, tD_neq, tE] at h
    have h := (hcnd s).symm.trans h
    rw [decide_eq_true_eq, hcc] at h
    rw [if_pos h] at hres
    rw [hres]; exact ⟨rfl, rfl⟩
  simp only [E.den, cD_neq, cD_eql, cD_gtr, tD_neq, tE] at h
  have h := (hcnd s).symm.trans h
  rw [decide_eq_false_iff_not, hcc] at h
  rw [if_neg h] at hres
  clear h hcc hso hcnd hcn2
  refine hold_count n.f7.length (fun j u' => u.le u' ∧ (List.range j).all (entOk ns n.f7) = true) ⟨hu2, rfl⟩ ?_
  rintro j u3 hj ⟨hu3, hI⟩
  refine ⟨fun hlt => ?_, fun hge => ?_⟩
  · simp only [E.den, cT_lss] at hlt
    have hlt : (j : Int) < (n.f7.length : Int) := hlt
    have hjl : j < n.f7.length := by omega
    obtain ⟨e, he⟩ : ∃ e, n.f7[j]? = some e := ⟨_, List.getElem?_eq_getElem hjl⟩
    have re := (k3 j e he).mono hu3
    have b2 : (0 : Int) ≤ (j : Int) ∧ (j : Int) < (n.f7.length : Int) ∧ a7.isSome = true := ⟨by omega, hlt, re.some⟩
    have hp : entOk ns n.f7 j = (getB ns e.f1 && !decide (e.f1 = 0)) := by unfold entOk; rw [getD_of he]
    have rp : Reads u3 a7 (j * 2 + 1) [.int .i64 e.f1] := re.part 1 1
    refine ⟨fun _ => b2, fun _ => re.some, fun _ => ⟨(e.f1, ()), by show Reads u3 a7 ((j : Int).toNat * 2 + 1) _; rw [Int.toNat_natCast]; exact rp, ?_⟩, fun h => by cases h⟩
    refine hold_call ((rget.cv A c ns m r e.f1 u3 (hd.mono hu3) hs.len).mono fun v cs u4 hu4 ⟨hc, a8, c8, hv, _, _⟩ => ⟨((getL ns e.f1).f0, (getL ns e.f1).f1, (getL ns e.f1).f2, (getL ns e.f1).f3, (getL ns e.f1).f4, (getL ns e.f1).f5, (getL ns e.f1).f6, (a8, (getL ns e.f1).f7.length, c8), getB ns e.f1, ()), (), hv, hc, fun b4 hb4 => ?_⟩)
    refine ⟨fun _ => b2, fun _ => re.some, hold_uldg (fun x => getB ns e.f1 = true → x = (e.f1, ())) (fun _ => ⟨(e.f1, ()), by show Reads u4 a7 ((j : Int).toNat * 2 + 1) _; rw [Int.toNat_natCast]; exact rp.mono hu4, fun _ => rfl⟩) (fun hg h => ?_) ?_⟩
    · have hg : (!!getB ns e.f1) = false := hg
      rw [h] at hg; cases hg
    rintro ⟨f1, _⟩ hf
    have hcd : (bif !getB ns e.f1 then true else cmpI .eql f1 0) = !entOk ns n.f7 j := by
      rw [hp]
      cases hgb : getB ns e.f1 with
      | false => rfl
      | true => cases hf hgb; simp [cD_eql]
    refine ⟨fun h => ?_, fun h => ⟨by simp, ?_⟩⟩
    · have h := hcd.symm.trans h
      rw [Bool.not_eq_true'] at h
      rw [if_pos (all_no hjl h)] at hres
      rw [hres]; exact ⟨rfl, rfl⟩
    · have h := hcd.symm.trans h
      rw [Bool.not_eq_false'] at h
      simp only [if_true]
      refine ⟨by rw [← wrap_succ (show j < 4611686018427387904 by have := hs.names n hnm; omega)]; rfl, rfl, hjl, Mem.le_trans hu3 hu4, ?_⟩
      rw [all_succ, hI, h]; rfl
  simp only [E.den, cF_lss] at hge
  have hge : (n.f7.length : Int) ≤ (j : Int) := hge
  obtain rfl : j = n.f7.length := by omega
  rw [if_neg (by rw [hI]; simp)] at hres
  clear hI hge
  refine hold_call ((rnames.cv A c ns m r i u3 (hd.mono hu3) hs.len hs.names).mono fun v cs u4 hu4 ⟨hc, hv⟩ => ⟨((namesF ns i).1, (namesF ns i).2, ()), (), hv, hc, ?_⟩)
  generalize namesF ns i = q at *
  obtain ⟨q1, q2⟩ := q
  simp only at hres
  have hi0 : ((i : Int) = 0) = (i = 0) := propext (by omega)
  refine ⟨fun h => ?_, fun h => ?_⟩
  · simp only [E.den, cT_eql] at h
    have h : (i : Int) = 0 := h
    rw [if_pos (by omega)] at hres
    rw [hres]
    refine ⟨rfl, ?_⟩
    simp only [SV.den, E.den, cD_eql, bAnd]
    congr 1
    rw [Bool.eq_iff_iff]; simp only [decide_eq_true_eq]; rw [and_assoc]; rfl
  simp only [E.den, cF_eql] at h
  have h : ¬ (i : Int) = 0 := h
  rw [if_neg (by omega)] at hres
  clear h
  refine ⟨fun h => ?_, fun h => ?_⟩
  · simp only [E.den, cD_neq, cD_eql, cD_lss, bAnd, bOr, decide_eq_true_eq] at h
    have h : ¬ n.f3 = q1 ∨ q1 = 0 ∧ n.f4 < 1 := h
    rw [if_pos h] at hres
    rw [hres]; exact ⟨rfl, rfl⟩
  simp only [E.den, cD_neq, cD_eql, cD_lss, bAnd, bOr, decide_eq_false_iff_not] at h
  have h : ¬ (¬ n.f3 = q1 ∨ q1 = 0 ∧ n.f4 < 1) := h
  rw [if_neg h] at hres
  clear h
  refine ⟨fun h => ?_, fun h => ?_⟩
  · simp only [E.den, cT_neq] at h
    have h : ¬ n.f0 = 2 := h
    rw [if_pos h] at hres
    rw [hres]; exact ⟨rfl, rfl⟩
  simp only [E.den, cF_neq] at h
  have h : n.f0 = 2 := h
  rw [if_neg (fun hh => hh h)] at hres
  clear h
  refine ⟨fun h => ?_, fun h => ?_⟩
  · simp only [E.den, cT_eql] at h
    have h : q1 = 0 := h
    rw [if_pos h] at hres
    rw [hres]
    refine ⟨rfl, ?_⟩
    simp only [SV.den, E.den, cD_eql, bAnd]
    congr 1
    have hl1 : ((n.f7.length : Int) = 0) = (n.f7 = []) := propext ⟨fun h => List.length_eq_zero_iff.1 (by omega), fun h => by rw [h]; rfl⟩
    rw [Bool.eq_iff_iff]; simp only [decide_eq_true_eq]
    show ((n.f7.length : Int) = 0 ∧ n.f5 = 0) ↔ _
    rw [hl1]
  simp only [E.den, cF_eql] at h
  have h : ¬ q1 = 0 := h
  rw [if_neg h] at hres
  clear h
  have hg1 : ∀ x : Bool, (bif (bif decide (q1 = 1) then decide (n.f5 = q2) else false) then x else false) = (decide (q1 = 1 ∧ n.f5 = q2) && x) := fun x => by rw [bAnd]; cases decide (q1 = 1 ∧ n.f5 = q2) <;> rfl
  refine hold_callg (fun xs _ u5 => (q1 = 1 ∧ n.f5 = q2 → xs.1 = rootedF ns i)) (fun hg => ?_) (fun hg h => ?_) ?_
  · exact (rrooted.cv A c ns m r i u4 (hd.mono (Mem.le_trans hu3 hu4)) hs.len).mono fun v cs u5 hu5 ⟨hc, hv⟩ => ⟨(rootedF ns i, ()), (), hv, hc, fun _ => rfl⟩
  · simp only [E.den, cD_eql, bAnd, decide_eq_false_iff_not] at hg
    exact absurd h hg
  rintro ⟨s, _⟩ _ u5 hso
  have hso : q1 = 1 ∧ n.f5 = q2 → s = rootedF ns i := hso
  refine ⟨rfl, ?_⟩
  rw [hres]
  simp only [SV.den, E.den, cD_eql]
  congr 1
  refine (hg1 s).trans ?_
  by_cases h : q1 = 1 ∧ n.f5 = q2
  · rw [decide_eq_true h, hso h]
  · rw [decide_eq_false h]; rfl
end Go.Proofs.YthagmakojbfmaaaDoor.Sx
