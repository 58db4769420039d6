/- By Sx: the document's May, Find, Get, dir, look, Walk, Node. -/
import Derived.Test.YthagmakojbfmaaaDoorSwK
set_option maxRecDepth 100000
set_option linter.unusedVariables false
set_option linter.unusedSimpArgs false
namespace Go.Proofs.YthagmakojbfmaaaDoor.Sx
open Go Go.RowKit Go.Proofs.YthagmakojbfmaaaDoor Go.Proofs.YthagmakojbfmaaaDoor.Ext
theorem may_bits : ∀ n : Fin 64, ∀ w : Fin 8, (cmpI .eql (binI .and .i64 (binI .and .i64 (w.val : Int) 7) (binI .and .i64 (shfI .shr .i64 (n.val : Int) 3) 7)) (binI .and .i64 (w.val : Int) 7)) = (binI .andNot .i64 (binI .and .i64 (w.val : Int) 7) (shfI .shr .i64 (n.val : Int) 3) == 0) ∧
    (cmpI .eql (binI .and .i64 (binI .and .i64 (w.val : Int) 7) (binI .and .i64 (n.val : Int) 7)) (binI .and .i64 (w.val : Int) 7)) = (binI .andNot .i64 (binI .and .i64 (w.val : Int) 7) (n.val : Int) == 0) := by
  decide +kernel
theorem rmay.cv (m o w x : Int) (u : Mem) (hm : 0 ≤ m ∧ m ≤ 63) (hx : 0 ≤ x ∧ x ≤ 7) : CV Tryd.prog 29 [.int .i64 m, .int .i64 o, .int .i64 w, .int .i64 x] [] u fun v cs _ => cs = [] ∧ v = .bool (mayB m o w x) := by
  refine cv_of names draws (fn := Tryd.f29) (b := bodyOf Tryd.f29) rfl rfl [] (rmay.args (m, ()) (o, ()) (w, ()) (x, ())) (rmay.giv _ _ _ _) (fun _ => 0) (rmay.run _ _ _ _) (by kernel_rfl) rfl rfl ?_
  obtain ⟨n, rfl⟩ : ∃ n : Fin 64, (n.val : Int) = m := ⟨⟨m.toNat, by omega⟩, by show (m.toNat : Int) = m; omega⟩
  obtain ⟨k, rfl⟩ : ∃ n : Fin 8, (n.val : Int) = x := ⟨⟨x.toNat, by omega⟩, by show (x.toNat : Int) = x; omega⟩
  obtain ⟨h1, h2⟩ := may_bits n k
  simp only [rmay.T, Hold, PubTo, SV.den, E.den, cT_eql, cF_eql, List.map_nil, true_and, Value.bool.injEq]
  unfold mayB
  refine ⟨fun h => ?_, fun h => ⟨fun h3 => ?_, fun h3 => ?_⟩⟩
  · rw [if_pos h]
  · have h3 : o = w := h3
    rw [if_neg h, if_pos h3.symm]; exact h1
  · have h3 : ¬ o = w := h3
    rw [if_neg h, if_neg (fun e => h3 e.symm)]; exact h2
theorem cmp_zero : ∀ a b : List UInt8, Lib.compareBytes a b = 0 ↔ a = b
  | [], [] => by simp [Lib.compareBytes]
  | [], _ :: _ => by simp [Lib.compareBytes]
  | _ :: _, [] => by simp [Lib.compareBytes]
  | a :: u, b :: v => by
    unfold Lib.compareBytes
    by_cases h1 : a < b
    · have hne : ¬ a = b := by rintro rfl; exact UInt8.lt_irrefl _ h1
      simp [h1, hne]
    · by_cases h2 : b < a
      · have hne : ¬ a = b := by rintro rfl; exact h1 h2
        simp [h1, h2, hne]
      · have he : a = b := UInt8.le_antisymm (UInt8.not_lt.1 h2) (UInt8.not_lt.1 h1)
        subst he
        simp [h1, cmp_zero u v]
theorem ord_zero (e : En) (name : ByteArray) : ord e name = 0 ↔ e.f0.toList = name.toList := by
  unfold ord; rw [cmp_zero, toList_data, toList_data]
theorem rfind.cv (A : Option Addr) (c : Nat) (l : List En) (name : ByteArray) (u : Mem) (hd : EntAt u A l) (hl : l.length ≤ 1000000) :
    CV Tryd.prog 18 [.slice A l.length c, .string name] [] u fun v cs _ => cs = [] ∧ v = .tuple #[.int .i64 (inoL l name), .bool (findL l name).isSome] := by
  refine cv_of names draws (fn := Tryd.f18) (b := bodyOf Tryd.f18) rfl rfl [⟨2, [6], []⟩] (rfind.args ((A, l.length, c), ()) (name, ())) (rfind.giv _ _) (fun _ => 0) (rfind.run _ _) (by kernel_rfl) rfl rfl ?_
  unfold rfind.T
  refine hold_count l.length (fun i u' => u.le u' ∧ findL (l.take i) name = none) ⟨Mem.le_refl u, rfl⟩ ?_
  rintro i u1 hi ⟨hu1, hI⟩
  refine ⟨fun hlt => ?_, fun hge => ?_⟩
  · simp only [E.den, cT_lss] at hlt
    have hlt : (i : Int) < (l.length : Int) := hlt
    have hil : i < l.length := by omega
    obtain ⟨e, he⟩ : ∃ e, l[i]? = some e := ⟨_, List.getElem?_eq_getElem hil⟩
    have htk : l.take (i + 1) = l.take i ++ [e] := by rw [List.take_succ_eq_append_getElem hil]; rw [List.getElem?_eq_getElem hil] at he; cases he; rfl
    have hx := (hd i e he).mono hu1
    have hpb : (0 : Int) ≤ (i : Int) ∧ (i : Int) < (l.length : Int) ∧ A.isSome = true := ⟨by omega, hlt, hx.some⟩
    simp only [Hold, PubTo, SV.den, E.den, denL, binI, cT_eql, cF_eql, cT_neq, cF_neq, cT_lss, cF_lss, cT_leq, cF_leq, cT_gtr, cF_gtr, cT_geq, cF_geq, tT_eql, tF_eql, tT_neq, tF_neq, rowsD, denLL, Ob.den, den_cells, List.map_nil, List.map_cons, true_implies, forall_const, true_and, and_true, Bool.true_eq_false, Bool.false_eq_true, reduceCtorEq, false_implies, implies_true, Bool.not_not, Bool.not_true, Bool.not_false, Bool.not_eq_true', Bool.not_eq_false', cond_true, cond_false, Nat.add_eq, Nat.mul_eq, Nat.sub_eq, Nat.add_zero, Nat.zero_mul, Nat.zero_add, wrap_succ (show i < 4611686018427387904 by omega)]
    refine ⟨hpb, hx.some, (e.f0, ()), by rw [Int.toNat_natCast]; exact hx.part 0 1, fun h0 => ⟨hpb, hx.some, (e.f1, ()), by rw [Int.toNat_natCast]; exact hx.part 1 1, ?_⟩, fun h0 => ⟨by simp, rfl, rfl, hil, hu1, ?_⟩⟩
    · have h0 : e.f0.toList = name.toList := h0
      have hF : findL l name = some e := by
        unfold findL at hI ⊢
        have hdr : l.drop i = e :: l.drop (i + 1) := by rw [List.drop_eq_getElem_cons hil]; rw [List.getElem?_eq_getElem hil] at he; cases he; rfl
        rw [← List.take_append_drop i l, List.find?_append, hI, hdr]
        simp [(ord_zero _ _).2 h0]
      unfold inoL; rw [hF]; rfl
    · have h0 : ¬ e.f0.toList = name.toList := h0
      unfold findL at hI ⊢
      rw [htk, List.find?_append, hI]
      have : ¬ ord e name = 0 := fun h => h0 ((ord_zero _ _).1 h)
      simp [this]
  · simp only [E.den, cF_lss] at hge
    have hge : (l.length : Int) ≤ (i : Int) := hge
    obtain rfl : i = l.length := by omega
    rw [List.take_length] at hI
    unfold inoL; rw [hI]; exact ⟨rfl, rfl⟩
theorem rget.cv (A : Option Addr) (c : Nat) (l : List Nd) (m r i : Int) (u : Mem) (hd : DiskAt u A l) (hl : l.length ≤ 1000000) :
    CV Tryd.prog 28 [.agg #[.slice A l.length c, .int .i64 m, .int .i64 r], .int .i64 i] [] u fun v cs u' => cs = [] ∧ ∃ a7 c7, v = .tuple #[.agg (cv K0 ((getL l i).row a7 c7)).toArray, .bool (getB l i)] ∧ (getL l i).f7.length ≤ c7 ∧ EntAt u' a7 (getL l i).f7 := by
  refine cv_of names draws (fn := Tryd.f28) (b := bodyOf Tryd.f28) rfl rfl [] (rget.args ((A, l.length, c), m, r, ()) (i, ())) (rget.giv _ _) (fun _ => 0) (rget.run _ _) (by kernel_rfl) rfl rfl ?_
  simp only [rget.T, Hold, PubTo, SV.den, E.den, denL, binI, cT_eql, cF_eql, cT_neq, cF_neq, cT_lss, cF_lss, cT_leq, cF_leq, cT_gtr, cF_gtr, cT_geq, cF_geq, tT_eql, tF_eql, tT_neq, tF_neq, rowsD, denLL, Ob.den, den_cells, List.map_nil, List.map_cons, true_implies, forall_const, true_and, and_true, Bool.true_eq_false, Bool.false_eq_true, reduceCtorEq, false_implies, implies_true, Bool.not_not, Bool.not_true, Bool.not_false, Bool.not_eq_true', Bool.not_eq_false', cond_true, cond_false, Nat.add_eq, Nat.mul_eq, Nat.sub_eq, Nat.add_zero, Nat.zero_mul, Nat.zero_add]
  intro b1 h1 b2 h2
  have hlss : cmpI .lss i 0 = decide (i < 0) := rfl
  have hgeq : cmpI .geq i (l.length : Int) = decide ((l.length : Int) ≤ i) := by rw [Bool.eq_iff_iff]; simp [cmpI]
  simp only [hlss, hgeq]
  by_cases hx : 0 ≤ i ∧ i < (l.length : Int)
  · have hil : i.toNat < l.length := by omega
    obtain ⟨a7, c7, k1, k2, k3⟩ := hd i.toNat l[i.toNat] (List.getElem?_eq_getElem hil)
    have hg : l.getD i.toNat zNd = l[i.toNat] := by simp [List.getD, hil]
    have hb : getB l i = (l[i.toNat].f0 != 0) := by
      unfold getB; rw [hg, Bool.eq_iff_iff]; simp; omega
    have hi : 0 ≤ i ∧ i < (l.length : Int) ∧ A.isSome = true := ⟨hx.1, by omega, k2.some⟩
    have n1 : ¬ i < 0 := by omega
    have n2 : ¬ (l.length : Int) ≤ i := by omega
    simp only [decide_eq_false n1, decide_eq_false n2, cond_false, Bool.not_false, Hold, PubTo, SV.den, E.den, denL, binI, cT_eql, cF_eql, cT_neq, cF_neq, cT_lss, cF_lss, cT_leq, cF_leq, cT_gtr, cF_gtr, cT_geq, cF_geq, tT_eql, tF_eql, tT_neq, tF_neq, rowsD, denLL, Ob.den, den_cells, List.map_nil, List.map_cons, true_implies, forall_const, true_and, and_true, Bool.true_eq_false, Bool.false_eq_true, reduceCtorEq, false_implies, implies_true, Bool.not_not, Bool.not_true, Bool.not_false, Bool.not_eq_true', Bool.not_eq_false', cond_true, cond_false, Nat.add_eq, Nat.mul_eq, Nat.sub_eq, Nat.add_zero, Nat.zero_mul, Nat.zero_add]
    refine ⟨hi, k2.some, (l[i.toNat].f0, ()), k2.part 0 1, fun h0 => ?_, fun h0 => ⟨hi, l[i.toNat].row a7 c7, k2, ?_⟩⟩
    · have h0 : l[i.toNat].f0 = 0 := h0
      have : getB l i = false := by rw [hb]; simpa using h0
      unfold getL; rw [this]
      exact ⟨none, 0, rfl, Nat.zero_le _, fun i e hi => by simp [zNd] at hi⟩
    · have h0 : ¬ l[i.toNat].f0 = 0 := h0
      have : getB l i = true := by rw [hb]; simpa using h0
      unfold getL; rw [this, if_pos rfl, hg]
      exact ⟨a7, c7, rfl, k1, k3⟩
  · have : getB l i = false := by unfold getB; simp; omega
    have hb : (bif decide (i < 0) then true else decide ((l.length : Int) ≤ i)) = true := by
      by_cases h : i < 0
      · rw [decide_eq_true h]; rfl
      · rw [decide_eq_false h]; simp; omega
    simp only [hb, Bool.not_true, Hold, PubTo, SV.den, E.den, denL, binI, cT_eql, cF_eql, cT_neq, cF_neq, cT_lss, cF_lss, cT_leq, cF_leq, cT_gtr, cF_gtr, cT_geq, cF_geq, tT_eql, tF_eql, tT_neq, tF_neq, rowsD, denLL, Ob.den, den_cells, List.map_nil, List.map_cons, true_implies, forall_const, true_and, and_true, Bool.true_eq_false, Bool.false_eq_true, reduceCtorEq, false_implies, implies_true, Bool.not_not, Bool.not_true, Bool.not_false, Bool.not_eq_true', Bool.not_eq_false', cond_true, cond_false, Nat.add_eq, Nat.mul_eq, Nat.sub_eq, Nat.add_zero, Nat.zero_mul, Nat.zero_add]
    unfold getL; rw [this]
    exact ⟨none, 0, rfl, Nat.zero_le _, fun i e hi => by simp [zNd] at hi⟩
theorem rdir.cv (A : Option Addr) (c : Nat) (l : List Nd) (m r i : Int) (u : Mem) (hd : DiskAt u A l) (hl : l.length ≤ 1000000) :
    CV Tryd.prog 27 [.agg #[.slice A l.length c, .int .i64 m, .int .i64 r], .int .i64 i] [] u fun v cs u' => cs = [] ∧ v = .int .i64 (hereB l i) := by
  refine cv_of names draws (fn := Tryd.f27) (b := bodyOf Tryd.f27) rfl rfl [] (rdir.args ((A, l.length, c), m, r, ()) (i, ())) (rdir.giv _ _) (fun _ => 0) (rdir.run _ _) (by kernel_rfl) rfl rfl ?_
  simp only [rdir.T, Hold, PubTo, SV.den, E.den, denL, binI, cT_eql, cF_eql, cT_neq, cF_neq, cT_lss, cF_lss, cT_leq, cF_leq, cT_gtr, cF_gtr, cT_geq, cF_geq, tT_eql, tF_eql, tT_neq, tF_neq, rowsD, denLL, Ob.den, den_cells, List.map_nil, List.map_cons, true_implies, forall_const, true_and, and_true, Bool.true_eq_false, Bool.false_eq_true, reduceCtorEq, false_implies, implies_true, Bool.not_not, Bool.not_true, Bool.not_false, Bool.not_eq_true', Bool.not_eq_false', cond_true, cond_false, Nat.add_eq, Nat.mul_eq, Nat.sub_eq, Nat.add_zero, Nat.zero_mul, Nat.zero_add]
  intro b1 h1
  refine (rget.cv A c l m r i u hd hl).mono fun v cs u1 hu1 ⟨hc, a7, c7, hv, _, _⟩ => ?_
  unfold hereB
  generalize getL l i = n at *
  generalize getB l i = g at *
  refine ⟨(n.f0, n.f1, n.f2, n.f3, n.f4, n.f5, n.f6, (a7, n.f7.length, c7), g, ()), (), hv, hc, fun b2 h2 => ⟨fun h => ?_, fun h => ⟨fun h3 => ?_, fun h3 => ?_⟩⟩⟩
  · have h : g = false := h
    rw [if_neg (by rw [h]; simp)]
  · have h : g = true := h
    have h3 : ¬ n.f0 = 2 := h3
    rw [if_pos h, if_neg h3]
  · have h : g = true := h
    have h3 : n.f0 = 2 := h3
    rw [if_pos h, if_pos h3]
theorem rlook.cv (A : Option Addr) (c : Nat) (l : List Nd) (m r i : Int) (part : ByteArray) (u : Mem) (hd : DiskAt u A l) (hl : l.length ≤ 1000000) (hn : (getL l i).f7.length ≤ 1000000) :
    CV Tryd.prog 30 [.agg #[.slice A l.length c, .int .i64 m, .int .i64 r], .int .i64 i, .string part] [] u fun v cs u' => cs = [] ∧ v = .int .i64 (namedB i (getL l i) part) := by
  refine cv_of names draws (fn := Tryd.f30) (b := bodyOf Tryd.f30) rfl rfl [] (rlook.args ((A, l.length, c), m, r, ()) (i, ()) (part, ())) (rlook.giv _ _ _) (fun _ => 0) (rlook.run _ _ _) (by kernel_rfl) rfl rfl ?_
  simp only [rlook.T, Hold, PubTo, SV.den, E.den, denL, binI, cT_eql, cF_eql, cT_neq, cF_neq, cT_lss, cF_lss, cT_leq, cF_leq, cT_gtr, cF_gtr, cT_geq, cF_geq, tT_eql, tF_eql, tT_neq, tF_neq, rowsD, denLL, Ob.den, den_cells, List.map_nil, List.map_cons, true_implies, forall_const, true_and, and_true, Bool.true_eq_false, Bool.false_eq_true, reduceCtorEq, false_implies, implies_true, Bool.not_not, Bool.not_true, Bool.not_false, Bool.not_eq_true', Bool.not_eq_false', cond_true, cond_false, Nat.add_eq, Nat.mul_eq, Nat.sub_eq, Nat.add_zero, Nat.zero_mul, Nat.zero_add, dot1, dot2]
  intro b1 h1
  refine (rget.cv A c l m r i u hd hl).mono fun v cs u1 hu1 ⟨hc, a7, c7, hv, h7, h8⟩ => ?_
  generalize getL l i = n at *
  generalize getB l i = g at *
  refine ⟨(n.f0, n.f1, n.f2, n.f3, n.f4, n.f5, n.f6, (a7, n.f7.length, c7), g, ()), (), hv, hc, fun b2 h2 => ⟨fun h => ?_, fun h => ⟨fun h3 => ?_, fun h3 => ?_⟩⟩⟩
  · unfold namedB; rw [if_pos h]
  · unfold namedB; rw [if_neg h, if_pos h3]
  · refine (rfind.cv a7 c7 n.f7 part u1 h8 hn).mono fun v cs u2 hu2 ⟨hc2, hv2⟩ => ⟨(inoL n.f7 part, (findL n.f7 part).isSome, ()), (), hv2, hc2, ?_⟩
    unfold namedB; rw [if_neg h, if_neg h3]
end Go.Proofs.YthagmakojbfmaaaDoor.Sx
