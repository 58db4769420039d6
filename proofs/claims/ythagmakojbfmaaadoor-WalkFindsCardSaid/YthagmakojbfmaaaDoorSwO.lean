/- By Sx: the document's Same, Alike, names, rooted, Bytes, right, Right. -/
import Derived.Test.YthagmakojbfmaaaDoorSwN
set_option maxRecDepth 100000
set_option linter.unusedVariables false
set_option linter.unusedSimpArgs false
namespace Go.Proofs.YthagmakojbfmaaaDoor.Sx
open Go Go.RowKit Go.Proofs.YthagmakojbfmaaaDoor Go.Proofs.YthagmakojbfmaaaDoor.Ext
theorem ba_eq {a b : ByteArray} : a.toList = b.toList ↔ a = b := by rw [toList_data, toList_data]; exact ⟨fun h => ba_ext h, fun h => by rw [h]⟩
theorem cT_t {a b : ByteArray} : cmpT .eql a b = decide (a = b) := by
  rw [Bool.eq_iff_iff]; simp only [tT_eql, decide_eq_true_eq]; exact ba_eq
theorem take_eq {α : Type} {l r : List α} {i : Nat} {x y : α} (h : l.take i = r.take i) (hx : l[i]? = some x) (hy : r[i]? = some y) : l.take (i + 1) = r.take (i + 1) ↔ x = y := by
  have h1 := (List.getElem?_eq_some_iff.1 hx)
  have h2 := (List.getElem?_eq_some_iff.1 hy)
  obtain ⟨g1, rfl⟩ := h1
  obtain ⟨g2, rfl⟩ := h2
  rw [List.take_succ_eq_append_getElem g1, List.take_succ_eq_append_getElem (l := r) g2, h]
  exact ⟨fun e => (List.cons.inj (List.append_cancel_left e)).1, fun e => by rw [e]⟩
theorem resame.cv (A B : Option Addr) (c d : Nat) (l r : List En) (u : Mem) (hl : EntAt u A l) (hr : EntAt u B r) (hn : l.length ≤ 1000000) :
    CV Tryd.prog 61 [.slice A l.length c, .slice B r.length d] [] u fun v cs _ => cs = [] ∧ v = .bool (decide (l = r)) := by
  refine cv_of names draws (fn := Tryd.f61) (b := bodyOf Tryd.f61) rfl rfl [⟨4, [5], []⟩] (resame.args ((A, l.length, c), ()) ((B, r.length, d), ())) (resame.giv _ _) (fun _ => 0) (resame.run _ _) (by kernel_rfl) rfl rfl ?_
  unfold resame.T
  refine ⟨fun h => ?_, fun h => ?_⟩
  · simp only [E.den, cT_neq] at h
    have h : ¬ (l.length : Int) = (r.length : Int) := h
    rw [decide_eq_false (fun e => h (by rw [e]))]; exact ⟨rfl, rfl⟩
  simp only [E.den, cF_neq] at h
  have h : (l.length : Int) = (r.length : Int) := h
  have hlr : l.length = r.length := by omega
  refine hold_count l.length (fun i u' => u.le u' ∧ l.take i = r.take i) ⟨Mem.le_refl u, rfl⟩ ?_
  rintro i u1 hi ⟨hu1, hI⟩
  refine ⟨fun hlt => ?_, fun hge => ?_⟩
  · simp only [E.den, cT_lss] at hlt
    have hlt : (i : Int) < (l.length : Int) := hlt
    have hil : i < l.length := by omega
    obtain ⟨x, hx⟩ : ∃ x, l[i]? = some x := ⟨_, List.getElem?_eq_getElem hil⟩
    obtain ⟨y, hy⟩ : ∃ y, r[i]? = some y := ⟨_, List.getElem?_eq_getElem (by omega)⟩
    have rx := (hl i x hx).mono hu1
    have ry := (hr i y hy).mono hu1
    have b1 : (0 : Int) ≤ (i : Int) ∧ (i : Int) < (l.length : Int) ∧ A.isSome = true := ⟨by omega, hlt, rx.some⟩
    have b2 : (0 : Int) ≤ (i : Int) ∧ (i : Int) < (r.length : Int) ∧ B.isSome = true := ⟨by omega, by omega, ry.some⟩
    have hte := take_eq hI hx hy
    have hxy : (bif cmpT .eql x.f0 y.f0 then bif cmpI .eql x.f1 y.f1 then true else false else false) = decide (x = y) := by
      rw [cT_t, cD_eql]
      obtain ⟨x0, x1⟩ := x
      obtain ⟨y0, y1⟩ := y
      by_cases e0 : x0 = y0 <;> by_cases e1 : x1 = y1 <;> simp [e0, e1]
    simp only [Hold, PubTo, SV.den, E.den, denL, binI, cT_eql, cF_eql, cT_neq, cF_neq, cT_lss, cF_lss, cT_leq, cF_leq, cT_gtr, cF_gtr, cT_geq, cF_geq, tT_eql, tF_eql, tT_neq, tF_neq, rowsD, denLL, Ob.den, den_cells, List.map_nil, List.map_cons, true_implies, forall_const, true_and, and_true, Bool.true_eq_false, Bool.false_eq_true, reduceCtorEq, false_implies, implies_true, Bool.not_not, Bool.not_true, Bool.not_false, Bool.not_eq_true', Bool.not_eq_false', cond_true, cond_false, Nat.add_eq, Nat.mul_eq, Nat.sub_eq, Nat.add_zero, Nat.zero_mul, Nat.zero_add, wrap_succ (show i < 4611686018427387904 by omega)]
    refine ⟨b1, (x.f0, x.f1, ()), by rw [Int.toNat_natCast]; exact rx, b2, (y.f0, y.f1, ()), by rw [Int.toNat_natCast]; exact ry, fun h0 => ?_, fun h0 => ⟨by simp, rfl, rfl, hil, hu1, ?_⟩⟩
    · have h0 : (bif cmpT .eql x.f0 y.f0 then bif cmpI .eql x.f1 y.f1 then true else false else false) = false := h0
      rw [hxy, decide_eq_false_iff_not] at h0
      rw [decide_eq_false (fun e => h0 (hte.1 (by rw [e])))]
    · have h0 : (bif cmpT .eql x.f0 y.f0 then bif cmpI .eql x.f1 y.f1 then true else false else false) = true := h0
      rw [hxy, decide_eq_true_eq] at h0
      exact hte.2 h0
  · simp only [E.den, cF_lss] at hge
    have hge : (l.length : Int) ≤ (i : Int) := hge
    obtain rfl : i = l.length := by omega
    rw [List.take_length, List.take_of_length_le (by omega)] at hI
    rw [decide_eq_true hI]; exact ⟨rfl, rfl⟩
theorem ralike.cv (a b : Nd) (A B : Option Addr) (c d : Nat) (u : Mem) (ha : EntAt u A a.f7) (hb : EntAt u B b.f7) (hn : a.f7.length ≤ 1000000) :
    CV Tryd.prog 46 [.agg (cv K0 (a.row A c)).toArray, .agg (cv K0 (b.row B d)).toArray] [] u fun v cs _ => cs = [] ∧ v = .bool (decide (a = b)) := by
  refine cv_of names draws (fn := Tryd.f46) (b := bodyOf Tryd.f46) rfl rfl [] (ralike.args (a.row A c) (b.row B d)) (ralike.giv _ _) (fun _ => 0) (ralike.run _ _) (by kernel_rfl) rfl rfl ?_
  obtain ⟨a0, a1, a2, a3, a4, a5, a6, a7⟩ := a
  obtain ⟨b0, b1, b2, b3, b4, b5, b6, b7⟩ := b
  simp only [ralike.T, Hold, PubTo, SV.den, E.den, denL, binI, cT_eql, cF_eql, cT_neq, cF_neq, cT_lss, cF_lss, cT_leq, cF_leq, cT_gtr, cF_gtr, cT_geq, cF_geq, tT_eql, tF_eql, tT_neq, tF_neq, rowsD, denLL, Ob.den, den_cells, List.map_nil, List.map_cons, true_implies, forall_const, true_and, and_true, Bool.true_eq_false, Bool.false_eq_true, reduceCtorEq, false_implies, implies_true, Bool.not_not, Bool.not_true, Bool.not_false, Bool.not_eq_true', Bool.not_eq_false', cond_true, cond_false, Nat.add_eq, Nat.mul_eq, Nat.sub_eq, Nat.add_zero, Nat.zero_mul, Nat.zero_add, Nd.row, cT_t, cD_eql]
  intro p1 q1 p2 q2
  have hc : (bif bif bif bif bif bif decide (a0 = b0) then decide (a1 = b1) else false then decide (a2 = b2) else false then decide (a3 = b3) else false then decide (a4 = b4) else false then decide (a5 = b5) else false then decide (a6 = b6) else false) = decide (a0 = b0 ∧ a1 = b1 ∧ a2 = b2 ∧ a3 = b3 ∧ a4 = b4 ∧ a5 = b5 ∧ a6 = b6) := by
    by_cases e0 : a0 = b0 <;> by_cases e1 : a1 = b1 <;> by_cases e2 : a2 = b2 <;> by_cases e3 : a3 = b3 <;> by_cases e4 : a4 = b4 <;> by_cases e5 : a5 = b5 <;> by_cases e6 : a6 = b6 <;> simp [e0, e1, e2, e3, e4, e5, e6]
  simp only [hc]
  by_cases h : a0 = b0 ∧ a1 = b1 ∧ a2 = b2 ∧ a3 = b3 ∧ a4 = b4 ∧ a5 = b5 ∧ a6 = b6
  · rw [decide_eq_true h]
    refine ⟨fun _ => (resame.cv A B c d a7 b7 u ha hb hn).mono fun v cs u2 hu2 ⟨hc, hv⟩ => ⟨(decide (a7 = b7), ()), (), hv, hc, ?_⟩, fun h => (by cases h)⟩
    obtain ⟨rfl, rfl, rfl, rfl, rfl, rfl, rfl⟩ := h
    simp
  · rw [decide_eq_false h]
    refine ⟨fun h => (by cases h), fun _ => ?_⟩
    simp only [cond_false]
    congr 1
    symm
    rw [decide_eq_false_iff_not]
    intro e
    injection e with e0 e1 e2 e3 e4 e5 e6 e7
    exact h ⟨e0, e1, e2, e3, e4, e5, e6⟩
theorem rweight.cv (n : Nd) (A : Option Addr) (c : Nat) (u : Mem) : CV Tryd.prog 45 [.agg (cv K0 (n.row A c)).toArray] [] u fun v cs _ => cs = [] ∧ v = .int .i64 (weightF n) := by
  refine cv_of names draws (fn := Tryd.f45) (b := bodyOf Tryd.f45) rfl rfl [] (rweight.args (n.row A c)) (rweight.giv _) (fun _ => 0) (rweight.run _) (by kernel_rfl) rfl rfl ?_
  simp only [rweight.T, Hold, PubTo, SV.den, E.den, denL, binI, cT_eql, cF_eql, cT_neq, cF_neq, cT_lss, cF_lss, cT_leq, cF_leq, cT_gtr, cF_gtr, cT_geq, cF_geq, tT_eql, tF_eql, tT_neq, tF_neq, rowsD, denLL, Ob.den, den_cells, List.map_nil, List.map_cons, true_implies, forall_const, true_and, and_true, Bool.true_eq_false, Bool.false_eq_true, reduceCtorEq, false_implies, implies_true, Bool.not_not, Bool.not_true, Bool.not_false, Bool.not_eq_true', Bool.not_eq_false', cond_true, cond_false, Nat.add_eq, Nat.mul_eq, Nat.sub_eq, Nat.add_zero, Nat.zero_mul, Nat.zero_add, cD_eql]
  intro b1 h1
  unfold weightF Nd.row
  have hc : (bif decide (n.f0 = 1) then true else decide (n.f0 = 3)) = decide (n.f0 = 1 ∨ n.f0 = 3) := by by_cases e : n.f0 = 1 <;> simp [e]
  simp only [hc, decide_eq_true_eq, decide_eq_false_iff_not]
  exact ⟨fun h => by rw [if_pos h], fun h => by rw [if_neg h]⟩
theorem weight_nn (n : Nd) : 0 ≤ weightF n := by unfold weightF; split <;> omega
theorem rbytes.cv (A : Option Addr) (c : Nat) (ns : List Nd) (m r : Int) (u : Mem) (hd : DiskAt u A ns) (hl : ns.length ≤ 1000000) (hs : ∀ n ∈ ns, n.f6.size ≤ 1000000000) :
    CV Tryd.prog 32 [.agg #[.slice A ns.length c, .int .i64 m, .int .i64 r]] [] u fun v cs _ => cs = [] ∧ v = .int .i64 (bytesF ns) := by
  refine cv_of names draws (fn := Tryd.f32) (b := bodyOf Tryd.f32) rfl rfl [⟨3, [3, 4], []⟩] (rbytes.args ((A, ns.length, c), m, r, ())) (rbytes.giv _) (fun _ => 0) (rbytes.run _) (by kernel_rfl) rfl rfl ?_
  have hw : ∀ i, i ≤ ns.length → 0 ≤ bytesF (ns.take i) ∧ bytesF (ns.take i) ≤ i * 1000000000 := by
    intro i
    induction i with
    | zero => intro _; simp [bytesF]
    | succ i ih =>
      intro hi
      have := ih (by omega)
      rw [List.take_succ_eq_append_getElem (by omega)]
      have h1 := hs ns[i] (List.getElem_mem _)
      have h2 := weight_nn ns[i]
      have h3 : weightF ns[i] ≤ 1000000000 := by unfold weightF; split <;> omega
      simp only [bytesF, List.map_append, List.map_cons, List.map_nil, List.sum_append, List.sum_cons, List.sum_nil] at this ⊢
      omega
  unfold rbytes.T
  intro b1 hb1
  refine hold_loop (sk := [.i .i64, .i .i64]) (oks := []) (fun x _ u' => u.le u' ∧ ∃ i : Nat, x = (bytesF (ns.take i), (i : Int), ()) ∧ i ≤ ns.length) (fun x _ => ((ns.length : Int) - x.2.1).toNat) (0, 0, ()) () rfl rfl ⟨Mem.le_refl u, 0, rfl, by omega⟩ ?_
  rintro x y u1 ⟨hu1, i, rfl, hi⟩
  refine ⟨fun hlt => ?_, fun hge => ?_⟩
  · simp only [E.den, cT_lss] at hlt
    have hlt : (i : Int) < (ns.length : Int) := hlt
    have hil : i < ns.length := by omega
    obtain ⟨n, hx⟩ : ∃ n, ns[i]? = some n := ⟨_, List.getElem?_eq_getElem hil⟩
    obtain ⟨a7, c7, k1, k2, k3⟩ := hd i n hx
    have rx := k2.mono hu1
    have b1 : (0 : Int) ≤ (i : Int) ∧ (i : Int) < (ns.length : Int) ∧ A.isSome = true := ⟨by omega, hlt, rx.some⟩
    have e1 : bytesF (ns.take (i + 1)) = bytesF (ns.take i) + weightF n := by
      rw [List.take_succ_eq_append_getElem hil]; rw [List.getElem?_eq_getElem hil] at hx; cases hx
      simp only [bytesF, List.map_append, List.map_cons, List.map_nil, List.sum_append, List.sum_cons, List.sum_nil, Int.add_zero]
    have w1 : IntKind.i64.wrap (bytesF (ns.take i) + weightF n) = bytesF (ns.take (i + 1)) := by
      rw [← e1]; have := hw (i + 1) (by omega); rw [IntKind.wrap_i64] <;> omega
    simp only [Hold, PubTo, SV.den, E.den, denL, binI, cT_eql, cF_eql, cT_neq, cF_neq, cT_lss, cF_lss, cT_leq, cF_leq, cT_gtr, cF_gtr, cT_geq, cF_geq, tT_eql, tF_eql, tT_neq, tF_neq, rowsD, denLL, Ob.den, den_cells, List.map_nil, List.map_cons, true_implies, forall_const, true_and, and_true, Bool.true_eq_false, Bool.false_eq_true, reduceCtorEq, false_implies, implies_true, Bool.not_not, Bool.not_true, Bool.not_false, Bool.not_eq_true', Bool.not_eq_false', cond_true, cond_false, Nat.add_eq, Nat.mul_eq, Nat.sub_eq, Nat.add_zero, Nat.zero_mul, Nat.zero_add]
    refine ⟨b1, n.row a7 c7, by rw [Int.toNat_natCast]; exact rx, ?_⟩
    refine (rweight.cv n a7 c7 u1).mono fun v cs u2 hu2 ⟨hc, hv⟩ => ⟨(weightF n, ()), (), hv, hc, by simp, ?_⟩
    exact ⟨(bytesF (ns.take (i + 1)), ((i + 1 : Nat) : Int), ()), (), by rw [← w1, ← wrap_succ (show i < 4611686018427387904 by omega)]; rfl, rfl, ⟨Mem.le_trans hu1 hu2, i + 1, rfl, by omega⟩, by simp only; omega⟩
  · simp only [E.den, cF_lss] at hge
    have hge : (ns.length : Int) ≤ (i : Int) := hge
    obtain rfl : i = ns.length := by omega
    show _ ∧ Value.int .i64 (bytesF (ns.take ns.length)) = _
    rw [List.take_length]; exact ⟨rfl, rfl⟩
theorem countF_take (n : Nd) (i : Int) (j : Nat) (e : En) (h : n.f7[j]? = some e) : ((n.f7.take (j + 1)).filter fun e => e.f1 == i).length = ((n.f7.take j).filter fun e => e.f1 == i).length + if e.f1 = i then 1 else 0 := by
  obtain ⟨g, rfl⟩ := List.getElem?_eq_some_iff.1 h
  rw [List.take_succ_eq_append_getElem g, List.filter_append, List.length_append]
  by_cases he : n.f7[j].f1 = i <;> simp [he]
theorem names_bound (ns : List Nd) (i : Int) (hs : ∀ n ∈ ns, n.f7.length ≤ 1000000) : ∀ k, k ≤ ns.length → 0 ≤ (namesAt ns i k).1 ∧ (namesAt ns i k).1 ≤ k * 1000000
  | 0, _ => by simp [namesAt]
  | k + 1, h => by
    have ih := names_bound ns i hs k (by omega)
    have h1 : countF (ns.getD k zNd) i ≤ 1000000 := by
      rw [getD_of (List.getElem?_eq_getElem (show k < ns.length by omega))]
      exact Nat.le_trans (List.length_filter_le _ _) (hs _ (List.getElem_mem _))
    simp only [namesAt]; omega
theorem rnames.cv (A : Option Addr) (c : Nat) (ns : List Nd) (m r i : Int) (u : Mem) (hd : DiskAt u A ns) (hl : ns.length ≤ 1000000) (hs : ∀ n ∈ ns, n.f7.length ≤ 1000000) :
    CV Tryd.prog 48 [.agg #[.slice A ns.length c, .int .i64 m, .int .i64 r], .int .i64 i] [] u fun v cs _ => cs = [] ∧ v = .tuple #[.int .i64 (namesF ns i).1, .int .i64 (namesF ns i).2] := by
  refine cv_of names draws (fn := Tryd.f48) (b := bodyOf Tryd.f48) rfl rfl [⟨4, [6, 7, 8], []⟩, ⟨7, [6, 7, 9], []⟩] (rnames.args ((A, ns.length, c), m, r, ()) (i, ())) (rnames.giv _ _) (fun _ => 0) (rnames.run _ _) (by kernel_rfl) rfl rfl ?_
  unfold rnames.T
  intro b1 hb1
  refine hold_loop (sk := [.i .i64, .i .i64, .i .i64]) (oks := []) (fun x _ u' => u.le u' ∧ ∃ k : Nat, x = ((namesAt ns i k).1, (namesAt ns i k).2, (k : Int), ()) ∧ k ≤ ns.length) (fun x _ => ((ns.length : Int) - x.2.2.1).toNat) (0, -1, 0, ()) () rfl rfl ⟨Mem.le_refl u, 0, rfl, by omega⟩ ?_
  rintro x y u1 ⟨hu1, k, rfl, hk⟩
  refine ⟨fun hlt => ?_, fun hge => ?_⟩
  · simp only [E.den, cT_lss] at hlt
    have hlt : (k : Int) < (ns.length : Int) := hlt
    have hil : k < ns.length := by omega
    obtain ⟨n, hx⟩ : ∃ n, ns[k]? = some n := ⟨_, List.getElem?_eq_getElem hil⟩
    have hng : ns.getD k zNd = n := getD_of hx
    have hnl := hs n (List.mem_of_getElem? hx)
    have hb := names_bound ns i hs k hk
    refine hold_loop (sk := [.i .i64, .i .i64, .i .i64]) (oks := []) (fun x _ u' => u.le u' ∧ ∃ j : Nat, x = ((namesAt ns i k).1 + ((n.f7.take j).filter fun e => e.f1 == i).length, if ((n.f7.take j).filter fun e => e.f1 == i).length = 0 then (namesAt ns i k).2 else k, (j : Int), ()) ∧ j ≤ n.f7.length) (fun x _ => ((n.f7.length : Int) - x.2.2.1).toNat)
      ((namesAt ns i k).1, (namesAt ns i k).2, 0, ()) () rfl rfl ⟨hu1, 0, by simp, by omega⟩ ?_
    rintro x y u2 ⟨hu2, j, rfl, hj⟩
    obtain ⟨a7, c7, k1, k2, k3⟩ := hd k n hx
    have rx := k2.mono hu2
    have b1 : (0 : Int) ≤ (k : Int) ∧ (k : Int) < (ns.length : Int) ∧ A.isSome = true := ⟨by omega, hlt, rx.some⟩
    simp only [Hold, PubTo, SV.den, E.den, denL, binI, cT_eql, cF_eql, cT_neq, cF_neq, cT_lss, cF_lss, cT_leq, cF_leq, cT_gtr, cF_gtr, cT_geq, cF_geq, tT_eql, tF_eql, tT_neq, tF_neq, rowsD, denLL, Ob.den, den_cells, List.map_nil, List.map_cons, true_implies, forall_const, true_and, and_true, Bool.true_eq_false, Bool.false_eq_true, reduceCtorEq, false_implies, implies_true, Bool.not_not, Bool.not_true, Bool.not_false, Bool.not_eq_true', Bool.not_eq_false', cond_true, cond_false, Nat.add_eq, Nat.mul_eq, Nat.sub_eq, Nat.add_zero, Nat.zero_mul, Nat.zero_add]
    refine ⟨b1, rx.some, ((a7, n.f7.length, c7), ()), by rw [Int.toNat_natCast]; exact rx.part 7 1, fun hlt2 => ?_, fun hge2 => ?_⟩
    · have hlt2 : (j : Int) < (n.f7.length : Int) := hlt2
      have hjl : j < n.f7.length := by omega
      obtain ⟨e, he⟩ : ∃ e, n.f7[j]? = some e := ⟨_, List.getElem?_eq_getElem hjl⟩
      have re := (k3 j e he).mono hu2
      have b2 : (0 : Int) ≤ (j : Int) ∧ (j : Int) < (n.f7.length : Int) ∧ a7.isSome = true := ⟨by omega, hlt2, re.some⟩
      have hct := countF_take n i j e he
      have hc0 : ((n.f7.take j).filter fun e => e.f1 == i).length ≤ 1000000 := Nat.le_trans (List.length_filter_le _ _) (by rw [List.length_take]; omega)
      generalize ((n.f7.take j).filter fun e => e.f1 == i).length = q at hct hc0 ⊢
      refine ⟨b1, rx.some, ((a7, n.f7.length, c7), ()), by rw [Int.toNat_natCast]; exact rx.part 7 1, b2, re.some, (e.f1, ()), by rw [Int.toNat_natCast]; exact re.part 1 1, fun h => ⟨by simp, ?_⟩, fun h => ⟨by simp, ?_⟩⟩
      · have h : e.f1 = i := h
        rw [if_pos h] at hct
        simp only [if_true]
        have w1 : IntKind.i64.wrap ((namesAt ns i k).1 + (q : Int) + 1) = (namesAt ns i k).1 + ((q + 1 : Nat) : Int) := by rw [IntKind.wrap_i64] <;> omega
        refine ⟨((namesAt ns i k).1 + ((q + 1 : Nat) : Int), (k : Int), ((j + 1 : Nat) : Int), ()), (), by rw [← w1, ← wrap_succ (show j < 4611686018427387904 by omega)]; rfl, rfl, ⟨hu2, j + 1, by rw [hct]; simp, by omega⟩, by simp only; omega⟩
      · have h : ¬ e.f1 = i := h
        rw [if_neg h] at hct
        replace hct := hct.trans (Nat.add_zero q)
        simp only [if_true]
        refine ⟨((namesAt ns i k).1 + (q : Int), (if q = 0 then (namesAt ns i k).2 else k), ((j + 1 : Nat) : Int), ()), (), by rw [← wrap_succ (show j < 4611686018427387904 by omega)]; rfl, rfl, ⟨hu2, j + 1, by rw [hct], by omega⟩, by simp only; omega⟩
    · have hge2 : (n.f7.length : Int) ≤ (j : Int) := hge2
      obtain rfl : j = n.f7.length := by omega
      refine ⟨by simp, ?_⟩
      simp only [if_neg (show ¬ (0 : Nat) = 1 by decide), if_true]
      have hct : ((n.f7.take n.f7.length).filter fun e => e.f1 == i).length = countF n i := by rw [List.take_length]; rfl
      rw [hct]
      refine ⟨((namesAt ns i (k + 1)).1, (namesAt ns i (k + 1)).2, ((k + 1 : Nat) : Int), ()), (), ?_, rfl, ⟨hu2, k + 1, rfl, by omega⟩, by simp only; omega⟩
      rw [← wrap_succ (show k < 4611686018427387904 by omega)]
      simp only [namesAt, hng]; rfl
  · simp only [E.den, cF_lss] at hge
    have hge : (ns.length : Int) ≤ (k : Int) := hge
    obtain rfl : k = ns.length := by omega
    exact ⟨rfl, rfl⟩
theorem rrooted.cv (A : Option Addr) (c : Nat) (ns : List Nd) (m r i : Int) (u : Mem) (hd : DiskAt u A ns) (hl : ns.length ≤ 1000000) :
    CV Tryd.prog 49 [.agg #[.slice A ns.length c, .int .i64 m, .int .i64 r], .int .i64 i] [] u fun v cs _ => cs = [] ∧ v = .bool (rootedF ns i) := by
  refine cv_of names draws (fn := Tryd.f49) (b := bodyOf Tryd.f49) rfl rfl [⟨2, [1, 5], []⟩] (rrooted.args ((A, ns.length, c), m, r, ()) (i, ())) (rrooted.giv _ _) (fun _ => 0) (rrooted.run _ _) (by kernel_rfl) rfl rfl ?_
  unfold rrooted.T
  intro b1 hb1
  refine hold_loop (sk := [.i .i64, .i .i64]) (oks := []) (fun x _ u' => u.le u' ∧ ∃ (k : Nat) (j : Int), x = (j, (k : Int), ()) ∧ k ≤ ns.length + 1 ∧ rootGo ns (ns.length + 1 - k) j = rootedF ns i) (fun x _ => ((ns.length : Int) + 1 - x.2.1).toNat) (i, 0, ()) () rfl rfl ⟨Mem.le_refl u, 0, i, rfl, by omega, rfl⟩ ?_
  rintro x y u1 ⟨hu1, k, j, rfl, hk, hg⟩
  refine ⟨fun hlt => ⟨fun h0 => ?_, fun h0 => ?_⟩, fun hge => ?_⟩
  · simp only [E.den, cT_leq, cT_eql] at hlt h0
    have hlt : (k : Int) ≤ (ns.length : Int) := hlt
    have h0 : j = 0 := h0
    rw [show ns.length + 1 - k = (ns.length - k) + 1 by omega, rootGo, if_pos h0] at hg
    rw [← hg]; exact ⟨rfl, rfl⟩
  · simp only [E.den, cT_leq, cF_eql] at hlt h0
    have hlt : (k : Int) ≤ (ns.length : Int) := hlt
    have h0 : ¬ j = 0 := h0
    rw [show ns.length + 1 - k = (ns.length - k) + 1 by omega, rootGo, if_neg h0] at hg
    refine hold_call ((rget.cv A c ns m r j u1 (hd.mono hu1) hl).mono fun v cs u2 hu2 ⟨hc, a7, c7, hv, _, _⟩ => ⟨((getL ns j).f0, (getL ns j).f1, (getL ns j).f2, (getL ns j).f3, (getL ns j).f4, (getL ns j).f5, (getL ns j).f6, (a7, (getL ns j).f7.length, c7), getB ns j, ()), (), hv, hc, fun b2 hb2 => ?_⟩)
    have hcnd : (bif !getB ns j then true else cmpI .neq (getL ns j).f0 2) = !decide (getB ns j = true ∧ (getL ns j).f0 = 2) := by
      rw [cD_neq]; cases getB ns j <;> simp
    refine ⟨fun h => ?_, fun h => ⟨by simp, ?_⟩⟩
    · have h : (bif !getB ns j then true else cmpI .neq (getL ns j).f0 2) = true := h
      rw [hcnd, Bool.not_eq_true', decide_eq_false_iff_not] at h
      rw [if_neg h] at hg
      rw [← hg]; exact ⟨rfl, rfl⟩
    · have h : (bif !getB ns j then true else cmpI .neq (getL ns j).f0 2) = false := h
      rw [hcnd, Bool.not_eq_false', decide_eq_true_eq] at h
      rw [if_pos h] at hg
      simp only [if_true]
      exact ⟨((getL ns j).f5, ((k + 1 : Nat) : Int), ()), (), by rw [← wrap_succ (show k < 4611686018427387904 by omega)]; rfl, rfl, ⟨Mem.le_trans hu1 hu2, k + 1, _, rfl, by omega, by rw [show ns.length + 1 - (k + 1) = ns.length - k by omega]; exact hg⟩, by simp only; omega⟩
  · simp only [E.den, cF_leq] at hge
    have hge : (ns.length : Int) < (k : Int) := hge
    rw [show ns.length + 1 - k = 0 by omega, rootGo] at hg
    rw [← hg]; exact ⟨rfl, rfl⟩
end Go.Proofs.YthagmakojbfmaaaDoor.Sx
