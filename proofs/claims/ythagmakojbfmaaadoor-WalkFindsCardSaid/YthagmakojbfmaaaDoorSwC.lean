/- By Sx: entry.Find. -/
import Derived.Test.YthagmakojbfmaaaDoorSwB
import Derived.Test.YthagmakojbfmaaaDoorSxTb
import Derived.Test.YthagmakojbfmaaaDoorShelf
set_option maxRecDepth 100000
set_option linter.unusedVariables false
set_option linter.unusedSimpArgs false
namespace Go.Proofs.YthagmakojbfmaaaDoor.Sx
open Go Go.RowKit Go.Proofs.YthagmakojbfmaaaDoor
theorem cmp.cv (a b : ByteArray) (u : Mem) : CV Tryd.prog 76 [.string a, .string b] [] u fun v cs _ => cs = [] ∧ v = .int .i64 (Lib.compareBytes a.data.toList b.data.toList) :=
  cv_still fun w => (Tryd.strings_Compare a b w).mono fun e w' ⟨he, hw⟩ => ⟨he, hw ▸ Below.refl _ _⟩
def ord (e : En) (name : ByteArray) : Int := Lib.compareBytes e.f0.data.toList name.data.toList
theorem place1.cv (e : En) (name : ByteArray) (u : Mem) : CV Tryd.prog 75 [.agg #[.string e.f0, .int .i64 e.f1], .string name] [] u fun v cs _ => cs = [] ∧ v = .int .i64 (ord e name) := by
  refine cv_of names draws (fn := Tryd.f75) (b := bodyOf Tryd.f75) rfl rfl [] (place1.args (e.f0, e.f1, ()) (name, ())) (place1.giv _ _) (fun _ => 0) (place1.run _ _) (by kernel_rfl) rfl rfl ?_
  simp only [place1.T, Hold, PubTo, SV.den, E.den, denL, binI, cT_eql, cF_eql, cT_neq, cF_neq, cT_lss, cF_lss, cT_leq, cF_leq, cT_gtr, cF_gtr, cT_geq, cF_geq, tT_eql, tF_eql, tT_neq, tF_neq, rowsD, denLL, Ob.den, den_cells, List.map_nil, List.map_cons, true_implies, forall_const, true_and, and_true, Bool.true_eq_false, Bool.false_eq_true, reduceCtorEq, false_implies, implies_true, Bool.not_not, Bool.not_true, Bool.not_false, Bool.not_eq_true', Bool.not_eq_false', cond_true, cond_false, Nat.add_eq, Nat.mul_eq, Nat.sub_eq, Nat.add_zero, Nat.zero_mul, Nat.zero_add]
  intro b hb
  exact (cmp.cv _ _ _).mono fun v cs u' hu ⟨hc, hv⟩ => ⟨(ord e name, ()), (), hv, hc, rfl⟩
def Upto (l : List En) (name : ByteArray) : Prop := ∀ (a b : Nat) (x y : En), a ≤ b → l[a]? = some x → l[b]? = some y → ord y name < 0 → ord x name < 0
def atB (l : List En) (name : ByteArray) (i : Nat) : Bool := match l[i]? with | some e => ord e name == 0 | none => false
def PlaceIs (l : List En) (name : ByteArray) (i : Nat) : Prop := i ≤ l.length ∧ (∀ (k : Nat) e, k < i → l[k]? = some e → ord e name < 0) ∧ (∀ (k : Nat) e, i ≤ k → l[k]? = some e → 0 ≤ ord e name)
theorem bsf.cv (A : Option Addr) (c : Nat) (l : List En) (name : ByteArray) (u : Mem) (hd : EntAt u A l) (hl : l.length ≤ 1000000) (hs : Upto l name) :
    CV Tryd.prog 74 [.slice A l.length c, .string name, .func (.func 75) #[] #[]] [] u fun v cs _ => cs = [] ∧ ∃ i : Nat, PlaceIs l name i ∧ v = .tuple #[.int .i64 i, .bool (atB l name i)] := by
  refine cv_of names draws (fn := Tryd.f74) (b := bodyOf Tryd.f74) rfl rfl [⟨3, [9, 10], []⟩] (bsf.args ((A, l.length, c), ()) (name, ())) (bsf.giv _ _) (fun _ => 0) (bsf.run _ _) (by kernel_rfl) rfl rfl ?_
  unfold bsf.T
  refine hold_loop (fun x _ u' => u.le u' ∧ ∃ i j : Nat, x = ((i : Int), (j : Int), ()) ∧ i ≤ j ∧ j ≤ l.length ∧ (∀ (k : Nat) e, k < i → l[k]? = some e → ord e name < 0) ∧ (∀ (k : Nat) e, j ≤ k → l[k]? = some e → 0 ≤ ord e name))
    (fun x _ => (x.2.1 - x.1).toNat) (0, (l.length : Int), ()) () rfl rfl ⟨Mem.le_refl _, 0, l.length, rfl, by omega, by omega, fun k e hk => by omega, fun k e hk he => ?_⟩ ?_
  · have := (List.getElem?_eq_some_iff.1 he).1; omega
  rintro x y u' ⟨hu, i, j, rfl, h1, h2, h3, h4⟩
  have hd' := hd.mono hu
  simp only [Hold, PubTo, SV.den, E.den, denL, binI, cT_eql, cF_eql, cT_neq, cF_neq, cT_lss, cF_lss, cT_leq, cF_leq, cT_gtr, cF_gtr, cT_geq, cF_geq, tT_eql, tF_eql, tT_neq, tF_neq, rowsD, denLL, Ob.den, den_cells, List.map_nil, List.map_cons, true_implies, forall_const, true_and, and_true, Bool.true_eq_false, Bool.false_eq_true, reduceCtorEq, false_implies, implies_true, Bool.not_not, Bool.not_true, Bool.not_false, Bool.not_eq_true', Bool.not_eq_false', cond_true, cond_false, Nat.add_eq, Nat.mul_eq, Nat.sub_eq, Nat.add_zero, Nat.zero_mul, Nat.zero_add]
  have w1 : IntKind.i64.wrap ((i : Int) + (j : Int)) = (i : Int) + (j : Int) := by rw [IntKind.wrap_i64] <;> omega
  have w2 : IntKind.u64.wrap ((i : Int) + (j : Int)) = (i : Int) + (j : Int) := IntWalk.u64_in _ (by omega)
  have w3 : shfI .shr .u64 ((i : Int) + (j : Int)) 1 = (((i + j) / 2 : Nat) : Int) := by
    simp only [shfI]
    rw [Int.fdiv_eq_ediv_of_nonneg _ (by decide)]
    simp [IntKind.bits]
  have w4 : IntKind.i64.wrap (((i + j) / 2 : Nat) : Int) = (((i + j) / 2 : Nat) : Int) := by rw [IntKind.wrap_i64] <;> omega
  have w5 : IntKind.i64.wrap ((((i + j) / 2 : Nat) : Int) + 1) = (((i + j) / 2 + 1 : Nat) : Int) := by rw [IntKind.wrap_i64] <;> omega
  rw [w1, w2, w3, w4, w5]
  obtain ⟨h, hh⟩ : ∃ h, h = (i + j) / 2 := ⟨_, rfl⟩
  rw [← hh]
  refine ⟨fun hij => ?_, fun hij => ?_⟩
  · have hl' : h < l.length := by omega
    obtain ⟨e, he⟩ : ∃ e, l[h]? = some e := ⟨_, List.getElem?_eq_getElem hl'⟩
    have hx := hd' h e he
    refine ⟨⟨Int.natCast_nonneg h, Int.ofNat_lt.2 hl', hx.some⟩, (e.f0, e.f1, ()), by rw [Int.toNat_natCast]; exact hx, ?_⟩
    refine (place1.cv e name u').mono fun v cs u2 hu2 ⟨hc, hv⟩ => ⟨(ord e name, ()), (), hv, hc, fun hlt => ⟨by simp, ?_⟩, fun hge => ⟨by simp, ?_⟩⟩
    · refine ⟨(((h + 1 : Nat) : Int), (j : Int), ()), (), rfl, rfl, ⟨Mem.le_trans hu hu2, h + 1, j, rfl, by omega, h2, fun k x hk hx => ?_, h4⟩, by simp only; omega⟩
      exact hs k h x e (by omega) hx he hlt
    · refine ⟨((i : Int), (h : Int), ()), (), rfl, rfl, ⟨Mem.le_trans hu hu2, i, h, rfl, by omega, by omega, h3, fun k x hk hx => ?_⟩, by simp only; omega⟩
      rcases Int.lt_or_le (ord x name) 0 with h' | h'
      · have := hs h k e x hk he hx h'
        exact absurd this (Int.not_lt.2 hge)
      · exact h'
  · have hij : i = j := by omega
    subst hij
    have hP : PlaceIs l name i := ⟨h2, h3, h4⟩
    by_cases hil : (i : Int) < l.length
    · have hil' : i < l.length := by omega
      obtain ⟨e, he⟩ : ∃ e, l[i]? = some e := ⟨_, List.getElem?_eq_getElem hil'⟩
      have hx := hd' i e he
      have hn : ¬ (l.length : Int) ≤ i := by omega
      simp only [hil, hn, Hold, PubTo, SV.den, E.den, denL, binI, cT_eql, cF_eql, cT_neq, cF_neq, cT_lss, cF_lss, cT_leq, cF_leq, cT_gtr, cF_gtr, cT_geq, cF_geq, tT_eql, tF_eql, tT_neq, tF_neq, rowsD, denLL, Ob.den, den_cells, List.map_nil, List.map_cons, true_implies, forall_const, true_and, and_true, Bool.true_eq_false, Bool.false_eq_true, reduceCtorEq, false_implies, implies_true, Bool.not_not, Bool.not_true, Bool.not_false, Bool.not_eq_true', Bool.not_eq_false', cond_true, cond_false, Nat.add_eq, Nat.mul_eq, Nat.sub_eq, Nat.add_zero, Nat.zero_mul, Nat.zero_add]
      refine ⟨⟨Int.natCast_nonneg i, hx.some⟩, (e.f0, e.f1, ()), by rw [Int.toNat_natCast]; exact hx, ?_⟩
      refine (place1.cv e name u').mono fun v cs u2 hu2 ⟨hc, hv⟩ => ⟨(ord e name, ()), (), hv, hc, i, hP, ?_⟩
      simp only [atB, he, cmpI, decide_eq_true hil, cond_true]
    · have hn : (l.length : Int) ≤ i := by omega
      have he : l[i]? = none := List.getElem?_eq_none (by omega)
      simp only [hil, hn, Hold, PubTo, SV.den, E.den, denL, binI, cT_eql, cF_eql, cT_neq, cF_neq, cT_lss, cF_lss, cT_leq, cF_leq, cT_gtr, cF_gtr, cT_geq, cF_geq, tT_eql, tF_eql, tT_neq, tF_neq, rowsD, denLL, Ob.den, den_cells, List.map_nil, List.map_cons, true_implies, forall_const, true_and, and_true, Bool.true_eq_false, Bool.false_eq_true, reduceCtorEq, false_implies, implies_true, Bool.not_not, Bool.not_true, Bool.not_false, Bool.not_eq_true', Bool.not_eq_false', cond_true, cond_false, Nat.add_eq, Nat.mul_eq, Nat.sub_eq, Nat.add_zero, Nat.zero_mul, Nat.zero_add]
      refine ⟨i, hP, ?_⟩
      simp only [atB, he, cmpI, decide_eq_false hil, cond_false]
theorem place.cv (A : Option Addr) (c : Nat) (l : List En) (name : ByteArray) (u : Mem) (hd : EntAt u A l) (hl : l.length ≤ 1000000) (hs : Upto l name) :
    CV Tryd.prog 71 [.slice A l.length c, .string name] [] u fun v cs _ => cs = [] ∧ ∃ i : Nat, PlaceIs l name i ∧ v = .tuple #[.int .i64 i, .bool (atB l name i)] := by
  refine cv_of names draws (fn := Tryd.f71) (b := bodyOf Tryd.f71) rfl rfl [] (place.args ((A, l.length, c), ()) (name, ())) (place.giv _ _) (fun _ => 0) (place.run _ _) (by kernel_rfl) rfl rfl ?_
  simp only [place.T, Hold, PubTo, SV.den, E.den, denL, binI, cT_eql, cF_eql, cT_neq, cF_neq, cT_lss, cF_lss, cT_leq, cF_leq, cT_gtr, cF_gtr, cT_geq, cF_geq, tT_eql, tF_eql, tT_neq, tF_neq, rowsD, denLL, Ob.den, den_cells, List.map_nil, List.map_cons, true_implies, forall_const, true_and, and_true, Bool.true_eq_false, Bool.false_eq_true, reduceCtorEq, false_implies, implies_true, Bool.not_not, Bool.not_true, Bool.not_false, Bool.not_eq_true', Bool.not_eq_false', cond_true, cond_false, Nat.add_eq, Nat.mul_eq, Nat.sub_eq, Nat.add_zero, Nat.zero_mul, Nat.zero_add]
  exact (bsf.cv A c l name u hd hl hs).mono fun v cs u' hu ⟨hc, i, hP, hv⟩ => ⟨((i : Int), atB l name i, ()), (), hv, hc, i, hP, rfl⟩
structure Sorted (l : List En) (name : ByteArray) : Prop where
  lt : Upto l name
  gt : ∀ (a b : Nat) (x y : En), a ≤ b → l[a]? = some x → l[b]? = some y → 0 < ord x name → 0 < ord y name
def findL (l : List En) (name : ByteArray) : Option En := l.find? fun e => ord e name == 0
def inoL (l : List En) (name : ByteArray) : Int := match findL l name with | none => -1 | some e => e.f1
theorem find_at : ∀ {l : List En} {name : ByteArray} {i : Nat} {e : En}, l[i]? = some e → ord e name = 0 → (∀ (k : Nat) x, k < i → l[k]? = some x → ord x name < 0) → findL l name = some e
  | [], name, i, e, h, _, _ => by simp at h
  | x :: l, name, 0, e, h, h0, _ => by
    simp at h; subst h
    simp [findL, h0]
  | x :: l, name, i + 1, e, h, h0, hk => by
    have hx := hk 0 x (by omega) rfl
    have hne : ¬ ord x name = 0 := by omega
    have ih := find_at (l := l) (i := i) (by simpa using h) h0 fun k y hki hy => hk (k + 1) y (by omega) (by simpa using hy)
    unfold findL at ih ⊢
    rw [List.find?_cons_of_neg (by simpa using hne)]
    exact ih
theorem find_none {l : List En} {name : ByteArray} {i : Nat} (hs : Sorted l name) (hP : PlaceIs l name i) (h : atB l name i = false) : findL l name = none := by
  refine List.find?_eq_none.2 fun x hx => ?_
  obtain ⟨k, hk⟩ := List.getElem?_of_mem hx
  have : ¬ ord x name = 0 := by
    rcases Nat.lt_or_ge k i with hki | hki
    · have := hP.2.1 k x hki hk; omega
    · have hkl := (List.getElem?_eq_some_iff.1 hk).1
      obtain ⟨e, he⟩ : ∃ e, l[i]? = some e := ⟨_, List.getElem?_eq_getElem (by omega)⟩
      have h1 := hP.2.2 i e (Nat.le_refl _) he
      have h2 : ¬ ord e name = 0 := by unfold atB at h; rw [he] at h; simpa using h
      have := hs.gt i k e x hki he hk (by omega)
      omega
  simpa using this
theorem find.cv (A : Option Addr) (c : Nat) (l : List En) (name : ByteArray) (u : Mem) (hd : EntAt u A l) (hl : l.length ≤ 1000000) (hs : Sorted l name) :
    CV Tryd.prog 66 [.slice A l.length c, .string name] [] u fun v cs _ => cs = [] ∧ v = .tuple #[.int .i64 (inoL l name), .bool (findL l name).isSome] := by
  refine cv_of names draws (fn := Tryd.f66) (b := bodyOf Tryd.f66) rfl rfl [] (find.args ((A, l.length, c), ()) (name, ())) (find.giv _ _) (fun _ => 0) (find.run _ _) (by kernel_rfl) rfl rfl ?_
  simp only [find.T, Hold, PubTo, SV.den, E.den, denL, binI, cT_eql, cF_eql, cT_neq, cF_neq, cT_lss, cF_lss, cT_leq, cF_leq, cT_gtr, cF_gtr, cT_geq, cF_geq, tT_eql, tF_eql, tT_neq, tF_neq, rowsD, denLL, Ob.den, den_cells, List.map_nil, List.map_cons, true_implies, forall_const, true_and, and_true, Bool.true_eq_false, Bool.false_eq_true, reduceCtorEq, false_implies, implies_true, Bool.not_not, Bool.not_true, Bool.not_false, Bool.not_eq_true', Bool.not_eq_false', cond_true, cond_false, Nat.add_eq, Nat.mul_eq, Nat.sub_eq, Nat.add_zero, Nat.zero_mul, Nat.zero_add]
  refine (place.cv A c l name u hd hl hs.lt).mono fun v cs u' hu ⟨hc, i, hP, hv⟩ => ⟨((i : Int), atB l name i, ()), (), hv, hc, fun ht => ?_, fun hf => ?_⟩
  · have ht : atB l name i = true := ht
    obtain ⟨e, he, h0⟩ : ∃ e, l[i]? = some e ∧ ord e name = 0 := by
      unfold atB at ht
      split at ht
      · rename_i e he; exact ⟨e, he, by simpa using ht⟩
      · cases ht
    have hF := find_at he h0 hP.2.1
    have hil := (List.getElem?_eq_some_iff.1 he).1
    have hx := (hd i e he).mono hu
    refine ⟨⟨Int.natCast_nonneg i, Int.ofNat_lt.2 hil, hx.some⟩, hx.some, (e.f1, ()), hx.part 1 1, ?_⟩
    unfold inoL; rw [hF]; rfl
  · have hF := find_none hs hP hf
    unfold inoL; rw [hF]; rfl
end Go.Proofs.YthagmakojbfmaaaDoor.Sx
