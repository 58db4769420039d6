/- The names of a path, in plain words; by Sx: the document's Split and Check. -/
import Derived.Test.YthagmakojbfmaaaDoorSwI
import Derived.Test.YthagmakojbfmaaaDoorSxTd
set_option maxRecDepth 100000
set_option linter.unusedVariables false
set_option linter.unusedSimpArgs false
namespace Go.Proofs.YthagmakojbfmaaaDoor.Sx
open Go Go.RowKit Go.Proofs.YthagmakojbfmaaaDoor Go.Proofs.YthagmakojbfmaaaDoor.Ext
abbrev B := List UInt8
def names_ (l : B) : List B := (segs l).filter fun s => !s.isEmpty
theorem segs_slash (l : B) : segs (47 :: l) = [] :: segs l := by
  conv => lhs; unfold segs
  rw [if_pos (by decide)]
theorem segs_other (c : UInt8) (l : B) (hc : c ≠ 47) : ∃ s r, segs l = s :: r ∧ segs (c :: l) = (c :: s) :: r := by
  rcases h : segs l with _ | ⟨s, r⟩
  · exact absurd h (segs_ne l)
  · refine ⟨s, r, rfl, ?_⟩
    conv => lhs; unfold segs
    rw [if_neg (by simpa using hc), h]
theorem segs_split : ∀ (a b : B), segs (a ++ 47 :: b) = segs a ++ segs b
  | [], b => by rw [List.nil_append, segs_slash]; rfl
  | c :: a, b => by
    have ih := segs_split a b
    by_cases hc : c = 47
    · subst hc
      rw [List.cons_append, segs_slash, segs_slash, ih]; rfl
    · obtain ⟨s, r, h1, h2⟩ := segs_other c a hc
      obtain ⟨s', r', h3, h4⟩ := segs_other c (a ++ 47 :: b) hc
      rw [List.cons_append, h4, h2]
      rw [ih, h1, List.cons_append] at h3
      injection h3 with h5 h6
      rw [← h5, ← h6]; rfl
theorem names_split (a b : B) : names_ (a ++ 47 :: b) = names_ a ++ names_ b := by
  unfold names_
  rw [segs_split, List.filter_append]
theorem names_nil : names_ [] = [] := rfl
theorem segs_one : ∀ (l : B), (∀ c ∈ l, c ≠ 47) → segs l = [l]
  | [], _ => rfl
  | c :: l, h => by
    obtain ⟨s, r, h1, h2⟩ := segs_other c l (h c (by simp))
    rw [segs_one l (fun x hx => h x (by simp [hx]))] at h1
    injection h1 with h3 h4
    rw [h2, ← h3, ← h4]
theorem names_one (l : B) (h : ∀ c ∈ l, c ≠ 47) (hn : l ≠ []) : names_ l = [l] := by
  unfold names_
  rw [segs_one l h]
  cases l with
  | nil => exact absurd rfl hn
  | cons c l => rfl
theorem parts_eq (p : ByteArray) : partsB p = (names_ p.data.toList).map bs := by
  have key : ∀ (L : List B) (a : Nat), (outs a (L.map bs)).map (·.2) = (L.filter fun s => !s.isEmpty).map bs := by
    intro L
    induction L with
    | nil => intro a; rfl
    | cons s L ih =>
      intro a
      rw [List.map_cons]
      show (if (bs s).size = 0 then outs (a + (bs s).size + 1) (L.map bs) else (a + (bs s).size, bs s) :: outs (a + (bs s).size + 1) (L.map bs)).map (·.2) = _
      rw [bs_size]
      cases s with
      | nil => rw [if_pos (show ([] : B).length = 0 from rfl), ih]; rfl
      | cons c s => rw [if_neg (by simp), List.map_cons, ih]; rfl
  exact key _ 0
def restF : B → B → List B
  | _, [] => []
  | part, c :: r => if c = 47 then (if part = [] then restF [] r else part :: restF [] r) else if r = [] then [part ++ [c]] else restF (part ++ [c]) r
theorem rest_names : ∀ (L part : B), (∀ x ∈ part, x ≠ 47) → (L = [] → part = []) → restF part L = names_ (part ++ L) := by
  intro L
  induction L with
  | nil => intro part _ h; rw [h rfl]; rfl
  | cons c r ih =>
    intro part hp _
    unfold restF
    by_cases hc : c = 47
    · subst hc
      rw [if_pos rfl, names_split, ih [] (by simp) (fun _ => rfl), List.nil_append]
      by_cases h : part = []
      · subst h; rw [if_pos rfl, names_nil, List.nil_append]
      · rw [if_neg h, names_one part hp h]; rfl
    · have hp' : ∀ x ∈ part ++ [c], x ≠ 47 := by
        intro x hx
        rcases List.mem_append.1 hx with h | h
        · exact hp x h
        · rw [List.mem_singleton.1 h]; exact hc
      rw [if_neg hc]
      by_cases hr : r = []
      · subst hr; rw [if_pos rfl, names_one _ hp' (by simp)]
      · rw [if_neg hr, ih (part ++ [c]) hp' (fun h => absurd h hr), List.append_assoc]; rfl
theorem cut_bs (l : B) (i : Nat) (h : i < l.length) : (bs l).extract i (i + 1) = bs [l[i]] := by
  refine ba_ext ?_
  rw [Lib.extract_data, show (bs [l[i]]).data.toList = _ from bs_data _, show (bs l).data.toList = l from bs_data l]
  rw [show i + 1 - i = 1 by omega, List.drop_eq_getElem_cons h]
  rfl
theorem u8_eq (c d : UInt8) : ((c.toNat : Int) = (d.toNat : Int)) ↔ c = d := by
  constructor
  · intro h; exact UInt8.toNat_inj.1 (by omega)
  · intro h; rw [h]
theorem byte_bs (l : B) (i : Nat) (h : i < l.length) : byteAt (bs l) (i : Int) = ((l[i]).toNat : Int) := by
  unfold byteAt
  have : (bs l)[(i : Int).toNat]? = some l[i] := by
    rw [Int.toNat_natCast]
    show (if h : i < (bs l).size then some (bs l)[i] else none) = _
    rw [dif_pos (by rw [bs_size]; exact h)]
    congr 1
  rw [this]; rfl
theorem bs_toList (l : B) : (bs l).toList = l := by rw [toList_data, bs_data]
theorem cat_bs (a b : B) : (bs a).append (bs b) = bs (a ++ b) := ba_ext (by simp [bs])
theorem rsplit.cv (p : ByteArray) (u : Mem) (hp : p.size ≤ 1000000000) : CV Tryd.prog 26 [.string p] [] u fun v cs u' => cs = [] ∧ ∃ s : Option Addr × Nat × Nat, v = .tuple #[.slice s.1 s.2.1 s.2.2, .bool (pre47 p), .bool (suf47 p)] ∧
    s.2.1 = (partsB p).length ∧ Grow u u' s 1 ((partsB p).map .string) := by
  obtain ⟨l, rfl⟩ : ∃ l, p = bs l := ⟨p.data.toList, (bs_of p).symm⟩
  rw [bs_size] at hp
  refine cv_of names draws (fn := Tryd.f26) (b := bodyOf Tryd.f26) rfl rfl [⟨4, [5, 6, 7], []⟩] (rsplit.args (bs l, ())) (rsplit.giv _) (fun _ => 0) (rsplit.run _) (by kernel_rfl) rfl rfl ?_
  unfold rsplit.T
  refine ⟨fun _ => (bv_emp (P := Tryd.prog) (t := 60) (e := 9) (n := 1) (by kernel_rfl) (by kernel_rfl) 1).mono fun v u1 ⟨s, hv, hs, hg⟩ => ⟨(s, ()), hv, ?_⟩, fun h => by cases h⟩
  refine hold_loop (sk := [.s, .t, .i .i64]) (oks := []) (fun x _ u' => ∃ (s : Option Addr × Nat × Nat) (out : List ByteArray) (part : B) (i : Nat), x = (s, bs part, (i : Int), ()) ∧ i ≤ l.length ∧ Grow u u' s 1 (out.map .string) ∧ s.2.1 = out.length ∧
      out ++ (restF part (l.drop i)).map bs = partsB (bs l) ∧ (i = l.length → part = []) ∧ part.length ≤ i ∧ out.length ≤ i)
    (fun x _ => (l.length - x.2.2.1).toNat) (s, ⟨#[]⟩, 0, ()) () rfl rfl ⟨s, [], [], 0, rfl, by omega, hg, hs, by rw [parts_eq, bs_data, List.drop_zero, List.nil_append, rest_names l [] (by simp) (fun _ => rfl)]; rfl, fun _ => rfl, by simp, by simp⟩ ?_
  rintro x y u2 ⟨s, out, part, i, rfl, hi, hg, hs, hr, hl, hpl, hol⟩
  have hz : ((bs l).size : Int) = (l.length : Int) := by rw [bs_size]
  have w1 : IntKind.i64.wrap ((i : Int) + 1) = ((i + 1 : Nat) : Int) := by rw [IntKind.wrap_i64] <;> omega
  have w2 : IntKind.i64.wrap ((l.length : Int) - 1) = (l.length : Int) - 1 := by rw [IntKind.wrap_i64] <;> omega
  have hT : ∀ x : B, (cmpT .neq (bs x) ⟨#[]⟩) = !x.isEmpty := fun x => by
    have : (bs x).toList = x := bs_toList x
    have h2 : (⟨#[]⟩ : ByteArray).toList = [] := bs_toList []
    simp only [cmpT, this, h2]
    cases x <;> rfl
  simp only [Hold, PubTo, SV.den, E.den, denL, binI, cT_eql, cF_eql, cT_neq, cF_neq, cT_lss, cF_lss, cT_leq, cF_leq, cT_gtr, cF_gtr, cT_geq, cF_geq, tT_eql, tF_eql, tT_neq, tF_neq, rowsD, denLL, Ob.den, den_cells, List.map_nil, List.map_cons, true_implies, forall_const, true_and, and_true, Bool.true_eq_false, Bool.false_eq_true, reduceCtorEq, false_implies, implies_true, Bool.not_not, Bool.not_true, Bool.not_false, Bool.not_eq_true', Bool.not_eq_false', cond_true, cond_false, Nat.add_eq, Nat.mul_eq, Nat.sub_eq, Nat.add_zero, Nat.zero_mul, Nat.zero_add, hz, w1, w2]
  refine ⟨fun hlt => ?_, fun hge => ?_⟩
  · have hlt : (i : Int) < (l.length : Int) := hlt
    have hil : i < l.length := by omega
    obtain ⟨c, hc⟩ : ∃ c, l[i] = c := ⟨_, rfl⟩
    have hd : l.drop i = c :: l.drop (i + 1) := by rw [List.drop_eq_getElem_cons hil, hc]
    have e1 : byteAt (bs l) (i : Int) = (c.toNat : Int) := by rw [byte_bs l i hil, hc]
    have e2 : (bs part).append ((bs l).extract (i : Int).toNat ((i + 1 : Nat) : Int).toNat) = bs (part ++ [c]) := by
      rw [Int.toNat_natCast, Int.toNat_natCast, cut_bs l i hil, hc, cat_bs]
    have e3 : ((bs l).extract (i : Int).toNat ((i + 1 : Nat) : Int).toNat).size = 1 := by
      rw [Int.toNat_natCast, Int.toNat_natCast, cut_bs l i hil, bs_size]; rfl
    have e4 : cmpI .eql (c.toNat : Int) 47 = decide (c = 47) := by rw [cD_eql, Bool.eq_iff_iff]; simp only [decide_eq_true_eq]; exact u8_eq c 47
    have e5 : cmpI .eql (i : Int) ((l.length : Int) - 1) = decide (i + 1 = l.length) := by rw [cD_eql, Bool.eq_iff_iff]; simp only [decide_eq_true_eq]; omega
    have hlast : (i + 1 = l.length) ↔ l.drop (i + 1) = [] := by rw [List.drop_eq_nil_iff]; omega
    have hbo : (0 : Int) ≤ (i : Int) ∧ (i : Int) < (l.length : Int) := ⟨by omega, hlt⟩
    simp only [e1, e2, e3, e4, e5, hT]
    have app := fun (x : B) (b : Nat) (u3 : Mem) (h3 : u2.le u3) (hw : ∀ (j : Nat) v, [Value.string (bs x)][j]? = some v → u3 b j = some v) => bv_one (P := Tryd.prog) (t := 60) (ty := 60) (e := 9) (z := .string ⟨#[]⟩) (size := 1) (bytes := 16) (by kernel_rfl) (by kernel_rfl) rfl (by decide) (u0 := u) (b := b) (Mem.le_refl u) hg h3 hw rfl (by simp [Value.oneCell']) (by omega) (by omega)
    refine ⟨hbo, fun hn47 => ?_, fun h47 => ?_⟩
    · have hn47 : ¬ c = 47 := fun h => hn47 (by rw [h]; rfl)
      have hne : (part ++ [c]).isEmpty = false := by cases part <;> rfl
      simp only [hne, decide_eq_false hn47, Bool.not_false, cond_true, cond_false, decide_eq_true_eq, decide_eq_false_iff_not]
      have hb3 : (0 : Int) ≤ (i : Int) ∧ (i : Int) ≤ ((i + 1 : Nat) : Int) ∧ ((i + 1 : Nat) : Int) ≤ (l.length : Int) := by omega
      refine ⟨hb3, by rw [bs_size]; omega, fun _ => hbo, fun hL b hb u3 h3 hw => ?_, fun hL => ?_⟩
      · refine (app (part ++ [c]) b u3 h3 fun j v hj => hw _ (List.mem_singleton.2 rfl) j v (by rw [← e2, ← w1] at hj; exact hj)).mono fun v u4 ⟨s', hv', hs', hg'⟩ => ⟨(s', ()), hv', by simp, ?_⟩
        simp only [if_true]
        rw [hd, restF, if_neg hn47, if_pos (hlast.1 hL)] at hr
        refine ⟨(s', bs [], ((i + 1 : Nat) : Int), ()), (), rfl, rfl, ⟨s', out ++ [bs (part ++ [c])], [], i + 1, rfl, by omega, by rw [List.map_append]; exact hg', by rw [hs', hs]; simp, ?_, fun _ => rfl, by simp, by simp; omega⟩, by simp only; omega⟩
        rw [hlast.1 hL]; simpa [restF] using hr
      · refine ⟨by simp, ?_⟩
        simp only [if_true]
        rw [hd, restF, if_neg hn47, if_neg (fun h => hL (hlast.2 h))] at hr
        exact ⟨(s, bs (part ++ [c]), ((i + 1 : Nat) : Int), ()), (), rfl, rfl, ⟨s, out, part ++ [c], i + 1, rfl, by omega, hg, hs, hr, fun h => absurd h hL, by simp; omega, by omega⟩, by simp only; omega⟩
    · have h47 : c = 47 := (u8_eq c 47).1 h47
      simp only [decide_eq_true h47, cond_true]
      rw [hd, restF, if_pos h47] at hr
      refine ⟨fun _ => hbo, fun hL b hb u3 h3 hw => ?_, fun hL => ?_⟩
      · have hpn : part ≠ [] := by rintro rfl; simp at hL
        rw [if_neg hpn] at hr
        refine (app part b u3 h3 fun j v hj => hw _ (List.mem_singleton.2 rfl) j v hj).mono fun v u4 ⟨s', hv', hs', hg'⟩ => ⟨(s', ()), hv', by simp, ?_⟩
        simp only [if_true]
        refine ⟨(s', bs [], ((i + 1 : Nat) : Int), ()), (), rfl, rfl, ⟨s', out ++ [bs part], [], i + 1, rfl, by omega, by rw [List.map_append]; exact hg', by rw [hs', hs]; simp, by rw [← hr]; simp, fun _ => rfl, by simp, by simp; omega⟩, by simp only; omega⟩
      · have hpn : part = [] := by cases part with | nil => rfl | cons x r => simp at hL
        subst hpn
        rw [if_pos rfl] at hr
        refine ⟨by simp, ?_⟩
        simp only [if_true]
        exact ⟨(s, bs [], ((i + 1 : Nat) : Int), ()), (), by rw [← w1]; rfl, rfl, ⟨s, out, [], i + 1, rfl, by omega, hg, hs, hr, fun _ => rfl, by simp, by omega⟩, by simp only; omega⟩
  · have hge : (l.length : Int) ≤ (i : Int) := hge
    have hil : i = l.length := by omega
    subst hil
    rw [hl rfl, List.drop_length] at hr
    simp only [restF, List.map_nil, List.append_nil] at hr
    have hB : ∀ k : Int, (k = 0 ∨ k = (l.length : Int) - 1) → ¬ (bs l).toList = (⟨#[]⟩ : ByteArray).toList → 0 ≤ k ∧ k < (l.length : Int) := fun k hk h => by
      have : l ≠ [] := fun e => h (by rw [e]; rfl)
      have := List.length_pos_iff.2 this
      omega
    have e4 : ∀ c : UInt8, cmpI .eql (c.toNat : Int) 47 = (c == 47) := fun c => by rw [cD_eql, Bool.eq_iff_iff]; simp only [decide_eq_true_eq, beq_iff_eq]; exact u8_eq c 47
    refine ⟨hB 0 (.inl rfl), hB _ (.inr rfl), s, ?_, by rw [← hr]; exact hs, by rw [← hr]; exact hg⟩
    simp only [hT, Value.tuple.injEq]
    have p1 : pre47 (bs l) = (bif !l.isEmpty then cmpI .eql (byteAt (bs l) 0) 47 else false) := by
      cases l with
      | nil => rfl
      | cons c r =>
        have := byte_bs (c :: r) 0 (by simp)
        rw [show ((0 : Nat) : Int) = 0 from rfl] at this
        rw [this, e4]
        unfold pre47
        rw [bs_data]
        show ([47] : B).isPrefixOf (c :: r) = _
        simp [List.isPrefixOf, BEq.comm]
    have p2 : suf47 (bs l) = (bif !l.isEmpty then cmpI .eql (byteAt (bs l) ((l.length : Int) - 1)) 47 else false) := by
      unfold suf47
      rw [bs_data]
      show ([47] : B).isSuffixOf l = _
      unfold List.isSuffixOf
      rcases List.eq_nil_or_concat l with rfl | ⟨r, c, rfl⟩
      · rfl
      · rw [List.concat_eq_append]
        have := byte_bs (r ++ [c]) r.length (by simp)
        rw [show (((r ++ [c]).length : Nat) : Int) - 1 = (r.length : Int) by simp, this, e4]
        simp [List.isPrefixOf, BEq.comm]
    rw [p1, p2]
end Go.Proofs.YthagmakojbfmaaaDoor.Sx
