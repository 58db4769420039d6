/- By Sx: the document's May, Find, Get, dir, look, Walk, Node. -/
import Derived.Test.YtpfbimkpcnnfkaaGreatDoorSwI
import Derived.Test.YtpfbimkpcnnfkaaGreatDoorSxTd
/- By Sx: the document's Check, May, Find, Get, dir, look. -/
/- The names of a path, in plain words; by Sx: the document's Split and Check. -/
set_option maxRecDepth 100000
set_option linter.unusedVariables false
set_option linter.unusedSimpArgs false
namespace Go.Proofs.YtpfbimkpcnnfkaaGreatDoor.Sx
open Go Go.RowKit Go.Proofs.YtpfbimkpcnnfkaaGreatDoor Go.Proofs.YtpfbimkpcnnfkaaGreatDoor.Ext
abbrev B := List UInt8
def names_ (l : B) : List B := (segs l).filter fun s => !s.isEmpty
theorem segs_slash (l : B) : segs (47 :: l) = [] :: segs l := by
 conv => lhs; unfold segs
 rw [if_pos (by decide)]
theorem segs_other (c : UInt8) (l : B) (hc : c ≠ 47) : ∃ s r, segs l = s :: r ∧ segs (c :: l) = (c :: s) :: r := by
 rcases h : segs l with _ | ⟨s, r⟩
 ·exact absurd h (segs_ne l)
 ·refine ⟨s, r, rfl, ?_⟩
  conv => lhs; unfold segs
  rw [if_neg (by simpa using hc), h]
theorem segs_split : ∀ (a b : B), segs (a ++ 47 :: b) = segs a ++ segs b
 | [], b => by rw [List.nil_append, segs_slash]; rfl
 | c :: a, b => by
  have ih := segs_split a b
  by_cases hc : c = 47
  ·subst hc
   rw [List.cons_append, segs_slash, segs_slash, ih]; rfl
  ·obtain ⟨s, r, h1, h2⟩ := segs_other c a hc
   obtain ⟨s', r', h3, h4⟩ := segs_other c (a ++ 47 :: b) hc
   rw [List.cons_append, h4, h2]
   rw [ih, h1, List.cons_append] at h3
   injection h3 with h5 h6
   rw [← h5, ← h6]; rfl
theorem names_split (a b : B) : names_ (a ++ 47 :: b) = names_ a ++ names_ b := by
 unfold names_
 rw [segs_split, List.filter_append]
theorem names_nil : names_ [] = [] := rfl
theorem segs_one : ∀ (l : B), (∀ c ∈ l, c ≠ 47) → segs l = [l]
 | [], _ => rfl
 | c :: l, h => by
  obtain ⟨s, r, h1, h2⟩ := segs_other c l (h c (by simp))
  rw [segs_one l (fun x hx => h x (by simp [hx]))] at h1
  injection h1 with h3 h4
  rw [h2, ← h3, ← h4]
theorem names_one (l : B) (h : ∀ c ∈ l, c ≠ 47) (hn : l ≠ []) : names_ l = [l] := by
 unfold names_
 rw [segs_one l h]
 cases l with
 | nil => exact absurd rfl hn
 | cons c l => rfl
theorem parts_eq (p : ByteArray) : partsB p = (names_ p.data.toList).map bs := by
 have key : ∀ (L : List B) (a : Nat), (outs a (L.map bs)).map (·.2) = (L.filter fun s => !s.isEmpty).map bs := by
  intro L
  induction L with
  | nil => intro a; rfl
  | cons s L ih =>
   intro a
   rw [List.map_cons]
   show (if (bs s).size = 0 then outs (a + (bs s).size + 1) (L.map bs) else (a + (bs s).size, bs s) :: outs (a + (bs s).size + 1) (L.map bs)).map (·.2) = _
   rw [bs_size]
   cases s with
   | nil => rw [if_pos (show ([] : B).length = 0 from rfl), ih]; rfl
   | cons c s => rw [if_neg (by simp), List.map_cons, ih]; rfl
 exact key _ 0
def restF : B → B → List B
 | _, [] => []
 | part, c :: r => if c = 47 then (if part = [] then restF [] r else part :: restF [] r) else if r = [] then [part ++ [c]] else restF (part ++ [c]) r
theorem rest_names : ∀ (L part : B), (∀ x ∈ part, x ≠ 47) → (L = [] → part = []) → restF part L = names_ (part ++ L) := by
 intro L
 induction L with
 | nil => intro part _ h; rw [h rfl]; rfl
 | cons c r ih =>
  intro part hp _
  unfold restF
  by_cases hc : c = 47
  ·subst hc
   rw [if_pos rfl, names_split, ih [] (by simp) (fun _ => rfl), List.nil_append]
   by_cases h : part = []
   ·subst h; rw [if_pos rfl, names_nil, List.nil_append]
   ·rw [if_neg h, names_one part hp h]; rfl
  ·have hp' : ∀ x ∈ part ++ [c], x ≠ 47 := by
    intro x hx
    rcases List.mem_append.1 hx with h | h
    ·exact hp x h
    ·rw [List.mem_singleton.1 h]; exact hc
   rw [if_neg hc]
   by_cases hr : r = []
   ·subst hr; rw [if_pos rfl, names_one _ hp' (by simp)]
   ·rw [if_neg hr, ih (part ++ [c]) hp' (fun h => absurd h hr), List.append_assoc]; rfl
theorem cut_bs (l : B) (i : Nat) (h : i < l.length) : (bs l).extract i (i + 1) = bs [l[i]] := by
 refine ba_ext ?_
 rw [Lib.extract_data, show (bs [l[i]]).data.toList = _ from bs_data _, show (bs l).data.toList = l from bs_data l]
 rw [show i + 1 - i = 1 by omega, List.drop_eq_getElem_cons h]
 rfl
theorem u8_eq (c d : UInt8) : ((c.toNat : Int) = (d.toNat : Int)) ↔ c = d := by
 constructor
 ·intro h; exact UInt8.toNat_inj.1 (by omega)
 ·intro h; rw [h]
theorem byte_bs (l : B) (i : Nat) (h : i < l.length) : byteAt (bs l) (i : Int) = ((l[i]).toNat : Int) := by
 unfold byteAt
 have : (bs l)[(i : Int).toNat]? = some l[i] := by
  rw [Int.toNat_natCast]
  show (if h : i < (bs l).size then some (bs l)[i] else none) = _
  rw [dif_pos (by rw [bs_size]; exact h)]
  congr 1
 rw [this]; rfl
theorem bs_toList (l : B) : (bs l).toList = l := by rw [toList_data, bs_data]
theorem cat_bs (a b : B) : (bs a).append (bs b) = bs (a ++ b) := ba_ext (by simp [bs])
theorem rsplit.cv (p : ByteArray) (u : Mem) (hp : p.size ≤ 1000000000) : CV Tryz.prog 73 [.string p] [] u fun v cs u' => cs = [] ∧ ∃ s : Option Addr × Nat × Nat, v = .tuple #[.slice s.1 s.2.1 s.2.2, .bool (pre47 p), .bool (suf47 p)] ∧
  s.2.1 = (partsB p).length ∧ Grow u u' s 1 ((partsB p).map .string) := by
 obtain ⟨l, rfl⟩ : ∃ l, p = bs l := ⟨p.data.toList, (bs_of p).symm⟩
 rw [bs_size] at hp
 refine cv_of names draws (fn := Tryz.f73) (b := bodyOf Tryz.f73) rfl rfl [⟨4, [5, 6, 7], []⟩] (rsplit.args (bs l, ())) (rsplit.giv _) (fun _ => 0) (rsplit.run _) (by kernel_rfl) rfl rfl ?_
 unfold rsplit.T
 refine ⟨fun _ => (bv_emp (P := Tryz.prog) (t := 78) (e := 9) (n := 1) (by kernel_rfl) (by kernel_rfl) 1).mono fun v u1 ⟨s, hv, hs, hg⟩ => ⟨(s, ()), hv, ?_⟩, fun h => by cases h⟩
 refine hold_loop (sk := [.s, .t, .i .i64]) (oks := []) (fun x _ u' => ∃ (s : Option Addr × Nat × Nat) (out : List ByteArray) (part : B) (i : Nat), x = (s, bs part, (i : Int), ()) ∧ i ≤ l.length ∧ Grow u u' s 1 (out.map .string) ∧ s.2.1 = out.length ∧
   out ++ (restF part (l.drop i)).map bs = partsB (bs l) ∧ (i = l.length → part = []) ∧ part.length ≤ i ∧ out.length ≤ i)
  (fun x _ => (l.length - x.2.2.1).toNat) (s, ⟨#[]⟩, 0, ()) () rfl rfl ⟨s, [], [], 0, rfl, by omega, hg, hs, by rw [parts_eq, bs_data, List.drop_zero, List.nil_append, rest_names l [] (by simp) (fun _ => rfl)]; rfl, fun _ => rfl, by simp, by simp⟩ ?_
 rintro x y u2 ⟨s, out, part, i, rfl, hi, hg, hs, hr, hl, hpl, hol⟩
 have hz : ((bs l).size : Int) = (l.length : Int) := by rw [bs_size]
 have w1 : IntKind.i64.wrap ((i : Int) + 1) = ((i + 1 : Nat) : Int) := by rw [IntKind.wrap_i64] <;> omega
 have w2 : IntKind.i64.wrap ((l.length : Int) - 1) = (l.length : Int) - 1 := by rw [IntKind.wrap_i64] <;> omega
 have hT : ∀ x : B, (cmpT .neq (bs x) ⟨#[]⟩) = !x.isEmpty := fun x => by
  have : (bs x).toList = x := bs_toList x
  have h2 : (⟨#[]⟩ : ByteArray).toList = [] := bs_toList []
  simp only [cmpT, this, h2]
  cases x <;> rfl
 simp only [Hold, PubTo, SV.den, E.den, denL, binI, cT_eql, cF_eql, cT_neq, cF_neq, cT_lss, cF_lss, cT_leq, cF_leq, cT_gtr, cF_gtr, cT_geq, cF_geq, tT_eql, tF_eql, tT_neq, tF_neq, rowsD, denLL, Ob.den, den_cells, List.map_nil, List.map_cons, true_implies, forall_const, true_and, and_true, Bool.true_eq_false, Bool.false_eq_true, reduceCtorEq, false_implies, implies_true, Bool.not_not, Bool.not_true, Bool.not_false, Bool.not_eq_true', Bool.not_eq_false', cond_true, cond_false, Nat.add_eq, Nat.mul_eq, Nat.sub_eq, Nat.add_zero, Nat.zero_mul, Nat.zero_add, hz, w1, w2]
 refine ⟨fun hlt => ?_, fun hge => ?_⟩
 ·have hlt : (i : Int) < (l.length : Int) := hlt
  have hil : i < l.length := by omega
  obtain ⟨c, hc⟩ : ∃ c, l[i] = c := ⟨_, rfl⟩
  have hd : l.drop i = c :: l.drop (i + 1) := by rw [List.drop_eq_getElem_cons hil, hc]
  have e1 : byteAt (bs l) (i : Int) = (c.toNat : Int) := by rw [byte_bs l i hil, hc]
  have e2 : (bs part).append ((bs l).extract (i : Int).toNat ((i + 1 : Nat) : Int).toNat) = bs (part ++ [c]) := by
   rw [Int.toNat_natCast, Int.toNat_natCast, cut_bs l i hil, hc, cat_bs]
  have e3 : ((bs l).extract (i : Int).toNat ((i + 1 : Nat) : Int).toNat).size = 1 := by
   rw [Int.toNat_natCast, Int.toNat_natCast, cut_bs l i hil, bs_size]; rfl
  have e4 : cmpI .eql (c.toNat : Int) 47 = decide (c = 47) := by rw [cD_eql, Bool.eq_iff_iff]; simp only [decide_eq_true_eq]; exact u8_eq c 47
  have e5 : cmpI .eql (i : Int) ((l.length : Int) - 1) = decide (i + 1 = l.length) := by rw [cD_eql, Bool.eq_iff_iff]; simp only [decide_eq_true_eq]; omega
  have hlast : (i + 1 = l.length) ↔ l.drop (i + 1) = [] := by rw [List.drop_eq_nil_iff]; omega
  have hbo : (0 : Int) ≤ (i : Int) ∧ (i : Int) < (l.length : Int) := ⟨by omega, hlt⟩
  simp only [e1, e2, e3, e4, e5, hT]
  have app := fun (x : B) (b : Nat) (u3 : Mem) (h3 : u2.le u3) (hw : ∀ (j : Nat) v, [Value.string (bs x)][j]? = some v → u3 b j = some v) => bv_one (P := Tryz.prog) (t := 78) (ty := 78) (e := 9) (z := .string ⟨#[]⟩) (size := 1) (bytes := 16) (by kernel_rfl) (by kernel_rfl) rfl (by decide) (u0 := u) (b := b) (Mem.le_refl u) hg h3 hw rfl (by simp [Value.oneCell']) (by omega) (by omega)
  refine ⟨hbo, fun hn47 => ?_, fun h47 => ?_⟩
  ·have hn47 : ¬ c = 47 := fun h => hn47 (by rw [h]; rfl)
   have hne : (part ++ [c]).isEmpty = false := by cases part <;> rfl
   simp only [hne, decide_eq_false hn47, Bool.not_false, cond_true, cond_false, decide_eq_true_eq, decide_eq_false_iff_not]
   have hb3 : (0 : Int) ≤ (i : Int) ∧ (i : Int) ≤ ((i + 1 : Nat) : Int) ∧ ((i + 1 : Nat) : Int) ≤ (l.length : Int) := by omega
   refine ⟨hb3, by rw [bs_size]; omega, fun _ => hbo, fun hL b hb u3 h3 hw => ?_, fun hL => ?_⟩
   ·refine (app (part ++ [c]) b u3 h3 fun j v hj => hw _ (List.mem_singleton.2 rfl) j v (by rw [← e2, ← w1] at hj; exact hj)).mono fun v u4 ⟨s', hv', hs', hg'⟩ => ⟨(s', ()), hv', by simp, ?_⟩
    simp only [if_true]
    rw [hd, restF, if_neg hn47, if_pos (hlast.1 hL)] at hr
    refine ⟨(s', bs [], ((i + 1 : Nat) : Int), ()), (), rfl, rfl, ⟨s', out ++ [bs (part ++ [c])], [], i + 1, rfl, by omega, by rw [List.map_append]; exact hg', by rw [hs', hs]; simp, ?_, fun _ => rfl, by simp, by simp; omega⟩, by simp only; omega⟩
    rw [hlast.1 hL]; simpa [restF] using hr
   ·refine ⟨by simp, ?_⟩
    simp only [if_true]
    rw [hd, restF, if_neg hn47, if_neg (fun h => hL (hlast.2 h))] at hr
    exact ⟨(s, bs (part ++ [c]), ((i + 1 : Nat) : Int), ()), (), rfl, rfl, ⟨s, out, part ++ [c], i + 1, rfl, by omega, hg, hs, hr, fun h => absurd h hL, by simp; omega, by omega⟩, by simp only; omega⟩
  ·have h47 : c = 47 := (u8_eq c 47).1 h47
   simp only [decide_eq_true h47, cond_true]
   rw [hd, restF, if_pos h47] at hr
   refine ⟨fun _ => hbo, fun hL b hb u3 h3 hw => ?_, fun hL => ?_⟩
   ·have hpn : part ≠ [] := by rintro rfl; simp at hL
    rw [if_neg hpn] at hr
    refine (app part b u3 h3 fun j v hj => hw _ (List.mem_singleton.2 rfl) j v hj).mono fun v u4 ⟨s', hv', hs', hg'⟩ => ⟨(s', ()), hv', by simp, ?_⟩
    simp only [if_true]
    refine ⟨(s', bs [], ((i + 1 : Nat) : Int), ()), (), rfl, rfl, ⟨s', out ++ [bs part], [], i + 1, rfl, by omega, by rw [List.map_append]; exact hg', by rw [hs', hs]; simp, by rw [← hr]; simp, fun _ => rfl, by simp, by simp; omega⟩, by simp only; omega⟩
   ·have hpn : part = [] := by cases part with | nil => rfl | cons x r => simp at hL
    subst hpn
    rw [if_pos rfl] at hr
    refine ⟨by simp, ?_⟩
    simp only [if_true]
    exact ⟨(s, bs [], ((i + 1 : Nat) : Int), ()), (), by rw [← w1]; rfl, rfl, ⟨s, out, [], i + 1, rfl, by omega, hg, hs, hr, fun _ => rfl, by simp, by omega⟩, by simp only; omega⟩
 ·have hge : (l.length : Int) ≤ (i : Int) := hge
  have hil : i = l.length := by omega
  subst hil
  rw [hl rfl, List.drop_length] at hr
  simp only [restF, List.map_nil, List.append_nil] at hr
  have hB : ∀ k : Int, (k = 0 ∨ k = (l.length : Int) - 1) → ¬ (bs l).toList = (⟨#[]⟩ : ByteArray).toList → 0 ≤ k ∧ k < (l.length : Int) := fun k hk h => by
   have : l ≠ [] := fun e => h (by rw [e]; rfl)
   have := List.length_pos_iff.2 this
   omega
  have e4 : ∀ c : UInt8, cmpI .eql (c.toNat : Int) 47 = (c == 47) := fun c => by rw [cD_eql, Bool.eq_iff_iff]; simp only [decide_eq_true_eq, beq_iff_eq]; exact u8_eq c 47
  refine ⟨hB 0 (.inl rfl), hB _ (.inr rfl), s, ?_, by rw [← hr]; exact hs, by rw [← hr]; exact hg⟩
  simp only [hT, Value.tuple.injEq]
  have p1 : pre47 (bs l) = (bif !l.isEmpty then cmpI .eql (byteAt (bs l) 0) 47 else false) := by
   cases l with
   | nil => rfl
   | cons c r =>
    have := byte_bs (c :: r) 0 (by simp)
    rw [show ((0 : Nat) : Int) = 0 from rfl] at this
    rw [this, e4]
    unfold pre47
    rw [bs_data]
    show ([47] : B).isPrefixOf (c :: r) = _
    simp [List.isPrefixOf, BEq.comm]
  have p2 : suf47 (bs l) = (bif !l.isEmpty then cmpI .eql (byteAt (bs l) ((l.length : Int) - 1)) 47 else false) := by
   unfold suf47
   rw [bs_data]
   show ([47] : B).isSuffixOf l = _
   unfold List.isSuffixOf
   rcases List.eq_nil_or_concat l with rfl | ⟨r, c, rfl⟩
   ·rfl
   ·rw [List.concat_eq_append]
    have := byte_bs (r ++ [c]) r.length (by simp)
    rw [show (((r ++ [c]).length : Nat) : Int) - 1 = (r.length : Int) by simp, this, e4]
    simp [List.isPrefixOf, BEq.comm]
  rw [p1, p2]
end Go.Proofs.YtpfbimkpcnnfkaaGreatDoor.Sx
set_option maxRecDepth 100000
set_option linter.unusedVariables false
set_option linter.unusedSimpArgs false
namespace Go.Proofs.YtpfbimkpcnnfkaaGreatDoor.Sx
open Go Go.RowKit Go.Proofs.YtpfbimkpcnnfkaaGreatDoor Go.Proofs.YtpfbimkpcnnfkaaGreatDoor.Ext
theorem index_of : ∀ (l : B) (c : UInt8), 0 ≤ Lib.indexByte l c ↔ c ∈ l
 | [], c => by simp [Lib.indexByte]
 | x :: r, c => by
  have ih := index_of r c
  unfold Lib.indexByte
  by_cases h : x = c
  ·subst h; simp
  ·simp only [beq_iff_eq, h, if_false, List.mem_cons]
   constructor
   ·intro h2
    refine .inr (ih.1 ?_)
    split at h2
    ·omega
    ·omega
   ·rintro (h2 | h2)
    ·exact absurd h2.symm h
    ·have := ih.2 h2
     split
     ·omega
     ·omega
theorem check_eq (p : ByteArray) : checkB p = if p.size = 0 then 2 else if 100 < p.size then 9 else if (0 : UInt8) ∈ p.data.toList then 1 else if (partsB p).any (fun x => decide (12 < x.size)) = true then 9 else 0 := by
 unfold checkB
 have h1 : (0 ≤ Lib.indexByte p.data.toList 0) = ((0 : UInt8) ∈ p.data.toList) := propext (index_of _ _)
 have h2 : (partsL p).any (fun x => decide (12 < x.2.size)) = (partsB p).any (fun x => decide (12 < x.size)) := by unfold partsB; rw [List.any_map]; rfl
 simp only [h1, h2]
theorem rcheck.cv (p : ByteArray) (u : Mem) (hp : p.size ≤ 1000000000) : CV Tryz.prog 72 [.string p] [] u fun v cs u' => cs = [] ∧ v = .int .i64 (checkB p) := by
 obtain ⟨l, rfl⟩ : ∃ l, p = bs l := ⟨p.data.toList, (bs_of p).symm⟩
 rw [bs_size] at hp
 refine cv_of names draws (fn := Tryz.f72) (b := bodyOf Tryz.f72) rfl rfl [⟨6, [3], []⟩, ⟨12, [7], []⟩] (rcheck.args (bs l, ())) (rcheck.giv _) (fun _ => 0) (rcheck.run _) (by kernel_rfl) rfl rfl ?_
 have hz : ((bs l).size : Int) = (l.length : Int) := by rw [bs_size]
 rw [check_eq, bs_size, bs_data]
 unfold rcheck.T
 refine ⟨fun h => ?_, fun h => ⟨fun h1 => ?_, fun h1 => ?_⟩⟩
 all_goals simp only [E.den, tT_eql, tF_eql, cT_gtr, cF_gtr, hz] at h
 ·have : l = [] := by rw [show (⟨#[]⟩ : ByteArray) = bs [] from rfl] at h; simpa [bs_toList] using h
  rw [this]; exact ⟨rfl, rfl⟩
 all_goals
  have h0 : ¬ l.length = 0 := fun e => h (by rw [List.length_eq_zero_iff.1 e]; rfl)
  simp only [E.den, cT_gtr, cF_gtr, hz] at h1
  rw [if_neg h0]
 ·rw [if_pos (by omega)]; exact ⟨rfl, rfl⟩
 rw [if_neg (by omega)]
 refine hold_count l.length (fun i u' => u.le u' ∧ (0 : UInt8) ∉ l.take i) ⟨Mem.le_refl u, by simp⟩ ?_
 rintro i u1 hi ⟨hu1, hI⟩
 refine ⟨fun hlt => ?_, fun hge => ?_⟩
 ·simp only [E.den, cT_lss, hz] at hlt
  have hlt : (i : Int) < (l.length : Int) := hlt
  have hil : i < l.length := by omega
  have e1 : byteAt (bs l) (i : Int) = ((l[i]).toNat : Int) := byte_bs l i hil
  have htk : l.take (i + 1) = l.take i ++ [l[i]] := List.take_succ_eq_append_getElem hil
  simp only [Hold, PubTo, SV.den, E.den, denL, binI, cT_eql, cF_eql, cT_neq, cF_neq, cT_lss, cF_lss, cT_leq, cF_leq, cT_gtr, cF_gtr, cT_geq, cF_geq, tT_eql, tF_eql, tT_neq, tF_neq, rowsD, denLL, Ob.den, den_cells, List.map_nil, List.map_cons, true_implies, forall_const, true_and, and_true, Bool.true_eq_false, Bool.false_eq_true, reduceCtorEq, false_implies, implies_true, Bool.not_not, Bool.not_true, Bool.not_false, Bool.not_eq_true', Bool.not_eq_false', cond_true, cond_false, Nat.add_eq, Nat.mul_eq, Nat.sub_eq, Nat.add_zero, Nat.zero_mul, Nat.zero_add, hz, e1, wrap_succ (show i < 4611686018427387904 by omega)]
  have hbo : (0 : Int) ≤ (i : Int) ∧ (i : Int) < (l.length : Int) := ⟨by omega, hlt⟩
  refine ⟨hbo, fun h0 => ?_, fun h0 => ⟨by simp, rfl, rfl, hil, hu1, ?_⟩⟩
  ·have : l[i] = 0 := (u8_eq _ 0).1 h0
   rw [if_pos (this ▸ List.getElem_mem hil)]
  ·rw [htk, List.mem_append, List.mem_singleton]
   rintro (h2 | h2)
   ·exact hI h2
   ·exact h0 ((u8_eq _ 0).2 h2.symm)
 ·simp only [E.den, cF_lss, hz] at hge
  have hge : (l.length : Int) ≤ (i : Int) := hge
  obtain rfl : i = l.length := by omega
  rw [List.take_length] at hI
  rw [if_neg hI]
  refine hold_call ((rsplit.cv (bs l) u1 (by rw [bs_size]; omega)).mono fun v cs u2 hu2 ⟨hc, s, hv, hs, hg⟩ => ⟨(s, pre47 (bs l), suf47 (bs l), ()), (), hv, hc, ?_⟩)
  have hpl := parts_le (bs l)
  rw [bs_size] at hpl
  have hps := strs_at hg hs
  generalize partsB (bs l) = ps at *
  refine hold_count ps.length (fun i u' => u2.le u' ∧ (ps.take i).any (fun x => decide (12 < x.size)) = false) ⟨Mem.le_refl _, by simp⟩ ?_
  rintro i u3 hi ⟨hu3, hI⟩
  refine ⟨fun hlt => ?_, fun hge => ?_⟩
  ·simp only [E.den, cT_lss, hs] at hlt
   have hlt : (i : Int) < (ps.length : Int) := hlt
   have hil : i < ps.length := by omega
   obtain ⟨x, hx⟩ : ∃ x, ps[i]? = some x := ⟨_, List.getElem?_eq_getElem hil⟩
   have hr := (hps.at_ i x hx).mono hu3
   have htk : ps.take (i + 1) = ps.take i ++ [x] := by rw [List.take_succ_eq_append_getElem hil]; rw [List.getElem?_eq_getElem hil] at hx; cases hx; rfl
   have hpb : (0 : Int) ≤ (i : Int) ∧ (i : Int) < (ps.length : Int) ∧ s.1.isSome = true := ⟨by omega, hlt, hr.some⟩
   simp only [Hold, PubTo, SV.den, E.den, denL, binI, cT_eql, cF_eql, cT_neq, cF_neq, cT_lss, cF_lss, cT_leq, cF_leq, cT_gtr, cF_gtr, cT_geq, cF_geq, tT_eql, tF_eql, tT_neq, tF_neq, rowsD, denLL, Ob.den, den_cells, List.map_nil, List.map_cons, true_implies, forall_const, true_and, and_true, Bool.true_eq_false, Bool.false_eq_true, reduceCtorEq, false_implies, implies_true, Bool.not_not, Bool.not_true, Bool.not_false, Bool.not_eq_true', Bool.not_eq_false', cond_true, cond_false, Nat.add_eq, Nat.mul_eq, Nat.sub_eq, Nat.add_zero, Nat.zero_mul, Nat.zero_add, hs, wrap_succ (show i < 4611686018427387904 by omega)]
   refine ⟨hpb, (x, ()), by rw [Int.toNat_natCast, Nat.mul_one]; exact hr, fun h0 => ?_, fun h0 => ⟨by simp, rfl, rfl, hil, hu3, ?_⟩⟩
   ·have h0 : (12 : Int) < (x.size : Int) := h0
    rw [if_pos (List.any_eq_true.2 ⟨x, List.mem_of_getElem? hx, by simp; omega⟩)]
   ·have h0 : (x.size : Int) ≤ 12 := h0
    rw [htk, List.any_append, hI]; simp; omega
  ·simp only [E.den, cF_lss, hs] at hge
   have hge : (ps.length : Int) ≤ (i : Int) := hge
   obtain rfl : i = ps.length := by omega
   rw [List.take_length] at hI
   rw [if_neg (by rw [hI]; simp)]
   exact ⟨rfl, rfl⟩
end Go.Proofs.YtpfbimkpcnnfkaaGreatDoor.Sx
set_option maxRecDepth 100000
set_option linter.unusedVariables false
set_option linter.unusedSimpArgs false
namespace Go.Proofs.YtpfbimkpcnnfkaaGreatDoor.Sx
open Go Go.RowKit Go.Proofs.YtpfbimkpcnnfkaaGreatDoor Go.Proofs.YtpfbimkpcnnfkaaGreatDoor.Ext
theorem may_bits : ∀ n : Fin 64, ∀ w : Fin 8, (cmpI .eql (binI .and .i64 (binI .and .i64 (w.val : Int) 7) (binI .and .i64 (shfI .shr .i64 (n.val : Int) 3) 7)) (binI .and .i64 (w.val : Int) 7)) = (binI .andNot .i64 (binI .and .i64 (w.val : Int) 7) (shfI .shr .i64 (n.val : Int) 3) == 0) ∧
  (cmpI .eql (binI .and .i64 (binI .and .i64 (w.val : Int) 7) (binI .and .i64 (n.val : Int) 7)) (binI .and .i64 (w.val : Int) 7)) = (binI .andNot .i64 (binI .and .i64 (w.val : Int) 7) (n.val : Int) == 0) := by
 decide +kernel
theorem rmay.cv (m o w x : Int) (u : Mem) (hm : 0 ≤ m ∧ m ≤ 63) (hx : 0 ≤ x ∧ x ≤ 7) : CV Tryz.prog 75 [.int .i64 m, .int .i64 o, .int .i64 w, .int .i64 x] [] u fun v cs _ => cs = [] ∧ v = .bool (mayB m o w x) := by
 refine cv_of names draws (fn := Tryz.f75) (b := bodyOf Tryz.f75) rfl rfl [] (rmay.args (m, ()) (o, ()) (w, ()) (x, ())) (rmay.giv _ _ _ _) (fun _ => 0) (rmay.run _ _ _ _) (by kernel_rfl) rfl rfl ?_
 obtain ⟨n, rfl⟩ : ∃ n : Fin 64, (n.val : Int) = m := ⟨⟨m.toNat, by omega⟩, by show (m.toNat : Int) = m; omega⟩
 obtain ⟨k, rfl⟩ : ∃ n : Fin 8, (n.val : Int) = x := ⟨⟨x.toNat, by omega⟩, by show (x.toNat : Int) = x; omega⟩
 obtain ⟨h1, h2⟩ := may_bits n k
 simp only [rmay.T, Hold, PubTo, SV.den, E.den, cT_eql, cF_eql, List.map_nil, true_and, Value.bool.injEq]
 unfold mayB
 refine ⟨fun h => ?_, fun h => ⟨fun h3 => ?_, fun h3 => ?_⟩⟩
 ·rw [if_pos h]
 ·have h3 : o = w := h3
  rw [if_neg h, if_pos h3.symm]; exact h1
 ·have h3 : ¬ o = w := h3
  rw [if_neg h, if_neg (fun e => h3 e.symm)]; exact h2
theorem cmp_zero : ∀ a b : List UInt8, Lib.compareBytes a b = 0 ↔ a = b
 | [], [] => by simp [Lib.compareBytes]
 | [], _ :: _ => by simp [Lib.compareBytes]
 | _ :: _, [] => by simp [Lib.compareBytes]
 | a :: u, b :: v => by
  unfold Lib.compareBytes
  by_cases h1 : a < b
  ·have hne : ¬ a = b := by rintro rfl; exact UInt8.lt_irrefl _ h1
   simp [h1, hne]
  ·by_cases h2 : b < a
   ·have hne : ¬ a = b := by rintro rfl; exact h1 h2
    simp [h1, h2, hne]
   ·have he : a = b := UInt8.le_antisymm (UInt8.not_lt.1 h2) (UInt8.not_lt.1 h1)
    subst he
    simp [h1, cmp_zero u v]
theorem ord_zero (e : En) (name : ByteArray) : ord e name = 0 ↔ e.f0.toList = name.toList := by
 unfold ord; rw [cmp_zero, toList_data, toList_data]
theorem rfind.cv (A : Option Addr) (c : Nat) (l : List En) (name : ByteArray) (u : Mem) (hd : EntAt u A l) (hl : l.length ≤ 1000000) :
  CV Tryz.prog 26 [.slice A l.length c, .string name] [] u fun v cs _ => cs = [] ∧ v = .tuple #[.int .i64 (inoL l name), .bool (findL l name).isSome] := by
 refine cv_of names draws (fn := Tryz.f26) (b := bodyOf Tryz.f26) rfl rfl [⟨2, [6], []⟩] (rfind.args ((A, l.length, c), ()) (name, ())) (rfind.giv _ _) (fun _ => 0) (rfind.run _ _) (by kernel_rfl) rfl rfl ?_
 unfold rfind.T
 refine hold_count l.length (fun i u' => u.le u' ∧ findL (l.take i) name = none) ⟨Mem.le_refl u, rfl⟩ ?_
 rintro i u1 hi ⟨hu1, hI⟩
 refine ⟨fun hlt => ?_, fun hge => ?_⟩
 ·simp only [E.den, cT_lss] at hlt
  have hlt : (i : Int) < (l.length : Int) := hlt
  have hil : i < l.length := by omega
  obtain ⟨e, he⟩ : ∃ e, l[i]? = some e := ⟨_, List.getElem?_eq_getElem hil⟩
  have htk : l.take (i + 1) = l.take i ++ [e] := by rw [List.take_succ_eq_append_getElem hil]; rw [List.getElem?_eq_getElem hil] at he; cases he; rfl
  have hx := (hd i e he).mono hu1
  have hpb : (0 : Int) ≤ (i : Int) ∧ (i : Int) < (l.length : Int) ∧ A.isSome = true := ⟨by omega, hlt, hx.some⟩
  simp only [Hold, PubTo, SV.den, E.den, denL, binI, cT_eql, cF_eql, cT_neq, cF_neq, cT_lss, cF_lss, cT_leq, cF_leq, cT_gtr, cF_gtr, cT_geq, cF_geq, tT_eql, tF_eql, tT_neq, tF_neq, rowsD, denLL, Ob.den, den_cells, List.map_nil, List.map_cons, true_implies, forall_const, true_and, and_true, Bool.true_eq_false, Bool.false_eq_true, reduceCtorEq, false_implies, implies_true, Bool.not_not, Bool.not_true, Bool.not_false, Bool.not_eq_true', Bool.not_eq_false', cond_true, cond_false, Nat.add_eq, Nat.mul_eq, Nat.sub_eq, Nat.add_zero, Nat.zero_mul, Nat.zero_add, wrap_succ (show i < 4611686018427387904 by omega)]
  refine ⟨hpb, hx.some, (e.f0, ()), by rw [Int.toNat_natCast]; exact hx.part 0 1, fun h0 => ⟨hpb, hx.some, (e.f1, ()), by rw [Int.toNat_natCast]; exact hx.part 1 1, ?_⟩, fun h0 => ⟨by simp, rfl, rfl, hil, hu1, ?_⟩⟩
  ·have h0 : e.f0.toList = name.toList := h0
   have hF : findL l name = some e := by
    unfold findL at hI ⊢
    have hdr : l.drop i = e :: l.drop (i + 1) := by rw [List.drop_eq_getElem_cons hil]; rw [List.getElem?_eq_getElem hil] at he; cases he; rfl
    rw [← List.take_append_drop i l, List.find?_append, hI, hdr]
    simp [(ord_zero _ _).2 h0]
   unfold inoL; rw [hF]; rfl
  ·have h0 : ¬ e.f0.toList = name.toList := h0
   unfold findL at hI ⊢
   rw [htk, List.find?_append, hI]
   have : ¬ ord e name = 0 := fun h => h0 ((ord_zero _ _).1 h)
   simp [this]
 ·simp only [E.den, cF_lss] at hge
  have hge : (l.length : Int) ≤ (i : Int) := hge
  obtain rfl : i = l.length := by omega
  rw [List.take_length] at hI
  unfold inoL; rw [hI]; exact ⟨rfl, rfl⟩
theorem rget.cv (A : Option Addr) (c : Nat) (l : List Nd) (m r i : Int) (u : Mem) (hd : DiskAt u A l) (hl : l.length ≤ 1000000) :
  CV Tryz.prog 60 [.agg #[.slice A l.length c, .int .i64 m, .int .i64 r], .int .i64 i] [] u fun v cs u' => cs = [] ∧ ∃ a7 c7, v = .tuple #[.agg (cv K0 ((getL l i).row a7 c7)).toArray, .bool (getB l i)] ∧ (getL l i).f7.length ≤ c7 ∧ EntAt u' a7 (getL l i).f7 := by
 refine cv_of names draws (fn := Tryz.f60) (b := bodyOf Tryz.f60) rfl rfl [] (rget.args ((A, l.length, c), m, r, ()) (i, ())) (rget.giv _ _) (fun _ => 0) (rget.run _ _) (by kernel_rfl) rfl rfl ?_
 simp only [rget.T, Hold, PubTo, SV.den, E.den, denL, binI, cT_eql, cF_eql, cT_neq, cF_neq, cT_lss, cF_lss, cT_leq, cF_leq, cT_gtr, cF_gtr, cT_geq, cF_geq, tT_eql, tF_eql, tT_neq, tF_neq, rowsD, denLL, Ob.den, den_cells, List.map_nil, List.map_cons, true_implies, forall_const, true_and, and_true, Bool.true_eq_false, Bool.false_eq_true, reduceCtorEq, false_implies, implies_true, Bool.not_not, Bool.not_true, Bool.not_false, Bool.not_eq_true', Bool.not_eq_false', cond_true, cond_false, Nat.add_eq, Nat.mul_eq, Nat.sub_eq, Nat.add_zero, Nat.zero_mul, Nat.zero_add]
 intro b1 h1 b2 h2
 have hlss : cmpI .lss i 0 = decide (i < 0) := rfl
 have hgeq : cmpI .geq i (l.length : Int) = decide ((l.length : Int) ≤ i) := by rw [Bool.eq_iff_iff]; simp [cmpI]
 simp only [hlss, hgeq]
 by_cases hx : 0 ≤ i ∧ i < (l.length : Int)
 ·have hil : i.toNat < l.length := by omega
  obtain ⟨a7, c7, k1, k2, k3⟩ := hd i.toNat l[i.toNat] (List.getElem?_eq_getElem hil)
  have hg : l.getD i.toNat zNd = l[i.toNat] := by simp [List.getD, hil]
  have hb : getB l i = (l[i.toNat].f0 != 0) := by
   unfold getB; rw [hg, Bool.eq_iff_iff]; simp; omega
  have hi : 0 ≤ i ∧ i < (l.length : Int) ∧ A.isSome = true := ⟨hx.1, by omega, k2.some⟩
  have n1 : ¬ i < 0 := by omega
  have n2 : ¬ (l.length : Int) ≤ i := by omega
  simp only [decide_eq_false n1, decide_eq_false n2, cond_false, Bool.not_false, Hold, PubTo, SV.den, E.den, denL, binI, cT_eql, cF_eql, cT_neq, cF_neq, cT_lss, cF_lss, cT_leq, cF_leq, cT_gtr, cF_gtr, cT_geq, cF_geq, tT_eql, tF_eql, tT_neq, tF_neq, rowsD, denLL, Ob.den, den_cells, List.map_nil, List.map_cons, true_implies, forall_const, true_and, and_true, Bool.true_eq_false, Bool.false_eq_true, reduceCtorEq, false_implies, implies_true, Bool.not_not, Bool.not_true, Bool.not_false, Bool.not_eq_true', Bool.not_eq_false', cond_true, cond_false, Nat.add_eq, Nat.mul_eq, Nat.sub_eq, Nat.add_zero, Nat.zero_mul, Nat.zero_add]
  refine ⟨hi, k2.some, (l[i.toNat].f0, ()), k2.part 0 1, fun h0 => ?_, fun h0 => ⟨hi, l[i.toNat].row a7 c7, k2, ?_⟩⟩
  ·have h0 : l[i.toNat].f0 = 0 := h0
   have : getB l i = false := by rw [hb]; simpa using h0
   unfold getL; rw [this]
   exact ⟨none, 0, rfl, Nat.zero_le _, fun i e hi => by simp [zNd] at hi⟩
  ·have h0 : ¬ l[i.toNat].f0 = 0 := h0
   have : getB l i = true := by rw [hb]; simpa using h0
   unfold getL; rw [this, if_pos rfl, hg]
   exact ⟨a7, c7, rfl, k1, k3⟩
 ·have : getB l i = false := by unfold getB; simp; omega
  have hb : (bif decide (i < 0) then true else decide ((l.length : Int) ≤ i)) = true := by
   by_cases h : i < 0
   ·rw [decide_eq_true h]; rfl
   ·rw [decide_eq_false h]; simp; omega
  simp only [hb, Bool.not_true, Hold, PubTo, SV.den, E.den, denL, binI, cT_eql, cF_eql, cT_neq, cF_neq, cT_lss, cF_lss, cT_leq, cF_leq, cT_gtr, cF_gtr, cT_geq, cF_geq, tT_eql, tF_eql, tT_neq, tF_neq, rowsD, denLL, Ob.den, den_cells, List.map_nil, List.map_cons, true_implies, forall_const, true_and, and_true, Bool.true_eq_false, Bool.false_eq_true, reduceCtorEq, false_implies, implies_true, Bool.not_not, Bool.not_true, Bool.not_false, Bool.not_eq_true', Bool.not_eq_false', cond_true, cond_false, Nat.add_eq, Nat.mul_eq, Nat.sub_eq, Nat.add_zero, Nat.zero_mul, Nat.zero_add]
  unfold getL; rw [this]
  exact ⟨none, 0, rfl, Nat.zero_le _, fun i e hi => by simp [zNd] at hi⟩
theorem rdir.cv (A : Option Addr) (c : Nat) (l : List Nd) (m r i : Int) (u : Mem) (hd : DiskAt u A l) (hl : l.length ≤ 1000000) :
  CV Tryz.prog 74 [.agg #[.slice A l.length c, .int .i64 m, .int .i64 r], .int .i64 i] [] u fun v cs u' => cs = [] ∧ v = .int .i64 (hereB l i) := by
 refine cv_of names draws (fn := Tryz.f74) (b := bodyOf Tryz.f74) rfl rfl [] (rdir.args ((A, l.length, c), m, r, ()) (i, ())) (rdir.giv _ _) (fun _ => 0) (rdir.run _ _) (by kernel_rfl) rfl rfl ?_
 simp only [rdir.T, Hold, PubTo, SV.den, E.den, denL, binI, cT_eql, cF_eql, cT_neq, cF_neq, cT_lss, cF_lss, cT_leq, cF_leq, cT_gtr, cF_gtr, cT_geq, cF_geq, tT_eql, tF_eql, tT_neq, tF_neq, rowsD, denLL, Ob.den, den_cells, List.map_nil, List.map_cons, true_implies, forall_const, true_and, and_true, Bool.true_eq_false, Bool.false_eq_true, reduceCtorEq, false_implies, implies_true, Bool.not_not, Bool.not_true, Bool.not_false, Bool.not_eq_true', Bool.not_eq_false', cond_true, cond_false, Nat.add_eq, Nat.mul_eq, Nat.sub_eq, Nat.add_zero, Nat.zero_mul, Nat.zero_add]
 intro b1 h1
 refine (rget.cv A c l m r i u hd hl).mono fun v cs u1 hu1 ⟨hc, a7, c7, hv, _, _⟩ => ?_
 unfold hereB
 generalize getL l i = n at *
 generalize getB l i = g at *
 refine ⟨(n.f0, n.f1, n.f2, n.f3, n.f4, n.f5, n.f6, (a7, n.f7.length, c7), g, ()), (), hv, hc, fun b2 h2 => ⟨fun h => ?_, fun h => ⟨fun h3 => ?_, fun h3 => ?_⟩⟩⟩
 ·have h : g = false := h
  rw [if_neg (by rw [h]; simp)]
 ·have h : g = true := h
  have h3 : ¬ n.f0 = 2 := h3
  rw [if_pos h, if_neg h3]
 ·have h : g = true := h
  have h3 : n.f0 = 2 := h3
  rw [if_pos h, if_pos h3]
theorem rlook.cv (A : Option Addr) (c : Nat) (l : List Nd) (m r i : Int) (part : ByteArray) (u : Mem) (hd : DiskAt u A l) (hl : l.length ≤ 1000000) (hn : (getL l i).f7.length ≤ 1000000) :
  CV Tryz.prog 76 [.agg #[.slice A l.length c, .int .i64 m, .int .i64 r], .int .i64 i, .string part] [] u fun v cs u' => cs = [] ∧ v = .int .i64 (namedB i (getL l i) part) := by
 refine cv_of names draws (fn := Tryz.f76) (b := bodyOf Tryz.f76) rfl rfl [] (rlook.args ((A, l.length, c), m, r, ()) (i, ()) (part, ())) (rlook.giv _ _ _) (fun _ => 0) (rlook.run _ _ _) (by kernel_rfl) rfl rfl ?_
 simp only [rlook.T, Hold, PubTo, SV.den, E.den, denL, binI, cT_eql, cF_eql, cT_neq, cF_neq, cT_lss, cF_lss, cT_leq, cF_leq, cT_gtr, cF_gtr, cT_geq, cF_geq, tT_eql, tF_eql, tT_neq, tF_neq, rowsD, denLL, Ob.den, den_cells, List.map_nil, List.map_cons, true_implies, forall_const, true_and, and_true, Bool.true_eq_false, Bool.false_eq_true, reduceCtorEq, false_implies, implies_true, Bool.not_not, Bool.not_true, Bool.not_false, Bool.not_eq_true', Bool.not_eq_false', cond_true, cond_false, Nat.add_eq, Nat.mul_eq, Nat.sub_eq, Nat.add_zero, Nat.zero_mul, Nat.zero_add, dot1, dot2]
 intro b1 h1
 refine (rget.cv A c l m r i u hd hl).mono fun v cs u1 hu1 ⟨hc, a7, c7, hv, h7, h8⟩ => ?_
 generalize getL l i = n at *
 generalize getB l i = g at *
 refine ⟨(n.f0, n.f1, n.f2, n.f3, n.f4, n.f5, n.f6, (a7, n.f7.length, c7), g, ()), (), hv, hc, fun b2 h2 => ⟨fun h => ?_, fun h => ⟨fun h3 => ?_, fun h3 => ?_⟩⟩⟩
 ·unfold namedB; rw [if_pos h]
 ·unfold namedB; rw [if_neg h, if_pos h3]
 ·refine (rfind.cv a7 c7 n.f7 part u1 h8 hn).mono fun v cs u2 hu2 ⟨hc2, hv2⟩ => ⟨(inoL n.f7 part, (findL n.f7 part).isSome, ()), (), hv2, hc2, ?_⟩
  unfold namedB; rw [if_neg h, if_neg h3]
end Go.Proofs.YtpfbimkpcnnfkaaGreatDoor.Sx
