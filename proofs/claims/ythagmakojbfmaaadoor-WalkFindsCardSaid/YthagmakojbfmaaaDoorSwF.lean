/- By Sx: route.Check, route.Split, the walker's hop. -/
import Derived.Test.YthagmakojbfmaaaDoorSwE
import Derived.Test.YthagmakojbfmaaaDoorSxX
import Derived.Test.YthagmakojbfmaaaDoorExtS
set_option maxRecDepth 100000
set_option linter.unusedVariables false
set_option linter.unusedSimpArgs false
namespace Go.Proofs.YthagmakojbfmaaaDoor.Sx
open Go Go.RowKit Go.Proofs.YthagmakojbfmaaaDoor Go.Proofs.YthagmakojbfmaaaDoor.Ext
theorem grow_plus {u : Mem} {w w' : World} {e : TypeId} {size n : Nat} {v : Value} {xs : List Value} (hs : Sees u w) (h : w'.ownsRow w.heap.size e size v n xs) (hb : Below w.heap.size w w') :
    ∃ s : Option Addr × Nat × Nat, v = .slice s.1 s.2.1 s.2.2 ∧ s.2.1 = n ∧ Grow u (u.plus w.heap.size w') s size xs := by
  obtain ⟨h1, h2⟩ := h
  rcases h2 with ⟨rfl, rfl⟩ | ⟨g, cap, cur, rfl, h3, h4, h5, h6, h7, h8⟩
  · exact ⟨(none, 0, 0), rfl, rfl, Mem.le_plus hs, by simpa using h1, Nat.le_refl _, .inl ⟨rfl, rfl⟩⟩
  · have hcur : cur.toList = xs ++ cur.toList.drop (n * size) := by rw [← h8, List.take_append_drop]
    refine ⟨(some ⟨g, 0, none⟩, n, cap), rfl, rfl, Mem.le_plus hs, h1, h5, .inr ⟨g, cur.toList.drop (n * size), rfl, fun o => ?_, fun j x hx => ?_, ?_⟩⟩
    · cases hx : u g o with
      | none => rfl
      | some x => have := hs.lt (b := g) (o := o) (by rw [hx]; simp); omega
    · rw [← hcur] at hx
      unfold Mem.plus
      rw [if_pos ⟨h3, cur, e, h4⟩]
      simp only [World.cell?, h4]
      simpa using hx
    · rw [← hcur]; simpa using h7
def partsB (p : ByteArray) : List ByteArray := (partsL p).map (·.2)
def pre47 (p : ByteArray) : Bool := Lib.hasPrefix p.data.toList [47]
def suf47 (p : ByteArray) : Bool := Lib.hasSuffix p.data.toList [47]
theorem strs_parts (p : ByteArray) : strs (partsL p) = (partsB p).map .string := by simp [strs, partsB]
theorem parts_le (p : ByteArray) : (partsB p).length ≤ p.size + 1 := by
  have := parts_length p (partsL p) ⟨[], by simp⟩
  simpa [partsB] using this
theorem check.cv (p : ByteArray) (u : Mem) (hp : p.size ≤ 1000000000000) : CV Tryd.prog 20 [.string p] [] u fun v cs u' => cs = [] ∧ v = .int .i64 (checkB p) :=
  cv_still fun w => (check_in p hp w).mono fun e w' h => h
theorem split.cv (p : ByteArray) (u : Mem) (hp : p.size ≤ 1000000000000) : CV Tryd.prog 21 [.string p] [] u fun v cs u' => cs = [] ∧ ∃ s : Option Addr × Nat × Nat, v = .tuple #[.slice s.1 s.2.1 s.2.2, .bool (pre47 p), .bool (suf47 p)] ∧
    s.2.1 = (partsB p).length ∧ Grow u u' s 1 ((partsB p).map .string) := by
  refine cv_world (R := fun v u' => ∃ s : Option Addr × Nat × Nat, v = .tuple #[.slice s.1 s.2.1 s.2.2, .bool (pre47 p), .bool (suf47 p)] ∧ s.2.1 = (partsB p).length ∧ Grow u u' s 1 ((partsB p).map .string)) fun w hs => ?_
  refine (split_in p hp w).mono fun e w' ⟨v, he, ho, hb⟩ => ?_
  obtain ⟨s, hv, hn, hg⟩ := grow_plus hs ho hb
  refine ⟨_, he, hb, s, by rw [hv]; rfl, by rw [hn]; simp [partsB], ?_⟩
  rw [← strs_parts]; exact hg
theorem strs_at {v u : Mem} {s : Option Addr × Nat × Nat} {l : List ByteArray} (h : Grow v u s 1 (l.map .string)) (hn : s.2.1 = l.length) : PartsAt u s l :=
  ⟨hn, h.cap, fun i x hi => h.reads (k := 0) (by simp) fun j y hj => by
    cases j with
    | zero => simp at hj; subst hj; simp [hi]
    | succ j => simp at hj⟩
theorem strs_reads {u : Mem} {a : Option Addr} {l : List ByteArray} (h : StrsAt u a l) (hl : l ≠ []) : Reads u a 0 (l.map .string) := by
  obtain ⟨x, r, rfl⟩ : ∃ x r, l = x :: r := by cases l with | nil => exact absurd rfl hl | cons x r => exact ⟨x, r, rfl⟩
  obtain ⟨b, f, e, _⟩ := h 0 x rfl
  refine ⟨b, f, e, fun j v hj => ?_⟩
  rw [List.getElem?_map] at hj
  obtain ⟨y, hy, rfl⟩ := Option.map_eq_some_iff.1 hj
  obtain ⟨b', f', e', h'⟩ := h j y hy
  rw [e] at e'; cases e'
  have := h' 0 _ rfl
  simpa using this
def hopF (k : Wk) (text : ByteArray) (rest : List ByteArray) : Int × Wk × List ByteArray :=
  if k.hops = 8 then (8, k, []) else if ¬ checkB text = 0 then (checkB text, k, [])
  else if partsB text ++ rest = [] then (0, { k with hops := IntKind.i64.wrap (k.hops + 1), at_ := if pre47 text then 0 else k.at_, dir := 0, name := ⟨#[]⟩, ino := 0, slashed := k.slash, over := true }, [])
  else (0, { k with hops := IntKind.i64.wrap (k.hops + 1), at_ := if pre47 text then 0 else k.at_ }, partsB text ++ rest)
theorem hop.cv (A : Option Addr) (n c : Nat) (m r : Int) : HopOk A n c m r hopF := by
  intro k text rest p q b u ht hr hq
  refine cv_of names draws (fn := Tryd.f57) (b := bodyOf Tryd.f57) rfl rfl [] (hop.args (k.row (A, n, c) m r p) (text, ()) (q, ())) (hop.giv _ _ _) (fun _ => b) (hop.run _ _ _) (by kernel_rfl) rfl rfl ?_
  have hq1 := hq.len
  have d8 : (8 : Int) ≠ 0 := by decide
  simp only [hop.T, Hold, PubTo, SV.den, E.den, denL, binI, cT_eql, cF_eql, cT_neq, cF_neq, cT_lss, cF_lss, cT_leq, cF_leq, cT_gtr, cF_gtr, cT_geq, cF_geq, tT_eql, tF_eql, tT_neq, tF_neq, rowsD, denLL, Ob.den, den_cells, List.map_nil, List.map_cons, true_implies, forall_const, true_and, and_true, Bool.true_eq_false, Bool.false_eq_true, reduceCtorEq, false_implies, implies_true, Bool.not_not, Bool.not_true, Bool.not_false, Bool.not_eq_true', Bool.not_eq_false', cond_true, cond_false, Nat.add_eq, Nat.mul_eq, Nat.sub_eq, Nat.add_zero, Nat.zero_mul, Nat.zero_add]
  refine ⟨fun h8 b1 hb1 u1 hu1 hw => ?_, fun h8 => ?_⟩
  · have h8 : k.hops = 8 := h8
    unfold hopF; rw [if_pos h8]
    exact ⟨.inr ⟨d8, _, rfl, hw _ (List.mem_singleton.2 rfl) 0 _ rfl⟩, p, rfl, fun h => absurd h d8⟩
  have h8 : ¬ k.hops = 8 := h8
  refine (check.cv text u (by omega)).mono fun v cs u1 hu1 ⟨hc, hv⟩ => ⟨(checkB text, ()), (), hv, hc, ?_⟩
  refine (halted.cv (checkB text) u1).mono fun v cs u2 hu2 ⟨hc2, hE⟩ => ⟨(v, ()), (), rfl, hc2, ?_⟩
  have hu02 := Mem.le_trans hu1 hu2
  refine ⟨?_, fun hn => ?_, fun hn => ?_⟩
  · rcases hE with ⟨_, rfl⟩ | ⟨_, q, rfl, _⟩
    · exact .inl rfl
    · exact .inr ⟨_, _, rfl⟩
  · rcases id hE with ⟨_, rfl⟩ | ⟨h0, _⟩
    · cases hn
    · unfold hopF; rw [if_neg h8, if_pos h0]
      exact ⟨hE, p, rfl, fun h => absurd h h0⟩
  obtain ⟨h0, rfl⟩ : checkB text = 0 ∧ v = .nilIface := by
    rcases hE with h | ⟨_, q, rfl, _⟩
    · exact h
    · cases hn
  have hle := parts_le text
  refine (split.cv text u2 (by omega)).mono fun v cs u3 hu3 ⟨hc3, s, hv3, hs3, hg3⟩ => ⟨(s, pre47 text, suf47 text, ()), (), hv3, hc3, ?_⟩
  have happ := bv_app (P := Tryd.prog) (t := 60) (ty := 60) (e := 9) (z := .string ⟨#[]⟩) (size := 1) (bytes := 16) (by kernel_rfl) (by kernel_rfl) rfl (by decide) (u0 := u) (m := q.2.1) (c := q.2.2) (a := q.1) (ys := rest.map .string) hu02 hg3
    (by rw [hq1, List.length_map, Nat.mul_one]) (fun hm => strs_reads (hq.at_.mono (Mem.le_trans hu02 hu3)) (fun e => hm (by rw [hq1, e]; rfl))) (fun y hy => by obtain ⟨x, _, rfl⟩ := List.mem_map.1 hy; rfl) (by rw [hs3, hq1]; omega) (by rw [hs3, hq1]; omega)
  have hF : hopF k text rest = if partsB text ++ rest = [] then (0, { k with hops := IntKind.i64.wrap (k.hops + 1), at_ := if pre47 text then 0 else k.at_, dir := 0, name := ⟨#[]⟩, ino := 0, slashed := k.slash, over := true }, [])
    else (0, { k with hops := IntKind.i64.wrap (k.hops + 1), at_ := if pre47 text then 0 else k.at_ }, partsB text ++ rest) := by
    unfold hopF; rw [if_neg h8, if_neg (by rw [h0]; simp)]
  rw [hF]
  clear hF
  have hfin : ∀ (s' : Option Addr × Nat × Nat), s'.2.1 = s.2.1 + q.2.1 → (((s'.2.1 : Nat) : Int) = 0 ↔ partsB text ++ rest = []) := fun s' hs' => by
    rw [hs', hs3, hq1]
    constructor
    · intro h
      have h1 : (partsB text ++ rest).length = 0 := by rw [List.length_append]; omega
      exact List.length_eq_zero_iff.1 h1
    · intro h
      have h1 := congrArg List.length h
      rw [List.length_append] at h1
      simp only [List.length_nil] at h1
      omega
  have hnew : ∀ (s' : Option Addr × Nat × Nat) (u4 : Mem), s'.2.1 = s.2.1 + q.2.1 → Grow u2 u4 s' 1 ((partsB text).map .string ++ rest.map .string) → PartsAt u4 s' (partsB text ++ rest) := fun s' u4 hs' hg' => by
    refine strs_at (v := u2) (by rw [List.map_append]; exact hg') (by rw [hs', hs3, hq1, List.length_append])
  refine ⟨fun hp => ?_, fun hp => ?_⟩
  · have hp : pre47 text = true := hp
    refine happ.mono fun v u4 ⟨s', hv', hs', hg'⟩ => ⟨(s', ()), hv', fun hz => ?_, fun hz => ?_⟩
    · have hz := (hfin s' hs').1 hz
      rw [if_pos hz, hp]
      have hend := end_.cv2 { k with hops := IntKind.i64.wrap (k.hops + 1), at_ := 0 } ⟨0, ⟨#[]⟩, 0, k.slash⟩ (A, n, c) m r s' b u4
      refine CV.mono hend fun v cs u5 hu5 h5 => ?_
      refine ⟨(), (_, ()), h5.1, h5.2, .inl ⟨rfl, rfl⟩, s', rfl, fun _ => ?_⟩
      have := (hnew s' u4 hs' hg').mono hu5
      rw [hz] at this; exact this
    · have hz := fun e => hz ((hfin s' hs').2 e)
      rw [if_neg hz, hp]
      exact ⟨.inl ⟨rfl, rfl⟩, s', rfl, fun _ => hnew s' u4 hs' hg'⟩
  · have hp : pre47 text = false := hp
    refine happ.mono fun v u4 ⟨s', hv', hs', hg'⟩ => ⟨(s', ()), hv', fun hz => ?_, fun hz => ?_⟩
    · have hz := (hfin s' hs').1 hz
      rw [if_pos hz, hp]
      have hend := end_.cv2 { k with hops := IntKind.i64.wrap (k.hops + 1), at_ := k.at_ } ⟨0, ⟨#[]⟩, 0, k.slash⟩ (A, n, c) m r s' b u4
      refine CV.mono hend fun v cs u5 hu5 h5 => ?_
      refine ⟨(), (_, ()), h5.1, h5.2, .inl ⟨rfl, rfl⟩, s', rfl, fun _ => ?_⟩
      have := (hnew s' u4 hs' hg').mono hu5
      rw [hz] at this; exact this
    · have hz := fun e => hz ((hfin s' hs').2 e)
      rw [if_neg hz, hp]
      exact ⟨.inl ⟨rfl, rfl⟩, s', rfl, fun _ => hnew s' u4 hs' hg'⟩
end Go.Proofs.YthagmakojbfmaaaDoor.Sx
