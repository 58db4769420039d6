/- Plain laws on paths: lists of bytes alone. -/
import Derived.Test.YtmjhlddlhicofaaDoorExt
namespace Go.Proofs.YtmjhlddlhicofaaDoor.Ext
open Go Go.RowKit Go.Proofs.YtmjhlddlhicofaaDoorW.PrintWords
set_option linter.unusedVariables false
set_option linter.unusedSimpArgs false

abbrev B := List UInt8
def names (l : B) : List B := (segs l).filter fun s => !s.isEmpty
theorem segs_slash (l : B) : segs (47 :: l) = [] :: segs l := by
  conv => lhs; unfold segs
  rw [if_pos (by decide)]
theorem segs_other (c : UInt8) (l : B) (hc : c ≠ 47) : ∃ s r, segs l = s :: r ∧ segs (c :: l) = (c :: s) :: r := by
  rcases h : segs l with _ | ⟨s, r⟩
  · exact absurd h (segs_ne l)
  · refine ⟨s, r, rfl, ?_⟩
    conv => lhs; unfold segs
    rw [if_neg (by simpa using hc), h]
theorem segs_split : ∀ (a b : B), segs (a ++ 47 :: b) = segs a ++ segs b
  | [], b => by rw [List.nil_append, segs_slash]; rfl
  | c :: a, b => by
    have ih := segs_split a b
    by_cases hc : c = 47
    · subst hc
      rw [List.cons_append, segs_slash, segs_slash, ih]; rfl
    · obtain ⟨s, r, h1, h2⟩ := segs_other c a hc
      obtain ⟨s', r', h3, h4⟩ := segs_other c (a ++ 47 :: b) hc
      rw [List.cons_append, h4, h2]
      rw [ih, h1, List.cons_append] at h3
      injection h3 with h5 h6
      rw [← h5, ← h6]; rfl
theorem names_split (a b : B) : names (a ++ 47 :: b) = names a ++ names b := by
  unfold names
  rw [segs_split, List.filter_append]
theorem names_nil : names [] = [] := rfl
theorem names_slash (b : B) : names (47 :: b) = names b := by
  have h := names_split [] b
  rw [names_nil] at h
  exact h
theorem names_end (a : B) : names (a ++ [47]) = names a := by rw [names_split]; simp [names_nil]
theorem segs_one : ∀ (l : B), (∀ c ∈ l, c ≠ 47) → segs l = [l]
  | [], _ => rfl
  | c :: l, h => by
    obtain ⟨s, r, h1, h2⟩ := segs_other c l (h c (by simp))
    rw [segs_one l (fun x hx => h x (by simp [hx]))] at h1
    injection h1 with h3 h4
    rw [h2, ← h3, ← h4]
theorem names_one (l : B) (h : ∀ c ∈ l, c ≠ 47) (hn : l ≠ []) : names l = [l] := by
  unfold names
  rw [segs_one l h]
  cases l with
  | nil => exact absurd rfl hn
  | cons c l => rfl

theorem toList_data (x : ByteArray) : x.toList = x.data.toList := by
  have := Lib.extract_toList x 0 x.size
  rw [ByteArray.extract_zero_size] at this
  rw [this, List.drop_zero, List.take_of_length_le (by simp)]
theorem namesL_eq (p : ByteArray) : namesL p = (names p.data.toList).map bs := by
  have key : ∀ (L : List B) (a : Nat), (outs a (L.map bs)).map (·.2) = (L.filter fun s => !s.isEmpty).map bs := by
    intro L
    induction L with
    | nil => intro a; rfl
    | cons s L ih =>
      intro a
      rw [List.map_cons]
      show (if (bs s).size = 0 then outs (a + (bs s).size + 1) (L.map bs) else (a + (bs s).size, bs s) :: outs (a + (bs s).size + 1) (L.map bs)).map (·.2) = _
      rw [bs_size]
      cases s with
      | nil => rw [if_pos (show ([] : B).length = 0 from rfl), ih]; rfl
      | cons c s => rw [if_neg (by simp), List.map_cons, ih]; rfl
  exact key _ 0
/-- The end: without slashes. -/
def bareL (l : B) : B := Lib.trimRightB l 47
theorem bareL_spec : ∀ (l : B), ∃ k, l = bareL l ++ List.replicate k 47 ∧ (bareL l).getLast? ≠ some 47 := by
  intro l
  unfold bareL Lib.trimRightB
  have h := List.takeWhile_append_dropWhile (p := (· == (47 : UInt8))) (l := l.reverse)
  have h2 : ∃ k, (l.reverse.takeWhile (· == (47 : UInt8))) = List.replicate k 47 := by
    refine ⟨(l.reverse.takeWhile (· == (47 : UInt8))).length, List.eq_replicate_iff.2 ⟨rfl, fun b hb => ?_⟩⟩
    have := List.all_takeWhile (p := (· == (47 : UInt8))) (l := l.reverse)
    have := List.all_eq_true.1 this b hb
    simpa using this
  obtain ⟨k, hk⟩ := h2
  refine ⟨k, ?_, ?_⟩
  · rw [hk] at h
    have := congrArg List.reverse h
    rw [List.reverse_append, List.reverse_replicate, List.reverse_reverse] at this
    exact this.symm
  · rw [List.getLast?_reverse]
    intro e
    have := List.head?_dropWhile_not (· == (47 : UInt8)) l.reverse
    rw [e] at this
    simp at this
theorem names_rep (a : B) (k : Nat) : names (a ++ List.replicate k 47) = names a := by
  induction k generalizing a with
  | zero => simp
  | succ k ih =>
    rw [List.replicate_succ, show a ++ 47 :: List.replicate k 47 = (a ++ [47]) ++ List.replicate k 47 by simp, ih, names_end]
theorem names_bare (l : B) : names (bareL l) = names l := by
  obtain ⟨k, h1, _⟩ := bareL_spec l
  conv => rhs; rw [h1]
  rw [names_rep]
/-- What stands behind the last slash, and what ahead of it. -/
theorem last_split (q : B) : ∃ a b, q = a ++ b ∧ (∀ c ∈ b, c ≠ 47) ∧ (a = [] ∨ ∃ a', a = a' ++ [47]) ∧ cut (bs q) = a.length := by
  have hz : (bs q).size = q.length := bs_size q
  have hd : (bs q).data = q.toArray := rfl
  unfold cut Lib.lastIndexByte
  rcases Lib.lastIdx_spec (bs q) 47 (bs q).size with ⟨h1, h2⟩ | ⟨i, h1, h2, h3, h4⟩
  · refine ⟨[], q, rfl, ?_, .inl rfl, by rw [h1]; rfl⟩
    intro c hc e
    obtain ⟨j, hj, hj2⟩ := List.getElem_of_mem hc
    have := h2 j (by omega)
    rw [hd, getElem!_pos q.toArray j (by simpa using hj)] at this
    apply this
    simp [hj2, e]
  · rw [hz] at h1 h4
    have e3 : q[i] = 47 := by
      rw [hd, getElem!_pos q.toArray i (by simpa using h1)] at h3
      simp at h3
      exact UInt8.toNat_inj.1 (show q[i].toNat = 47 by omega)
    refine ⟨q.take (i + 1), q.drop (i + 1), by simp, ?_, .inr ⟨q.take i, ?_⟩, ?_⟩
    · intro c hc e
      obtain ⟨j, hj, hj2⟩ := List.getElem_of_mem hc
      rw [List.getElem_drop] at hj2
      rw [List.length_drop] at hj
      have := h4 (i + 1 + j) (by omega) (by omega)
      rw [hd, getElem!_pos q.toArray (i + 1 + j) (by simp; omega)] at this
      apply this
      simp [hj2, e]
    · rw [← e3, List.take_append_getElem]
    · rw [h2, List.length_take]; omega
theorem bs_inj {a b : B} (h : bs a = bs b) : a = b := by
  have := congrArg (fun x : ByteArray => x.data.toList) h
  rwa [show (bs a).data.toList = a from bs_data a, show (bs b).data.toList = b from bs_data b] at this
theorem bareB_eq (p : ByteArray) : bareB p = bs (bareL p.data.toList) := rfl
/-- Ahead of the last word; the last word. -/
theorem base_split (l : B) : ∃ a b, bareL l = a ++ b ∧ (∀ c ∈ b, c ≠ 47) ∧ (a = [] ∨ ∃ a', a = a' ++ [47]) ∧ cut (bs (bareL l)) = a.length ∧ (b = [] → bareL l = []) ∧ names l = names a ++ (if b = [] then [] else [b]) := by
  obtain ⟨a, b, h1, h2, h3, h4⟩ := last_split (bareL l)
  obtain ⟨k, _, h5⟩ := bareL_spec l
  refine ⟨a, b, h1, h2, h3, h4, ?_, ?_⟩
  · intro hb
    subst hb
    rcases h3 with rfl | ⟨a', rfl⟩
    · exact h1
    · rw [h1] at h5; simp at h5
  · rw [← names_bare, h1]
    rcases h3 with rfl | ⟨a', rfl⟩
    · rw [List.nil_append, names_nil, List.nil_append]
      split
      · rename_i h; rw [h]; rfl
      · rename_i h; rw [names_one b h2 h]
    · rw [List.append_assoc, List.singleton_append, names_split, names_end]
      split
      · rename_i h; rw [h]; rfl
      · rename_i h; rw [names_one b h2 h]
def baseL (l : B) : B := if l = [] then [] else match (names l).getLast? with
  | none => [47]
  | some b => b
theorem baseB_eq (p : ByteArray) : baseB p = bs (baseL p.data.toList) := by
  obtain ⟨l, rfl⟩ : ∃ l, p = bs l := ⟨p.data.toList, (bs_of p).symm⟩
  rw [show (bs l).data.toList = l from bs_data l]
  obtain ⟨a, b, h1, h2, h3, h4, h5, h6⟩ := base_split l
  have hb : bareB (bs l) = bs (bareL l) := by rw [bareB_eq, show (bs l).data.toList = l from bs_data l]
  unfold baseB baseL
  rw [hb, bs_size, bs_size, h4]
  by_cases hl : l = []
  · subst hl
    rw [if_pos rfl, if_neg (by simp)]
    have : bareL [] = [] := rfl
    rw [this] at h1 ⊢
    have ha : a = [] := by cases a with | nil => rfl | cons x y => simp at h1
    rw [ha]; rfl
  · rw [if_neg hl]
    have hl' : l.length ≠ 0 := fun h => hl (List.eq_nil_of_length_eq_zero h)
    by_cases hq : bareL l = []
    · have hbn : b = [] := by rw [hq] at h1; cases b with | nil => rfl | cons x y => simp at h1
      have han : a = [] := by rw [hq, hbn] at h1; simpa using h1.symm
      rw [if_pos ⟨by rw [hq]; rfl, hl'⟩, h6, hbn, han]; rfl
    · have hq' : (bareL l).length ≠ 0 := fun h => hq (List.eq_nil_of_length_eq_zero h)
      have hbn : b ≠ [] := fun h => hq (h5 h)
      rw [if_neg (fun h => hq' h.1), h6, if_neg hbn, List.getLast?_concat]
      refine ba_ext ?_
      rw [show (bs b).data.toList = b from bs_data b, Lib.extract_data, show (bs (bareL l)).data.toList = bareL l from bs_data _, h1]
      simp
theorem hasPrefix_one (l : B) : Lib.hasPrefix l [47] = (l.head? == some 47) := by
  unfold Lib.hasPrefix
  cases l with
  | nil => rfl
  | cons c l =>
    show ((47 : UInt8) == c && List.isPrefixOf [] l) = (some c == some 47)
    rw [show List.isPrefixOf [] l = true from by cases l <;> rfl, Bool.and_true]
    by_cases hc : c = 47
    · subst hc; rfl
    · rw [beq_eq_false_iff_ne.2 (fun h => hc h.symm), beq_eq_false_iff_ne.2 (fun h => hc (Option.some.inj h))]
theorem hasSuffix_one (l : B) : Lib.hasSuffix l [47] = (l.getLast? == some 47) := by
  unfold Lib.hasSuffix List.isSuffixOf
  have := hasPrefix_one l.reverse
  unfold Lib.hasPrefix at this
  rw [List.head?_reverse] at this
  exact this
/-- The dir. -/
def dirL (l : B) : B := match names l with
  | [] => if l.head? == some 47 then [47] else [46]
  | _ => []
theorem dir_spec (p : ByteArray) : ∃ d b, bareL p.data.toList = d ++ b ∧ (∀ c ∈ b, c ≠ 47) ∧ (b = [] → bareL p.data.toList = []) ∧ names p.data.toList = names d ++ (if b = [] then [] else [b]) ∧ dirB p = orB p (bs (bareL d)) := by
  obtain ⟨a, b, h1, h2, h3, h4, h5, h6⟩ := base_split p.data.toList
  refine ⟨a, b, h1, h2, h5, h6, ?_⟩
  unfold dirB
  rw [bareB_eq p, h4]
  have : (bs (bareL p.data.toList)).extract 0 a.length = bs a := by
    refine ba_ext ?_
    rw [Lib.extract_data, show (bs (bareL p.data.toList)).data.toList = _ from bs_data _, show (bs a).data.toList = a from bs_data a, h1]
    simp
  rw [this, bareB_eq, show (bs a).data.toList = a from bs_data a]
/-! ### join -/
def joinL (a b : B) : B := if a = [] then b else if b.head? = some 47 then b else if b = [] then a else Lib.trimSuffix a [47] ++ [47] ++ b
theorem size_nil (x : ByteArray) : x.size = 0 ↔ x.data.toList = [] := by
  have : x.data.toList.length = x.size := by simp
  constructor
  · intro h; exact List.eq_nil_of_length_eq_zero (by omega)
  · intro h; rw [h] at this; exact this.symm
theorem joinB_eq (a b : ByteArray) : joinB a b = bs (joinL a.data.toList b.data.toList) := by
  unfold joinB joinL
  rw [hasPrefix_one]
  by_cases h1 : a.size = 0
  · rw [if_pos h1, if_pos ((size_nil a).1 h1), bs_of]
  · rw [if_neg h1, if_neg (fun h => h1 ((size_nil a).2 h))]
    by_cases h2 : b.data.toList.head? = some 47
    · rw [if_pos (by rw [h2]; rfl), if_pos h2, bs_of]
    · rw [if_neg (by simpa using h2), if_neg h2]
      by_cases h3 : b.size = 0
      · rw [if_pos h3, if_pos ((size_nil b).1 h3), bs_of]
      · rw [if_neg h3, if_neg (fun h => h3 ((size_nil b).2 h))]
        refine ba_ext ?_
        rw [show (bs (Lib.trimSuffix a.data.toList [47] ++ [47] ++ b.data.toList)).data.toList = _ from bs_data _]
        simp [bs]
theorem trimSuffix_one (a : B) : (∃ a', a = a' ++ [47] ∧ Lib.trimSuffix a [47] = a') ∨ (a.getLast? ≠ some 47 ∧ Lib.trimSuffix a [47] = a) := by
  unfold Lib.trimSuffix
  rw [hasSuffix_one]
  by_cases h : a.getLast? = some 47
  · obtain ⟨a', rfl⟩ := List.getLast?_eq_some_iff.1 h
    rw [if_pos (by rw [h]; rfl)]
    exact .inl ⟨a', rfl, by simp⟩
  · rw [if_neg (by simpa using h)]
    exact .inr ⟨h, rfl⟩
theorem names_trim (a : B) : names (Lib.trimSuffix a [47]) = names a := by
  rcases trimSuffix_one a with ⟨a', rfl, h⟩ | ⟨_, h⟩
  · rw [h, names_end]
  · rw [h]
theorem names_join (a b : B) : names (joinL a b) = if b.head? = some 47 then names b else names a ++ names b := by
  unfold joinL
  by_cases h1 : a = []
  · subst h1
    rw [if_pos rfl, names_nil, List.nil_append, ite_self]
  · rw [if_neg h1]
    by_cases h2 : b.head? = some 47
    · rw [if_pos h2, if_pos h2]
    · rw [if_neg h2, if_neg h2]
      by_cases h3 : b = []
      · subst h3; rw [if_pos rfl, names_nil, List.append_nil]
      · rw [if_neg h3, List.append_assoc, List.singleton_append, names_split, names_trim]
theorem head_join (a b : B) (h2 : b.head? ≠ some 47) : ((joinL a b).head? == some 47) = (a.head? == some 47) := by
  unfold joinL
  by_cases h1 : a = []
  · subst h1
    rw [if_pos rfl]
    rw [beq_eq_false_iff_ne.2 h2]; rfl
  · rw [if_neg h1, if_neg h2]
    by_cases h3 : b = []
    · rw [if_pos h3]
    · rw [if_neg h3]
      rcases trimSuffix_one a with ⟨a', rfl, h⟩ | ⟨_, h⟩
      · rw [h]
        cases a' with
        | nil => rfl
        | cons c a' => rfl
      · rw [h]
        cases a with
        | nil => exact absurd rfl h1
        | cons c a => rfl
theorem root_join (a b : B) (h2 : b.head? = some 47) : joinL a b = b := by
  unfold joinL
  rw [if_pos h2, ite_self]
theorem join_size (a b : ByteArray) : (joinB a b).size ≤ a.size + b.size + 1 := by
  have ha : a.data.toList.length = a.size := by simp
  have hb : b.data.toList.length = b.size := by simp
  rw [joinB_eq, bs_size]
  unfold joinL
  have ht : (Lib.trimSuffix a.data.toList [47]).length ≤ a.data.toList.length := by
    unfold Lib.trimSuffix
    split
    · rw [List.length_take]; omega
    · exact Nat.le_refl _
  split
  · omega
  · split
    · omega
    · split
      · omega
      · simp only [List.length_append, List.length_cons, List.length_nil]; omega
theorem namesL_len (p : ByteArray) : (namesL p).length ≤ p.size + 1 := by
  unfold namesL
  rw [List.length_map]
  exact parts_length p _ (List.prefix_refl _)
/-! ### more slashes -/
structure Ex (e t : B) : Prop where
  names : ∀ r, names (e ++ r) = names (t ++ r)
  head : e.head? = t.head?
  last : e.getLast? = t.getLast?
theorem Ex.nil : Ex [] [] := ⟨fun _ => rfl, rfl, rfl⟩
theorem Ex.step {e t : B} (h : Ex e t) (c : UInt8) : Ex (e ++ [c]) (t ++ [c]) := by
  refine ⟨fun r => by rw [List.append_assoc, List.append_assoc]; exact h.names _, ?_, by rw [List.getLast?_concat, List.getLast?_concat]⟩
  have := h.head
  cases e with
  | nil => cases t with
    | nil => rfl
    | cons x t => simp at this
  | cons x e => cases t with
    | nil => simp at this
    | cons y t => simpa using this
theorem Ex.more {e t : B} (h : Ex e (t ++ [47])) : Ex (e ++ [47]) (t ++ [47]) := by
  refine ⟨fun r => ?_, ?_, by rw [List.getLast?_concat, List.getLast?_concat]⟩
  · have h1 := h.names ([47] ++ r)
    rw [List.append_assoc, h1]
    rw [List.append_assoc, List.append_assoc, List.singleton_append, List.singleton_append, names_split, names_split, names_slash]
  · have := h.head
    cases e with
    | nil => cases t <;> simp at this
    | cons x e => simpa using this
theorem Ex.empty {e t : B} (h : Ex e t) : e = [] ↔ t = [] := by
  have := h.head
  cases e <;> cases t <;> simp_all
theorem Ex.base {e t : B} (h : Ex e t) : baseL e = baseL t := by
  have h1 := h.names []
  rw [List.append_nil, List.append_nil] at h1
  unfold baseL
  rw [h1]
  by_cases ht : t = []
  · rw [if_pos ht, if_pos (h.empty.2 ht)]
  · rw [if_neg ht, if_neg (fun h' => ht (h.empty.1 h'))]
theorem Ex.namesL {e t : B} (h : Ex e t) : namesL (bs e) = namesL (bs t) := by
  have h1 := h.names []
  rw [List.append_nil, List.append_nil] at h1
  rw [namesL_eq, namesL_eq, show (bs e).data.toList = e from bs_data e, show (bs t).data.toList = t from bs_data t, h1]
end Go.Proofs.YtmjhlddlhicofaaDoor.Ext
