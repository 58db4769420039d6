/- Plain laws on paths: what Dir and Base answer. -/
import Derived.Test.YtmjhlddlhicofaaDoorExtP
namespace Go.Proofs.YtmjhlddlhicofaaDoor.Ext
open Go Go.RowKit Go.Proofs.YtmjhlddlhicofaaDoorW.PrintWords
set_option linter.unusedVariables false
set_option linter.unusedSimpArgs false

theorem bare_head (x : B) (h : bareL x ≠ []) : (bareL x).head? = x.head? := by
  obtain ⟨k, h1, _⟩ := bareL_spec x
  cases hb : bareL x with
  | nil => exact absurd hb h
  | cons c y => rw [hb] at h1; rw [h1]; rfl
theorem bare_empty (x : B) (h : bareL x = []) (hx : x ≠ []) : x.head? = some 47 := by
  obtain ⟨k, h1, _⟩ := bareL_spec x
  rw [h, List.nil_append] at h1
  cases k with
  | zero => exact absurd h1 hx
  | succ k => rw [h1]; rfl
theorem names_empty (x : B) (h : names x = []) : bareL x = [] := by
  obtain ⟨a, b, h1, h2, h3, h4, h5, h6⟩ := base_split x
  apply h5
  rw [h] at h6
  by_cases hb : b = []
  · exact hb
  · rw [if_neg hb] at h6
    have := congrArg List.length h6
    simp at this
theorem empty_names (x : B) (h : bareL x = []) : names x = [] := by rw [← names_bare, h]; rfl
/-- What Dir and Base answer, by the number of parts. -/
theorem back_zero (p : ByteArray) (h : names p.data.toList = []) : dirB p = (if p.data.toList = [] then bs [46] else bs [47]) ∧ baseL p.data.toList = (if p.data.toList = [] then [] else [47]) := by
  obtain ⟨d, b, h1, h2, h3, h4, h5⟩ := dir_spec p
  have hq := names_empty _ h
  have hd : d = [] := by rw [hq] at h1; cases d with | nil => rfl | cons x y => simp at h1
  constructor
  · rw [h5, hd]
    show orB p (bs []) = _
    unfold orB
    rw [if_neg (fun h => h rfl), hasPrefix_one]
    by_cases hp : p.data.toList = []
    · rw [if_pos hp, hp]; rfl
    · rw [if_neg hp, bare_empty _ hq hp]; rfl
  · unfold baseL
    rw [h]; rfl
theorem back_one (p : ByteArray) (b : B) (h : names p.data.toList = [b]) : dirB p = (if p.data.toList.head? = some 47 then bs [47] else bs [46]) ∧ baseL p.data.toList = b := by
  obtain ⟨d, b', h1, h2, h3, h4, h5⟩ := dir_spec p
  have hb : b' ≠ [] := by
    intro hb
    have := empty_names _ (h3 hb)
    rw [h] at this; cases this
  rw [if_neg hb, h] at h4
  have hd : names d = [] := by
    have := congrArg List.length h4
    simp at this
    exact this
  constructor
  · rw [h5, names_empty d hd]
    unfold orB
    rw [if_neg (fun h => h rfl), hasPrefix_one]
    by_cases hp : p.data.toList.head? = some 47
    · rw [if_pos hp, hp]; rfl
    · rw [if_neg hp, if_neg (by simpa using hp)]; rfl
  · unfold baseL
    have hp : p.data.toList ≠ [] := fun hp => by rw [hp] at h; cases h
    rw [if_neg hp, h]; rfl
theorem back_more (p : ByteArray) (h : 2 ≤ (names p.data.toList).length) : ∃ d b : B, dirB p = bs d ∧ d ≠ [] ∧ baseL p.data.toList = b ∧ b ≠ [] ∧ (∀ c ∈ b, c ≠ 47) ∧ names p.data.toList = names d ++ [b] ∧ d.head? = p.data.toList.head? := by
  obtain ⟨d, b, h1, h2, h3, h4, h5⟩ := dir_spec p
  have hb : b ≠ [] := by
    intro hb
    have := empty_names _ (h3 hb)
    rw [this] at h; simp at h
  rw [if_neg hb] at h4
  have hd : names d ≠ [] := by
    intro hd
    rw [h4, hd] at h; simp at h
  have hbd : bareL d ≠ [] := fun e => hd (empty_names d e)
  refine ⟨bareL d, b, ?_, hbd, ?_, hb, h2, by rw [names_bare]; exact h4, ?_⟩
  · rw [h5]; unfold orB
    rw [if_pos]
    rw [bs_size]
    exact fun e => hbd (List.eq_nil_of_length_eq_zero e)
  · unfold baseL
    have hp : p.data.toList ≠ [] := fun hp => by rw [hp] at h; simp [names_nil] at h
    rw [if_neg hp, h4, List.getLast?_concat]
  · rw [bare_head d hbd]
    have hdn : d ≠ [] := fun e => hd (by rw [e]; rfl)
    have hq : bareL p.data.toList ≠ [] := fun e => by rw [e] at h1; cases d with | nil => exact hdn rfl | cons x y => simp at h1
    rw [← bare_head _ hq, h1]
    cases d with
    | nil => exact absurd rfl hdn
    | cons x y => rfl
theorem bs_toList (l : B) : (bs l).toList = l := by rw [toList_data]; exact bs_data l
theorem bareB_size (p : ByteArray) : (bareL p.data.toList).length ≤ p.size := by
  have := trimRight_le p.data.toList 47
  have hz : p.data.toList.length = p.size := by simp
  unfold bareL; omega
theorem base_size (p : ByteArray) : (baseL p.data.toList).length ≤ p.size + 1 := by
  have := bareB_le p
  have h := baseB_eq p
  have h2 := congrArg ByteArray.size h
  rw [bs_size] at h2
  unfold baseB at h2
  rw [← h2]
  split
  · show 1 ≤ _; omega
  · rw [ByteArray.size_extract]; omega
theorem dir_size (p : ByteArray) : (dirB p).size ≤ p.size + 1 := by
  obtain ⟨d, b, h1, h2, h3, h4, h5⟩ := dir_spec p
  rw [h5]
  have e1 := trimRight_le d 47
  have e2 := bareB_size p
  rw [h1, List.length_append] at e2
  unfold orB
  split
  · rw [bs_size]; unfold bareL; omega
  · split
    · show 1 ≤ _; omega
    · show 1 ≤ _; omega
/-! ### the beginnings -/
def un : List B → B
  | [] => []
  | [s] => s
  | s :: r => s ++ 47 :: un r
theorem un_cons (s : B) (r : List B) (h : r ≠ []) : un (s :: r) = s ++ 47 :: un r := by
  cases r with
  | nil => exact absurd rfl h
  | cons x r => rfl
theorem un_segs : ∀ l : B, un (segs l) = l
  | [] => rfl
  | c :: l => by
    have ih := un_segs l
    by_cases hc : c = 47
    · subst hc
      rw [segs_slash, un_cons _ _ (segs_ne l), ih]; rfl
    · obtain ⟨s, r, h1, h2⟩ := segs_other c l hc
      rw [h2]
      rw [h1] at ih
      cases r with
      | nil => show c :: s = c :: l; exact congrArg _ ih
      | cons x r =>
        rw [un_cons _ _ (by simp)] at ih ⊢
        rw [List.cons_append, ih]
theorem segs_clean : ∀ (l : B) (s : B), s ∈ segs l → ∀ c ∈ s, c ≠ 47
  | [], s, h => by
    have : s = [] := by simpa [segs] using h
    subst this
    intro c hc; cases hc
  | c :: l, s, h => by
    have ih := segs_clean l
    by_cases hc : c = 47
    · subst hc
      rw [segs_slash] at h
      rcases List.mem_cons.1 h with h | h
      · subst h; intro c hc; cases hc
      · exact ih s h
    · obtain ⟨s', r, h1, h2⟩ := segs_other c l hc
      rw [h2] at h
      rw [h1] at ih
      rcases List.mem_cons.1 h with h | h
      · subst h
        intro x hx
        rcases List.mem_cons.1 hx with hx | hx
        · subst hx; exact hc
        · exact ih s' (by simp) x hx
      · exact ih s (by simp [h])
theorem names_after (pfx s : B) (hs : ∀ c ∈ s, c ≠ 47) (hn : s ≠ []) (hp : pfx = [] ∨ ∃ a, pfx = a ++ [47]) : names (pfx ++ s) = names pfx ++ [s] := by
  rcases hp with rfl | ⟨a, rfl⟩
  · rw [List.nil_append, names_nil, List.nil_append, names_one s hs hn]
  · rw [List.append_assoc, List.singleton_append, names_split, names_end, names_one s hs hn]
theorem last_ne {s : B} (hs : ∀ c ∈ s, c ≠ 47) : s.getLast? ≠ some 47 := by
  intro e
  exact hs 47 (List.mem_of_getLast? e) rfl
theorem outs_at : ∀ (L : List B) (a : Nat) (pfx : B), (∀ s ∈ L, ∀ c ∈ s, c ≠ 47) → pfx.length = a → (pfx = [] ∨ ∃ x, pfx = x ++ [47]) → ∀ (i : Nat) (x : Nat × ByteArray), (outs a (L.map bs))[i]? = some x →
    x.1 ≤ (pfx ++ un L).length ∧ names ((pfx ++ un L).take x.1) = names pfx ++ (L.filter fun s => !s.isEmpty).take (i + 1) ∧ ((pfx ++ un L).take x.1).getLast? ≠ some 47 ∧ (pfx ++ un L).take x.1 ≠ []
  | [], a, pfx, hc, hl, hp, i, x, hx => by simp [outs] at hx
  | s :: r, a, pfx, hc, hl, hp, i, x, hx => by
    have hx' : (if (bs s).size = 0 then outs (a + (bs s).size + 1) (r.map bs) else (a + (bs s).size, bs s) :: outs (a + (bs s).size + 1) (r.map bs))[i]? = some x := hx
    rw [bs_size] at hx'
    have hcs := hc s (by simp)
    have hcr : ∀ t ∈ r, ∀ c ∈ t, c ≠ 47 := fun t ht => hc t (by simp [ht])
    have hr : ∀ (j : Nat) (y : Nat × ByteArray), (outs (a + s.length + 1) (r.map bs))[j]? = some y → r ≠ [] := by
      intro j y hy e
      subst e; simp [outs] at hy
    cases hs : s with
    | nil =>
      subst hs
      rw [if_pos (show ([] : B).length = 0 from rfl)] at hx'
      have hrn := hr i x hx'
      obtain ⟨h1, h2, h3, h4⟩ := outs_at r (a + ([] : B).length + 1) (pfx ++ [47]) hcr (by simp; omega) (.inr ⟨pfx, rfl⟩) i x hx'
      have e : pfx ++ un ([] :: r) = (pfx ++ [47]) ++ un r := by rw [un_cons _ _ hrn]; simp
      rw [e]
      refine ⟨h1, ?_, h3, h4⟩
      rw [h2, names_end]; rfl
    | cons c0 s0 =>
      rw [← hs]
      have hne : s ≠ [] := by rw [hs]; simp
      have hln : s.length ≠ 0 := by rw [hs]; simp
      rw [if_neg hln] at hx'
      have hf : ((s :: r).filter fun s => !s.isEmpty) = s :: (r.filter fun s => !s.isEmpty) := by rw [hs]; rfl
      rw [hf]
      cases i with
      | zero =>
        rw [List.getElem?_cons_zero] at hx'
        obtain rfl := Option.some.inj hx'
        have e : ∃ t, pfx ++ un (s :: r) = (pfx ++ s) ++ t := by
          cases r with
          | nil => exact ⟨[], by simp [un]⟩
          | cons y r => exact ⟨47 :: un (y :: r), by rw [un_cons _ _ (by simp)]; simp⟩
        obtain ⟨t, e⟩ := e
        have e2 : (pfx ++ un (s :: r)).take (a + s.length) = pfx ++ s := by
          rw [e, List.take_left' (by simp; omega)]
        refine ⟨by rw [e]; simp; omega, ?_, ?_, ?_⟩
        · show names ((pfx ++ un (s :: r)).take (a + s.length)) = _
          rw [e2, names_after pfx s hcs hne hp]; rfl
        · show ((pfx ++ un (s :: r)).take (a + s.length)).getLast? ≠ _
          rw [e2, List.getLast?_append]
          intro e3
          cases hg : s.getLast? with
          | none => exact hne (List.getLast?_eq_none_iff.1 hg)
          | some y =>
            rw [hg] at e3
            exact last_ne hcs (by rw [hg]; exact e3)
        · show (pfx ++ un (s :: r)).take (a + s.length) ≠ _
          rw [e2]; simp [hne]
      | succ i =>
        rw [List.getElem?_cons_succ] at hx'
        have hrn := hr i x hx'
        obtain ⟨h1, h2, h3, h4⟩ := outs_at r (a + s.length + 1) (pfx ++ s ++ [47]) hcr (by simp; omega) (.inr ⟨pfx ++ s, rfl⟩) i x hx'
        have e : pfx ++ un (s :: r) = (pfx ++ s ++ [47]) ++ un r := by rw [un_cons _ _ hrn]; simp
        rw [e]
        refine ⟨h1, ?_, h3, h4⟩
        rw [h2, names_end, names_after pfx s hcs hne hp, List.append_assoc]; rfl
theorem ups_at (p : ByteArray) (i : Nat) (x : Nat × ByteArray) (hx : (partsL p)[i]? = some x) :
    x.1 ≤ p.data.toList.length ∧ names (p.data.toList.take x.1) = (names p.data.toList).take (i + 1) ∧ (p.data.toList.take x.1).getLast? ≠ some 47 ∧ p.data.toList.take x.1 ≠ [] := by
  have h := outs_at (segs p.data.toList) 0 [] (segs_clean _) rfl (.inl rfl) i x hx
  rw [List.nil_append, un_segs] at h
  exact h
end Go.Proofs.YtmjhlddlhicofaaDoor.Ext
