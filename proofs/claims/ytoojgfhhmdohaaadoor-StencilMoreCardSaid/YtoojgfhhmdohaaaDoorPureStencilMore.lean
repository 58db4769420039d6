/- For every text of at most 100 bytes and every two lists of at most 100 draws: more draws than blanks make no difference, too few are as if the rest were 0 (of greater ones the law says nothing). -/
import Derived.Test.YtoojgfhhmdohaaaDoorPStencilMorex1
import Derived.Test.YtoojgfhhmdohaaaDoorExtP
namespace Go.Proofs.YtoojgfhhmdohaaaDoor.Pure
open Go.RowKit Go.Proofs.YtoojgfhhmdohaaaDoor.PStencilMore Go.Proofs.YtoojgfhhmdohaaaDoor.Ext Go.Proofs.YtoojgfhhmdohaaaDoorW.PrintWords Go.Proofs.YtoojgfhhmdohaaaDoorW.PrintLast
set_option linter.unusedVariables false
set_option linter.unusedSimpArgs false

theorem shown_true : flagstonelaw02_shown.f = some true := by
  unfold flagstonelaw02_shown.f
  rw [make_f _ _ (by decide) (by decide)]
  simp only [Option.bind_some, bs_list]
  rw [if_pos (by decide +kernel), count_f _ (by decide)]
  simp only [Option.bind_some]
  rw [if_pos (by decide +kernel)]
  decide +kernel
theorem refCount_l0 (s : ByteArray) (hs : s.size ≤ 140737488351232) : ∀ (d k x : Nat), x + d = blanks s.data.toList → d < k → flagstoneref02_Count.l0 k s (x : Int) = some (blanks s.data.toList : Int) := by
  have hz : s.data.toList.length = s.size := by simp
  have hb := blanks_le s.data.toList
  intro d
  induction d with
  | zero =>
    intro k x hx hk
    obtain ⟨k, rfl⟩ : ∃ m, k = m + 1 := ⟨k - 1, by omega⟩
    obtain rfl : x = blanks s.data.toList := by omega
    simp only [flagstoneref02_Count.l0]
    by_cases hlt : blanks s.data.toList < s.size
    · obtain ⟨h1, h2⟩ := blanks_stop s.data.toList (by omega)
      have e : wrap64 (wrap64 ((s.size : Int) - 1) - (blanks s.data.toList : Int)) = ((s.data.toList.length - 1 - blanks s.data.toList : Nat) : Int) := by unfold wrap64; omega
      rw [if_pos (by omega), e, if_pos (by omega), if_pos (by omega), bt_nat _ _ h1, if_neg]
      intro hc
      apply h2
      have hc' : (s.data.toList[s.data.toList.length - 1 - blanks s.data.toList]).toNat = 88 := by omega
      exact UInt8.toNat_inj.1 hc'
    · rw [if_neg (by omega)]
  | succ d ih =>
    intro k x hx hk
    obtain ⟨k, rfl⟩ : ∃ m, k = m + 1 := ⟨k - 1, by omega⟩
    obtain ⟨h1, h2⟩ := blanks_at s.data.toList x (by omega)
    have e : wrap64 (wrap64 ((s.size : Int) - 1) - (x : Int)) = ((s.data.toList.length - 1 - x : Nat) : Int) := by unfold wrap64; omega
    simp only [flagstoneref02_Count.l0]
    rw [if_pos (by omega), e, if_pos (by omega), if_pos (by omega), bt_nat _ _ h1, h2, if_pos (by decide)]
    have e2 : wrap64 ((x : Int) + 1) = ((x + 1 : Nat) : Int) := by unfold wrap64; omega
    rw [e2]
    exact ih k (x + 1) (by omega) (by omega)
theorem refCount (s : ByteArray) (hs : s.size ≤ 140737488351232) (k : Nat) (hk : s.size < k) : flagstoneref02_Count.f k s = some (blanks s.data.toList : Int) := by
  have hz : s.data.toList.length = s.size := by simp
  have hb := blanks_le s.data.toList
  exact refCount_l0 s hs (blanks s.data.toList) k 0 (by omega) (by omega)

theorem madeL_pad (ds : List Int) (m k : Nat) : madeL (ds ++ List.replicate m 0) k = madeL ds k := by
  unfold madeL
  refine List.map_congr_left fun i _ => ?_
  congr 1
  rw [List.getD_eq_getElem?_getD, List.getD_eq_getElem?_getD]
  rcases Nat.lt_or_ge i ds.length with h | h
  · rw [List.getElem?_append_left h]
  · rw [List.getElem?_append_right h, List.getElem?_eq_none h]
    rcases Nat.lt_or_ge (i - ds.length) m with h' | h'
    · rw [List.getElem?_replicate, if_pos h']; rfl
    · rw [List.getElem?_eq_none (by simpa using h')]
theorem madeL_more (ds more : List Int) (k : Nat) (h : k ≤ ds.length) : madeL (ds ++ more) k = madeL ds k := by
  unfold madeL
  refine List.map_congr_left fun i hi => ?_
  congr 1
  have := List.mem_range.1 hi
  rw [List.getD_eq_getElem?_getD, List.getD_eq_getElem?_getD, List.getElem?_append_left (by omega)]
theorem more_l0 (s : ByteArray) (l1 l2 : List Int) (hs : s.size ≤ 100) (h1 : l1.length ≤ 100) (h2 : l2.length ≤ 100) : ∀ (d k m : Nat), (blanks s.data.toList - (l1.length + m)) = d → l1.length + m ≤ 200 → d < k →
    flagstonelaw02_StencilMore.l0 k s l1 l2 (blanks s.data.toList : Int) (l1 ++ List.replicate m 0) = some true := by
  have hz : s.data.toList.length = s.size := by simp
  have hb := blanks_le s.data.toList
  intro d
  induction d with
  | zero =>
    intro k m hd hm hk
    obtain ⟨k, rfl⟩ : ∃ m, k = m + 1 := ⟨k - 1, by omega⟩
    have hlen : (l1 ++ List.replicate m (0 : Int)).length = l1.length + m := by simp
    simp only [flagstonelaw02_StencilMore.l0]
    rw [if_neg (by omega), make_f _ _ (by omega) (by omega), make_f _ (l1 ++ List.replicate m 0) (by omega) (by omega)]
    simp only [Option.bind_some]
    have e1 : makeL s.data.toList (l1 ++ List.replicate m 0) = makeL s.data.toList l1 := by unfold makeL; rw [madeL_pad]
    have e2 : makeL s.data.toList ([] ++ (l1 ++ List.replicate m 0) ++ l2) = makeL s.data.toList l1 := by
      unfold makeL; rw [List.nil_append, madeL_more _ _ _ (by omega), madeL_pad]
    rw [e1, if_pos rfl, if_pos (by simp; omega)]
    rw [if_pos (by simp; omega), make_f _ _ (by omega) (by simp; omega), e2]
    simp
  | succ d ih =>
    intro k m hd hm hk
    obtain ⟨k, rfl⟩ : ∃ m, k = m + 1 := ⟨k - 1, by omega⟩
    have hlen : (l1 ++ List.replicate m (0 : Int)).length = l1.length + m := by simp
    simp only [flagstonelaw02_StencilMore.l0]
    rw [if_pos (by omega), if_pos (by omega)]
    have e : l1 ++ List.replicate m (0 : Int) ++ [0] = l1 ++ List.replicate (m + 1) 0 := by
      rw [List.append_assoc, List.replicate_succ']
    rw [e]
    exact ih k (m + 1) (by omega) (by omega) (by omega)
theorem StencilMore : flagstonelaw02_StencilMore.Pure := by
  intro s l1 l2 hs _ _ _ _ _ _
  refine ⟨1002, ?_⟩
  unfold flagstonelaw02_StencilMore.f
  by_cases h1 : (s.size : Int) > 100
  · rw [if_pos h1]; simp only [flagstonelaw02_StencilMore.j0]; rw [shown_true]; rfl
  · rw [if_neg h1]
    by_cases h2 : (l1.length : Int) > 100
    · rw [if_pos h2]; simp only [flagstonelaw02_StencilMore.j0]; rw [shown_true]; rfl
    · rw [if_neg h2]
      by_cases h3 : (l2.length : Int) > 100
      · rw [if_pos h3]; simp only [flagstonelaw02_StencilMore.j0]; rw [shown_true]; rfl
      · rw [if_neg h3, shown_true]
        simp only [Option.bind_some, flagstonelaw02_StencilMore.j0]
        rw [if_neg (by decide), refCount s hs _ (by omega)]
        simp only [Option.bind_some]
        rw [if_pos (by simp; omega)]
        have hz : s.data.toList.length = s.size := by simp
        have hb := blanks_le s.data.toList
        have := more_l0 s l1 l2 (by omega) (by omega) (by omega) (blanks s.data.toList - (l1.length + 0)) 1001 0 rfl (by omega) (by omega)
        simpa using this

end Go.Proofs.YtoojgfhhmdohaaaDoor.Pure
