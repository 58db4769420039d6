/- For every text of at most 100 bytes and every two lists of draws, as many as there are blanks at least: the two names are one just if the draws that are used are the same but for multiples of 36 (of others the law says nothing). -/
import Derived.Test.YtoojgfhhmdohaaaDoorPStencilApartx1
import Derived.Test.YtoojgfhhmdohaaaDoorExtP
namespace Go.Proofs.YtoojgfhhmdohaaaDoor.Pure
open Go.RowKit Go.Proofs.YtoojgfhhmdohaaaDoor.PStencilApart Go.Proofs.YtoojgfhhmdohaaaDoor.Ext Go.Proofs.YtoojgfhhmdohaaaDoorW.PrintWords Go.Proofs.YtoojgfhhmdohaaaDoorW.PrintLast
set_option linter.unusedVariables false
set_option linter.unusedSimpArgs false

theorem shown_true : flagstonelaw02_shown.f = some true := by
  unfold flagstonelaw02_shown.f
  rw [make_f _ _ (by decide) (by decide)]
  simp only [Option.bind_some, bs_list]
  rw [if_pos (by decide +kernel), count_f _ (by decide)]
  simp only [Option.bind_some]
  rw [if_pos (by decide +kernel)]
  decide +kernel
theorem refCount_l0 (s : ByteArray) (hs : s.size ≤ 140737488351232) : ∀ (d k x : Nat), x + d = blanks s.data.toList → d < k → flagstoneref02_Count.l0 k s (x : Int) = some (blanks s.data.toList : Int) := by
  have hz : s.data.toList.length = s.size := by simp
  have hb := blanks_le s.data.toList
  intro d
  induction d with
  | zero =>
    intro k x hx hk
    obtain ⟨k, rfl⟩ : ∃ m, k = m + 1 := ⟨k - 1, by omega⟩
    obtain rfl : x = blanks s.data.toList := by omega
    simp only [flagstoneref02_Count.l0]
    by_cases hlt : blanks s.data.toList < s.size
    · obtain ⟨h1, h2⟩ := blanks_stop s.data.toList (by omega)
      have e : wrap64 (wrap64 ((s.size : Int) - 1) - (blanks s.data.toList : Int)) = ((s.data.toList.length - 1 - blanks s.data.toList : Nat) : Int) := by unfold wrap64; omega
      rw [if_pos (by omega), e, if_pos (by omega), if_pos (by omega), bt_nat _ _ h1, if_neg]
      intro hc
      apply h2
      have hc' : (s.data.toList[s.data.toList.length - 1 - blanks s.data.toList]).toNat = 88 := by omega
      exact UInt8.toNat_inj.1 hc'
    · rw [if_neg (by omega)]
  | succ d ih =>
    intro k x hx hk
    obtain ⟨k, rfl⟩ : ∃ m, k = m + 1 := ⟨k - 1, by omega⟩
    obtain ⟨h1, h2⟩ := blanks_at s.data.toList x (by omega)
    have e : wrap64 (wrap64 ((s.size : Int) - 1) - (x : Int)) = ((s.data.toList.length - 1 - x : Nat) : Int) := by unfold wrap64; omega
    simp only [flagstoneref02_Count.l0]
    rw [if_pos (by omega), e, if_pos (by omega), if_pos (by omega), bt_nat _ _ h1, h2, if_pos (by decide)]
    have e2 : wrap64 ((x : Int) + 1) = ((x + 1 : Nat) : Int) := by unfold wrap64; omega
    rw [e2]
    exact ih k (x + 1) (by omega) (by omega)
theorem refCount (s : ByteArray) (hs : s.size ≤ 140737488351232) (k : Nat) (hk : s.size < k) : flagstoneref02_Count.f k s = some (blanks s.data.toList : Int) := by
  have hz : s.data.toList.length = s.size := by simp
  have hb := blanks_le s.data.toList
  exact refCount_l0 s hs (blanks s.data.toList) k 0 (by omega) (by omega)

theorem u16_wf {x : Int} (h : (Lit.int .u16 x).wf = true) : 0 ≤ x ∧ x ≤ 65535 := by
  have h' : (decide ((0 : Int) ≤ x) && decide (x ≤ 65535)) = true := h
  simpa using h'
theorem apart_l0 (s : ByteArray) (l1 l2 : List Int) (hs : s.size ≤ 100) (w1 : ∀ x ∈ l1, (Lit.int .u16 x).wf = true) (w2 : ∀ x ∈ l2, (Lit.int .u16 x).wf = true)
    (h1 : blanks s.data.toList ≤ l1.length) (h2 : blanks s.data.toList ≤ l2.length) : ∀ (d k i : Nat) (same : Bool), i + d = blanks s.data.toList → d < k →
    (same = true ↔ madeL l1 i = madeL l2 i) →
    flagstonelaw02_StencilApart.l0 k s l1 l2 (blanks s.data.toList : Int) (l1.take i) (l2.take i) same (i : Int) = some true := by
  have hz : s.data.toList.length = s.size := by simp
  have hb := blanks_le s.data.toList
  intro d
  induction d with
  | zero =>
    intro k i same hd hk hsm
    obtain ⟨k, rfl⟩ : ∃ m, k = m + 1 := ⟨k - 1, by omega⟩
    obtain rfl : i = blanks s.data.toList := by omega
    simp only [flagstonelaw02_StencilApart.l0]
    have c1 : (l1.take (blanks s.data.toList)).length ≤ 9223372036854775807 := by rw [List.length_take]; omega
    have c2 : (l2.take (blanks s.data.toList)).length ≤ 9223372036854775807 := by rw [List.length_take]; omega
    rw [if_neg (by omega), make_f _ _ (by omega) c1, make_f _ (l2.take _) (by omega) c2, Option.bind_some, Option.bind_some, bs_list, bs_list]
    have et : ∀ l : List Int, blanks s.data.toList ≤ l.length → makeL s.data.toList (l.take (blanks s.data.toList)) = stemL s.data.toList ++ madeL l (blanks s.data.toList) := by
      intro l _
      unfold makeL madeL
      congr 1
      refine List.map_congr_left fun j hj => ?_
      have := List.mem_range.1 hj
      rw [List.getD_eq_getElem?_getD, List.getD_eq_getElem?_getD, List.getElem?_take, if_pos this]
    rw [et l1 h1, et l2 h2]
    congr 1
    rw [beq_iff_eq, Bool.eq_iff_iff, beq_iff_eq, List.append_cancel_left_eq, ← hsm]
  | succ d ih =>
    intro k i same hd hk hsm
    obtain ⟨k, rfl⟩ : ∃ m, k = m + 1 := ⟨k - 1, by omega⟩
    have hi1 : i < l1.length := by omega
    have hi2 : i < l2.length := by omega
    have c1 : (l1.take i).length < 17592186044416 := Nat.lt_of_le_of_lt (List.length_take_le _ _) (by omega)
    have c2 : (l2.take i).length < 17592186044416 := Nat.lt_of_le_of_lt (List.length_take_le _ _) (by omega)
    have f1 : (i : Int) < (blanks s.data.toList : Int) := by omega
    have f2 : (0 : Int) ≤ (i : Int) := by omega
    have f3 : (i : Int) < (l1.length : Int) := by omega
    have f4 : (i : Int) < (l2.length : Int) := by omega
    have f5 : i + 1 + d = blanks s.data.toList := by omega
    have f6 : d < k := by omega
    have v1 : rd l1 (i : Int) = l1[i] := by unfold rd; rw [Int.toNat_natCast, List.getD_eq_getElem?_getD, List.getElem?_eq_getElem hi1]; rfl
    have v2 : rd l2 (i : Int) = l2[i] := by unfold rd; rw [Int.toNat_natCast, List.getD_eq_getElem?_getD, List.getElem?_eq_getElem hi2]; rfl
    have b1 : 0 ≤ l1[i] ∧ l1[i] ≤ 65535 := u16_wf (w1 _ (List.getElem_mem hi1))
    have b2 : 0 ≤ l2[i] ∧ l2[i] ≤ 65535 := u16_wf (w2 _ (List.getElem_mem hi2))
    have e1 : wrap64 (rd l1 (i : Int)) = l1[i] := by rw [v1]; unfold wrap64; omega
    have e2 : wrap64 (rd l2 (i : Int)) = l2[i] := by rw [v2]; unfold wrap64; omega
    have e3 : wrap64 ((i : Int) + 1) = ((i + 1 : Nat) : Int) := by unfold wrap64; omega
    have t1 : l1.take i ++ [l1[i]] = l1.take (i + 1) := (List.take_succ_eq_append_getElem hi1).symm
    have t2 : l2.take i ++ [l2[i]] = l2.take (i + 1) := (List.take_succ_eq_append_getElem hi2).symm
    have g1 : l1.getD i 0 = l1[i] := by rw [List.getD_eq_getElem?_getD, List.getElem?_eq_getElem hi1]; rfl
    have g2 : l2.getD i 0 = l2[i] := by rw [List.getD_eq_getElem?_getD, List.getElem?_eq_getElem hi2]; rfl
    have m1 : Int.tmod l1[i] 36 = l1[i] % 36 := Int.tmod_eq_emod_of_nonneg b1.1
    have m2 : Int.tmod l2[i] 36 = l2[i] % 36 := Int.tmod_eq_emod_of_nonneg b2.1
    have hs2 : madeL l1 (i + 1) = madeL l2 (i + 1) ↔ madeL l1 i = madeL l2 i ∧ l1[i] % 36 = l2[i] % 36 := by
      rw [madeL_succ, madeL_succ, g1, g2]
      constructor
      · intro h
        obtain ⟨ha, hb⟩ := List.append_inj h (by rw [madeL_len, madeL_len])
        exact ⟨ha, (let1_eq _ _).1 (by simpa using hb)⟩
      · rintro ⟨ha, hb⟩
        rw [ha, (let1_eq _ _).2 hb]
    simp only [flagstonelaw02_StencilApart.l0]
    rw [if_pos f1, if_pos f2, if_pos f3, if_pos c1, Option.bind_some, if_pos f4, if_pos c2, Option.bind_some, e1, e2, t1, t2, e3, m1, m2]
    cases same with
    | true =>
      rw [if_pos rfl]
      refine ih k (i + 1) _ f5 f6 ?_
      rw [hs2, beq_iff_eq]
      exact ⟨fun h => ⟨hsm.1 rfl, h⟩, fun h => h.2⟩
    | false =>
      rw [if_neg (by decide)]
      refine ih k (i + 1) _ f5 f6 ?_
      rw [hs2]
      exact ⟨fun h => absurd h (by decide), fun h => hsm.2 h.1⟩
theorem StencilApart : flagstonelaw02_StencilApart.Pure := by
  intro s l1 l2 hs _ _ w1 _ _ w2
  refine ⟨s.size + 1002, ?_⟩
  have hz : s.data.toList.length = s.size := by simp
  have hb := blanks_le s.data.toList
  unfold flagstonelaw02_StencilApart.f
  rw [refCount s hs _ (by omega)]
  simp only [Option.bind_some]
  by_cases h1 : (s.size : Int) > 100
  · rw [if_pos h1]; simp only [flagstonelaw02_StencilApart.j0]; rw [shown_true]; rfl
  · rw [if_neg h1]
    by_cases h2 : (l1.length : Int) < (blanks s.data.toList : Int)
    · rw [if_pos h2]; simp only [flagstonelaw02_StencilApart.j0]; rw [shown_true]; rfl
    · rw [if_neg h2]
      by_cases h3 : (l2.length : Int) < (blanks s.data.toList : Int)
      · rw [if_pos h3]; simp only [flagstonelaw02_StencilApart.j0]; rw [shown_true]; rfl
      · rw [if_neg h3, shown_true]
        simp only [Option.bind_some, flagstonelaw02_StencilApart.j0]
        rw [if_neg (by decide)]
        exact apart_l0 s l1 l2 (by omega) w1 w2 (by omega) (by omega) (blanks s.data.toList) (s.size + 1001) 0 true (by omega) (by omega) (by simp [madeL])

end Go.Proofs.YtoojgfhhmdohaaaDoor.Pure
