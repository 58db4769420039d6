/- For every two texts of at most 200 bytes and every number the program's Count, Check, Letter and Fits answer as the reference's (of greater ones the law says nothing). -/
import Derived.Test.YtoojgfhhmdohaaaDoorPStencilTellsx2
import Derived.Test.YtoojgfhhmdohaaaDoorExtP
namespace Go.Proofs.YtoojgfhhmdohaaaDoor.Pure
open Go.RowKit Go.Proofs.YtoojgfhhmdohaaaDoor.PStencilTells Go.Proofs.YtoojgfhhmdohaaaDoor.Ext Go.Proofs.YtoojgfhhmdohaaaDoorW.PrintWords Go.Proofs.YtoojgfhhmdohaaaDoorW.PrintLast
set_option linter.unusedVariables false
set_option linter.unusedSimpArgs false

theorem shown_true : flagstonelaw02_shown.f = some true := by
  unfold flagstonelaw02_shown.f
  rw [make_f _ _ (by decide) (by decide)]
  simp only [Option.bind_some, bs_list]
  rw [if_pos (by decide +kernel), count_f _ (by decide)]
  simp only [Option.bind_some]
  rw [if_pos (by decide +kernel)]
  decide +kernel
theorem refCount_l0 (s : ByteArray) (hs : s.size ≤ 140737488351232) : ∀ (d k x : Nat), x + d = blanks s.data.toList → d < k → flagstoneref02_Count.l0 k s (x : Int) = some (blanks s.data.toList : Int) := by
  have hz : s.data.toList.length = s.size := by simp
  have hb := blanks_le s.data.toList
  intro d
  induction d with
  | zero =>
    intro k x hx hk
    obtain ⟨k, rfl⟩ : ∃ m, k = m + 1 := ⟨k - 1, by omega⟩
    obtain rfl : x = blanks s.data.toList := by omega
    simp only [flagstoneref02_Count.l0]
    by_cases hlt : blanks s.data.toList < s.size
    · obtain ⟨h1, h2⟩ := blanks_stop s.data.toList (by omega)
      have e : wrap64 (wrap64 ((s.size : Int) - 1) - (blanks s.data.toList : Int)) = ((s.data.toList.length - 1 - blanks s.data.toList : Nat) : Int) := by unfold wrap64; omega
      rw [if_pos (by omega), e, if_pos (by omega), if_pos (by omega), bt_nat _ _ h1, if_neg]
      intro hc
      apply h2
      have hc' : (s.data.toList[s.data.toList.length - 1 - blanks s.data.toList]).toNat = 88 := by omega
      exact UInt8.toNat_inj.1 hc'
    · rw [if_neg (by omega)]
  | succ d ih =>
    intro k x hx hk
    obtain ⟨k, rfl⟩ : ∃ m, k = m + 1 := ⟨k - 1, by omega⟩
    obtain ⟨h1, h2⟩ := blanks_at s.data.toList x (by omega)
    have e : wrap64 (wrap64 ((s.size : Int) - 1) - (x : Int)) = ((s.data.toList.length - 1 - x : Nat) : Int) := by unfold wrap64; omega
    simp only [flagstoneref02_Count.l0]
    rw [if_pos (by omega), e, if_pos (by omega), if_pos (by omega), bt_nat _ _ h1, h2, if_pos (by decide)]
    have e2 : wrap64 ((x : Int) + 1) = ((x + 1 : Nat) : Int) := by unfold wrap64; omega
    rw [e2]
    exact ih k (x + 1) (by omega) (by omega)
theorem refCount (s : ByteArray) (hs : s.size ≤ 140737488351232) (k : Nat) (hk : s.size < k) : flagstoneref02_Count.f k s = some (blanks s.data.toList : Int) := by
  have hz : s.data.toList.length = s.size := by simp
  have hb := blanks_le s.data.toList
  exact refCount_l0 s hs (blanks s.data.toList) k 0 (by omega) (by omega)
theorem refLetter (a : Int) : flagstoneref02_Letter.f a = some (bs [let1 a]) := by
  have hm := tmod_emod a
  have h36 : 0 ≤ a % 36 ∧ a % 36 < 36 := by omega
  obtain ⟨m, hm1, hm2⟩ : ∃ m : Nat, a % 36 = m ∧ m < 36 := ⟨(a % 36).toNat, by omega, by omega⟩
  have hl : let1 a = letters.getD m 0 := by unfold let1; rw [hm1]; rfl
  have hc := letS_cut ⟨m, hm2⟩
  unfold flagstoneref02_Letter.f
  rw [hl]
  rcases hm with ⟨h1, h2⟩ | ⟨h1, h2⟩
  · have e1 : wrap64 (a.tmod 36 + 36) = (m : Int) := by unfold wrap64; omega
    have e2 : wrap64 ((m : Int) + 1) = ((m + 1 : Nat) : Int) := by unfold wrap64; omega
    rw [if_pos h1, e1, e2, if_pos (by omega), if_pos (by omega), if_pos (by omega), Int.toNat_natCast, Int.toNat_natCast]
    exact congrArg some hc
  · have e1 : a.tmod 36 = (m : Int) := by omega
    have e2 : wrap64 ((m : Int) + 1) = ((m + 1 : Nat) : Int) := by unfold wrap64; omega
    rw [if_neg (by omega), e1, e2, if_pos (by omega), if_pos (by omega), if_pos (by omega), Int.toNat_natCast, Int.toNat_natCast]
    exact congrArg some hc
theorem refCheck (s : ByteArray) (hs : s.size ≤ 140737488351232) (k : Nat) (hk : s.size < k) : flagstoneref02_Check.f k s = some (if blanks s.data.toList < 3 then 1 else 0) := by
  unfold flagstoneref02_Check.f
  rw [refCount s hs k hk]
  simp only [Option.bind_some]
  by_cases h : blanks s.data.toList < 3
  · rw [if_pos (by omega), if_pos h]
  · rw [if_neg (by omega), if_neg h]
theorem refFits_l1 (n : ByteArray) (x : Nat) (hx : x < n.data.toList.length) (hn : n.size ≤ 200) : ∀ (d j k : Nat) (known : Bool), j + d = 36 → d < k →
    (known = (letters.take j).contains (n.data.toList[x]'hx)) → ∃ k', k ≤ k' + d + 1 ∧ flagstoneref02_Fits.l1 k n (x : Int) known (j : Int) = if letters.contains (n.data.toList[x]'hx) = true then flagstoneref02_Fits.l0 k' n ((x + 1 : Nat) : Int) else some false := by
  have hz : n.data.toList.length = n.size := by simp
  intro d
  induction d with
  | zero =>
    intro j k known hj hk hkn
    obtain ⟨k, rfl⟩ : ∃ m, k = m + 1 := ⟨k - 1, by omega⟩
    obtain rfl : j = 36 := by omega
    refine ⟨k, by omega, ?_⟩
    simp only [flagstoneref02_Fits.l1]
    rw [if_neg (by omega)]
    have e : letters.take 36 = letters := by decide
    rw [e] at hkn
    have e2 : wrap64 ((x : Int) + 1) = ((x + 1 : Nat) : Int) := by unfold wrap64; omega
    rw [← hkn, e2]
  | succ d ih =>
    intro j k known hj hk hkn
    obtain ⟨k, rfl⟩ : ∃ m, k = m + 1 := ⟨k - 1, by omega⟩
    have e2 : wrap64 ((j : Int) + 1) = ((j + 1 : Nat) : Int) := by unfold wrap64; omega
    have ht : letters.take (j + 1) = letters.take j ++ [letters.getD j 0] := by
      have hj' : j < letters.length := by show j < 36; omega
      rw [List.take_succ_eq_append_getElem hj', List.getD_eq_getElem?_getD, List.getElem?_eq_getElem hj']; rfl
    have hs : (letters.take (j + 1)).contains (n.data.toList[x]'hx) = ((letters.take j).contains (n.data.toList[x]'hx) || ((n.data.toList[x]'hx) == letters.getD j 0)) := by
      rw [ht, List.contains_append]
      congr 1
      rw [List.contains_cons, List.contains_nil, Bool.or_false]
    simp only [flagstoneref02_Fits.l1]
    rw [if_pos (by omega)]
    cases known with
    | true =>
      rw [if_pos rfl, e2]
      obtain ⟨k', h1, h2⟩ := ih (j + 1) k true (by omega) (by omega) (by rw [hs, ← hkn]; rfl)
      exact ⟨k', by omega, h2⟩
    | false =>
      rw [if_neg (by decide), if_pos (by omega), if_pos (by omega), if_pos (by omega), e2, bt_nat _ _ hx, letS_bt j (by omega)]
      have eb : ((((n.data.toList[x]'hx).toNat : Int)) == ((letters.getD j 0).toNat : Int)) = ((n.data.toList[x]'hx) == letters.getD j 0) := by
        rw [Bool.eq_iff_iff, beq_iff_eq, beq_iff_eq]
        constructor
        · intro h; exact UInt8.toNat_inj.1 (by omega)
        · intro h; rw [h]
      obtain ⟨k', h1, h2⟩ := ih (j + 1) k ((n.data.toList[x]'hx) == letters.getD j 0) (by omega) (by omega) (by rw [hs, ← hkn]; simp)
      refine ⟨k', by omega, ?_⟩
      rw [eb]; exact h2
theorem refFits_l0 (n : ByteArray) (hn : n.size ≤ 200) : ∀ (d k x : Nat), x + d = n.size → 38 * d < k → flagstoneref02_Fits.l0 k n (x : Int) = some ((n.data.toList.drop x).all (letters.contains ·)) := by
  have hz : n.data.toList.length = n.size := by simp
  intro d
  induction d with
  | zero =>
    intro k x hx hk
    obtain ⟨k, rfl⟩ : ∃ m, k = m + 1 := ⟨k - 1, by omega⟩
    simp only [flagstoneref02_Fits.l0]
    rw [if_neg (by omega), List.drop_eq_nil_of_le (by omega)]; rfl
  | succ d ih =>
    intro k x hx hk
    obtain ⟨k, rfl⟩ : ∃ m, k = m + 1 := ⟨k - 1, by omega⟩
    have hx' : x < n.data.toList.length := by omega
    simp only [flagstoneref02_Fits.l0]
    rw [if_pos (by omega)]
    obtain ⟨k', h1, h2⟩ := refFits_l1 n x hx' hn 36 0 k false (by omega) (by omega) (by simp)
    have h2' : flagstoneref02_Fits.l1 k n (x : Int) false 0 = _ := h2
    rw [h2', all_drop _ _ _ hx']
    by_cases hc : letters.contains (n.data.toList[x]'hx') = true
    · rw [if_pos hc, ih k' (x + 1) (by omega) (by omega), hc]; rfl
    · rw [if_neg hc]
      rw [Bool.not_eq_true] at hc
      rw [hc]; rfl
theorem hasPrefix_take (n st : List UInt8) (h : st.length ≤ n.length) : Lib.hasPrefix n st = (n.take st.length == st) := by
  rw [← Lib.hasPrefix_of_take, decide_eq_true h, Bool.true_and]
theorem refFits (t n : ByteArray) (ht : t.size ≤ 200) (hn : n.size ≤ 200) (k : Nat) (hk : 10000 < k) : flagstoneref02_Fits.f k t n = some (fitsB t.data.toList n.data.toList) := by
  have hz : t.data.toList.length = t.size := by simp
  have hzn : n.data.toList.length = n.size := by simp
  have hb := stemL_len t.data.toList
  have hst := stemL_take t.data.toList
  unfold flagstoneref02_Fits.f
  rw [refCount t (by omega) k (by omega)]
  simp only [Option.bind_some]
  have e : wrap64 ((t.size : Int) - (blanks t.data.toList : Int)) = ((stemL t.data.toList).length : Int) := by unfold wrap64; omega
  rw [e]
  unfold fitsB
  obtain ⟨k, rfl⟩ : ∃ m, k = m + 1 := ⟨k - 1, by omega⟩
  by_cases h1 : (n.size : Int) = (t.size : Int)
  · rw [if_pos h1, if_pos (by omega), if_pos (by omega), if_pos (by omega), Int.toNat_natCast]
    have e1 : (n.data.toList.length == t.data.toList.length) = true := by rw [beq_iff_eq]; omega
    rw [e1, Bool.and_true, hasPrefix_take _ _ (by omega)]
    have e2 : (n.extract 0 (stemL t.data.toList).length).toList = n.data.toList.take (stemL t.data.toList).length := by rw [Lib.extract_toList]; simp
    have e3 : (t.extract 0 (stemL t.data.toList).length).toList = stemL t.data.toList := by
      rw [Lib.extract_toList]
      simp only [List.drop_zero, Nat.sub_zero]
      conv => rhs; rw [hst]
      congr 1
      omega
    rw [e2, e3]
    simp only [flagstoneref02_Fits.j0]
    by_cases h2 : n.data.toList.take (stemL t.data.toList).length = stemL t.data.toList
    · rw [if_neg (by rw [h2]; simp), refFits_l0 n hn (n.size - (stemL t.data.toList).length) k _ (by omega) (by omega)]
      have e4 : (n.data.toList.take (stemL t.data.toList).length == stemL t.data.toList) = true := by rw [beq_iff_eq]; exact h2
      rw [e4, Bool.true_and]
    · have e4 : (n.data.toList.take (stemL t.data.toList).length == stemL t.data.toList) = false := by rw [beq_eq_false_iff_ne]; exact h2
      rw [if_pos (by simpa using h2), e4, Bool.false_and]
  · rw [if_neg h1]
    have e1 : (n.data.toList.length == t.data.toList.length) = false := by rw [beq_eq_false_iff_ne]; omega
    rw [e1, Bool.and_false, Bool.false_and]
    simp only [flagstoneref02_Fits.j0]
    rw [if_pos trivial]

theorem StencilTells : flagstonelaw02_StencilTells.Pure := by
  intro t n a ht hn _
  refine ⟨10002, ?_⟩
  unfold flagstonelaw02_StencilTells.f
  by_cases h1 : (t.size : Int) > 200
  · rw [if_pos h1]; simp only [flagstonelaw02_StencilTells.j0]; rw [shown_true]; rfl
  · rw [if_neg h1]
    by_cases h2 : (n.size : Int) > 200
    · rw [if_pos h2]; simp only [flagstonelaw02_StencilTells.j0]; rw [shown_true]; rfl
    · rw [if_neg h2, shown_true]
      simp only [Option.bind_some, flagstonelaw02_StencilTells.j0]
      rw [count_f _ (by omega), refCount _ ht _ (by omega)]
      simp only [Option.bind_some]
      have hc : stencil_Check.f t = some (if blanks t.data.toList < 3 then 1 else 0) := by unfold stencil_Check.f; rw [if_pos (by omega)]
      rw [if_neg (by decide), if_pos trivial, hc, refCheck _ ht _ (by omega)]
      simp only [Option.bind_some]
      have hl : stencil_Letter.f a = some (bs [let1 a]) := rfl
      rw [if_pos trivial, hl, refLetter]
      simp only [Option.bind_some]
      rw [if_pos trivial, fits_f _ _ (by omega), refFits _ _ (by omega) (by omega) _ (by omega)]
      simp

end Go.Proofs.YtoojgfhhmdohaaaDoor.Pure
