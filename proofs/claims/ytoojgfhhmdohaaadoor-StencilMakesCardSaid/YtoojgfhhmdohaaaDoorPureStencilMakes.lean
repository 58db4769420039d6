/- For every text of at most 200 bytes and every list of at most 200 draws the program's Make and the reference's make one name (of greater ones the law says nothing). -/
import Derived.Test.YtoojgfhhmdohaaaDoorPStencilMakesx1
import Derived.Test.YtoojgfhhmdohaaaDoorExtP
namespace Go.Proofs.YtoojgfhhmdohaaaDoor.Pure
open Go.RowKit Go.Proofs.YtoojgfhhmdohaaaDoor.PStencilMakes Go.Proofs.YtoojgfhhmdohaaaDoor.Ext Go.Proofs.YtoojgfhhmdohaaaDoorW.PrintWords Go.Proofs.YtoojgfhhmdohaaaDoorW.PrintLast
set_option linter.unusedVariables false
set_option linter.unusedSimpArgs false

theorem shown_true : flagstonelaw02_shown.f = some true := by
  unfold flagstonelaw02_shown.f
  rw [make_f _ _ (by decide) (by decide)]
  simp only [Option.bind_some, bs_list]
  rw [if_pos (by decide +kernel), count_f _ (by decide)]
  simp only [Option.bind_some]
  rw [if_pos (by decide +kernel)]
  decide +kernel
theorem refCount_l0 (s : ByteArray) (hs : s.size ≤ 140737488351232) : ∀ (d k x : Nat), x + d = blanks s.data.toList → d < k → flagstoneref02_Count.l0 k s (x : Int) = some (blanks s.data.toList : Int) := by
  have hz : s.data.toList.length = s.size := by simp
  have hb := blanks_le s.data.toList
  intro d
  induction d with
  | zero =>
    intro k x hx hk
    obtain ⟨k, rfl⟩ : ∃ m, k = m + 1 := ⟨k - 1, by omega⟩
    obtain rfl : x = blanks s.data.toList := by omega
    simp only [flagstoneref02_Count.l0]
    by_cases hlt : blanks s.data.toList < s.size
    · obtain ⟨h1, h2⟩ := blanks_stop s.data.toList (by omega)
      have e : wrap64 (wrap64 ((s.size : Int) - 1) - (blanks s.data.toList : Int)) = ((s.data.toList.length - 1 - blanks s.data.toList : Nat) : Int) := by unfold wrap64; omega
      rw [if_pos (by omega), e, if_pos (by omega), if_pos (by omega), bt_nat _ _ h1, if_neg]
      intro hc
      apply h2
      have hc' : (s.data.toList[s.data.toList.length - 1 - blanks s.data.toList]).toNat = 88 := by omega
      exact UInt8.toNat_inj.1 hc'
    · rw [if_neg (by omega)]
  | succ d ih =>
    intro k x hx hk
    obtain ⟨k, rfl⟩ : ∃ m, k = m + 1 := ⟨k - 1, by omega⟩
    obtain ⟨h1, h2⟩ := blanks_at s.data.toList x (by omega)
    have e : wrap64 (wrap64 ((s.size : Int) - 1) - (x : Int)) = ((s.data.toList.length - 1 - x : Nat) : Int) := by unfold wrap64; omega
    simp only [flagstoneref02_Count.l0]
    rw [if_pos (by omega), e, if_pos (by omega), if_pos (by omega), bt_nat _ _ h1, h2, if_pos (by decide)]
    have e2 : wrap64 ((x : Int) + 1) = ((x + 1 : Nat) : Int) := by unfold wrap64; omega
    rw [e2]
    exact ih k (x + 1) (by omega) (by omega)
theorem refCount (s : ByteArray) (hs : s.size ≤ 140737488351232) (k : Nat) (hk : s.size < k) : flagstoneref02_Count.f k s = some (blanks s.data.toList : Int) := by
  have hz : s.data.toList.length = s.size := by simp
  have hb := blanks_le s.data.toList
  exact refCount_l0 s hs (blanks s.data.toList) k 0 (by omega) (by omega)
theorem refLetter (a : Int) : flagstoneref02_Letter.f a = some (bs [let1 a]) := by
  have hm := tmod_emod a
  have h36 : 0 ≤ a % 36 ∧ a % 36 < 36 := by omega
  obtain ⟨m, hm1, hm2⟩ : ∃ m : Nat, a % 36 = m ∧ m < 36 := ⟨(a % 36).toNat, by omega, by omega⟩
  have hl : let1 a = letters.getD m 0 := by unfold let1; rw [hm1]; rfl
  have hc := letS_cut ⟨m, hm2⟩
  unfold flagstoneref02_Letter.f
  rw [hl]
  rcases hm with ⟨h1, h2⟩ | ⟨h1, h2⟩
  · have e1 : wrap64 (a.tmod 36 + 36) = (m : Int) := by unfold wrap64; omega
    have e2 : wrap64 ((m : Int) + 1) = ((m + 1 : Nat) : Int) := by unfold wrap64; omega
    rw [if_pos h1, e1, e2, if_pos (by omega), if_pos (by omega), if_pos (by omega), Int.toNat_natCast, Int.toNat_natCast]
    exact congrArg some hc
  · have e1 : a.tmod 36 = (m : Int) := by omega
    have e2 : wrap64 ((m : Int) + 1) = ((m + 1 : Nat) : Int) := by unfold wrap64; omega
    rw [if_neg (by omega), e1, e2, if_pos (by omega), if_pos (by omega), if_pos (by omega), Int.toNat_natCast, Int.toNat_natCast]
    exact congrArg some hc
theorem refMake_l0 (l : List Int) (st : List UInt8) (b : Nat) (hb : st.length + b ≤ 1000) : ∀ (d k x : Nat), x + d = b → d < k → flagstoneref02_Make.l0 k l (b : Int) (bs (st ++ madeL l x)) (x : Int) = some (bs (st ++ madeL l b)) := by
  intro d
  induction d with
  | zero =>
    intro k x hx hk
    obtain ⟨k, rfl⟩ : ∃ m, k = m + 1 := ⟨k - 1, by omega⟩
    obtain rfl : x = b := by omega
    simp only [flagstoneref02_Make.l0]
    rw [if_neg (by omega)]
  | succ d ih =>
    intro k x hx hk
    obtain ⟨k, rfl⟩ : ∃ m, k = m + 1 := ⟨k - 1, by omega⟩
    have e2 : wrap64 ((x : Int) + 1) = ((x + 1 : Nat) : Int) := by unfold wrap64; omega
    have e3 : ∀ n : Int, l.getD x 0 = n → bs (st ++ madeL l x) ++ bs [let1 n] = bs (st ++ madeL l (x + 1)) := by
      intro n hn
      rw [bs_append, madeL_succ, hn, List.append_assoc]
    have e4 : ∀ n : Int, (bs (st ++ madeL l x)).size + (bs [let1 n]).size ≤ 9223372036854775807 := by
      intro n
      rw [bs_size, bs_size, List.length_append, madeL_len]
      simp; omega
    simp only [flagstoneref02_Make.l0]
    rw [if_pos (by omega)]
    by_cases hl : x < l.length
    · rw [if_pos (by omega), if_pos (by omega), refLetter]
      simp only [Option.bind_some]
      have hr : rd l (x : Int) = l.getD x 0 := rfl
      rw [if_pos (e4 _), e3 _ hr.symm, e2]
      exact ih k (x + 1) (by omega) (by omega)
    · rw [if_neg (by omega), refLetter]
      simp only [Option.bind_some]
      have hr : l.getD x 0 = 0 := by rw [List.getD_eq_getElem?_getD, List.getElem?_eq_none (by omega)]; rfl
      rw [if_pos (e4 _), e3 _ hr, e2]
      exact ih k (x + 1) (by omega) (by omega)
theorem refMake (s : ByteArray) (l : List Int) (hs : s.size ≤ 200) (k : Nat) (hk : 1000 < k) : flagstoneref02_Make.f k s l = some (bs (makeL s.data.toList l)) := by
  have hz : s.data.toList.length = s.size := by simp
  have hb := stemL_len s.data.toList
  have ht := stemL_take s.data.toList
  unfold flagstoneref02_Make.f
  rw [refCount s (by omega) k (by omega)]
  simp only [Option.bind_some]
  have e : wrap64 ((s.size : Int) - (blanks s.data.toList : Int)) = ((s.data.toList.length - blanks s.data.toList : Nat) : Int) := by unfold wrap64; omega
  rw [e, if_pos (by omega), if_pos (by omega), Int.toNat_natCast]
  have e2 : s.extract 0 (s.data.toList.length - blanks s.data.toList) = bs (stemL s.data.toList ++ madeL l 0) := by
    refine ba_ext ?_
    rw [Lib.extract_data, bs_data, ht]
    simp [madeL]
  rw [e2]
  exact refMake_l0 l (stemL s.data.toList) (blanks s.data.toList) (by omega) (blanks s.data.toList) k 0 (by omega) (by omega)

theorem StencilMakes : flagstonelaw02_StencilMakes.Pure := by
  intro s l hs _ _ _
  refine ⟨1002, ?_⟩
  unfold flagstonelaw02_StencilMakes.f
  by_cases h1 : (s.size : Int) > 200
  · rw [if_pos h1]; simp only [flagstonelaw02_StencilMakes.j0]; rw [shown_true]; rfl
  · rw [if_neg h1]
    by_cases h2 : (l.length : Int) > 200
    · rw [if_pos h2]; simp only [flagstonelaw02_StencilMakes.j0]; rw [shown_true]; rfl
    · rw [if_neg h2, shown_true]
      simp only [Option.bind_some, flagstonelaw02_StencilMakes.j0]
      rw [make_f _ _ (by omega) (by omega), refMake _ _ (by omega) _ (by omega)]
      simp

end Go.Proofs.YtoojgfhhmdohaaaDoor.Pure
