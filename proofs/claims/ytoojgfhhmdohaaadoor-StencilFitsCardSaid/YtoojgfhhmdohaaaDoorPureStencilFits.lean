/- For every text of at most 200 bytes and every list of at most 200 draws: what is made fits, is as long as the text, begins with the text's stem, and has no blank at its end (of greater ones the law says nothing). -/
import Derived.Test.YtoojgfhhmdohaaaDoorPStencilFitsx2
import Derived.Test.YtoojgfhhmdohaaaDoorExtP
namespace Go.Proofs.YtoojgfhhmdohaaaDoor.Pure
open Go.RowKit Go.Proofs.YtoojgfhhmdohaaaDoor.PStencilFits Go.Proofs.YtoojgfhhmdohaaaDoor.Ext Go.Proofs.YtoojgfhhmdohaaaDoorW.PrintWords Go.Proofs.YtoojgfhhmdohaaaDoorW.PrintLast
set_option linter.unusedVariables false
set_option linter.unusedSimpArgs false

theorem shown_true : flagstonelaw02_shown.f = some true := by
  unfold flagstonelaw02_shown.f
  rw [make_f _ _ (by decide) (by decide)]
  simp only [Option.bind_some, bs_list]
  rw [if_pos (by decide +kernel), count_f _ (by decide)]
  simp only [Option.bind_some]
  rw [if_pos (by decide +kernel)]
  decide +kernel
theorem refCount_l0 (s : ByteArray) (hs : s.size ≤ 140737488351232) : ∀ (d k x : Nat), x + d = blanks s.data.toList → d < k → flagstoneref02_Count.l0 k s (x : Int) = some (blanks s.data.toList : Int) := by
  have hz : s.data.toList.length = s.size := by simp
  have hb := blanks_le s.data.toList
  intro d
  induction d with
  | zero =>
    intro k x hx hk
    obtain ⟨k, rfl⟩ : ∃ m, k = m + 1 := ⟨k - 1, by omega⟩
    obtain rfl : x = blanks s.data.toList := by omega
    simp only [flagstoneref02_Count.l0]
    by_cases hlt : blanks s.data.toList < s.size
    · obtain ⟨h1, h2⟩ := blanks_stop s.data.toList (by omega)
      have e : wrap64 (wrap64 ((s.size : Int) - 1) - (blanks s.data.toList : Int)) = ((s.data.toList.length - 1 - blanks s.data.toList : Nat) : Int) := by unfold wrap64; omega
      rw [if_pos (by omega), e, if_pos (by omega), if_pos (by omega), bt_nat _ _ h1, if_neg]
      intro hc
      apply h2
      have hc' : (s.data.toList[s.data.toList.length - 1 - blanks s.data.toList]).toNat = 88 := by omega
      exact UInt8.toNat_inj.1 hc'
    · rw [if_neg (by omega)]
  | succ d ih =>
    intro k x hx hk
    obtain ⟨k, rfl⟩ : ∃ m, k = m + 1 := ⟨k - 1, by omega⟩
    obtain ⟨h1, h2⟩ := blanks_at s.data.toList x (by omega)
    have e : wrap64 (wrap64 ((s.size : Int) - 1) - (x : Int)) = ((s.data.toList.length - 1 - x : Nat) : Int) := by unfold wrap64; omega
    simp only [flagstoneref02_Count.l0]
    rw [if_pos (by omega), e, if_pos (by omega), if_pos (by omega), bt_nat _ _ h1, h2, if_pos (by decide)]
    have e2 : wrap64 ((x : Int) + 1) = ((x + 1 : Nat) : Int) := by unfold wrap64; omega
    rw [e2]
    exact ih k (x + 1) (by omega) (by omega)
theorem refCount (s : ByteArray) (hs : s.size ≤ 140737488351232) (k : Nat) (hk : s.size < k) : flagstoneref02_Count.f k s = some (blanks s.data.toList : Int) := by
  have hz : s.data.toList.length = s.size := by simp
  have hb := blanks_le s.data.toList
  exact refCount_l0 s hs (blanks s.data.toList) k 0 (by omega) (by omega)

theorem letters_ne (n : Int) : (let1 n == 88) = false := by
  have : ∀ c ∈ letters, (c == 88) = false := by decide
  exact this _ (let1_mem n)
theorem blanks_made (st : List UInt8) (ds : List Int) (b : Nat) (hb : 0 < b) : blanks (st ++ madeL ds b) = 0 := by
  obtain ⟨b, rfl⟩ : ∃ m, b = m + 1 := ⟨b - 1, by omega⟩
  rw [madeL_succ]
  unfold blanks
  rw [List.reverse_append, List.reverse_append, List.reverse_singleton, List.singleton_append, List.cons_append, List.takeWhile_cons, letters_ne]
  rfl
theorem stem_no (l : List UInt8) : ∀ t, t.length = l.length → blanks t = 0 → True := fun _ _ _ => trivial
theorem fitsB_make (t : List UInt8) (ds : List Int) : fitsB t (makeL t ds) = true := by
  unfold fitsB
  have h1 : Lib.hasPrefix (makeL t ds) (stemL t) = true := by
    unfold Lib.hasPrefix makeL
    rw [List.isPrefixOf_iff_prefix]
    exact List.prefix_append _ _
  have h2 : ((makeL t ds).length == t.length) = true := by rw [beq_iff_eq, makeL_len]
  have h3 : (makeL t ds).drop (stemL t).length = madeL ds (blanks t) := by
    unfold makeL; rw [List.drop_left]
  rw [h1, h2, h3, Bool.and_true, Bool.true_and, List.all_eq_true]
  intro c hc
  unfold madeL at hc
  obtain ⟨i, _, rfl⟩ := List.mem_map.1 hc
  simpa using let1_mem _
theorem StencilFits : flagstonelaw02_StencilFits.Pure := by
  intro s l hs _ _ _
  refine ⟨1002, ?_⟩
  have hz : s.data.toList.length = s.size := by simp
  have hb := stemL_len s.data.toList
  have hst := stemL_take s.data.toList
  unfold flagstonelaw02_StencilFits.f
  by_cases h1 : (s.size : Int) > 200
  · rw [if_pos h1]; simp only [flagstonelaw02_StencilFits.j0]; rw [shown_true]; rfl
  · rw [if_neg h1]
    by_cases h2 : (l.length : Int) > 200
    · rw [if_pos h2]; simp only [flagstonelaw02_StencilFits.j0]; rw [shown_true]; rfl
    · rw [if_neg h2, shown_true]
      simp only [Option.bind_some, flagstonelaw02_StencilFits.j0]
      rw [if_neg (by decide), make_f _ _ (by omega) (by omega), refCount s hs _ (by omega)]
      simp only [Option.bind_some]
      have hm : (bs (makeL s.data.toList l)).size = s.size := by rw [bs_size, makeL_len]; exact hz
      have e : wrap64 ((s.size : Int) - (blanks s.data.toList : Int)) = ((stemL s.data.toList).length : Int) := by unfold wrap64; omega
      rw [hm, if_pos rfl, e, if_pos (by omega), if_pos (by omega), if_pos (by omega), Int.toNat_natCast]
      have e2 : ((bs (makeL s.data.toList l)).extract 0 (stemL s.data.toList).length).toList = stemL s.data.toList := by
        rw [Lib.extract_toList, bs_data]
        simp only [List.drop_zero, Nat.sub_zero]
        unfold makeL; rw [List.take_left]
      have e3 : (s.extract 0 (stemL s.data.toList).length).toList = stemL s.data.toList := by
        rw [Lib.extract_toList]
        simp only [List.drop_zero, Nat.sub_zero]
        conv => rhs; rw [hst]
        congr 1
        omega
      rw [e2, e3, if_pos rfl, fits_f _ _ (by omega), bs_data, fitsB_make]
      simp only [Option.bind_some]
      rw [if_pos trivial]
      by_cases h3 : (stemL s.data.toList).length = s.size
      · rw [if_pos (by omega)]
      · rw [if_neg (by omega), count_f _ (by omega), bs_data]
        simp only [Option.bind_some]
        unfold makeL
        rw [blanks_made _ _ _ (by omega)]
        rfl

end Go.Proofs.YtoojgfhhmdohaaaDoor.Pure
