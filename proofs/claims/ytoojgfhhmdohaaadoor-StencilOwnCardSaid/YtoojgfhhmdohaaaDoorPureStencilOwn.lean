/- For every two texts of at most 100 bytes: a name that fits is made by the places of its letters; one that doesn't is not made (of greater ones the law says nothing). -/
import Derived.Test.YtoojgfhhmdohaaaDoorPStencilOwnx2
import Derived.Test.YtoojgfhhmdohaaaDoorExtP
namespace Go.Proofs.YtoojgfhhmdohaaaDoor.Pure
open Go.RowKit Go.Proofs.YtoojgfhhmdohaaaDoor.PStencilOwn Go.Proofs.YtoojgfhhmdohaaaDoor.Ext Go.Proofs.YtoojgfhhmdohaaaDoorW.PrintWords Go.Proofs.YtoojgfhhmdohaaaDoorW.PrintLast
set_option linter.unusedVariables false
set_option linter.unusedSimpArgs false

theorem shown_true : flagstonelaw02_shown.f = some true := by
  unfold flagstonelaw02_shown.f
  rw [make_f _ _ (by decide) (by decide)]
  simp only [Option.bind_some, bs_list]
  rw [if_pos (by decide +kernel), count_f _ (by decide)]
  simp only [Option.bind_some]
  rw [if_pos (by decide +kernel)]
  decide +kernel
theorem refCount_l0 (s : ByteArray) (hs : s.size ≤ 140737488351232) : ∀ (d k x : Nat), x + d = blanks s.data.toList → d < k → flagstoneref02_Count.l0 k s (x : Int) = some (blanks s.data.toList : Int) := by
  have hz : s.data.toList.length = s.size := by simp
  have hb := blanks_le s.data.toList
  intro d
  induction d with
  | zero =>
    intro k x hx hk
    obtain ⟨k, rfl⟩ : ∃ m, k = m + 1 := ⟨k - 1, by omega⟩
    obtain rfl : x = blanks s.data.toList := by omega
    simp only [flagstoneref02_Count.l0]
    by_cases hlt : blanks s.data.toList < s.size
    · obtain ⟨h1, h2⟩ := blanks_stop s.data.toList (by omega)
      have e : wrap64 (wrap64 ((s.size : Int) - 1) - (blanks s.data.toList : Int)) = ((s.data.toList.length - 1 - blanks s.data.toList : Nat) : Int) := by unfold wrap64; omega
      rw [if_pos (by omega), e, if_pos (by omega), if_pos (by omega), bt_nat _ _ h1, if_neg]
      intro hc
      apply h2
      have hc' : (s.data.toList[s.data.toList.length - 1 - blanks s.data.toList]).toNat = 88 := by omega
      exact UInt8.toNat_inj.1 hc'
    · rw [if_neg (by omega)]
  | succ d ih =>
    intro k x hx hk
    obtain ⟨k, rfl⟩ : ∃ m, k = m + 1 := ⟨k - 1, by omega⟩
    obtain ⟨h1, h2⟩ := blanks_at s.data.toList x (by omega)
    have e : wrap64 (wrap64 ((s.size : Int) - 1) - (x : Int)) = ((s.data.toList.length - 1 - x : Nat) : Int) := by unfold wrap64; omega
    simp only [flagstoneref02_Count.l0]
    rw [if_pos (by omega), e, if_pos (by omega), if_pos (by omega), bt_nat _ _ h1, h2, if_pos (by decide)]
    have e2 : wrap64 ((x : Int) + 1) = ((x + 1 : Nat) : Int) := by unfold wrap64; omega
    rw [e2]
    exact ih k (x + 1) (by omega) (by omega)
theorem refCount (s : ByteArray) (hs : s.size ≤ 140737488351232) (k : Nat) (hk : s.size < k) : flagstoneref02_Count.f k s = some (blanks s.data.toList : Int) := by
  have hz : s.data.toList.length = s.size := by simp
  have hb := blanks_le s.data.toList
  exact refCount_l0 s hs (blanks s.data.toList) k 0 (by omega) (by omega)

theorem place_of (c : UInt8) (h : letters.contains c = true) : ∃ p, p < 36 ∧ letters.getD p 0 = c ∧ ∀ q, q < p → letters.getD q 0 ≠ c := by
  have hm : c ∈ letters := by simpa using h
  obtain ⟨p, hp, e⟩ := List.getElem_of_mem hm
  have hp36 : p < 36 := hp
  have e' : letters.getD p 0 = c := by rw [List.getD_eq_getElem?_getD, List.getElem?_eq_getElem hp, e]; rfl
  refine ⟨p, hp36, e', fun q hq eq => ?_⟩
  have := letters_inj ⟨q, by omega⟩ ⟨p, hp36⟩ (eq.trans e'.symm)
  have := Fin.mk.inj this
  omega
theorem own_l1 (s n : ByteArray) (ds : List Int) (hd : ds.length ≤ 100) (x : Nat) (hx : x < n.data.toList.length) (hn : n.size ≤ 100) (p : Nat) (hp : p < 36) (he : letters.getD p 0 = n.data.toList[x]'hx) (hq : ∀ q, q < p → letters.getD q 0 ≠ n.data.toList[x]'hx) :
    ∀ (d j k : Nat), j + d = p → d < k → ∃ k', k ≤ k' + d + 1 ∧ flagstonelaw02_StencilOwn.l1 k s n ds (x : Int) (j : Int) = flagstonelaw02_StencilOwn.l0 k' s n (ds ++ [(p : Int)]) ((x + 1 : Nat) : Int) := by
  have hz : n.data.toList.length = n.size := by simp
  have ex : (n.extract x (x + 1)).toList = [n.data.toList[x]'hx] := by
    rw [Lib.extract_toList, List.drop_eq_getElem_cons hx]
    simp
  have e3 : wrap64 ((x : Int) + 1) = ((x + 1 : Nat) : Int) := by unfold wrap64; omega
  have hl : ∀ j : Nat, stencil_Letter.f (j : Int) = some (bs [let1 (j : Int)]) := fun _ => rfl
  intro d
  induction d with
  | zero =>
    intro j k hj hk
    obtain ⟨k, rfl⟩ : ∃ m, k = m + 1 := ⟨k - 1, by omega⟩
    obtain rfl : j = p := by omega
    refine ⟨k, by omega, ?_⟩
    simp only [flagstonelaw02_StencilOwn.l1]
    rw [if_pos (by omega), hl, Option.bind_some, if_pos (by omega), e3, if_pos (by omega), if_pos (by omega), Int.toNat_natCast, Int.toNat_natCast, ex, bs_list, let1_36 _ hp, he, if_pos rfl, if_pos (by omega)]
  | succ d ih =>
    intro j k hj hk
    obtain ⟨k, rfl⟩ : ∃ m, k = m + 1 := ⟨k - 1, by omega⟩
    have e2 : wrap64 ((j : Int) + 1) = ((j + 1 : Nat) : Int) := by unfold wrap64; omega
    obtain ⟨k', h1, h2⟩ := ih (j + 1) k (by omega) (by omega)
    refine ⟨k', by omega, ?_⟩
    have hne := hq j (by omega)
    simp only [flagstonelaw02_StencilOwn.l1]
    rw [if_pos (by omega), hl, Option.bind_some, if_pos (by omega), e3, if_pos (by omega), if_pos (by omega), Int.toNat_natCast, Int.toNat_natCast, ex, bs_list, let1_36 _ (by omega), if_neg (by simpa using hne), e2]
    exact h2
theorem own_l0 (s n : ByteArray) (hs : s.size ≤ 100) (hn : n.size = s.size) (hp : n.data.toList.take (stemL s.data.toList).length = stemL s.data.toList) (hall : ∀ c ∈ n.data.toList.drop (stemL s.data.toList).length, letters.contains c = true) :
    ∀ (d k i : Nat) (ds : List Int), i + d = blanks s.data.toList → ds.length = i → 38 * d < k → (stemL s.data.toList ++ madeL ds i = n.data.toList.take ((stemL s.data.toList).length + i)) →
    flagstonelaw02_StencilOwn.l0 k s n ds (((stemL s.data.toList).length + i : Nat) : Int) = some true := by
  have hz : n.data.toList.length = n.size := by simp
  have hzs : s.data.toList.length = s.size := by simp
  have hst := stemL_len s.data.toList
  intro d
  induction d with
  | zero =>
    intro k i ds hi hds hk hm
    obtain ⟨k, rfl⟩ : ∃ m, k = m + 1 := ⟨k - 1, by omega⟩
    obtain rfl : i = blanks s.data.toList := by omega
    simp only [flagstonelaw02_StencilOwn.l0]
    rw [if_neg (by omega), make_f _ _ (by omega) (by omega)]
    simp only [Option.bind_some, bs_list]
    have e : makeL s.data.toList ds = n.toList := by
      unfold makeL
      rw [hm, List.take_of_length_le (by omega), Lib.toList_data]
    rw [e]; simp
  | succ d ih =>
    intro k i ds hi hds hk hm
    obtain ⟨k, rfl⟩ : ∃ m, k = m + 1 := ⟨k - 1, by omega⟩
    have hx : (stemL s.data.toList).length + i < n.data.toList.length := by omega
    have hc : letters.contains (n.data.toList[(stemL s.data.toList).length + i]'hx) = true := by
      refine hall _ ?_
      have : (n.data.toList.drop (stemL s.data.toList).length)[i]? = some (n.data.toList[(stemL s.data.toList).length + i]'hx) := by
        rw [List.getElem?_drop, List.getElem?_eq_getElem hx]
      exact List.mem_of_getElem? this
    obtain ⟨p, hp36, he, hq⟩ := place_of _ hc
    simp only [flagstonelaw02_StencilOwn.l0]
    rw [if_pos (by omega)]
    obtain ⟨k', h1, h2⟩ := own_l1 s n ds (by omega) _ hx (by omega) p hp36 he hq p 0 k (by omega) (by omega)
    have h2' : flagstonelaw02_StencilOwn.l1 k s n ds (((stemL s.data.toList).length + i : Nat) : Int) 0 = _ := h2
    rw [h2']
    have hmm : madeL (ds ++ [(p : Int)]) i = madeL ds i := by
      unfold madeL
      refine List.map_congr_left fun j hj => ?_
      congr 1
      have := List.mem_range.1 hj
      rw [List.getD_eq_getElem?_getD, List.getD_eq_getElem?_getD, List.getElem?_append_left (by omega)]
    have hpp : (ds ++ [(p : Int)]).getD i 0 = p := by
      rw [List.getD_eq_getElem?_getD, List.getElem?_append_right (by omega)]
      simp [hds]
    have := ih k' (i + 1) (ds ++ [(p : Int)]) (by omega) (by simp [hds]) (by omega) (by
      rw [madeL_succ, hmm, hpp, let1_36 _ hp36, he, ← List.append_assoc, hm, ← Nat.add_assoc, List.take_succ_eq_append_getElem hx])
    exact this
theorem make_fits (t : List UInt8) (ds : List Int) : fitsB t (makeL t ds) = true := by
  unfold fitsB
  have h1 : Lib.hasPrefix (makeL t ds) (stemL t) = true := by
    unfold Lib.hasPrefix makeL
    rw [List.isPrefixOf_iff_prefix]
    exact List.prefix_append _ _
  have h2 : ((makeL t ds).length == t.length) = true := by rw [beq_iff_eq, makeL_len]
  have h3 : (makeL t ds).drop (stemL t).length = madeL ds (blanks t) := by
    unfold makeL; rw [List.drop_left]
  rw [h1, h2, h3, Bool.and_true, Bool.true_and, List.all_eq_true]
  intro c hc
  unfold madeL at hc
  obtain ⟨i, _, rfl⟩ := List.mem_map.1 hc
  simpa using let1_mem _
theorem StencilOwn : flagstonelaw02_StencilOwn.Pure := by
  intro s n hs hn
  refine ⟨10002, ?_⟩
  have hz : n.data.toList.length = n.size := by simp
  have hzs : s.data.toList.length = s.size := by simp
  have hst := stemL_len s.data.toList
  unfold flagstonelaw02_StencilOwn.f
  by_cases h1 : (s.size : Int) > 100
  · rw [if_pos h1]; simp only [flagstonelaw02_StencilOwn.j0]; rw [shown_true]; rfl
  · rw [if_neg h1]
    by_cases h2 : (n.size : Int) > 100
    · rw [if_pos h2]; simp only [flagstonelaw02_StencilOwn.j0]; rw [shown_true]; rfl
    · rw [if_neg h2, shown_true]
      simp only [Option.bind_some, flagstonelaw02_StencilOwn.j0]
      rw [if_neg (by decide), fits_f _ _ (by omega)]
      simp only [Option.bind_some]
      rcases hf : fitsB s.data.toList n.data.toList with _ | _
      · rw [if_neg (by decide), make_f _ _ (by omega) (by simp)]
        simp only [Option.bind_some, bs_list]
        have : makeL s.data.toList [] ≠ n.toList := by
          intro e
          rw [Lib.toList_data] at e
          rw [← e, make_fits] at hf
          cases hf
        simpa using this
      · rw [if_pos rfl, refCount s hs _ (by omega)]
        simp only [Option.bind_some]
        have hf' := hf
        unfold fitsB at hf'
        simp only [Bool.and_eq_true, beq_iff_eq] at hf'
        obtain ⟨⟨f1, f2⟩, f3⟩ := hf'
        have hle : (stemL s.data.toList).length ≤ n.data.toList.length := by omega
        have f1' : n.data.toList.take (stemL s.data.toList).length = stemL s.data.toList := by
          rw [← Lib.hasPrefix_of_take, decide_eq_true hle, Bool.true_and, beq_iff_eq] at f1
          exact f1
        have e : wrap64 ((s.size : Int) - (blanks s.data.toList : Int)) = (((stemL s.data.toList).length + 0 : Nat) : Int) := by unfold wrap64; omega
        rw [e]
        exact own_l0 s n (by omega) (by omega) f1' (fun c hc => List.all_eq_true.1 f3 c hc) (blanks s.data.toList) 10001 0 [] (by omega) rfl (by omega) (by simp [madeL, f1'])

end Go.Proofs.YtoojgfhhmdohaaaDoor.Pure
