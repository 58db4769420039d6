/- Dir and Base, joined, have a path's parts. -/
import Derived.Test.YtmjhlddlhicofaaDoorPRouteBackx2
import Derived.Test.YtmjhlddlhicofaaDoorExtP2
import Derived.OpenShut
namespace Go.Proofs.YtmjhlddlhicofaaDoor.Pure
open Go.RowKit Go.Proofs.YtmjhlddlhicofaaDoor.PRouteBack Go.Proofs.YtmjhlddlhicofaaDoor.Ext Go.Proofs.YtmjhlddlhicofaaDoorW.PrintWords Go.Proofs.YtmjhlddlhicofaaDoorW.PrintLast
set_option linter.unusedVariables false
set_option linter.unusedSimpArgs false

theorem shown_true : flagstonelaw01_shown.f = some true := by
  unfold flagstonelaw01_shown.f
  simp only [toList_data]
  decide +kernel
theorem split_f (p : ByteArray) (h : p.size ≤ 1000000000000) : route_Split.f p = some (namesL p, p.data.toList.head? == some 47, p.data.toList.getLast? == some 47) := by
  unfold route_Split.f
  rw [if_pos h, hasPrefix_one, hasSuffix_one]
theorem base_f (p : ByteArray) (h : p.size ≤ 1000000000000) : route_Base.f p = some (bs (baseL p.data.toList)) := by
  unfold route_Base.f
  rw [if_pos h, baseB_eq]
theorem join_f (a b : ByteArray) (ha : a.size ≤ 1000000000000) (hb : b.size ≤ 1000000000000) : route_Join.f a b = some (joinB a b) := by
  unfold route_Join.f
  rw [if_pos ⟨ha, hb⟩]
theorem dir_f (p : ByteArray) (h : p.size ≤ 1000000000000) : route_Dir.f p = some (dirB p) := by
  unfold route_Dir.f
  rw [if_pos h]
theorem texts_l0 (l : List ByteArray) (hl : l.length ≤ 1000000000000) : ∀ (d k x : Nat), x + d = l.length → d < k → flagstoneref01_Texts.l0 k l l (x : Int) = some true := by
  intro d
  induction d with
  | zero =>
    intro k x hx hk
    obtain ⟨k, rfl⟩ : ∃ m, k = m + 1 := ⟨k - 1, by omega⟩
    simp only [flagstoneref01_Texts.l0]
    rw [if_neg (by omega)]
  | succ d ih =>
    intro k x hx hk
    obtain ⟨k, rfl⟩ : ∃ m, k = m + 1 := ⟨k - 1, by omega⟩
    simp only [flagstoneref01_Texts.l0]
    have e : wrap64 ((x : Int) + 1) = ((x + 1 : Nat) : Int) := by unfold wrap64; omega
    rw [if_pos (by omega), if_pos (by omega), if_pos (by omega), if_pos trivial, e]
    exact ih k (x + 1) (by omega) (by omega)
theorem texts_eq (l : List ByteArray) (hl : l.length ≤ 1000000000000) (k : Nat) (hk : l.length < k) : flagstoneref01_Texts.f k l l = some true := by
  unfold flagstoneref01_Texts.f
  rw [if_pos rfl]
  exact texts_l0 l hl l.length k 0 (by omega) hk
theorem RouteBack : flagstonelaw01_RouteBack.Pure := by
  intro a0 hs
  refine ⟨1000, ?_⟩
  unfold flagstonelaw01_RouteBack.f
  by_cases h : (a0.size : Int) > 300
  · rw [if_pos h]
    simp only [flagstonelaw01_RouteBack.j0]
    rw [if_pos trivial, shown_true]; rfl
  · rw [if_neg h, shown_true]
    simp only [Option.bind_some, Bool.not_true]
    simp only [flagstonelaw01_RouteBack.j0]
    have n0 := namesL_len a0
    have d0 := dir_size a0
    have b0 := base_size a0
    rw [if_neg (by simp), split_f a0 (by omega), dir_f a0 (by omega), base_f a0 (by omega)]
    simp only [Option.bind_some]
    have hl : (namesL a0).length = (names a0.data.toList).length := by rw [namesL_eq, List.length_map]
    by_cases h0 : (names a0.data.toList).length = 0
    · have hn : names a0.data.toList = [] := List.eq_nil_of_length_eq_zero h0
      obtain ⟨e1, e2⟩ := back_zero a0 hn
      rw [if_pos (by omega), toList_data a0, e1, e2]
      by_cases hp : a0.data.toList = []
      · rw [if_pos hp, if_pos hp, if_pos (bs_toList _)]
      · rw [if_neg hp, if_neg hp, if_neg hp, if_pos (bs_toList _), bs_toList]; rfl
    · rw [if_neg (by omega)]
      by_cases h1 : (names a0.data.toList).length = 1
      · obtain ⟨b, hb⟩ := List.length_eq_one_iff.1 h1
        obtain ⟨e1, e2⟩ := back_one a0 b hb
        have hn : namesL a0 = [bs b] := by rw [namesL_eq, hb]; rfl
        rw [if_pos (by omega), if_pos (by omega), e2, hn, if_pos (show (bs b).toList = (rdOf ByteArray.empty [bs b] 0).toList from rfl), e1]
        by_cases hp : a0.data.toList.head? = some 47
        · rw [if_pos (by rw [hp]; rfl), if_pos hp, if_pos (bs_toList _)]
        · rw [if_neg (by simpa using hp), if_neg hp, bs_toList]; rfl
      · rw [if_neg (by omega)]
        obtain ⟨d, b, e1, e2, e3, e4, e5, e6, e7⟩ := back_more a0 (by omega)
        rw [e1] at d0
        rw [e3] at b0
        rw [← bs_size b] at b0
        have js := join_size (bs d) (bs b)
        rw [e1, e3, join_f _ _ (by omega) (by omega)]
        simp only [Option.bind_some]
        rw [split_f _ (by omega)]
        simp only [Option.bind_some]
        have hh : b.head? ≠ some 47 := by
          cases b with
          | nil => exact absurd rfl e4
          | cons c b => intro e; exact e5 c (by simp) (Option.some.inj e)
        have hd : (joinB (bs d) (bs b)).data.toList = joinL d b := by rw [joinB_eq, show (bs d).data.toList = d from bs_data d, show (bs b).data.toList = b from bs_data b]; exact bs_data _
        have hn : namesL (joinB (bs d) (bs b)) = namesL a0 := by
          rw [namesL_eq, hd, names_join, if_neg hh, names_one b e5 e4, namesL_eq a0, e6]
        rw [hn, texts_eq _ (by omega) _ (by omega)]
        simp only [Option.bind_some]
        rw [if_pos trivial, hd, head_join _ _ hh, e7, beq_self_eq_true]
end Go.Proofs.YtmjhlddlhicofaaDoor.Pure
