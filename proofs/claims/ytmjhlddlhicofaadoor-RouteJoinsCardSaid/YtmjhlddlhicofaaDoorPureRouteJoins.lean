/- Two paths joined have the parts of both. -/
import Derived.Test.YtmjhlddlhicofaaDoorPRouteJoinsx1
import Derived.Test.YtmjhlddlhicofaaDoorExtP
import Derived.OpenShut
namespace Go.Proofs.YtmjhlddlhicofaaDoor.Pure
open Go.RowKit Go.Proofs.YtmjhlddlhicofaaDoor.PRouteJoins Go.Proofs.YtmjhlddlhicofaaDoor.Ext Go.Proofs.YtmjhlddlhicofaaDoorW.PrintWords Go.Proofs.YtmjhlddlhicofaaDoorW.PrintLast
set_option linter.unusedVariables false
set_option linter.unusedSimpArgs false

theorem shown_true : flagstonelaw01_shown.f = some true := by
  unfold flagstonelaw01_shown.f
  simp only [toList_data]
  decide +kernel
theorem split_f (p : ByteArray) (h : p.size ≤ 1000000000000) : route_Split.f p = some (namesL p, p.data.toList.head? == some 47, p.data.toList.getLast? == some 47) := by
  unfold route_Split.f
  rw [if_pos h, hasPrefix_one, hasSuffix_one]
theorem base_f (p : ByteArray) (h : p.size ≤ 1000000000000) : route_Base.f p = some (bs (baseL p.data.toList)) := by
  unfold route_Base.f
  rw [if_pos h, baseB_eq]
theorem join_f (a b : ByteArray) (ha : a.size ≤ 1000000000000) (hb : b.size ≤ 1000000000000) : route_Join.f a b = some (joinB a b) := by
  unfold route_Join.f
  rw [if_pos ⟨ha, hb⟩]
theorem dir_f (p : ByteArray) (h : p.size ≤ 1000000000000) : route_Dir.f p = some (dirB p) := by
  unfold route_Dir.f
  rw [if_pos h]
theorem texts_l0 (l : List ByteArray) (hl : l.length ≤ 1000000000000) : ∀ (d k x : Nat), x + d = l.length → d < k → flagstoneref01_Texts.l0 k l l (x : Int) = some true := by
  intro d
  induction d with
  | zero =>
    intro k x hx hk
    obtain ⟨k, rfl⟩ : ∃ m, k = m + 1 := ⟨k - 1, by omega⟩
    simp only [flagstoneref01_Texts.l0]
    rw [if_neg (by omega)]
  | succ d ih =>
    intro k x hx hk
    obtain ⟨k, rfl⟩ : ∃ m, k = m + 1 := ⟨k - 1, by omega⟩
    simp only [flagstoneref01_Texts.l0]
    have e : wrap64 ((x : Int) + 1) = ((x + 1 : Nat) : Int) := by unfold wrap64; omega
    rw [if_pos (by omega), if_pos (by omega), if_pos (by omega), if_pos trivial, e]
    exact ih k (x + 1) (by omega) (by omega)
theorem texts_eq (l : List ByteArray) (hl : l.length ≤ 1000000000000) (k : Nat) (hk : l.length < k) : flagstoneref01_Texts.f k l l = some true := by
  unfold flagstoneref01_Texts.f
  rw [if_pos rfl]
  exact texts_l0 l hl l.length k 0 (by omega) hk
theorem RouteJoins : flagstonelaw01_RouteJoins.Pure := by
  intro a0 a1 hs1 hs2
  refine ⟨1000, ?_⟩
  unfold flagstonelaw01_RouteJoins.f
  have big : flagstonelaw01_RouteJoins.j0 1000 a0 a1 true = some true := by
    simp only [flagstonelaw01_RouteJoins.j0]
    rw [if_pos trivial, shown_true]; rfl
  by_cases h : (a0.size : Int) > 100
  · rw [if_pos h, big]
  · rw [if_neg h]
    by_cases h' : (a1.size : Int) > 100
    · rw [if_pos h', big]
    · rw [if_neg h', shown_true]
      simp only [Option.bind_some, Bool.not_true]
      simp only [flagstonelaw01_RouteJoins.j0]
      have hj := join_size a0 a1
      have n0 := namesL_len a0
      have n1 := namesL_len a1
      rw [if_neg (by simp), split_f a0 (by omega), split_f a1 (by omega), join_f a0 a1 (by omega) (by omega)]
      simp only [Option.bind_some]
      rw [split_f (joinB a0 a1) (by omega)]
      simp only [Option.bind_some]
      have hd : (joinB a0 a1).data.toList = joinL a0.data.toList a1.data.toList := by rw [joinB_eq]; exact bs_data _
      have hn : namesL (joinB a0 a1) = if a1.data.toList.head? = some 47 then namesL a1 else namesL a0 ++ namesL a1 := by
        rw [namesL_eq, hd, names_join, namesL_eq a1, namesL_eq a0]
        split
        · rfl
        · rw [List.map_append]
      by_cases hr : a1.data.toList.head? = some 47
      · rw [if_pos hr] at hn
        rw [hr, beq_self_eq_true, if_pos rfl, hn, texts_eq _ (by omega) _ (by omega)]
        simp only [Option.bind_some]
        rw [if_pos trivial, hd, root_join _ _ hr, hr]; rfl
      · rw [if_neg hr] at hn
        rw [beq_eq_false_iff_ne.2 hr, if_neg (by simp), List.length_nil, List.nil_append, if_pos (by omega), if_pos (by omega), hn, texts_eq _ (by rw [List.length_append]; omega) _ (by rw [List.length_append]; omega)]
        simp only [Option.bind_some]
        rw [if_pos trivial, hd, head_join _ _ hr, beq_self_eq_true]
end Go.Proofs.YtmjhlddlhicofaaDoor.Pure
