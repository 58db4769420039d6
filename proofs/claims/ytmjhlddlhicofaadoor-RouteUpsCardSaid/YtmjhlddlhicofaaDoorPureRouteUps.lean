/- The beginnings of a path. -/
import Derived.Test.YtmjhlddlhicofaaDoorPRouteUpsx1
import Derived.Test.YtmjhlddlhicofaaDoorExtP2
import Derived.OpenShut
namespace Go.Proofs.YtmjhlddlhicofaaDoor.Pure
open Go.RowKit Go.Proofs.YtmjhlddlhicofaaDoor.PRouteUps Go.Proofs.YtmjhlddlhicofaaDoor.Ext Go.Proofs.YtmjhlddlhicofaaDoorW.PrintWords Go.Proofs.YtmjhlddlhicofaaDoorW.PrintLast
set_option linter.unusedVariables false
set_option linter.unusedSimpArgs false

theorem shown_true : flagstonelaw01_shown.f = some true := by
  unfold flagstonelaw01_shown.f
  simp only [toList_data]
  decide +kernel
theorem split_f (p : ByteArray) (h : p.size ≤ 1000000000000) : route_Split.f p = some (namesL p, p.data.toList.head? == some 47, p.data.toList.getLast? == some 47) := by
  unfold route_Split.f
  rw [if_pos h, hasPrefix_one, hasSuffix_one]
theorem base_f (p : ByteArray) (h : p.size ≤ 1000000000000) : route_Base.f p = some (bs (baseL p.data.toList)) := by
  unfold route_Base.f
  rw [if_pos h, baseB_eq]
theorem join_f (a b : ByteArray) (ha : a.size ≤ 1000000000000) (hb : b.size ≤ 1000000000000) : route_Join.f a b = some (joinB a b) := by
  unfold route_Join.f
  rw [if_pos ⟨ha, hb⟩]
theorem dir_f (p : ByteArray) (h : p.size ≤ 1000000000000) : route_Dir.f p = some (dirB p) := by
  unfold route_Dir.f
  rw [if_pos h]
theorem ends_len1 (x0 : ByteArray) : (endsL x0).length = (partsL x0).length := by unfold endsL; rw [List.length_map]
theorem names_len1 (x0 : ByteArray) : (namesL x0).length = (partsL x0).length := by unfold namesL; rw [List.length_map]
theorem facts (x0 : ByteArray) (i : Nat) (hlt : i < (partsL x0).length) : ∃ e, e ≤ x0.size ∧ rdOf ByteArray.empty (endsL x0) (i : Int) = x0.extract 0 e ∧ (x0.extract 0 e).size = e ∧ namesL (x0.extract 0 e) = (namesL x0).take (i + 1) ∧
    (x0.extract 0 e).data.toList.head? = x0.data.toList.head? ∧ (x0.extract 0 e).data.toList.getLast? ≠ some 47 := by
  have hz : x0.data.toList.length = x0.size := by simp
  have hx : (partsL x0)[i]? = some (partsL x0)[i] := List.getElem?_eq_getElem hlt
  generalize (partsL x0)[i] = x at hx
  obtain ⟨h1, h2, h3, h4⟩ := ups_at x0 i x hx
  obtain ⟨e, s⟩ := x
  have h1 : e ≤ x0.data.toList.length := h1
  have h2 : names (x0.data.toList.take e) = (names x0.data.toList).take (i + 1) := h2
  have h3 : (x0.data.toList.take e).getLast? ≠ some 47 := h3
  have h4 : x0.data.toList.take e ≠ [] := h4
  have hud : (x0.extract 0 e).data.toList = x0.data.toList.take e := by rw [Lib.extract_data]; simp
  have hex : e ≤ x0.size := Nat.le_trans h1 (Nat.le_of_eq hz)
  refine ⟨e, hex, ?_, ?_, ?_, ?_, ?_⟩
  · unfold rdOf endsL
    rw [Int.toNat_natCast, List.getD_eq_getElem?_getD, List.getElem?_map, hx]; rfl
  · rw [ByteArray.size_extract, Nat.min_eq_left hex, Nat.sub_zero]
  · rw [namesL_eq, hud, h2, namesL_eq, List.map_take]
  · rw [hud]
    cases hl : x0.data.toList with
    | nil => rw [hl] at h4; simp at h4
    | cons c l =>
      rw [hl] at h4
      cases e with
      | zero => exact absurd rfl h4
      | succ e => rfl
  · rw [hud]; exact h3
theorem rd_take (l : List ByteArray) (i : Nat) : rdOf ByteArray.empty (l.take (i + 1)) (i : Int) = rdOf ByteArray.empty l (i : Int) := by
  unfold rdOf
  rw [Int.toNat_natCast, List.getD_eq_getElem?_getD, List.getD_eq_getElem?_getD, List.getElem?_take, if_pos (Nat.lt_succ_self i)]
theorem step_l0 (x0 : ByteArray) (k i : Nat) (hlt : i < (partsL x0).length) (hn : x0.size ≤ 200) (hi : i < 1000) :
    flagstonelaw01_RouteUps.l0 (k + 1) x0 (namesL x0) (x0.data.toList.head? == some 47) (endsL x0) (i : Int) = flagstonelaw01_RouteUps.l0 k x0 (namesL x0) (x0.data.toList.head? == some 47) (endsL x0) ((i + 1 : Nat) : Int) := by
  obtain ⟨e, hex, hu, hus, hnu, hhd, h3⟩ := facts x0 i hlt
  have q1 : (i : Int) < ((endsL x0).length : Int) := Int.ofNat_lt.2 (Nat.lt_of_lt_of_eq hlt (ends_len1 x0).symm)
  have q2 : (0 : Int) ≤ (i : Int) := Int.natCast_nonneg i
  have q3 : (x0.extract 0 e).size ≤ 1000000000000 := Nat.le_trans (Nat.le_of_eq hus) (Nat.le_trans hex (Nat.le_trans hn (by decide)))
  have q4 : (i : Int) < ((i + 1 : Nat) : Int) := Int.ofNat_lt.2 (Nat.lt_succ_self i)
  have q5 : (i : Int) < ((namesL x0).length : Int) := Int.ofNat_lt.2 (Nat.lt_of_lt_of_eq hlt (names_len1 x0).symm)
  have q6 : ¬ (e : Int) > (x0.size : Int) := Int.not_lt.2 (Int.ofNat_le.2 hex)
  have q7 : (0 : Int) ≤ (e : Int) := Int.natCast_nonneg e
  have q8 : (e : Int) ≤ (x0.size : Int) := Int.ofNat_le.2 hex
  have e2 : wrap64 ((i : Int) + 1) = ((i + 1 : Nat) : Int) := by
    clear q1 q3 q5 q6 q8 hu hus hnu hhd h3 hex hlt
    unfold wrap64; omega
  have hlu : (namesL (x0.extract 0 e)).length = i + 1 := by
    rw [hnu, List.length_take, names_len1]; exact Nat.min_eq_left hlt
  have hrd := rd_take (namesL x0) i
  simp only [flagstonelaw01_RouteUps.l0]
  rw [if_pos q1, if_pos q2, hu, split_f _ q3, Option.bind_some]
  rw [hlu, e2, if_pos rfl, if_pos q4, if_pos q5, hnu, hrd, if_pos rfl, hhd, bne_self_eq_false, if_neg Bool.false_ne_true, if_neg (by simpa using h3), hus, if_neg q6, if_pos q7, if_pos q8, Int.toNat_natCast, if_pos rfl]
theorem main_l0 (x0 : ByteArray) (hn : x0.size ≤ 200) : ∀ (d k i : Nat), i + d = (partsL x0).length → d < k → flagstonelaw01_RouteUps.l0 k x0 (namesL x0) (x0.data.toList.head? == some 47) (endsL x0) (i : Int) = some true := by
  have hlen : (partsL x0).length ≤ x0.size + 1 := by rw [← names_len1]; exact namesL_len x0
  intro d
  induction d with
  | zero =>
    intro k i hi hk
    obtain ⟨k, rfl⟩ : ∃ m, k = m + 1 := ⟨k - 1, by omega⟩
    have q1 : ¬ (i : Int) < ((endsL x0).length : Int) := by rw [ends_len1]; omega
    simp only [flagstonelaw01_RouteUps.l0]
    rw [if_neg q1]
  | succ d ih =>
    intro k i hi hk
    obtain ⟨k, rfl⟩ : ∃ m, k = m + 1 := ⟨k - 1, by omega⟩
    rw [step_l0 x0 k i (by omega) hn (by omega)]
    exact ih k (i + 1) (by omega) (by omega)
theorem ups_f (p : ByteArray) (h : p.size ≤ 1000000000000) : route_Ups.f p = some (endsL p) := by
  unfold route_Ups.f
  rw [if_pos h]
theorem RouteUps : flagstonelaw01_RouteUps.Pure := by
  intro a0 hs
  refine ⟨1000, ?_⟩
  unfold flagstonelaw01_RouteUps.f
  by_cases h : (a0.size : Int) > 200
  · rw [if_pos h]
    simp only [flagstonelaw01_RouteUps.j0]
    rw [if_pos trivial, shown_true]; rfl
  · rw [if_neg h, shown_true]
    simp only [Option.bind_some, Bool.not_true]
    simp only [flagstonelaw01_RouteUps.j0]
    have hle : (endsL a0).length = (partsL a0).length := by unfold endsL; rw [List.length_map]
    have hln : (namesL a0).length = (partsL a0).length := by unfold namesL; rw [List.length_map]
    have hlen := namesL_len a0
    rw [if_neg (by simp), split_f a0 (by omega), ups_f a0 (by omega)]
    simp only [Option.bind_some]
    rw [if_pos (by omega)]
    exact main_l0 a0 (by omega) (partsL a0).length 999 0 (by omega) (by omega)
end Go.Proofs.YtmjhlddlhicofaaDoor.Pure
