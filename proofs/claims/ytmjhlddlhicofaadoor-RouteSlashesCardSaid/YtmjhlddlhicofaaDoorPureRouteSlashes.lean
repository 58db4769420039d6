/- More slashes change no part. -/
import Derived.Test.YtmjhlddlhicofaaDoorPRouteSlashesx1
import Derived.Test.YtmjhlddlhicofaaDoorExtP
import Derived.OpenShut
namespace Go.Proofs.YtmjhlddlhicofaaDoor.Pure
open Go.RowKit Go.Proofs.YtmjhlddlhicofaaDoor.PRouteSlashes Go.Proofs.YtmjhlddlhicofaaDoor.Ext Go.Proofs.YtmjhlddlhicofaaDoorW.PrintWords Go.Proofs.YtmjhlddlhicofaaDoorW.PrintLast
set_option linter.unusedVariables false
set_option linter.unusedSimpArgs false

theorem shown_true : flagstonelaw01_shown.f = some true := by
  unfold flagstonelaw01_shown.f
  simp only [toList_data]
  decide +kernel
theorem split_f (p : ByteArray) (h : p.size ≤ 1000000000000) : route_Split.f p = some (namesL p, p.data.toList.head? == some 47, p.data.toList.getLast? == some 47) := by
  unfold route_Split.f
  rw [if_pos h, hasPrefix_one, hasSuffix_one]
theorem base_f (p : ByteArray) (h : p.size ≤ 1000000000000) : route_Base.f p = some (bs (baseL p.data.toList)) := by
  unfold route_Base.f
  rw [if_pos h, baseB_eq]
theorem join_f (a b : ByteArray) (ha : a.size ≤ 1000000000000) (hb : b.size ≤ 1000000000000) : route_Join.f a b = some (joinB a b) := by
  unfold route_Join.f
  rw [if_pos ⟨ha, hb⟩]
theorem dir_f (p : ByteArray) (h : p.size ≤ 1000000000000) : route_Dir.f p = some (dirB p) := by
  unfold route_Dir.f
  rw [if_pos h]
theorem texts_l0 (l : List ByteArray) (hl : l.length ≤ 1000000000000) : ∀ (d k x : Nat), x + d = l.length → d < k → flagstoneref01_Texts.l0 k l l (x : Int) = some true := by
  intro d
  induction d with
  | zero =>
    intro k x hx hk
    obtain ⟨k, rfl⟩ : ∃ m, k = m + 1 := ⟨k - 1, by omega⟩
    simp only [flagstoneref01_Texts.l0]
    rw [if_neg (by omega)]
  | succ d ih =>
    intro k x hx hk
    obtain ⟨k, rfl⟩ : ∃ m, k = m + 1 := ⟨k - 1, by omega⟩
    simp only [flagstoneref01_Texts.l0]
    have e : wrap64 ((x : Int) + 1) = ((x + 1 : Nat) : Int) := by unfold wrap64; omega
    rw [if_pos (by omega), if_pos (by omega), if_pos (by omega), if_pos trivial, e]
    exact ih k (x + 1) (by omega) (by omega)
theorem texts_eq (l : List ByteArray) (hl : l.length ≤ 1000000000000) (k : Nat) (hk : l.length < k) : flagstoneref01_Texts.f k l l = some true := by
  unfold flagstoneref01_Texts.f
  rw [if_pos rfl]
  exact texts_l0 l hl l.length k 0 (by omega) hk
theorem bt_at_nat (x : ByteArray) (i : Nat) (h : i < x.data.toList.length) : bt x (i : Int) = ((x.data.toList[i]).toNat : Int) := by
  have hz : x.data.toList.length = x.size := by simp
  have := bt_at x (i : Int)
  unfold bt
  simp [hz] at h ⊢
  simp [h]
  rfl
theorem bs_concat (e : B) (c : UInt8) : bs e ++ bs [c] = bs (e ++ [c]) := by
  refine ba_ext ?_
  simp [bs]
theorem cut_one (x : ByteArray) (i : Nat) (h : i < x.data.toList.length) : x.extract i (i + 1) = bs [x.data.toList[i]] := by
  refine ba_ext ?_
  rw [Lib.extract_data, show (bs [x.data.toList[i]]).data.toList = _ from bs_data _]
  rw [show i + 1 - i = 1 by omega, List.drop_eq_getElem_cons h]
  rfl
theorem main_l0 (x0 : ByteArray) (x1 : Int) (hn : x0.size ≤ 100) (h0 : 0 ≤ x1) (h1 : x1 < 256) : ∀ (d k i : Nat) (e : B), i + d = x0.data.toList.length → Ex e (x0.data.toList.take i) → e.length ≤ 3 * i → 10 * d + 400 ≤ k → flagstonelaw01_RouteSlashes.l0 k x0 x1 (bs e) (i : Int) = some true := by
  have hz : x0.data.toList.length = x0.size := by simp
  intro d
  induction d with
  | zero =>
    intro k i e hi hx he hk
    obtain ⟨k, rfl⟩ : ∃ m, k = m + 1 := ⟨k - 1, by omega⟩
    rw [List.take_of_length_le (by omega)] at hx
    simp only [flagstonelaw01_RouteSlashes.l0]
    have hsz := bs_size e
    rw [if_neg (by omega), split_f x0 (by omega), split_f (bs e) (by omega)]
    simp only [Option.bind_some]
    have hnm := hx.namesL
    rw [show bs x0.data.toList = x0 from bs_of x0] at hnm
    have hlen := namesL_len x0
    rw [hnm, texts_eq _ (by omega) k (by omega)]
    simp only [Option.bind_some]
    rw [if_pos trivial, show (bs e).data.toList = e from bs_data e, hx.head, hx.last, beq_self_eq_true, if_pos rfl, beq_self_eq_true, if_pos rfl, base_f x0 (by omega), base_f (bs e) (by omega)]
    simp only [Option.bind_some]
    rw [show (bs e).data.toList = e from bs_data e, hx.base, beq_self_eq_true]
  | succ d ih =>
    intro k i e hi hx he hk
    obtain ⟨k, rfl⟩ : ∃ m, k = m + 1 := ⟨k - 1, by omega⟩
    have hlt : i < x0.data.toList.length := by omega
    have e2 : wrap64 ((i : Int) + 1) = ((i + 1 : Nat) : Int) := by unfold wrap64; omega
    have hx2 : Ex (e ++ [x0.data.toList[i]]) (x0.data.toList.take (i + 1)) := by
      rw [← List.take_append_getElem hlt]; exact hx.step _
    have hsz := bs_size e
    have hone : (bs [x0.data.toList[i]]).size = 1 := bs_size _
    have goOn : ∀ (m : Nat) (k : Nat) (e : B), Ex e (x0.data.toList.take (i + 1)) → e.length ≤ 3 * (i + 1) → 10 * d + 400 ≤ k → flagstonelaw01_RouteSlashes.l0 k x0 x1 (bs e) (wrap64 ((i : Int) + 1)) = some true := by
      intro m k e hx he hk
      rw [e2]
      exact ih k (i + 1) e (by omega) hx he hk
    simp only [flagstonelaw01_RouteSlashes.l0]
    rw [if_pos (by omega), if_pos (by omega), e2, if_pos (by omega), if_pos (by omega), Int.toNat_natCast, Int.toNat_natCast, cut_one x0 i hlt, hone, if_pos (by omega), bs_concat]
    -- the inner loop
    obtain ⟨T, hT⟩ : ∃ T, Int.tmod (wrap64 ((wrap64 x1) + (i : Int))) 3 = T := ⟨_, rfl⟩
    have hT2 : 0 ≤ T ∧ T ≤ 2 := by
      have w1 : wrap64 x1 = x1 := by unfold wrap64; omega
      have w2 : wrap64 (x1 + (i : Int)) = x1 + (i : Int) := by unfold wrap64; omega
      rw [w1, w2, Int.tmod_eq_emod_of_nonneg (by omega)] at hT
      omega
    have inner : ∀ (m j k : Nat) (e : B), (j : Int) + m = T → Ex e (x0.data.toList.take (i + 1)) → e.length + m ≤ 3 * (i + 1) → 10 * d + 400 + m + 1 ≤ k → flagstonelaw01_RouteSlashes.l1 k x0 x1 (bs e) (i : Int) (j : Int) = some true := by
      intro m
      induction m with
      | zero =>
        intro j k e hj hx he hk
        obtain ⟨k, rfl⟩ : ∃ m, k = m + 1 := ⟨k - 1, by omega⟩
        simp only [flagstonelaw01_RouteSlashes.l1]
        rw [if_pos (by omega), if_pos (by omega), hT, if_neg (show ¬ (j : Int) < T by omega), ite_self]
        exact goOn 0 k e hx (by omega) (by omega)
      | succ m ihm =>
        intro j k e hj hx he hk
        obtain ⟨k, rfl⟩ : ∃ m, k = m + 1 := ⟨k - 1, by omega⟩
        have e3 : wrap64 ((j : Int) + 1) = ((j + 1 : Nat) : Int) := by unfold wrap64; omega
        have hsz := bs_size e
        simp only [flagstonelaw01_RouteSlashes.l1]
        rw [if_pos (by omega), if_pos (by omega)]
        by_cases hc : bt x0 (i : Int) = 47
        · rw [if_pos hc, hT, if_pos (by omega), if_pos (by omega), show (⟨#[47]⟩ : ByteArray) = bs [47] from rfl, bs_concat, e3]
          have hc2 : x0.data.toList[i] = 47 := by
            rw [bt_at_nat x0 i hlt] at hc
            exact UInt8.toNat_inj.1 (show (x0.data.toList[i]).toNat = 47 by omega)
          refine ihm (j + 1) k (e ++ [47]) (by omega) ?_ (by simp; omega) (by omega)
          rw [← List.take_append_getElem hlt, hc2] at hx ⊢
          exact hx.more
        · rw [if_neg hc]
          exact goOn 0 k e hx (by omega) (by omega)
    have := inner T.toNat 0 k (e ++ [x0.data.toList[i]]) (by omega) hx2 (by simp; omega) (by omega)
    simpa using this
theorem RouteSlashes : flagstonelaw01_RouteSlashes.Pure := by
  intro a0 a1 hs hw
  have hw2 : 0 ≤ a1 ∧ a1 < 256 := by have := bounds_u8 hw; omega
  refine ⟨2000, ?_⟩
  unfold flagstonelaw01_RouteSlashes.f
  by_cases h : (a0.size : Int) > 100
  · rw [if_pos h]
    simp only [flagstonelaw01_RouteSlashes.j0]
    rw [if_pos trivial, shown_true]; rfl
  · rw [if_neg h, shown_true]
    simp only [Option.bind_some, Bool.not_true]
    simp only [flagstonelaw01_RouteSlashes.j0]
    rw [if_neg (by simp)]
    exact main_l0 a0 a1 (by omega) hw2.1 hw2.2 a0.data.toList.length 1999 0 [] (by omega) Ex.nil (by simp) (by have : a0.data.toList.length = a0.size := by simp
                                                                                                               omega)
end Go.Proofs.YtmjhlddlhicofaaDoor.Pure
