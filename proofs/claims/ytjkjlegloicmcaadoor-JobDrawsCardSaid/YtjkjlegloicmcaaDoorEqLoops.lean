/- Two slices of ints, or of strings, element by element: slices.Equal, and the references' loops: true just if the lists are one. -/
import Derived.Test.YtjkjlegloicmcaaDoorProg
import Derived.Test.YtjkjlegloicmcaaDoorBase
import Derived.WalkKit
import Derived.WalkLawsBesides
import Derived.BigQuiet
import Derived.Deep.QuietTactic
import Derived.IntWalk
set_option linter.unusedVariables false
set_option linter.unusedSimpArgs false
namespace Go.Proofs.YtjkjlegloicmcaaDoor
open Go.RowKit

theorem ret_bool {a b : Bool} (h : a = b) : Ending.returned (.bool a) = .returned (.bool b) := by rw [h]
theorem str_inj {a b : ByteArray} (h : a.toList = b.toList) : a = b := by
  rw [ByteArray.toList_eq, ByteArray.toList_eq] at h
  exact ByteArray.ext (Array.toList_inj.mp h)
theorem lists_eq {α : Type} {xs ys : List α} (hl : xs.length = ys.length) (h : ∀ j, j < ys.length → xs[j]? = ys[j]?) : xs = ys :=
  List.ext_getElem? fun j => by
    rcases Nat.lt_or_ge j ys.length with h1 | h1
    · exact h j h1
    · rw [List.getElem?_eq_none (by omega), List.getElem?_eq_none h1]
/-- A Bool comes back, in a world that has drawn at most. -/
def RetBq (w : World) (b : Bool) (e : Ending) (w' : World) : Prop := e = .returned (.bool b) ∧ ∃ n, w.drewN n = w'
/-- A Bool comes back; nothing that was there has changed. -/
def RetB (w : World) (b : Bool) (e : Ending) (w' : World) : Prop := e = .returned (.bool b) ∧ Below w.heap.size w w'
theorem RetBq.ret {w w' : World} {b : Bool} {e : Ending} (h : RetBq w b e w') : RetB w b e w' := by
  obtain ⟨he, n, rfl⟩ := h
  exact ⟨he, ⟨rfl, rfl, rfl, Nat.le_refl _, fun _ _ => rfl⟩⟩
set_option maxHeartbeats 400000 in
theorem texts_calls (s t : Sl) (xs ys : List ByteArray) (w : World) (S : Nat → Prop) (ha : rStr.Is w S s xs) (hb : rStr.Is w S t ys) (hl : xs.length ≤ 100000) :
    Calls Tryd.prog 24 #[.slice s.a xs.length s.c, .slice t.a ys.length t.c] w (RetBq w (decide (xs = ys))) := by
  obtain ⟨_, ha⟩ := ha
  obtain ⟨_, hb⟩ := hb
  obtain ⟨sa, sc⟩ := s
  obtain ⟨ta, tc⟩ := t
  simp only at ha hb ⊢
  have HA := Lib.hid ha
  have HB := Lib.hid hb
  clear ha hb
  by_cases hl2 : xs.length = ys.length
  · have hb1 : ((xs.length : Int) != (ys.length : Int)) = false := by simp [hl2]
    generalize hm : ys.length = m at *
    have hm0 : m ≤ 100000 := by omega
    have HL := Lib.hid hl2; clear hl2
    have HM := Lib.hid hm; clear hm
    go_enter Tryd.func24, Tryd.ntmps24
    go_wp2
    go_loopw [5] (fun i wr => ∃ k : Nat, k ≤ m ∧ i = .int .i64 k ∧ (∀ j, j < k → xs[j]? = ys[j]?) ∧ ∃ n, wr = w.drewN n) (fun i _ => m - (intOf i).toNat)
    case atStart => exact ⟨0, by omega, rfl, by omega, 0, rfl⟩
    case round =>
      obtain ⟨k, hk, rfl, hj, n, rfl⟩ := hrel
      have HJ := Lib.hid hj
      clear hj
      by_cases hlt : k < m
      · obtain ⟨b1, o1, rfl, _, c1⟩ := HA.out.str k (by rw [HL.out]; exact hlt)
        obtain ⟨b2, o2, rfl, _, c2⟩ := HB.out.str k (by rw [HM.out]; exact hlt)
        have hx1 : k < xs.length := by rw [HL.out]; exact hlt
        generalize hx : xs[k]'(by rw [HL.out]; exact hlt) = x at c1
        generalize hy : ys[k]'(by rw [HM.out]; exact hlt) = y at c2
        have HX := Lib.hid hx; clear hx
        have HY := Lib.hid hy; clear hy
        by_cases hxy : x.toList = y.toList
        · have hd : (!x.toList == y.toList) = false := by simp [hxy]
          have HXY := Lib.hid hxy; clear hxy
          go_wp2_with fail
          go_quiet (fail)
          go_wp2
          go_roundw
          case rel =>
            refine ⟨k + 1, by omega, by go_num, fun j hj => ?_, n + nq, by simp⟩
            rcases Nat.lt_or_ge j k with h1 | h1
            · exact HJ.out j h1
            · obtain rfl : j = k := by omega
              rw [List.getElem?_eq_getElem (by rw [HL.out]; exact hlt), List.getElem?_eq_getElem (by rw [HM.out]; exact hlt), HX.out, HY.out, str_inj HXY.out]
          case measure => simp [intOf]; omega
        · have hd : (!x.toList == y.toList) = true := by simp [hxy]
          have hne : xs ≠ ys := by
            rintro rfl
            have := HX.out.symm.trans HY.out
            exact hxy (by rw [this])
          have HN := Lib.hid hne; clear hxy hne
          go_wp2_with fail
          go_quiet (fail)
          go_wp2
          go_ret
          exact ⟨ret_bool (by simp [HN.out]), n + nq, by simp⟩
      · have hkm : k = m := by omega
        have hd : decide (k < m) = false := by simp; omega
        have hd2 : decide (k < xs.length) = false := by rw [HL.out]; exact hd
        have HK := Lib.hid hkm; clear hkm
        go_wp2
        go_ret
        exact ⟨ret_bool (by simp [lists_eq (HL.out.trans HM.out.symm) (fun j hj => HJ.out j (by rw [HK.out, ← HM.out]; exact hj))]), n, rfl⟩
  · have hb1 : ((xs.length : Int) != (ys.length : Int)) = true := by simp; omega
    have hne : xs ≠ ys := by rintro rfl; exact hl2 rfl
    have HN := Lib.hid hne; clear hne
    go_enter Tryd.func24, Tryd.ntmps24
    go_wp2
    go_ret
    exact ⟨ret_bool (by simp [HN.out]), 0, rfl⟩
set_option maxHeartbeats 400000 in
theorem lints_calls (s t : Sl) (xs ys : List Int) (w : World) (S : Nat → Prop) (ha : rInt.Is w S s xs) (hb : rInt.Is w S t ys) (hl : xs.length ≤ 100000) :
    Calls Tryd.prog 12 #[.slice s.a xs.length s.c, .slice t.a ys.length t.c] w (RetBq w (decide (xs = ys))) := by
  obtain ⟨_, ha⟩ := ha
  obtain ⟨_, hb⟩ := hb
  obtain ⟨sa, sc⟩ := s
  obtain ⟨ta, tc⟩ := t
  simp only at ha hb ⊢
  have HA := Lib.hid ha
  have HB := Lib.hid hb
  clear ha hb
  by_cases hl2 : xs.length = ys.length
  · have hb1 : ((xs.length : Int) != (ys.length : Int)) = false := by simp [hl2]
    generalize hm : ys.length = m at *
    have hm0 : m ≤ 100000 := by omega
    have HL := Lib.hid hl2; clear hl2
    have HM := Lib.hid hm; clear hm
    go_enter Tryd.func12, Tryd.ntmps12
    go_wp2
    go_loopw [5] (fun i wr => ∃ k : Nat, k ≤ m ∧ i = .int .i64 k ∧ (∀ j, j < k → xs[j]? = ys[j]?) ∧ ∃ n, wr = w.drewN n) (fun i _ => m - (intOf i).toNat)
    case atStart => exact ⟨0, by omega, rfl, by omega, 0, rfl⟩
    case round =>
      obtain ⟨k, hk, rfl, hj, n, rfl⟩ := hrel
      have HJ := Lib.hid hj
      clear hj
      by_cases hlt : k < m
      · obtain ⟨b1, o1, rfl, _, c1⟩ := HA.out.int k (by rw [HL.out]; exact hlt)
        obtain ⟨b2, o2, rfl, _, c2⟩ := HB.out.int k (by rw [HM.out]; exact hlt)
        have hx1 : k < xs.length := by rw [HL.out]; exact hlt
        generalize hx : xs[k]'(by rw [HL.out]; exact hlt) = x at c1
        generalize hy : ys[k]'(by rw [HM.out]; exact hlt) = y at c2
        have HX := Lib.hid hx; clear hx
        have HY := Lib.hid hy; clear hy
        by_cases hxy : x = y
        · have hd : (x != y) = false := by simp [hxy]
          have HXY := Lib.hid hxy; clear hxy
          go_wp2_with fail
          go_quiet (fail)
          go_wp2
          go_roundw
          case rel =>
            refine ⟨k + 1, by omega, by go_num, fun j hj => ?_, n + nq, by simp⟩
            rcases Nat.lt_or_ge j k with h1 | h1
            · exact HJ.out j h1
            · obtain rfl : j = k := by omega
              rw [List.getElem?_eq_getElem (by rw [HL.out]; exact hlt), List.getElem?_eq_getElem (by rw [HM.out]; exact hlt), HX.out, HY.out,  HXY.out]
          case measure => simp [intOf]; omega
        · have hd : (x != y) = true := by simp [hxy]
          have hne : xs ≠ ys := by
            rintro rfl
            have := HX.out.symm.trans HY.out
            exact hxy (by rw [this])
          have HN := Lib.hid hne; clear hxy hne
          go_wp2_with fail
          go_quiet (fail)
          go_wp2
          go_ret
          exact ⟨ret_bool (by simp [HN.out]), n + nq, by simp⟩
      · have hkm : k = m := by omega
        have hd : decide (k < m) = false := by simp; omega
        have hd2 : decide (k < xs.length) = false := by rw [HL.out]; exact hd
        have HK := Lib.hid hkm; clear hkm
        go_wp2
        go_ret
        exact ⟨ret_bool (by simp [lists_eq (HL.out.trans HM.out.symm) (fun j hj => HJ.out j (by rw [HK.out, ← HM.out]; exact hj))]), n, rfl⟩
  · have hb1 : ((xs.length : Int) != (ys.length : Int)) = true := by simp; omega
    have hne : xs ≠ ys := by rintro rfl; exact hl2 rfl
    have HN := Lib.hid hne; clear hne
    go_enter Tryd.func12, Tryd.ntmps12
    go_wp2
    go_ret
    exact ⟨ret_bool (by simp [HN.out]), 0, rfl⟩
set_option maxHeartbeats 400000 in
theorem rints_calls (s t : Sl) (xs ys : List Int) (w : World) (S : Nat → Prop) (ha : rInt.Is w S s xs) (hb : rInt.Is w S t ys) (hl : xs.length ≤ 100000) :
    Calls Tryd.prog 26 #[.slice s.a xs.length s.c, .slice t.a ys.length t.c] w (RetBq w (decide (xs = ys))) := by
  obtain ⟨_, ha⟩ := ha
  obtain ⟨_, hb⟩ := hb
  obtain ⟨sa, sc⟩ := s
  obtain ⟨ta, tc⟩ := t
  simp only at ha hb ⊢
  have HA := Lib.hid ha
  have HB := Lib.hid hb
  clear ha hb
  by_cases hl2 : xs.length = ys.length
  · have hb1 : ((xs.length : Int) != (ys.length : Int)) = false := by simp [hl2]
    generalize hm : ys.length = m at *
    have hm0 : m ≤ 100000 := by omega
    have HL := Lib.hid hl2; clear hl2
    have HM := Lib.hid hm; clear hm
    go_enter Tryd.func26, Tryd.ntmps26
    go_wp2
    go_loopw [5] (fun i wr => ∃ k : Nat, k ≤ m ∧ i = .int .i64 k ∧ (∀ j, j < k → xs[j]? = ys[j]?) ∧ ∃ n, wr = w.drewN n) (fun i _ => m - (intOf i).toNat)
    case atStart => exact ⟨0, by omega, rfl, by omega, 0, rfl⟩
    case round =>
      obtain ⟨k, hk, rfl, hj, n, rfl⟩ := hrel
      have HJ := Lib.hid hj
      clear hj
      by_cases hlt : k < m
      · obtain ⟨b1, o1, rfl, _, c1⟩ := HA.out.int k (by rw [HL.out]; exact hlt)
        obtain ⟨b2, o2, rfl, _, c2⟩ := HB.out.int k (by rw [HM.out]; exact hlt)
        have hx1 : k < xs.length := by rw [HL.out]; exact hlt
        generalize hx : xs[k]'(by rw [HL.out]; exact hlt) = x at c1
        generalize hy : ys[k]'(by rw [HM.out]; exact hlt) = y at c2
        have HX := Lib.hid hx; clear hx
        have HY := Lib.hid hy; clear hy
        by_cases hxy : x = y
        · have hd : (x != y) = false := by simp [hxy]
          have HXY := Lib.hid hxy; clear hxy
          go_wp2_with fail
          go_quiet (fail)
          go_wp2
          go_roundw
          case rel =>
            refine ⟨k + 1, by omega, by go_num, fun j hj => ?_, n + nq, by simp⟩
            rcases Nat.lt_or_ge j k with h1 | h1
            · exact HJ.out j h1
            · obtain rfl : j = k := by omega
              rw [List.getElem?_eq_getElem (by rw [HL.out]; exact hlt), List.getElem?_eq_getElem (by rw [HM.out]; exact hlt), HX.out, HY.out,  HXY.out]
          case measure => simp [intOf]; omega
        · have hd : (x != y) = true := by simp [hxy]
          have hne : xs ≠ ys := by
            rintro rfl
            have := HX.out.symm.trans HY.out
            exact hxy (by rw [this])
          have HN := Lib.hid hne; clear hxy hne
          go_wp2_with fail
          go_quiet (fail)
          go_wp2
          go_ret
          exact ⟨ret_bool (by simp [HN.out]), n + nq, by simp⟩
      · have hkm : k = m := by omega
        have hd : decide (k < m) = false := by simp; omega
        have hd2 : decide (k < xs.length) = false := by rw [HL.out]; exact hd
        have HK := Lib.hid hkm; clear hkm
        go_wp2
        go_ret
        exact ⟨ret_bool (by simp [lists_eq (HL.out.trans HM.out.symm) (fun j hj => HJ.out j (by rw [HK.out, ← HM.out]; exact hj))]), n, rfl⟩
  · have hb1 : ((xs.length : Int) != (ys.length : Int)) = true := by simp; omega
    have hne : xs ≠ ys := by rintro rfl; exact hl2 rfl
    have HN := Lib.hid hne; clear hne
    go_enter Tryd.func26, Tryd.ntmps26
    go_wp2
    go_ret
    exact ⟨ret_bool (by simp [HN.out]), 0, rfl⟩
set_option maxHeartbeats 400000 in
theorem equalS_calls (s t : Sl) (xs ys : List ByteArray) (w : World) (S : Nat → Prop) (ha : rStr.Is w S s xs) (hb : rStr.Is w S t ys) (hl : xs.length ≤ 100000) :
    Calls Tryd.prog 29 #[.slice s.a xs.length s.c, .slice t.a ys.length t.c] w (RetBq w (decide (xs = ys))) := by
  obtain ⟨_, ha⟩ := ha
  obtain ⟨_, hb⟩ := hb
  obtain ⟨sa, sc⟩ := s
  obtain ⟨ta, tc⟩ := t
  simp only at ha hb ⊢
  have HA := Lib.hid ha
  have HB := Lib.hid hb
  clear ha hb
  by_cases hl2 : xs.length = ys.length
  · have hb1 : ((xs.length : Int) != (ys.length : Int)) = false := by simp [hl2]
    generalize hm : ys.length = m at *
    have hm0 : m ≤ 100000 := by omega
    have HL := Lib.hid hl2; clear hl2
    have HM := Lib.hid hm; clear hm
    go_enter Tryd.func29, Tryd.ntmps29
    go_wp2
    go_loopw [5, 13] (fun _ i wr => ∃ k : Nat, k ≤ m ∧ i = .int .i64 k ∧ (∀ j, j < k → xs[j]? = ys[j]?) ∧ ∃ n, wr = w.drewN n) (fun _ i _ => m - (intOf i).toNat)
    case atStart => exact ⟨0, by omega, rfl, by omega, 0, rfl⟩
    case round =>
      obtain ⟨k, hk, rfl, hj, n, rfl⟩ := hrel
      have HJ := Lib.hid hj
      clear hj
      by_cases hlt : k < m
      · obtain ⟨b1, o1, rfl, _, c1⟩ := HA.out.str k (by rw [HL.out]; exact hlt)
        obtain ⟨b2, o2, rfl, _, c2⟩ := HB.out.str k (by rw [HM.out]; exact hlt)
        have hx1 : k < xs.length := by rw [HL.out]; exact hlt
        generalize hx : xs[k]'(by rw [HL.out]; exact hlt) = x at c1
        generalize hy : ys[k]'(by rw [HM.out]; exact hlt) = y at c2
        have HX := Lib.hid hx; clear hx
        have HY := Lib.hid hy; clear hy
        by_cases hxy : x.toList = y.toList
        · have hd : (!x.toList == y.toList) = false := by simp [hxy]
          have HXY := Lib.hid hxy; clear hxy
          go_wp2_with fail
          go_quiet (fail)
          go_wp2
          go_roundw
          case rel =>
            refine ⟨k + 1, by omega, by go_num, fun j hj => ?_, n + nq, by simp⟩
            rcases Nat.lt_or_ge j k with h1 | h1
            · exact HJ.out j h1
            · obtain rfl : j = k := by omega
              rw [List.getElem?_eq_getElem (by rw [HL.out]; exact hlt), List.getElem?_eq_getElem (by rw [HM.out]; exact hlt), HX.out, HY.out, str_inj HXY.out]
          case measure => simp [intOf]; omega
        · have hd : (!x.toList == y.toList) = true := by simp [hxy]
          have hne : xs ≠ ys := by
            rintro rfl
            have := HX.out.symm.trans HY.out
            exact hxy (by rw [this])
          have HN := Lib.hid hne; clear hxy hne
          go_wp2_with fail
          go_quiet (fail)
          go_wp2
          go_ret
          exact ⟨ret_bool (by simp [HN.out]), n + nq, by simp⟩
      · have hkm : k = m := by omega
        have hd : decide (k < m) = false := by simp; omega
        have hd2 : decide (k < xs.length) = false := by rw [HL.out]; exact hd
        have HK := Lib.hid hkm; clear hkm
        go_wp2
        go_ret
        exact ⟨ret_bool (by simp [lists_eq (HL.out.trans HM.out.symm) (fun j hj => HJ.out j (by rw [HK.out, ← HM.out]; exact hj))]), n, rfl⟩
  · have hb1 : ((xs.length : Int) != (ys.length : Int)) = true := by simp; omega
    have hne : xs ≠ ys := by rintro rfl; exact hl2 rfl
    have HN := Lib.hid hne; clear hne
    go_enter Tryd.func29, Tryd.ntmps29
    go_wp2
    go_ret
    exact ⟨ret_bool (by simp [HN.out]), 0, rfl⟩
set_option maxHeartbeats 400000 in
theorem equalI_calls (s t : Sl) (xs ys : List Int) (w : World) (S : Nat → Prop) (ha : rInt.Is w S s xs) (hb : rInt.Is w S t ys) (hl : xs.length ≤ 100000) :
    Calls Tryd.prog 30 #[.slice s.a xs.length s.c, .slice t.a ys.length t.c] w (RetBq w (decide (xs = ys))) := by
  obtain ⟨_, ha⟩ := ha
  obtain ⟨_, hb⟩ := hb
  obtain ⟨sa, sc⟩ := s
  obtain ⟨ta, tc⟩ := t
  simp only at ha hb ⊢
  have HA := Lib.hid ha
  have HB := Lib.hid hb
  clear ha hb
  by_cases hl2 : xs.length = ys.length
  · have hb1 : ((xs.length : Int) != (ys.length : Int)) = false := by simp [hl2]
    generalize hm : ys.length = m at *
    have hm0 : m ≤ 100000 := by omega
    have HL := Lib.hid hl2; clear hl2
    have HM := Lib.hid hm; clear hm
    go_enter Tryd.func30, Tryd.ntmps30
    go_wp2
    go_loopw [5, 13] (fun _ i wr => ∃ k : Nat, k ≤ m ∧ i = .int .i64 k ∧ (∀ j, j < k → xs[j]? = ys[j]?) ∧ ∃ n, wr = w.drewN n) (fun _ i _ => m - (intOf i).toNat)
    case atStart => exact ⟨0, by omega, rfl, by omega, 0, rfl⟩
    case round =>
      obtain ⟨k, hk, rfl, hj, n, rfl⟩ := hrel
      have HJ := Lib.hid hj
      clear hj
      by_cases hlt : k < m
      · obtain ⟨b1, o1, rfl, _, c1⟩ := HA.out.int k (by rw [HL.out]; exact hlt)
        obtain ⟨b2, o2, rfl, _, c2⟩ := HB.out.int k (by rw [HM.out]; exact hlt)
        have hx1 : k < xs.length := by rw [HL.out]; exact hlt
        generalize hx : xs[k]'(by rw [HL.out]; exact hlt) = x at c1
        generalize hy : ys[k]'(by rw [HM.out]; exact hlt) = y at c2
        have HX := Lib.hid hx; clear hx
        have HY := Lib.hid hy; clear hy
        by_cases hxy : x = y
        · have hd : (x != y) = false := by simp [hxy]
          have HXY := Lib.hid hxy; clear hxy
          go_wp2_with fail
          go_quiet (fail)
          go_wp2
          go_roundw
          case rel =>
            refine ⟨k + 1, by omega, by go_num, fun j hj => ?_, n + nq, by simp⟩
            rcases Nat.lt_or_ge j k with h1 | h1
            · exact HJ.out j h1
            · obtain rfl : j = k := by omega
              rw [List.getElem?_eq_getElem (by rw [HL.out]; exact hlt), List.getElem?_eq_getElem (by rw [HM.out]; exact hlt), HX.out, HY.out,  HXY.out]
          case measure => simp [intOf]; omega
        · have hd : (x != y) = true := by simp [hxy]
          have hne : xs ≠ ys := by
            rintro rfl
            have := HX.out.symm.trans HY.out
            exact hxy (by rw [this])
          have HN := Lib.hid hne; clear hxy hne
          go_wp2_with fail
          go_quiet (fail)
          go_wp2
          go_ret
          exact ⟨ret_bool (by simp [HN.out]), n + nq, by simp⟩
      · have hkm : k = m := by omega
        have hd : decide (k < m) = false := by simp; omega
        have hd2 : decide (k < xs.length) = false := by rw [HL.out]; exact hd
        have HK := Lib.hid hkm; clear hkm
        go_wp2
        go_ret
        exact ⟨ret_bool (by simp [lists_eq (HL.out.trans HM.out.symm) (fun j hj => HJ.out j (by rw [HK.out, ← HM.out]; exact hj))]), n, rfl⟩
  · have hb1 : ((xs.length : Int) != (ys.length : Int)) = true := by simp; omega
    have hne : xs ≠ ys := by rintro rfl; exact hl2 rfl
    have HN := Lib.hid hne; clear hne
    go_enter Tryd.func30, Tryd.ntmps30
    go_wp2
    go_ret
    exact ⟨ret_bool (by simp [HN.out]), 0, rfl⟩
end Go.Proofs.YtjkjlegloicmcaaDoor
