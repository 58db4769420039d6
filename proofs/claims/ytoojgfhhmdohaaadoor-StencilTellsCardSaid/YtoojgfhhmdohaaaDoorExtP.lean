/- Plain laws of texts and stencils: no program here. -/
import Derived.Test.YtoojgfhhmdohaaaDoorExt
import Derived.Lib.Strings
import Derived.Lib.SmallJoins
namespace Go.Proofs.YtoojgfhhmdohaaaDoor.Ext
open Go.RowKit Go.Proofs.YtoojgfhhmdohaaaDoorW.PrintWords
set_option linter.unusedVariables false
set_option linter.unusedSimpArgs false

def bs (l : List UInt8) : ByteArray := ⟨l.toArray⟩
theorem bs_size (l : List UInt8) : (bs l).size = l.length := by show l.toArray.size = _; simp
theorem bs_data (l : List UInt8) : (bs l).data.toList = l := by simp [bs]
theorem bs_of (s : ByteArray) : bs s.data.toList = s := by cases s; simp [bs]
theorem bs_list (l : List UInt8) : (bs l).toList = l := by rw [Lib.toList_data, bs_data]
theorem ba_ext {a b : ByteArray} (h : a.data.toList = b.data.toList) : a = b := by rw [← bs_of a, ← bs_of b, h]
theorem bs_append (a b : List UInt8) : bs a ++ bs b = bs (a ++ b) := ba_ext (by rw [ByteArray.data_append, Array.toList_append, bs_data, bs_data, bs_data])
theorem bs_extract (l : List UInt8) (a b : Nat) : (bs l).extract a b = bs ((l.drop a).take (b - a)) := ba_ext (by rw [Lib.extract_data, bs_data, bs_data])
theorem bt_nat (s : ByteArray) (i : Nat) (h : i < s.data.toList.length) : bt s (i : Int) = ((s.data.toList[i]'h).toNat : Int) := by
  unfold bt
  have h' : i < s.size := by simpa using h
  simp only [Int.toNat_natCast, h', dif_pos]
  rfl

theorem tw_at (p : UInt8 → Bool) : ∀ (m : List UInt8) (j : Nat), j < (m.takeWhile p).length → ∃ x, m[j]? = some x ∧ p x = true
  | [], j, h => by simp at h
  | a :: m, j, h => by
    rw [List.takeWhile_cons] at h
    by_cases ha : p a = true
    · rw [if_pos ha] at h
      cases j with
      | zero => exact ⟨a, rfl, ha⟩
      | succ j => exact tw_at p m j (by simpa using h)
    · rw [if_neg ha] at h; simp at h
theorem tw_stop (p : UInt8 → Bool) : ∀ (m : List UInt8) (x : UInt8), m[(m.takeWhile p).length]? = some x → p x = false
  | [], x, h => by simp at h
  | a :: m, x, h => by
    rw [List.takeWhile_cons] at h
    by_cases ha : p a = true
    · rw [if_pos ha] at h
      exact tw_stop p m x (by simpa using h)
    · rw [if_neg ha] at h
      have : a = x := by simpa using h
      rw [← this]; simpa using ha
theorem blanks_at (l : List UInt8) (j : Nat) (h : j < blanks l) : ∃ hj : l.length - 1 - j < l.length, l[l.length - 1 - j] = 88 := by
  have hb := blanks_le l
  obtain ⟨x, hx, hp⟩ := tw_at (· == 88) l.reverse j h
  rw [List.getElem?_reverse (by omega)] at hx
  obtain ⟨h1, h2⟩ := List.getElem?_eq_some_iff.1 hx
  exact ⟨h1, by rw [h2]; simpa using hp⟩
theorem blanks_stop (l : List UInt8) (h : blanks l < l.length) : ∃ hj : l.length - 1 - blanks l < l.length, l[l.length - 1 - blanks l] ≠ 88 := by
  refine ⟨by omega, fun e => ?_⟩
  have h1 : l.reverse[(l.reverse.takeWhile (· == 88)).length]? = some 88 := by
    show l.reverse[blanks l]? = some 88
    rw [List.getElem?_reverse h, List.getElem?_eq_getElem (by omega), e]
  have := tw_stop (· == 88) l.reverse 88 h1
  simp at this

theorem let1_36 (k : Nat) (h : k < 36) : let1 (k : Int) = letters.getD k 0 := by
  unfold let1
  have : ((k : Int) % 36).toNat = k := by omega
  rw [this]
theorem letters_inj : ∀ i : Fin 36, ∀ j : Fin 36, letters.getD i.val 0 = letters.getD j.val 0 → i = j := by decide
theorem let1_eq (a b : Int) : let1 a = let1 b ↔ a % 36 = b % 36 := by
  unfold let1
  constructor
  · intro h
    have := letters_inj ⟨(a % 36).toNat, by omega⟩ ⟨(b % 36).toNat, by omega⟩ h
    have := Fin.mk.inj this
    omega
  · intro h; rw [h]
theorem tmod_emod (a : Int) : (a.tmod 36 < 0 ∧ a.tmod 36 + 36 = a % 36) ∨ (0 ≤ a.tmod 36 ∧ a.tmod 36 = a % 36) := by
  rcases Int.lt_or_le a 0 with h | h
  · have h0 : 0 ≤ -a := by omega
    have h1 : a.tmod 36 = -((-a) % 36) := by rw [← Int.tmod_eq_emod_of_nonneg h0, Int.neg_tmod, Int.neg_neg]
    rw [h1]; omega
  · rw [Int.tmod_eq_emod_of_nonneg h]; omega
theorem letS_cut : ∀ i : Fin 36, (⟨#[97, 98, 99, 100, 101, 102, 103, 104, 105, 106, 107, 108, 109, 110, 111, 112, 113, 114, 115, 116, 117, 118, 119, 120, 121, 122, 48, 49, 50, 51, 52, 53, 54, 55, 56, 57]⟩ : ByteArray).extract i.val (i.val + 1) = bs [letters.getD i.val 0] := by
  intro i
  refine ba_ext ?_
  rw [Lib.extract_data, bs_data]
  revert i
  decide
theorem letS_bt : ∀ i : Nat, i < 36 → bt (⟨#[97, 98, 99, 100, 101, 102, 103, 104, 105, 106, 107, 108, 109, 110, 111, 112, 113, 114, 115, 116, 117, 118, 119, 120, 121, 122, 48, 49, 50, 51, 52, 53, 54, 55, 56, 57]⟩ : ByteArray) (i : Int) = ((letters.getD i 0).toNat : Int) := by
  intro i h
  have h1 := bt_nat letS i h
  have h2 : letters.getD i 0 = letters[i]'h := by rw [List.getD_eq_getElem?_getD, List.getElem?_eq_getElem (l := letters) h]; rfl
  rw [h2]
  exact h1
theorem makeL_len (t : List UInt8) (ds : List Int) : (makeL t ds).length = t.length := by
  unfold makeL
  rw [List.length_append, madeL_len, stemL_len]
theorem w64 {x : Int} (h0 : -9223372036854775808 ≤ x) (h1 : x ≤ 9223372036854775807) : wrap64 x = x := by unfold wrap64; omega
theorem count_f (s : ByteArray) (h : s.size ≤ 9223372036854775807) : stencil_Count.f s = some (blanks s.data.toList : Int) := by unfold stencil_Count.f; rw [if_pos h]
theorem make_f (s : ByteArray) (l : List Int) (h : s.size ≤ 35184372088832) (hl : l.length ≤ 9223372036854775807) : stencil_Make.f s l = some (bs (makeL s.data.toList l)) := by unfold stencil_Make.f; rw [if_pos ⟨h, hl⟩]; rfl
theorem fits_f (s n : ByteArray) (h : s.size ≤ 9223372036854775807) : stencil_Fits.f s n = some (fitsB s.data.toList n.data.toList) := by unfold stencil_Fits.f; rw [if_pos h]
end Go.Proofs.YtoojgfhhmdohaaaDoor.Ext
