/- The functions of package stencil, given by hand to the print: what they answer, and the walks. First part: stem, Count, Check, letter, Letter. -/
import Derived.Test.YtoojgfhhmdohaaaDoorProg
import Derived.Test.YtoojgfhhmdohaaaDoorShelf
import Derived.Below
import Derived.Deep.Draws
import Derived.WalkKit
import Derived.WalkLawsBesides
import Derived.WalkSpells
import Derived.LoopTactic
import Derived.IntWalk
import Derived.Lib.Hide
import Derived.BigCall
import Derived.KernelRfl
namespace Go.Proofs.YtoojgfhhmdohaaaDoor.Ext
open Go.RowKit
set_option linter.unusedVariables false
set_option linter.unusedSimpArgs false

/-! ### plain words -/
def letters : List UInt8 := [97, 98, 99, 100, 101, 102, 103, 104, 105, 106, 107, 108, 109, 110, 111, 112, 113, 114, 115, 116, 117, 118, 119, 120, 121, 122, 48, 49, 50, 51, 52, 53, 54, 55, 56, 57]
/-- How many X stand at a text's end. -/
def blanks (l : List UInt8) : Nat := (l.reverse.takeWhile (· == 88)).length
def stemL (l : List UInt8) : List UInt8 := Lib.trimRightB l 88
/-- The letter that a draw makes. -/
def let1 (n : Int) : UInt8 := letters.getD (n % 36).toNat 0

theorem stemL_len (l : List UInt8) : (stemL l).length + blanks l = l.length := by
  unfold stemL blanks Lib.trimRightB
  have h := List.takeWhile_append_dropWhile (p := (· == 88)) (l := l.reverse)
  have h2 : (l.reverse.takeWhile (· == 88)).length + (l.reverse.dropWhile (· == 88)).length = l.length := by
    rw [← List.length_append, h, List.length_reverse]
  rw [List.length_reverse]; omega
theorem blanks_le (l : List UInt8) : blanks l ≤ l.length := by have := stemL_len l; omega
theorem stemL_take (l : List UInt8) : stemL l = l.take (l.length - blanks l) := by
  unfold stemL blanks Lib.trimRightB
  have h := List.takeWhile_append_dropWhile (p := (· == 88)) (l := l.reverse)
  have h2 : l = (l.reverse.dropWhile (· == 88)).reverse ++ (l.reverse.takeWhile (· == 88)).reverse := by
    rw [← List.reverse_append, h, List.reverse_reverse]
  have h3 : (l.reverse.dropWhile (· == 88)).reverse.length = l.length - (l.reverse.takeWhile (· == 88)).length := by
    have := congrArg List.length h2
    simp only [List.length_append, List.length_reverse] at this ⊢
    omega
  rw [← h3]
  generalize (l.reverse.dropWhile (· == 88)).reverse = a at h2 ⊢
  rw [h2, List.take_left]

/-! ### stem, Count, Check -/
theorem stem_calls (s : ByteArray) (w : World) (hs : s.size ≤ 9223372036854775807) :
    Calls Tryd.prog 20 #[.string s] w fun e w' => e = .returned (.string ⟨(stemL s.data.toList).toArray⟩) ∧ w = w' := by
  go_enter Tryd.func20, Tryd.ntmps20
  go_wp2_with (go_at_call 27; refine (Tryd.strings_TrimRight_one s 88 (by decide) _ hs).mono ?_; rintro e w' ⟨rfl, rfl⟩)
  go_ret
  exact ⟨rfl, rfl⟩
theorem ret_int {k : IntKind} {a b : Int} (h : a = b) : Ending.returned (.int k a) = .returned (.int k b) := by rw [h]
theorem count_calls (s : ByteArray) (w : World) (hs : s.size ≤ 9223372036854775807) :
    Calls Tryd.prog 10 #[.string s] w fun e w' => e = .returned (.int .i64 (blanks s.data.toList)) ∧ w = w' := by
  have hl := stemL_len s.data.toList
  have hz : s.data.toList.length = s.size := by simp
  generalize hst : stemL s.data.toList = st at hl
  generalize hbl : blanks s.data.toList = bl at hl ⊢
  have hst2 : (stemL s.data.toList) = st := hst
  have hb : (st.length : Int) ≤ s.size := by omega
  have hd : (s.size : Int) - (st.length : Int) = bl := by omega
  have HD := Lib.hid hd
  have HS := Lib.hid hst2
  clear hd hst2 hst hbl hz hl
  go_enter Tryd.func10, Tryd.ntmps10
  go_wp2_with (go_at_call 20; refine (stem_calls s _ hs).mono ?_; rintro e w' ⟨rfl, rfl⟩; rw [HS.out])
  go_ret
  exact ⟨ret_int HD.out, rfl⟩
theorem check_lo (s : ByteArray) (w : World) (hs : s.size ≤ 9223372036854775807) (h : blanks s.data.toList < 3) :
    Calls Tryd.prog 12 #[.string s] w fun e w' => e = .returned (.int .i64 1) ∧ w = w' := by
  have hb := blanks_le s.data.toList
  generalize hbl : blanks s.data.toList = bl at *
  have HB := Lib.hid hbl
  clear hbl hb
  go_enter Tryd.func12, Tryd.ntmps12
  go_wp2_with (go_at_call 10; refine (count_calls s _ hs).mono ?_; rintro e w' ⟨rfl, rfl⟩; rw [HB.out])
  go_ret
  exact ⟨rfl, rfl⟩
theorem check_hi (s : ByteArray) (w : World) (hs : s.size ≤ 9223372036854775807) (h : ¬ blanks s.data.toList < 3) :
    Calls Tryd.prog 12 #[.string s] w fun e w' => e = .returned (.int .i64 0) ∧ w = w' := by
  generalize hbl : blanks s.data.toList = bl at *
  have HB := Lib.hid hbl
  clear hbl
  go_enter Tryd.func12, Tryd.ntmps12
  go_wp2_with (go_at_call 10; refine (count_calls s _ hs).mono ?_; rintro e w' ⟨rfl, rfl⟩; rw [HB.out])
  go_ret
  exact ⟨rfl, rfl⟩
end Go.Proofs.YtoojgfhhmdohaaaDoor.Ext
