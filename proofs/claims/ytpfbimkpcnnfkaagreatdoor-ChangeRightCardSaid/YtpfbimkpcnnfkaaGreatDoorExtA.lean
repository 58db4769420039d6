/- route.Base, Dir, Join: what they answer. -/
import Derived.Test.YtpfbimkpcnnfkaaGreatDoorExtIt
import Derived.Lib.SlicesS
import Derived.Lib.LastIndexByte
namespace Go.Proofs.YtpfbimkpcnnfkaaGreatDoor.Ext
open Go Go.RowKit
set_option linter.unusedVariables false
set_option linter.unusedSimpArgs false
theorem isEmpty_size (x : ByteArray) : x.toList.isEmpty = decide (x.size = 0) := by
 cases hb : x.toList.isEmpty with
 | true =>
  have h0 : (⟨#[]⟩ : ByteArray).toList = [] := by simp [go_sem]
  have h1 : (x.toList == (⟨#[]⟩ : ByteArray).toList) = true := by rw [List.isEmpty_iff.1 hb, h0]; rfl
  have := (Lib.bytes_beq_iff _ _).1 h1
  subst this; rfl
 | false =>
  cases hd : decide (x.size = 0) with
  | false => rfl
  | true =>
   obtain rfl : x = ⟨#[]⟩ := ba_ext (List.eq_nil_of_length_eq_zero (by simpa using of_decide_eq_true hd))
   have h0 : (⟨#[]⟩ : ByteArray).toList = [] := by simp [go_sem]
   rw [h0] at hb; cases hb
end Go.Proofs.YtpfbimkpcnnfkaaGreatDoor.Ext
