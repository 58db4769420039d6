/- By Sx: the reference's changes. -/
import Derived.Test.YtpfbimkpcnnfkaaGreatDoorSyQ
import Derived.Test.YtpfbimkpcnnfkaaGreatDoorSxTh
/- By Sx: the reference's disks and changes. -/
/- By Sx: the reference's entries and disks: Drop, Put; Set, Used, Add, Settle, Same. -/
set_option maxRecDepth 100000
set_option linter.unusedVariables false
set_option linter.unusedSimpArgs false
namespace Go.Proofs.YtpfbimkpcnnfkaaGreatDoor.Sx
open Go Go.RowKit Go.Proofs.YtpfbimkpcnnfkaaGreatDoor Go.Proofs.YtpfbimkpcnnfkaaGreatDoor.Ext
theorem cmp_pos (a b : List UInt8) : 0 < Lib.compareBytes a b ↔ (!(Op.bytesLess a b || a == b)) = true := by
 rcases Int.lt_trichotomy (Lib.compareBytes a b) 0 with h | h | h
 ·rw [(cmp_neg a b).1 h]; simp; omega
 ·have e := (cmp_zero a b).1 h
  subst e
  rw [h]; simp
 ·have h1 : Op.bytesLess a b = false := by
   cases hh : Op.bytesLess a b with
   | false => rfl
   | true => have := (cmp_neg a b).2 hh; omega
  have h2 : (a == b) = false := by
   rw [beq_eq_false_iff_ne]; intro e; have := (cmp_zero a b).2 e; omega
  rw [h1, h2]; simp [h]
end Go.Proofs.YtpfbimkpcnnfkaaGreatDoor.Sx
set_option maxRecDepth 100000
set_option linter.unusedVariables false
set_option linter.unusedSimpArgs false
namespace Go.Proofs.YtpfbimkpcnnfkaaGreatDoor.Sx
open Go Go.RowKit Go.Proofs.YtpfbimkpcnnfkaaGreatDoor Go.Proofs.YtpfbimkpcnnfkaaGreatDoor.Ext
variable (A : Option Addr) (c : Nat) (ns : List Nd) (m r : Int) (u : Mem)
end Go.Proofs.YtpfbimkpcnnfkaaGreatDoor.Sx
set_option maxRecDepth 100000
set_option linter.unusedVariables false
set_option linter.unusedSimpArgs false
namespace Go.Proofs.YtpfbimkpcnnfkaaGreatDoor.Sx
open Go Go.RowKit Go.Proofs.YtpfbimkpcnnfkaaGreatDoor Go.Proofs.YtpfbimkpcnnfkaaGreatDoor.Ext
variable (A : Option Addr) (c : Nat) (ns : List Nd) (m r : Int) (u : Mem)
section
variable (hd : DiskAt u A ns) (hn : Ok8 ns)
include hd hn
end
end Go.Proofs.YtpfbimkpcnnfkaaGreatDoor.Sx
