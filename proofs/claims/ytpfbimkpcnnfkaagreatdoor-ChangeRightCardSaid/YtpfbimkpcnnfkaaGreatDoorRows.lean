/-
  NARROWER THAN 'FOR EVERY INPUT', by the rows' own cells (each row's printed sentence says how): ChangeRenames: laid · ChangeBack: laid · ChangeThere: laid · ChangeMoves: laid · ChangeEnters: laid · ChangeDrops: laid · ChangeRight: laid.
  DERIVED. THE GIVEN ROWS OF THIS SEAT. 7 by the template 'for every input the law returns true; each argument reads behind the call as it read before'; 0 by the template 'total and deterministic' (their statements: YtpfbimkpcnnfkaaGreatDoorTotals.lean).
  GIVEN WITH THE SEED: the statements are not yours to turn. If you find one false, say at which input.
  Laid BY PROGRAM, IN A SANDBOX (cutbox-rows.mjs): the forced cells as the released guide's own fill.sh prints them over the translation bf3846e9bcffecc3… (all of the seat's roots in one cut). By AI agents, Wed Nov 11 2026. No macro, syntax, notation, axiom, sorry.
-/
import Derived.Test.YtpfbimkpcnnfkaaGreatDoorChecked
import GoSem.PinnedTables
import GoSem.Claim
import GoSem.ClaimJoined
import GoSem.ClaimMapViews
import Derived.JoinedTies
import Derived.KernelRfl
namespace Go.Proofs.YtpfbimkpcnnfkaaGreatDoor
/- THE CELL 'sum', in the pinned program and in every row, IS THE sha256 OF THE DUMP (.gsa) THAT YtpfbimkpcnnfkaaGreatDoorProg.lean LOADS. Nothing in Lean hashes anything: it is a label: what it is worth is what the hold of that sum in a sandbox is worth. -/
noncomputable def Tryz.pinned : Pinned := { name := "ytpfbimkpcnnfkaagreatdoor", sum := "bf3846e9bcffecc3f69263ddb57cffe3604559bc94eaa910781e2a00b2740054", checked := Tryz.checked }
namespace Rows
def none {H : Type} : Left H := { results := [], args := [] }

/- WHAT THE LISTED PACKAGE-LEVEL VARIABLES READ AS WHEN THE CALL BEGINS. Each datum BY PROGRAM (the guide's laid-datum.mjs) off the statement by which the dump's own 'gosem.cut.vars' lays the variable. In a bare row this is a premise. The card (YtpfbimkpcnnfkaaGreatDoorCards.lean) ties it to the program's text. -/
def laid_unicode_utf8_acceptRanges {H : Type} : DataW H := .agg [.agg [.lit (.int .u8 128), .lit (.int .u8 191)], .agg [.lit (.int .u8 160), .lit (.int .u8 191)], .agg [.lit (.int .u8 128), .lit (.int .u8 159)], .agg [.lit (.int .u8 144), .lit (.int .u8 191)], .agg [.lit (.int .u8 128), .lit (.int .u8 143)], .agg [.lit (.int .u8 0), .lit (.int .u8 0)], .agg [.lit (.int .u8 0), .lit (.int .u8 0)], .agg [.lit (.int .u8 0), .lit (.int .u8 0)], .agg [.lit (.int .u8 0), .lit (.int .u8 0)], .agg [.lit (.int .u8 0), .lit (.int .u8 0)], .agg [.lit (.int .u8 0), .lit (.int .u8 0)], .agg [.lit (.int .u8 0), .lit (.int .u8 0)], .agg [.lit (.int .u8 0), .lit (.int .u8 0)], .agg [.lit (.int .u8 0), .lit (.int .u8 0)], .agg [.lit (.int .u8 0), .lit (.int .u8 0)], .agg [.lit (.int .u8 0), .lit (.int .u8 0)]]
def laid_errors_errorType {H : Type} : DataW H := .iface "internal/reflectlite.rtype" (.agg [.ptr (.lit (.string [101, 114, 114, 111, 114]))])
def laid_flagstone_change_errSame {H : Type} : DataW H := .iface "*errors.errorString" (.ptr (.agg [.lit (.string [98, 111, 116, 104, 32, 97, 114, 101, 32, 111, 110, 101])]))
/-- One of Go's own tables, pinned by name: the form's constant. -/
def laid_unicode_utf8_first : DataW Unit := Go.Pinned.utf8First

/-- 'flagstonelaw08.ChangeRenames': WHATEVER THE INPUT: true; the input reads as it did. -/
def changeRenamesSpec : ChangeSpec := { name := "changeRenames", fn := fun _ => fun
  | [d1, d2, d3, d4, d5] => { results := [.lit (.bool true)], args := [d1, d2, d3, d4, d5] }
  | _ => none }
def changeRenamesRow : OpenClaim := { program := "ytpfbimkpcnnfkaagreatdoor", sum := "bf3846e9bcffecc3f69263ddb57cffe3604559bc94eaa910781e2a00b2740054", func := "flagstone/flagstonelaw08.ChangeRenames", spec := "changeRenames", inPlace := ["internal/bytealg.IndexByteString", "internal/bytealg.IndexString", "internal/bytealg.abigen_runtime_cmpstring", "internal/reflectlite.ValueOf", "(internal/reflectlite.Value).Type", "(internal/reflectlite.Value).IsNil", "internal/reflectlite.TypeOf", "(internal/reflectlite.Value).Elem", "(internal/reflectlite.Value).Set", "slices.overlaps[flagstone/entry.Entry]"], unfollowed := true, recurses := true, named := ["unicode/utf8.first", "unicode/utf8.acceptRanges", "internal/bytealg.MaxLen", "errors.errorType", "flagstone/change.errSame"], apart := false, laid := [("unicode/utf8.acceptRanges", laid_unicode_utf8_acceptRanges), ("errors.errorType", laid_errors_errorType), ("flagstone/change.errSame", laid_flagstone_change_errSame), ("unicode/utf8.first", laid_unicode_utf8_first)] }
def ChangeRenamesSaid : Prop := changeRenamesRow.holds Tryz.pinned (OpenSpec.ofChange changeRenamesSpec)

/-- ITS FALSE NEIGHBOUR: 'it returns false'. Refute it at one input. -/
def changeRenamesWrong : ChangeSpec := { name := "changeRenames", fn := fun _ => fun
  | [d1, d2, d3, d4, d5] => { results := [.lit (.bool false)], args := [d1, d2, d3, d4, d5] }
  | _ => none }
def ChangeRenamesWrongFalsely : Prop := changeRenamesRow.holds Tryz.pinned (OpenSpec.ofChange changeRenamesWrong)

/-- 'flagstonelaw08.ChangeBack': WHATEVER THE INPUT: true; the input reads as it did. -/
def changeBackSpec : ChangeSpec := { name := "changeBack", fn := fun _ => fun
  | [d1, d2, d3, d4] => { results := [.lit (.bool true)], args := [d1, d2, d3, d4] }
  | _ => none }
def changeBackRow : OpenClaim := { program := "ytpfbimkpcnnfkaagreatdoor", sum := "bf3846e9bcffecc3f69263ddb57cffe3604559bc94eaa910781e2a00b2740054", func := "flagstone/flagstonelaw08.ChangeBack", spec := "changeBack", inPlace := ["internal/bytealg.IndexByteString", "internal/bytealg.IndexString", "internal/bytealg.abigen_runtime_cmpstring", "internal/reflectlite.ValueOf", "(internal/reflectlite.Value).Type", "(internal/reflectlite.Value).IsNil", "internal/reflectlite.TypeOf", "(internal/reflectlite.Value).Elem", "(internal/reflectlite.Value).Set", "slices.overlaps[flagstone/entry.Entry]"], unfollowed := true, recurses := true, named := ["unicode/utf8.first", "unicode/utf8.acceptRanges", "internal/bytealg.MaxLen", "errors.errorType", "flagstone/change.errSame"], apart := false, laid := [("unicode/utf8.acceptRanges", laid_unicode_utf8_acceptRanges), ("errors.errorType", laid_errors_errorType), ("flagstone/change.errSame", laid_flagstone_change_errSame), ("unicode/utf8.first", laid_unicode_utf8_first)] }
def ChangeBackSaid : Prop := changeBackRow.holds Tryz.pinned (OpenSpec.ofChange changeBackSpec)

/-- ITS FALSE NEIGHBOUR: 'it returns false'. Refute it at one input. -/
def changeBackWrong : ChangeSpec := { name := "changeBack", fn := fun _ => fun
  | [d1, d2, d3, d4] => { results := [.lit (.bool false)], args := [d1, d2, d3, d4] }
  | _ => none }
def ChangeBackWrongFalsely : Prop := changeBackRow.holds Tryz.pinned (OpenSpec.ofChange changeBackWrong)

/-- 'flagstonelaw08.ChangeThere': WHATEVER THE INPUT: true; the input reads as it did. -/
def changeThereSpec : ChangeSpec := { name := "changeThere", fn := fun _ => fun
  | [d1, d2, d3, d4] => { results := [.lit (.bool true)], args := [d1, d2, d3, d4] }
  | _ => none }
def changeThereRow : OpenClaim := { program := "ytpfbimkpcnnfkaagreatdoor", sum := "bf3846e9bcffecc3f69263ddb57cffe3604559bc94eaa910781e2a00b2740054", func := "flagstone/flagstonelaw08.ChangeThere", spec := "changeThere", inPlace := ["internal/bytealg.IndexByteString", "internal/bytealg.IndexString", "internal/bytealg.abigen_runtime_cmpstring", "internal/reflectlite.ValueOf", "(internal/reflectlite.Value).Type", "(internal/reflectlite.Value).IsNil", "internal/reflectlite.TypeOf", "(internal/reflectlite.Value).Elem", "(internal/reflectlite.Value).Set", "slices.overlaps[flagstone/entry.Entry]"], unfollowed := true, recurses := true, named := ["unicode/utf8.first", "unicode/utf8.acceptRanges", "internal/bytealg.MaxLen", "errors.errorType", "flagstone/change.errSame"], apart := false, laid := [("unicode/utf8.acceptRanges", laid_unicode_utf8_acceptRanges), ("errors.errorType", laid_errors_errorType), ("flagstone/change.errSame", laid_flagstone_change_errSame), ("unicode/utf8.first", laid_unicode_utf8_first)] }
def ChangeThereSaid : Prop := changeThereRow.holds Tryz.pinned (OpenSpec.ofChange changeThereSpec)

/-- ITS FALSE NEIGHBOUR: 'it returns false'. Refute it at one input. -/
def changeThereWrong : ChangeSpec := { name := "changeThere", fn := fun _ => fun
  | [d1, d2, d3, d4] => { results := [.lit (.bool false)], args := [d1, d2, d3, d4] }
  | _ => none }
def ChangeThereWrongFalsely : Prop := changeThereRow.holds Tryz.pinned (OpenSpec.ofChange changeThereWrong)

/-- 'flagstonelaw08.ChangeMoves': WHATEVER THE INPUT: true; the input reads as it did. -/
def changeMovesSpec : ChangeSpec := { name := "changeMoves", fn := fun _ => fun
  | [d1, d2, d3, d4] => { results := [.lit (.bool true)], args := [d1, d2, d3, d4] }
  | _ => none }
def changeMovesRow : OpenClaim := { program := "ytpfbimkpcnnfkaagreatdoor", sum := "bf3846e9bcffecc3f69263ddb57cffe3604559bc94eaa910781e2a00b2740054", func := "flagstone/flagstonelaw08.ChangeMoves", spec := "changeMoves", inPlace := ["internal/bytealg.IndexByteString", "internal/bytealg.IndexString", "internal/bytealg.abigen_runtime_cmpstring", "internal/reflectlite.ValueOf", "(internal/reflectlite.Value).Type", "(internal/reflectlite.Value).IsNil", "internal/reflectlite.TypeOf", "(internal/reflectlite.Value).Elem", "(internal/reflectlite.Value).Set", "slices.overlaps[flagstone/entry.Entry]"], unfollowed := true, recurses := true, named := ["unicode/utf8.first", "unicode/utf8.acceptRanges", "internal/bytealg.MaxLen", "errors.errorType", "flagstone/change.errSame"], apart := false, laid := [("unicode/utf8.acceptRanges", laid_unicode_utf8_acceptRanges), ("errors.errorType", laid_errors_errorType), ("flagstone/change.errSame", laid_flagstone_change_errSame), ("unicode/utf8.first", laid_unicode_utf8_first)] }
def ChangeMovesSaid : Prop := changeMovesRow.holds Tryz.pinned (OpenSpec.ofChange changeMovesSpec)

/-- ITS FALSE NEIGHBOUR: 'it returns false'. Refute it at one input. -/
def changeMovesWrong : ChangeSpec := { name := "changeMoves", fn := fun _ => fun
  | [d1, d2, d3, d4] => { results := [.lit (.bool false)], args := [d1, d2, d3, d4] }
  | _ => none }
def ChangeMovesWrongFalsely : Prop := changeMovesRow.holds Tryz.pinned (OpenSpec.ofChange changeMovesWrong)

/-- 'flagstonelaw08.ChangeEnters': WHATEVER THE INPUT: true; the input reads as it did. -/
def changeEntersSpec : ChangeSpec := { name := "changeEnters", fn := fun _ => fun
  | [d1, d2, d3, d4, d5] => { results := [.lit (.bool true)], args := [d1, d2, d3, d4, d5] }
  | _ => none }
def changeEntersRow : OpenClaim := { program := "ytpfbimkpcnnfkaagreatdoor", sum := "bf3846e9bcffecc3f69263ddb57cffe3604559bc94eaa910781e2a00b2740054", func := "flagstone/flagstonelaw08.ChangeEnters", spec := "changeEnters", inPlace := ["internal/bytealg.IndexByteString", "internal/bytealg.IndexString", "internal/bytealg.abigen_runtime_cmpstring", "internal/reflectlite.ValueOf", "(internal/reflectlite.Value).Type", "(internal/reflectlite.Value).IsNil", "internal/reflectlite.TypeOf", "(internal/reflectlite.Value).Elem", "(internal/reflectlite.Value).Set", "slices.overlaps[flagstone/entry.Entry]"], unfollowed := true, recurses := true, named := ["unicode/utf8.first", "unicode/utf8.acceptRanges", "internal/bytealg.MaxLen", "errors.errorType", "flagstone/change.errSame"], apart := false, laid := [("unicode/utf8.acceptRanges", laid_unicode_utf8_acceptRanges), ("errors.errorType", laid_errors_errorType), ("flagstone/change.errSame", laid_flagstone_change_errSame), ("unicode/utf8.first", laid_unicode_utf8_first)] }
def ChangeEntersSaid : Prop := changeEntersRow.holds Tryz.pinned (OpenSpec.ofChange changeEntersSpec)

/-- ITS FALSE NEIGHBOUR: 'it returns false'. Refute it at one input. -/
def changeEntersWrong : ChangeSpec := { name := "changeEnters", fn := fun _ => fun
  | [d1, d2, d3, d4, d5] => { results := [.lit (.bool false)], args := [d1, d2, d3, d4, d5] }
  | _ => none }
def ChangeEntersWrongFalsely : Prop := changeEntersRow.holds Tryz.pinned (OpenSpec.ofChange changeEntersWrong)

/-- 'flagstonelaw08.ChangeDrops': WHATEVER THE INPUT: true; the input reads as it did. -/
def changeDropsSpec : ChangeSpec := { name := "changeDrops", fn := fun _ => fun
  | [d1, d2, d3, d4, d5] => { results := [.lit (.bool true)], args := [d1, d2, d3, d4, d5] }
  | _ => none }
def changeDropsRow : OpenClaim := { program := "ytpfbimkpcnnfkaagreatdoor", sum := "bf3846e9bcffecc3f69263ddb57cffe3604559bc94eaa910781e2a00b2740054", func := "flagstone/flagstonelaw08.ChangeDrops", spec := "changeDrops", inPlace := ["internal/bytealg.IndexByteString", "internal/bytealg.IndexString", "internal/bytealg.abigen_runtime_cmpstring", "internal/reflectlite.ValueOf", "(internal/reflectlite.Value).Type", "(internal/reflectlite.Value).IsNil", "internal/reflectlite.TypeOf", "(internal/reflectlite.Value).Elem", "(internal/reflectlite.Value).Set", "slices.overlaps[flagstone/entry.Entry]"], unfollowed := true, recurses := true, named := ["unicode/utf8.first", "unicode/utf8.acceptRanges", "internal/bytealg.MaxLen", "errors.errorType", "flagstone/change.errSame"], apart := false, laid := [("unicode/utf8.acceptRanges", laid_unicode_utf8_acceptRanges), ("errors.errorType", laid_errors_errorType), ("flagstone/change.errSame", laid_flagstone_change_errSame), ("unicode/utf8.first", laid_unicode_utf8_first)] }
def ChangeDropsSaid : Prop := changeDropsRow.holds Tryz.pinned (OpenSpec.ofChange changeDropsSpec)

/-- ITS FALSE NEIGHBOUR: 'it returns false'. Refute it at one input. -/
def changeDropsWrong : ChangeSpec := { name := "changeDrops", fn := fun _ => fun
  | [d1, d2, d3, d4, d5] => { results := [.lit (.bool false)], args := [d1, d2, d3, d4, d5] }
  | _ => none }
def ChangeDropsWrongFalsely : Prop := changeDropsRow.holds Tryz.pinned (OpenSpec.ofChange changeDropsWrong)

/-- 'flagstonelaw08.ChangeRight': WHATEVER THE INPUT: true; the input reads as it did. -/
def changeRightSpec : ChangeSpec := { name := "changeRight", fn := fun _ => fun
  | [d1, d2, d3, d4, d5, d6] => { results := [.lit (.bool true)], args := [d1, d2, d3, d4, d5, d6] }
  | _ => none }
def changeRightRow : OpenClaim := { program := "ytpfbimkpcnnfkaagreatdoor", sum := "bf3846e9bcffecc3f69263ddb57cffe3604559bc94eaa910781e2a00b2740054", func := "flagstone/flagstonelaw08.ChangeRight", spec := "changeRight", inPlace := ["internal/bytealg.IndexByteString", "internal/bytealg.IndexString", "internal/bytealg.abigen_runtime_cmpstring", "internal/reflectlite.ValueOf", "(internal/reflectlite.Value).Type", "(internal/reflectlite.Value).IsNil", "internal/reflectlite.TypeOf", "(internal/reflectlite.Value).Elem", "(internal/reflectlite.Value).Set", "slices.overlaps[flagstone/entry.Entry]"], unfollowed := true, recurses := true, named := ["unicode/utf8.first", "unicode/utf8.acceptRanges", "internal/bytealg.MaxLen", "errors.errorType", "flagstone/change.errSame"], apart := false, laid := [("unicode/utf8.acceptRanges", laid_unicode_utf8_acceptRanges), ("errors.errorType", laid_errors_errorType), ("flagstone/change.errSame", laid_flagstone_change_errSame), ("unicode/utf8.first", laid_unicode_utf8_first)] }
def ChangeRightSaid : Prop := changeRightRow.holds Tryz.pinned (OpenSpec.ofChange changeRightSpec)

/-- ITS FALSE NEIGHBOUR: 'it returns false'. Refute it at one input. -/
def changeRightWrong : ChangeSpec := { name := "changeRight", fn := fun _ => fun
  | [d1, d2, d3, d4, d5, d6] => { results := [.lit (.bool false)], args := [d1, d2, d3, d4, d5, d6] }
  | _ => none }
def ChangeRightWrongFalsely : Prop := changeRightRow.holds Tryz.pinned (OpenSpec.ofChange changeRightWrong)

/- THE SECOND FORM. 'bulk': how many values and letters a reading holds, each counted each time it is reached (what is shared counts as often as it is met; a slice's spare places count too). A statement '..UptoSaid' is the law's where the arguments, and the package variables that the reading takes, are together of bulk at most 1048576: NARROWER than '..Said'. Prove '..Said' where nothing that the law and all that it calls make is longer than what came in: it says more and counts as full. Else prove '..UptoSaid'. A law counts once. -/
mutual
def uptoBulk {H : Type} : DataW H → Nat
  | .lit (.string bytes) => bytes.length + 1
  | .lit _ => 1
  | .nil => 1
  | .ptr d => uptoBulk d + 1
  | .slice elems spare => uptoBulkAll elems + uptoBulkAll spare + 1
  | .agg parts => uptoBulkAll parts + 1
  | .iface _ d => uptoBulk d + 1
  | .map entries => uptoBulkEntries entries + 1
  | .held _ => 1
def uptoBulkAll {H : Type} : List (DataW H) → Nat
  | [] => 0
  | d :: r => uptoBulk d + uptoBulkAll r
def uptoBulkEntries {H : Type} : List (Lit × DataW H) → Nat
  | [] => 0
  | x :: r => uptoBulkEntry x + uptoBulkEntries r
def uptoBulkEntry {H : Type} : Lit × DataW H → Nat
  | (.string bytes, d) => bytes.length + uptoBulk d + 1
  | (_, d) => uptoBulk d + 1
 end
def uptoSmall : (H : Type) → List (DataW H) → Bool := fun _ ds => decide (uptoBulkAll ds ≤ 1048576)
def OpenSpec.upto (s : _root_.Go.ChangeSpec) : _root_.Go.OpenSpec := { _root_.Go.OpenSpec.ofChange s with cond := some uptoSmall }

/-- 'flagstonelaw08.ChangeRenames', WHERE WHAT IT READS IS OF BULK AT MOST 1048576: true; the input reads as it did. -/
def changeRenamesUptoRow : OpenClaim := { program := "ytpfbimkpcnnfkaagreatdoor", sum := "bf3846e9bcffecc3f69263ddb57cffe3604559bc94eaa910781e2a00b2740054", func := "flagstone/flagstonelaw08.ChangeRenames", spec := "changeRenames", inPlace := ["internal/bytealg.IndexByteString", "internal/bytealg.IndexString", "internal/bytealg.abigen_runtime_cmpstring", "internal/reflectlite.ValueOf", "(internal/reflectlite.Value).Type", "(internal/reflectlite.Value).IsNil", "internal/reflectlite.TypeOf", "(internal/reflectlite.Value).Elem", "(internal/reflectlite.Value).Set", "slices.overlaps[flagstone/entry.Entry]"], unfollowed := true, recurses := true, named := ["unicode/utf8.first", "unicode/utf8.acceptRanges", "internal/bytealg.MaxLen", "errors.errorType", "flagstone/change.errSame"], apart := false, laid := [("unicode/utf8.acceptRanges", laid_unicode_utf8_acceptRanges), ("errors.errorType", laid_errors_errorType), ("flagstone/change.errSame", laid_flagstone_change_errSame), ("unicode/utf8.first", laid_unicode_utf8_first)], narrowed := true }
def ChangeRenamesUptoSaid : Prop := changeRenamesUptoRow.holds Tryz.pinned (OpenSpec.upto changeRenamesSpec)

/-- 'flagstonelaw08.ChangeBack', WHERE WHAT IT READS IS OF BULK AT MOST 1048576: true; the input reads as it did. -/
def changeBackUptoRow : OpenClaim := { program := "ytpfbimkpcnnfkaagreatdoor", sum := "bf3846e9bcffecc3f69263ddb57cffe3604559bc94eaa910781e2a00b2740054", func := "flagstone/flagstonelaw08.ChangeBack", spec := "changeBack", inPlace := ["internal/bytealg.IndexByteString", "internal/bytealg.IndexString", "internal/bytealg.abigen_runtime_cmpstring", "internal/reflectlite.ValueOf", "(internal/reflectlite.Value).Type", "(internal/reflectlite.Value).IsNil", "internal/reflectlite.TypeOf", "(internal/reflectlite.Value).Elem", "(internal/reflectlite.Value).Set", "slices.overlaps[flagstone/entry.Entry]"], unfollowed := true, recurses := true, named := ["unicode/utf8.first", "unicode/utf8.acceptRanges", "internal/bytealg.MaxLen", "errors.errorType", "flagstone/change.errSame"], apart := false, laid := [("unicode/utf8.acceptRanges", laid_unicode_utf8_acceptRanges), ("errors.errorType", laid_errors_errorType), ("flagstone/change.errSame", laid_flagstone_change_errSame), ("unicode/utf8.first", laid_unicode_utf8_first)], narrowed := true }
def ChangeBackUptoSaid : Prop := changeBackUptoRow.holds Tryz.pinned (OpenSpec.upto changeBackSpec)

/-- 'flagstonelaw08.ChangeThere', WHERE WHAT IT READS IS OF BULK AT MOST 1048576: true; the input reads as it did. -/
def changeThereUptoRow : OpenClaim := { program := "ytpfbimkpcnnfkaagreatdoor", sum := "bf3846e9bcffecc3f69263ddb57cffe3604559bc94eaa910781e2a00b2740054", func := "flagstone/flagstonelaw08.ChangeThere", spec := "changeThere", inPlace := ["internal/bytealg.IndexByteString", "internal/bytealg.IndexString", "internal/bytealg.abigen_runtime_cmpstring", "internal/reflectlite.ValueOf", "(internal/reflectlite.Value).Type", "(internal/reflectlite.Value).IsNil", "internal/reflectlite.TypeOf", "(internal/reflectlite.Value).Elem", "(internal/reflectlite.Value).Set", "slices.overlaps[flagstone/entry.Entry]"], unfollowed := true, recurses := true, named := ["unicode/utf8.first", "unicode/utf8.acceptRanges", "internal/bytealg.MaxLen", "errors.errorType", "flagstone/change.errSame"], apart := false, laid := [("unicode/utf8.acceptRanges", laid_unicode_utf8_acceptRanges), ("errors.errorType", laid_errors_errorType), ("flagstone/change.errSame", laid_flagstone_change_errSame), ("unicode/utf8.first", laid_unicode_utf8_first)], narrowed := true }
def ChangeThereUptoSaid : Prop := changeThereUptoRow.holds Tryz.pinned (OpenSpec.upto changeThereSpec)

/-- 'flagstonelaw08.ChangeMoves', WHERE WHAT IT READS IS OF BULK AT MOST 1048576: true; the input reads as it did. -/
def changeMovesUptoRow : OpenClaim := { program := "ytpfbimkpcnnfkaagreatdoor", sum := "bf3846e9bcffecc3f69263ddb57cffe3604559bc94eaa910781e2a00b2740054", func := "flagstone/flagstonelaw08.ChangeMoves", spec := "changeMoves", inPlace := ["internal/bytealg.IndexByteString", "internal/bytealg.IndexString", "internal/bytealg.abigen_runtime_cmpstring", "internal/reflectlite.ValueOf", "(internal/reflectlite.Value).Type", "(internal/reflectlite.Value).IsNil", "internal/reflectlite.TypeOf", "(internal/reflectlite.Value).Elem", "(internal/reflectlite.Value).Set", "slices.overlaps[flagstone/entry.Entry]"], unfollowed := true, recurses := true, named := ["unicode/utf8.first", "unicode/utf8.acceptRanges", "internal/bytealg.MaxLen", "errors.errorType", "flagstone/change.errSame"], apart := false, laid := [("unicode/utf8.acceptRanges", laid_unicode_utf8_acceptRanges), ("errors.errorType", laid_errors_errorType), ("flagstone/change.errSame", laid_flagstone_change_errSame), ("unicode/utf8.first", laid_unicode_utf8_first)], narrowed := true }
def ChangeMovesUptoSaid : Prop := changeMovesUptoRow.holds Tryz.pinned (OpenSpec.upto changeMovesSpec)

/-- 'flagstonelaw08.ChangeEnters', WHERE WHAT IT READS IS OF BULK AT MOST 1048576: true; the input reads as it did. -/
def changeEntersUptoRow : OpenClaim := { program := "ytpfbimkpcnnfkaagreatdoor", sum := "bf3846e9bcffecc3f69263ddb57cffe3604559bc94eaa910781e2a00b2740054", func := "flagstone/flagstonelaw08.ChangeEnters", spec := "changeEnters", inPlace := ["internal/bytealg.IndexByteString", "internal/bytealg.IndexString", "internal/bytealg.abigen_runtime_cmpstring", "internal/reflectlite.ValueOf", "(internal/reflectlite.Value).Type", "(internal/reflectlite.Value).IsNil", "internal/reflectlite.TypeOf", "(internal/reflectlite.Value).Elem", "(internal/reflectlite.Value).Set", "slices.overlaps[flagstone/entry.Entry]"], unfollowed := true, recurses := true, named := ["unicode/utf8.first", "unicode/utf8.acceptRanges", "internal/bytealg.MaxLen", "errors.errorType", "flagstone/change.errSame"], apart := false, laid := [("unicode/utf8.acceptRanges", laid_unicode_utf8_acceptRanges), ("errors.errorType", laid_errors_errorType), ("flagstone/change.errSame", laid_flagstone_change_errSame), ("unicode/utf8.first", laid_unicode_utf8_first)], narrowed := true }
def ChangeEntersUptoSaid : Prop := changeEntersUptoRow.holds Tryz.pinned (OpenSpec.upto changeEntersSpec)

/-- 'flagstonelaw08.ChangeDrops', WHERE WHAT IT READS IS OF BULK AT MOST 1048576: true; the input reads as it did. -/
def changeDropsUptoRow : OpenClaim := { program := "ytpfbimkpcnnfkaagreatdoor", sum := "bf3846e9bcffecc3f69263ddb57cffe3604559bc94eaa910781e2a00b2740054", func := "flagstone/flagstonelaw08.ChangeDrops", spec := "changeDrops", inPlace := ["internal/bytealg.IndexByteString", "internal/bytealg.IndexString", "internal/bytealg.abigen_runtime_cmpstring", "internal/reflectlite.ValueOf", "(internal/reflectlite.Value).Type", "(internal/reflectlite.Value).IsNil", "internal/reflectlite.TypeOf", "(internal/reflectlite.Value).Elem", "(internal/reflectlite.Value).Set", "slices.overlaps[flagstone/entry.Entry]"], unfollowed := true, recurses := true, named := ["unicode/utf8.first", "unicode/utf8.acceptRanges", "internal/bytealg.MaxLen", "errors.errorType", "flagstone/change.errSame"], apart := false, laid := [("unicode/utf8.acceptRanges", laid_unicode_utf8_acceptRanges), ("errors.errorType", laid_errors_errorType), ("flagstone/change.errSame", laid_flagstone_change_errSame), ("unicode/utf8.first", laid_unicode_utf8_first)], narrowed := true }
def ChangeDropsUptoSaid : Prop := changeDropsUptoRow.holds Tryz.pinned (OpenSpec.upto changeDropsSpec)

/-- 'flagstonelaw08.ChangeRight', WHERE WHAT IT READS IS OF BULK AT MOST 1048576: true; the input reads as it did. -/
def changeRightUptoRow : OpenClaim := { program := "ytpfbimkpcnnfkaagreatdoor", sum := "bf3846e9bcffecc3f69263ddb57cffe3604559bc94eaa910781e2a00b2740054", func := "flagstone/flagstonelaw08.ChangeRight", spec := "changeRight", inPlace := ["internal/bytealg.IndexByteString", "internal/bytealg.IndexString", "internal/bytealg.abigen_runtime_cmpstring", "internal/reflectlite.ValueOf", "(internal/reflectlite.Value).Type", "(internal/reflectlite.Value).IsNil", "internal/reflectlite.TypeOf", "(internal/reflectlite.Value).Elem", "(internal/reflectlite.Value).Set", "slices.overlaps[flagstone/entry.Entry]"], unfollowed := true, recurses := true, named := ["unicode/utf8.first", "unicode/utf8.acceptRanges", "internal/bytealg.MaxLen", "errors.errorType", "flagstone/change.errSame"], apart := false, laid := [("unicode/utf8.acceptRanges", laid_unicode_utf8_acceptRanges), ("errors.errorType", laid_errors_errorType), ("flagstone/change.errSame", laid_flagstone_change_errSame), ("unicode/utf8.first", laid_unicode_utf8_first)], narrowed := true }
def ChangeRightUptoSaid : Prop := changeRightUptoRow.holds Tryz.pinned (OpenSpec.upto changeRightSpec)

end Rows
end Go.Proofs.YtpfbimkpcnnfkaaGreatDoor
