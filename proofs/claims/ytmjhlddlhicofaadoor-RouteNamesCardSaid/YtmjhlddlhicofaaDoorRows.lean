/-
  NARROWER THAN 'FOR EVERY INPUT', by the rows' own cells (each row's printed sentence says how): RouteNames: laid · RouteBack: laid · RouteUps: laid · RouteSlashes: laid · RouteJoins: laid.
  DERIVED. THE GIVEN ROWS OF THIS SEAT. 5 by the template 'for every input the law returns true; each argument reads behind the call as it read before'; 0 by the template 'total and deterministic' (their statements: YtmjhlddlhicofaaDoorTotals.lean).
  GIVEN WITH THE SEED: the statements are not yours to turn. If you find one false, say at which input.
  Laid BY PROGRAM, IN A SANDBOX (cutbox-rows.mjs): the forced cells as the released guide's own fill.sh prints them over the translation 199b6aea00f279af… (all of the seat's roots in one cut). By AI agents, Wed Nov 11 2026. No macro, syntax, notation, axiom, sorry.
-/
import Derived.Test.YtmjhlddlhicofaaDoorChecked
import GoSem.PinnedTables
import GoSem.Claim
import GoSem.ClaimJoined
import GoSem.ClaimMapViews
import Derived.JoinedTies
import Derived.KernelRfl
namespace Go.Proofs.YtmjhlddlhicofaaDoor
/- THE CELL 'sum', in the pinned program and in every row, IS THE sha256 OF THE DUMP (.gsa) THAT YtmjhlddlhicofaaDoorProg.lean LOADS. Nothing in Lean hashes anything: it is a label: what it is worth is what the hold of that sum in a sandbox is worth. -/
noncomputable def Tryd.pinned : Pinned := { name := "ytmjhlddlhicofaadoor", sum := "199b6aea00f279af785d145e6652fbb73214e2e1f6298098f551e8787a15e35d", checked := Tryd.checked }
namespace Rows
def none {H : Type} : Left H := { results := [], args := [] }

/- WHAT THE LISTED PACKAGE-LEVEL VARIABLES READ AS WHEN THE CALL BEGINS. Each datum BY PROGRAM (the guide's laid-datum.mjs) off the statement by which the dump's own 'gosem.cut.vars' lays the variable. In a bare row this is a premise. The card (YtmjhlddlhicofaaDoorCards.lean) ties it to the program's text. -/
def laid_unicode_utf8_acceptRanges {H : Type} : DataW H := .agg [.agg [.lit (.int .u8 128), .lit (.int .u8 191)], .agg [.lit (.int .u8 160), .lit (.int .u8 191)], .agg [.lit (.int .u8 128), .lit (.int .u8 159)], .agg [.lit (.int .u8 144), .lit (.int .u8 191)], .agg [.lit (.int .u8 128), .lit (.int .u8 143)], .agg [.lit (.int .u8 0), .lit (.int .u8 0)], .agg [.lit (.int .u8 0), .lit (.int .u8 0)], .agg [.lit (.int .u8 0), .lit (.int .u8 0)], .agg [.lit (.int .u8 0), .lit (.int .u8 0)], .agg [.lit (.int .u8 0), .lit (.int .u8 0)], .agg [.lit (.int .u8 0), .lit (.int .u8 0)], .agg [.lit (.int .u8 0), .lit (.int .u8 0)], .agg [.lit (.int .u8 0), .lit (.int .u8 0)], .agg [.lit (.int .u8 0), .lit (.int .u8 0)], .agg [.lit (.int .u8 0), .lit (.int .u8 0)], .agg [.lit (.int .u8 0), .lit (.int .u8 0)]]
/-- One of Go's own tables, pinned by name: the form's constant. -/
def laid_unicode_utf8_first : DataW Unit := Go.Pinned.utf8First

/-- 'flagstonelaw01.RouteNames': WHATEVER THE INPUT: true; the input reads as it did. -/
def routeNamesSpec : ChangeSpec := { name := "routeNames", fn := fun _ => fun
  | [d1, d2] => { results := [.lit (.bool true)], args := [d1, d2] }
  | _ => none }
def routeNamesRow : OpenClaim := { program := "ytmjhlddlhicofaadoor", sum := "199b6aea00f279af785d145e6652fbb73214e2e1f6298098f551e8787a15e35d", func := "flagstone/flagstonelaw01.RouteNames", spec := "routeNames", inPlace := ["internal/bytealg.IndexByteString", "internal/bytealg.IndexString"], unfollowed := true, recurses := true, named := ["unicode/utf8.first", "unicode/utf8.acceptRanges", "internal/bytealg.MaxLen"], apart := false, laid := [("unicode/utf8.acceptRanges", laid_unicode_utf8_acceptRanges), ("unicode/utf8.first", laid_unicode_utf8_first)] }
def RouteNamesSaid : Prop := routeNamesRow.holds Tryd.pinned (OpenSpec.ofChange routeNamesSpec)

/-- ITS FALSE NEIGHBOUR: 'it returns false'. Refute it at one input. -/
def routeNamesWrong : ChangeSpec := { name := "routeNames", fn := fun _ => fun
  | [d1, d2] => { results := [.lit (.bool false)], args := [d1, d2] }
  | _ => none }
def RouteNamesWrongFalsely : Prop := routeNamesRow.holds Tryd.pinned (OpenSpec.ofChange routeNamesWrong)

/-- 'flagstonelaw01.RouteBack': WHATEVER THE INPUT: true; the input reads as it did. -/
def routeBackSpec : ChangeSpec := { name := "routeBack", fn := fun _ => fun
  | [d] => { results := [.lit (.bool true)], args := [d] }
  | _ => none }
def routeBackRow : OpenClaim := { program := "ytmjhlddlhicofaadoor", sum := "199b6aea00f279af785d145e6652fbb73214e2e1f6298098f551e8787a15e35d", func := "flagstone/flagstonelaw01.RouteBack", spec := "routeBack", inPlace := ["internal/bytealg.IndexByteString", "internal/bytealg.IndexString"], unfollowed := true, recurses := true, named := ["unicode/utf8.first", "unicode/utf8.acceptRanges", "internal/bytealg.MaxLen"], apart := false, laid := [("unicode/utf8.acceptRanges", laid_unicode_utf8_acceptRanges), ("unicode/utf8.first", laid_unicode_utf8_first)] }
def RouteBackSaid : Prop := routeBackRow.holds Tryd.pinned (OpenSpec.ofChange routeBackSpec)

/-- ITS FALSE NEIGHBOUR: 'it returns false'. Refute it at one input. -/
def routeBackWrong : ChangeSpec := { name := "routeBack", fn := fun _ => fun
  | [d] => { results := [.lit (.bool false)], args := [d] }
  | _ => none }
def RouteBackWrongFalsely : Prop := routeBackRow.holds Tryd.pinned (OpenSpec.ofChange routeBackWrong)

/-- 'flagstonelaw01.RouteUps': WHATEVER THE INPUT: true; the input reads as it did. -/
def routeUpsSpec : ChangeSpec := { name := "routeUps", fn := fun _ => fun
  | [d] => { results := [.lit (.bool true)], args := [d] }
  | _ => none }
def routeUpsRow : OpenClaim := { program := "ytmjhlddlhicofaadoor", sum := "199b6aea00f279af785d145e6652fbb73214e2e1f6298098f551e8787a15e35d", func := "flagstone/flagstonelaw01.RouteUps", spec := "routeUps", inPlace := ["internal/bytealg.IndexByteString", "internal/bytealg.IndexString"], unfollowed := true, recurses := true, named := ["unicode/utf8.first", "unicode/utf8.acceptRanges", "internal/bytealg.MaxLen"], apart := false, laid := [("unicode/utf8.acceptRanges", laid_unicode_utf8_acceptRanges), ("unicode/utf8.first", laid_unicode_utf8_first)] }
def RouteUpsSaid : Prop := routeUpsRow.holds Tryd.pinned (OpenSpec.ofChange routeUpsSpec)

/-- ITS FALSE NEIGHBOUR: 'it returns false'. Refute it at one input. -/
def routeUpsWrong : ChangeSpec := { name := "routeUps", fn := fun _ => fun
  | [d] => { results := [.lit (.bool false)], args := [d] }
  | _ => none }
def RouteUpsWrongFalsely : Prop := routeUpsRow.holds Tryd.pinned (OpenSpec.ofChange routeUpsWrong)

/-- 'flagstonelaw01.RouteSlashes': WHATEVER THE INPUT: true; the input reads as it did. -/
def routeSlashesSpec : ChangeSpec := { name := "routeSlashes", fn := fun _ => fun
  | [d1, d2] => { results := [.lit (.bool true)], args := [d1, d2] }
  | _ => none }
def routeSlashesRow : OpenClaim := { program := "ytmjhlddlhicofaadoor", sum := "199b6aea00f279af785d145e6652fbb73214e2e1f6298098f551e8787a15e35d", func := "flagstone/flagstonelaw01.RouteSlashes", spec := "routeSlashes", inPlace := ["internal/bytealg.IndexByteString", "internal/bytealg.IndexString"], unfollowed := true, recurses := true, named := ["unicode/utf8.first", "unicode/utf8.acceptRanges", "internal/bytealg.MaxLen"], apart := false, laid := [("unicode/utf8.acceptRanges", laid_unicode_utf8_acceptRanges), ("unicode/utf8.first", laid_unicode_utf8_first)] }
def RouteSlashesSaid : Prop := routeSlashesRow.holds Tryd.pinned (OpenSpec.ofChange routeSlashesSpec)

/-- ITS FALSE NEIGHBOUR: 'it returns false'. Refute it at one input. -/
def routeSlashesWrong : ChangeSpec := { name := "routeSlashes", fn := fun _ => fun
  | [d1, d2] => { results := [.lit (.bool false)], args := [d1, d2] }
  | _ => none }
def RouteSlashesWrongFalsely : Prop := routeSlashesRow.holds Tryd.pinned (OpenSpec.ofChange routeSlashesWrong)

/-- 'flagstonelaw01.RouteJoins': WHATEVER THE INPUT: true; the input reads as it did. -/
def routeJoinsSpec : ChangeSpec := { name := "routeJoins", fn := fun _ => fun
  | [d1, d2] => { results := [.lit (.bool true)], args := [d1, d2] }
  | _ => none }
def routeJoinsRow : OpenClaim := { program := "ytmjhlddlhicofaadoor", sum := "199b6aea00f279af785d145e6652fbb73214e2e1f6298098f551e8787a15e35d", func := "flagstone/flagstonelaw01.RouteJoins", spec := "routeJoins", inPlace := ["internal/bytealg.IndexByteString", "internal/bytealg.IndexString"], unfollowed := true, recurses := true, named := ["unicode/utf8.first", "unicode/utf8.acceptRanges", "internal/bytealg.MaxLen"], apart := false, laid := [("unicode/utf8.acceptRanges", laid_unicode_utf8_acceptRanges), ("unicode/utf8.first", laid_unicode_utf8_first)] }
def RouteJoinsSaid : Prop := routeJoinsRow.holds Tryd.pinned (OpenSpec.ofChange routeJoinsSpec)

/-- ITS FALSE NEIGHBOUR: 'it returns false'. Refute it at one input. -/
def routeJoinsWrong : ChangeSpec := { name := "routeJoins", fn := fun _ => fun
  | [d1, d2] => { results := [.lit (.bool false)], args := [d1, d2] }
  | _ => none }
def RouteJoinsWrongFalsely : Prop := routeJoinsRow.holds Tryd.pinned (OpenSpec.ofChange routeJoinsWrong)

/- THE SECOND FORM. 'bulk': how many values and letters a reading holds, each counted each time it is reached (what is shared counts as often as it is met; a slice's spare places count too). A statement '..UptoSaid' is the law's where the arguments, and the package variables that the reading takes, are together of bulk at most 1048576: NARROWER than '..Said'. Prove '..Said' where nothing that the law and all that it calls make is longer than what came in: it says more and counts as full. Else prove '..UptoSaid'. A law counts once. -/
mutual
def uptoBulk {H : Type} : DataW H → Nat
  | .lit (.string bytes) => bytes.length + 1
  | .lit _ => 1
  | .nil => 1
  | .ptr d => uptoBulk d + 1
  | .slice elems spare => uptoBulkAll elems + uptoBulkAll spare + 1
  | .agg parts => uptoBulkAll parts + 1
  | .iface _ d => uptoBulk d + 1
  | .map entries => uptoBulkEntries entries + 1
  | .held _ => 1
def uptoBulkAll {H : Type} : List (DataW H) → Nat
  | [] => 0
  | d :: r => uptoBulk d + uptoBulkAll r
def uptoBulkEntries {H : Type} : List (Lit × DataW H) → Nat
  | [] => 0
  | x :: r => uptoBulkEntry x + uptoBulkEntries r
def uptoBulkEntry {H : Type} : Lit × DataW H → Nat
  | (.string bytes, d) => bytes.length + uptoBulk d + 1
  | (_, d) => uptoBulk d + 1
 end
def uptoSmall : (H : Type) → List (DataW H) → Bool := fun _ ds => decide (uptoBulkAll ds ≤ 1048576)
def OpenSpec.upto (s : _root_.Go.ChangeSpec) : _root_.Go.OpenSpec := { _root_.Go.OpenSpec.ofChange s with cond := some uptoSmall }

/-- 'flagstonelaw01.RouteNames', WHERE WHAT IT READS IS OF BULK AT MOST 1048576: true; the input reads as it did. -/
def routeNamesUptoRow : OpenClaim := { program := "ytmjhlddlhicofaadoor", sum := "199b6aea00f279af785d145e6652fbb73214e2e1f6298098f551e8787a15e35d", func := "flagstone/flagstonelaw01.RouteNames", spec := "routeNames", inPlace := ["internal/bytealg.IndexByteString", "internal/bytealg.IndexString"], unfollowed := true, recurses := true, named := ["unicode/utf8.first", "unicode/utf8.acceptRanges", "internal/bytealg.MaxLen"], apart := false, laid := [("unicode/utf8.acceptRanges", laid_unicode_utf8_acceptRanges), ("unicode/utf8.first", laid_unicode_utf8_first)], narrowed := true }
def RouteNamesUptoSaid : Prop := routeNamesUptoRow.holds Tryd.pinned (OpenSpec.upto routeNamesSpec)

/-- 'flagstonelaw01.RouteBack', WHERE WHAT IT READS IS OF BULK AT MOST 1048576: true; the input reads as it did. -/
def routeBackUptoRow : OpenClaim := { program := "ytmjhlddlhicofaadoor", sum := "199b6aea00f279af785d145e6652fbb73214e2e1f6298098f551e8787a15e35d", func := "flagstone/flagstonelaw01.RouteBack", spec := "routeBack", inPlace := ["internal/bytealg.IndexByteString", "internal/bytealg.IndexString"], unfollowed := true, recurses := true, named := ["unicode/utf8.first", "unicode/utf8.acceptRanges", "internal/bytealg.MaxLen"], apart := false, laid := [("unicode/utf8.acceptRanges", laid_unicode_utf8_acceptRanges), ("unicode/utf8.first", laid_unicode_utf8_first)], narrowed := true }
def RouteBackUptoSaid : Prop := routeBackUptoRow.holds Tryd.pinned (OpenSpec.upto routeBackSpec)

/-- 'flagstonelaw01.RouteUps', WHERE WHAT IT READS IS OF BULK AT MOST 1048576: true; the input reads as it did. -/
def routeUpsUptoRow : OpenClaim := { program := "ytmjhlddlhicofaadoor", sum := "199b6aea00f279af785d145e6652fbb73214e2e1f6298098f551e8787a15e35d", func := "flagstone/flagstonelaw01.RouteUps", spec := "routeUps", inPlace := ["internal/bytealg.IndexByteString", "internal/bytealg.IndexString"], unfollowed := true, recurses := true, named := ["unicode/utf8.first", "unicode/utf8.acceptRanges", "internal/bytealg.MaxLen"], apart := false, laid := [("unicode/utf8.acceptRanges", laid_unicode_utf8_acceptRanges), ("unicode/utf8.first", laid_unicode_utf8_first)], narrowed := true }
def RouteUpsUptoSaid : Prop := routeUpsUptoRow.holds Tryd.pinned (OpenSpec.upto routeUpsSpec)

/-- 'flagstonelaw01.RouteSlashes', WHERE WHAT IT READS IS OF BULK AT MOST 1048576: true; the input reads as it did. -/
def routeSlashesUptoRow : OpenClaim := { program := "ytmjhlddlhicofaadoor", sum := "199b6aea00f279af785d145e6652fbb73214e2e1f6298098f551e8787a15e35d", func := "flagstone/flagstonelaw01.RouteSlashes", spec := "routeSlashes", inPlace := ["internal/bytealg.IndexByteString", "internal/bytealg.IndexString"], unfollowed := true, recurses := true, named := ["unicode/utf8.first", "unicode/utf8.acceptRanges", "internal/bytealg.MaxLen"], apart := false, laid := [("unicode/utf8.acceptRanges", laid_unicode_utf8_acceptRanges), ("unicode/utf8.first", laid_unicode_utf8_first)], narrowed := true }
def RouteSlashesUptoSaid : Prop := routeSlashesUptoRow.holds Tryd.pinned (OpenSpec.upto routeSlashesSpec)

/-- 'flagstonelaw01.RouteJoins', WHERE WHAT IT READS IS OF BULK AT MOST 1048576: true; the input reads as it did. -/
def routeJoinsUptoRow : OpenClaim := { program := "ytmjhlddlhicofaadoor", sum := "199b6aea00f279af785d145e6652fbb73214e2e1f6298098f551e8787a15e35d", func := "flagstone/flagstonelaw01.RouteJoins", spec := "routeJoins", inPlace := ["internal/bytealg.IndexByteString", "internal/bytealg.IndexString"], unfollowed := true, recurses := true, named := ["unicode/utf8.first", "unicode/utf8.acceptRanges", "internal/bytealg.MaxLen"], apart := false, laid := [("unicode/utf8.acceptRanges", laid_unicode_utf8_acceptRanges), ("unicode/utf8.first", laid_unicode_utf8_first)], narrowed := true }
def RouteJoinsUptoSaid : Prop := routeJoinsUptoRow.holds Tryd.pinned (OpenSpec.upto routeJoinsSpec)

end Rows
end Go.Proofs.YtmjhlddlhicofaaDoor
