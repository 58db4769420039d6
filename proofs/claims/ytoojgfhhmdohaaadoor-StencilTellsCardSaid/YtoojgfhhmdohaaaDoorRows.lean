/-
  NARROWER THAN 'FOR EVERY INPUT', by the rows' own cells (each row's printed sentence says how): StencilTells: laid · StencilMakes: laid · StencilFits: laid · StencilApart: laid · StencilOwn: laid · StencilMore: laid.
  DERIVED. THE GIVEN ROWS OF THIS SEAT. 6 by the template 'for every input the law returns true; each argument reads behind the call as it read before'; 0 by the template 'total and deterministic' (their statements: YtoojgfhhmdohaaaDoorTotals.lean).
  GIVEN WITH THE SEED: the statements are not yours to turn. If you find one false, say at which input.
  Laid BY PROGRAM, IN A SANDBOX (cutbox-rows.mjs): the forced cells as the released guide's own fill.sh prints them over the translation 81d3c9ffdf054b07… (all of the seat's roots in one cut). By AI agents, Wed Nov 11 2026. No macro, syntax, notation, axiom, sorry.
-/
import Derived.Test.YtoojgfhhmdohaaaDoorChecked
import GoSem.PinnedTables
import GoSem.Claim
import GoSem.ClaimJoined
import GoSem.ClaimMapViews
import Derived.JoinedTies
import Derived.KernelRfl
namespace Go.Proofs.YtoojgfhhmdohaaaDoor
/- THE CELL 'sum', in the pinned program and in every row, IS THE sha256 OF THE DUMP (.gsa) THAT YtoojgfhhmdohaaaDoorProg.lean LOADS. Nothing in Lean hashes anything: it is a label: what it is worth is what the hold of that sum in a sandbox is worth. -/
noncomputable def Tryd.pinned : Pinned := { name := "ytoojgfhhmdohaaadoor", sum := "81d3c9ffdf054b07bcf7b3cdcd7f6f525a4793b3489ce6224e79fd7eb785c107", checked := Tryd.checked }
namespace Rows
def none {H : Type} : Left H := { results := [], args := [] }

/- WHAT THE LISTED PACKAGE-LEVEL VARIABLES READ AS WHEN THE CALL BEGINS. Each datum BY PROGRAM (the guide's laid-datum.mjs) off the statement by which the dump's own 'gosem.cut.vars' lays the variable. In a bare row this is a premise. The card (YtoojgfhhmdohaaaDoorCards.lean) ties it to the program's text. -/
def laid_unicode_utf8_acceptRanges {H : Type} : DataW H := .agg [.agg [.lit (.int .u8 128), .lit (.int .u8 191)], .agg [.lit (.int .u8 160), .lit (.int .u8 191)], .agg [.lit (.int .u8 128), .lit (.int .u8 159)], .agg [.lit (.int .u8 144), .lit (.int .u8 191)], .agg [.lit (.int .u8 128), .lit (.int .u8 143)], .agg [.lit (.int .u8 0), .lit (.int .u8 0)], .agg [.lit (.int .u8 0), .lit (.int .u8 0)], .agg [.lit (.int .u8 0), .lit (.int .u8 0)], .agg [.lit (.int .u8 0), .lit (.int .u8 0)], .agg [.lit (.int .u8 0), .lit (.int .u8 0)], .agg [.lit (.int .u8 0), .lit (.int .u8 0)], .agg [.lit (.int .u8 0), .lit (.int .u8 0)], .agg [.lit (.int .u8 0), .lit (.int .u8 0)], .agg [.lit (.int .u8 0), .lit (.int .u8 0)], .agg [.lit (.int .u8 0), .lit (.int .u8 0)], .agg [.lit (.int .u8 0), .lit (.int .u8 0)]]
/-- One of Go's own tables, pinned by name: the form's constant. -/
def laid_unicode_utf8_first : DataW Unit := Go.Pinned.utf8First

/-- 'flagstonelaw02.StencilTells': WHATEVER THE INPUT: true; the input reads as it did. -/
def stencilTellsSpec : ChangeSpec := { name := "stencilTells", fn := fun _ => fun
  | [d1, d2, d3] => { results := [.lit (.bool true)], args := [d1, d2, d3] }
  | _ => none }
def stencilTellsRow : OpenClaim := { program := "ytoojgfhhmdohaaadoor", sum := "81d3c9ffdf054b07bcf7b3cdcd7f6f525a4793b3489ce6224e79fd7eb785c107", func := "flagstone/flagstonelaw02.StencilTells", spec := "stencilTells", inPlace := ["internal/bytealg.IndexByteString", "internal/bytealg.IndexString", "internal/abi.NoEscape"], named := ["unicode/utf8.first", "unicode/utf8.acceptRanges", "internal/bytealg.MaxLen"], apart := false, laid := [("unicode/utf8.acceptRanges", laid_unicode_utf8_acceptRanges), ("unicode/utf8.first", laid_unicode_utf8_first)] }
def StencilTellsSaid : Prop := stencilTellsRow.holds Tryd.pinned (OpenSpec.ofChange stencilTellsSpec)

/-- ITS FALSE NEIGHBOUR: 'it returns false'. Refute it at one input. -/
def stencilTellsWrong : ChangeSpec := { name := "stencilTells", fn := fun _ => fun
  | [d1, d2, d3] => { results := [.lit (.bool false)], args := [d1, d2, d3] }
  | _ => none }
def StencilTellsWrongFalsely : Prop := stencilTellsRow.holds Tryd.pinned (OpenSpec.ofChange stencilTellsWrong)

/-- 'flagstonelaw02.StencilMakes': WHATEVER THE INPUT: true; the input reads as it did. -/
def stencilMakesSpec : ChangeSpec := { name := "stencilMakes", fn := fun _ => fun
  | [d1, d2] => { results := [.lit (.bool true)], args := [d1, d2] }
  | _ => none }
def stencilMakesRow : OpenClaim := { program := "ytoojgfhhmdohaaadoor", sum := "81d3c9ffdf054b07bcf7b3cdcd7f6f525a4793b3489ce6224e79fd7eb785c107", func := "flagstone/flagstonelaw02.StencilMakes", spec := "stencilMakes", inPlace := ["internal/bytealg.IndexByteString", "internal/bytealg.IndexString", "internal/abi.NoEscape"], named := ["unicode/utf8.first", "unicode/utf8.acceptRanges", "internal/bytealg.MaxLen"], apart := false, laid := [("unicode/utf8.acceptRanges", laid_unicode_utf8_acceptRanges), ("unicode/utf8.first", laid_unicode_utf8_first)] }
def StencilMakesSaid : Prop := stencilMakesRow.holds Tryd.pinned (OpenSpec.ofChange stencilMakesSpec)

/-- ITS FALSE NEIGHBOUR: 'it returns false'. Refute it at one input. -/
def stencilMakesWrong : ChangeSpec := { name := "stencilMakes", fn := fun _ => fun
  | [d1, d2] => { results := [.lit (.bool false)], args := [d1, d2] }
  | _ => none }
def StencilMakesWrongFalsely : Prop := stencilMakesRow.holds Tryd.pinned (OpenSpec.ofChange stencilMakesWrong)

/-- 'flagstonelaw02.StencilFits': WHATEVER THE INPUT: true; the input reads as it did. -/
def stencilFitsSpec : ChangeSpec := { name := "stencilFits", fn := fun _ => fun
  | [d1, d2] => { results := [.lit (.bool true)], args := [d1, d2] }
  | _ => none }
def stencilFitsRow : OpenClaim := { program := "ytoojgfhhmdohaaadoor", sum := "81d3c9ffdf054b07bcf7b3cdcd7f6f525a4793b3489ce6224e79fd7eb785c107", func := "flagstone/flagstonelaw02.StencilFits", spec := "stencilFits", inPlace := ["internal/bytealg.IndexByteString", "internal/bytealg.IndexString", "internal/abi.NoEscape"], named := ["unicode/utf8.first", "unicode/utf8.acceptRanges", "internal/bytealg.MaxLen"], apart := false, laid := [("unicode/utf8.acceptRanges", laid_unicode_utf8_acceptRanges), ("unicode/utf8.first", laid_unicode_utf8_first)] }
def StencilFitsSaid : Prop := stencilFitsRow.holds Tryd.pinned (OpenSpec.ofChange stencilFitsSpec)

/-- ITS FALSE NEIGHBOUR: 'it returns false'. Refute it at one input. -/
def stencilFitsWrong : ChangeSpec := { name := "stencilFits", fn := fun _ => fun
  | [d1, d2] => { results := [.lit (.bool false)], args := [d1, d2] }
  | _ => none }
def StencilFitsWrongFalsely : Prop := stencilFitsRow.holds Tryd.pinned (OpenSpec.ofChange stencilFitsWrong)

/-- 'flagstonelaw02.StencilApart': WHATEVER THE INPUT: true; the input reads as it did. -/
def stencilApartSpec : ChangeSpec := { name := "stencilApart", fn := fun _ => fun
  | [d1, d2, d3] => { results := [.lit (.bool true)], args := [d1, d2, d3] }
  | _ => none }
def stencilApartRow : OpenClaim := { program := "ytoojgfhhmdohaaadoor", sum := "81d3c9ffdf054b07bcf7b3cdcd7f6f525a4793b3489ce6224e79fd7eb785c107", func := "flagstone/flagstonelaw02.StencilApart", spec := "stencilApart", inPlace := ["internal/bytealg.IndexByteString", "internal/bytealg.IndexString", "internal/abi.NoEscape"], named := ["unicode/utf8.first", "unicode/utf8.acceptRanges", "internal/bytealg.MaxLen"], apart := false, laid := [("unicode/utf8.acceptRanges", laid_unicode_utf8_acceptRanges), ("unicode/utf8.first", laid_unicode_utf8_first)] }
def StencilApartSaid : Prop := stencilApartRow.holds Tryd.pinned (OpenSpec.ofChange stencilApartSpec)

/-- ITS FALSE NEIGHBOUR: 'it returns false'. Refute it at one input. -/
def stencilApartWrong : ChangeSpec := { name := "stencilApart", fn := fun _ => fun
  | [d1, d2, d3] => { results := [.lit (.bool false)], args := [d1, d2, d3] }
  | _ => none }
def StencilApartWrongFalsely : Prop := stencilApartRow.holds Tryd.pinned (OpenSpec.ofChange stencilApartWrong)

/-- 'flagstonelaw02.StencilOwn': WHATEVER THE INPUT: true; the input reads as it did. -/
def stencilOwnSpec : ChangeSpec := { name := "stencilOwn", fn := fun _ => fun
  | [d1, d2] => { results := [.lit (.bool true)], args := [d1, d2] }
  | _ => none }
def stencilOwnRow : OpenClaim := { program := "ytoojgfhhmdohaaadoor", sum := "81d3c9ffdf054b07bcf7b3cdcd7f6f525a4793b3489ce6224e79fd7eb785c107", func := "flagstone/flagstonelaw02.StencilOwn", spec := "stencilOwn", inPlace := ["internal/bytealg.IndexByteString", "internal/bytealg.IndexString", "internal/abi.NoEscape"], named := ["unicode/utf8.first", "unicode/utf8.acceptRanges", "internal/bytealg.MaxLen"], apart := false, laid := [("unicode/utf8.acceptRanges", laid_unicode_utf8_acceptRanges), ("unicode/utf8.first", laid_unicode_utf8_first)] }
def StencilOwnSaid : Prop := stencilOwnRow.holds Tryd.pinned (OpenSpec.ofChange stencilOwnSpec)

/-- ITS FALSE NEIGHBOUR: 'it returns false'. Refute it at one input. -/
def stencilOwnWrong : ChangeSpec := { name := "stencilOwn", fn := fun _ => fun
  | [d1, d2] => { results := [.lit (.bool false)], args := [d1, d2] }
  | _ => none }
def StencilOwnWrongFalsely : Prop := stencilOwnRow.holds Tryd.pinned (OpenSpec.ofChange stencilOwnWrong)

/-- 'flagstonelaw02.StencilMore': WHATEVER THE INPUT: true; the input reads as it did. -/
def stencilMoreSpec : ChangeSpec := { name := "stencilMore", fn := fun _ => fun
  | [d1, d2, d3] => { results := [.lit (.bool true)], args := [d1, d2, d3] }
  | _ => none }
def stencilMoreRow : OpenClaim := { program := "ytoojgfhhmdohaaadoor", sum := "81d3c9ffdf054b07bcf7b3cdcd7f6f525a4793b3489ce6224e79fd7eb785c107", func := "flagstone/flagstonelaw02.StencilMore", spec := "stencilMore", inPlace := ["internal/bytealg.IndexByteString", "internal/bytealg.IndexString", "internal/abi.NoEscape"], named := ["unicode/utf8.first", "unicode/utf8.acceptRanges", "internal/bytealg.MaxLen"], apart := false, laid := [("unicode/utf8.acceptRanges", laid_unicode_utf8_acceptRanges), ("unicode/utf8.first", laid_unicode_utf8_first)] }
def StencilMoreSaid : Prop := stencilMoreRow.holds Tryd.pinned (OpenSpec.ofChange stencilMoreSpec)

/-- ITS FALSE NEIGHBOUR: 'it returns false'. Refute it at one input. -/
def stencilMoreWrong : ChangeSpec := { name := "stencilMore", fn := fun _ => fun
  | [d1, d2, d3] => { results := [.lit (.bool false)], args := [d1, d2, d3] }
  | _ => none }
def StencilMoreWrongFalsely : Prop := stencilMoreRow.holds Tryd.pinned (OpenSpec.ofChange stencilMoreWrong)

/- THE SECOND FORM. 'bulk': how many values and letters a reading holds, each counted each time it is reached (what is shared counts as often as it is met; a slice's spare places count too). A statement '..UptoSaid' is the law's where the arguments, and the package variables that the reading takes, are together of bulk at most 1048576: NARROWER than '..Said'. Prove '..Said' where nothing that the law and all that it calls make is longer than what came in: it says more and counts as full. Else prove '..UptoSaid'. A law counts once. -/
mutual
def uptoBulk {H : Type} : DataW H → Nat
  | .lit (.string bytes) => bytes.length + 1
  | .lit _ => 1
  | .nil => 1
  | .ptr d => uptoBulk d + 1
  | .slice elems spare => uptoBulkAll elems + uptoBulkAll spare + 1
  | .agg parts => uptoBulkAll parts + 1
  | .iface _ d => uptoBulk d + 1
  | .map entries => uptoBulkEntries entries + 1
  | .held _ => 1
def uptoBulkAll {H : Type} : List (DataW H) → Nat
  | [] => 0
  | d :: r => uptoBulk d + uptoBulkAll r
def uptoBulkEntries {H : Type} : List (Lit × DataW H) → Nat
  | [] => 0
  | x :: r => uptoBulkEntry x + uptoBulkEntries r
def uptoBulkEntry {H : Type} : Lit × DataW H → Nat
  | (.string bytes, d) => bytes.length + uptoBulk d + 1
  | (_, d) => uptoBulk d + 1
 end
def uptoSmall : (H : Type) → List (DataW H) → Bool := fun _ ds => decide (uptoBulkAll ds ≤ 1048576)
def OpenSpec.upto (s : _root_.Go.ChangeSpec) : _root_.Go.OpenSpec := { _root_.Go.OpenSpec.ofChange s with cond := some uptoSmall }

/-- 'flagstonelaw02.StencilTells', WHERE WHAT IT READS IS OF BULK AT MOST 1048576: true; the input reads as it did. -/
def stencilTellsUptoRow : OpenClaim := { program := "ytoojgfhhmdohaaadoor", sum := "81d3c9ffdf054b07bcf7b3cdcd7f6f525a4793b3489ce6224e79fd7eb785c107", func := "flagstone/flagstonelaw02.StencilTells", spec := "stencilTells", inPlace := ["internal/bytealg.IndexByteString", "internal/bytealg.IndexString", "internal/abi.NoEscape"], named := ["unicode/utf8.first", "unicode/utf8.acceptRanges", "internal/bytealg.MaxLen"], apart := false, laid := [("unicode/utf8.acceptRanges", laid_unicode_utf8_acceptRanges), ("unicode/utf8.first", laid_unicode_utf8_first)], narrowed := true }
def StencilTellsUptoSaid : Prop := stencilTellsUptoRow.holds Tryd.pinned (OpenSpec.upto stencilTellsSpec)

/-- 'flagstonelaw02.StencilMakes', WHERE WHAT IT READS IS OF BULK AT MOST 1048576: true; the input reads as it did. -/
def stencilMakesUptoRow : OpenClaim := { program := "ytoojgfhhmdohaaadoor", sum := "81d3c9ffdf054b07bcf7b3cdcd7f6f525a4793b3489ce6224e79fd7eb785c107", func := "flagstone/flagstonelaw02.StencilMakes", spec := "stencilMakes", inPlace := ["internal/bytealg.IndexByteString", "internal/bytealg.IndexString", "internal/abi.NoEscape"], named := ["unicode/utf8.first", "unicode/utf8.acceptRanges", "internal/bytealg.MaxLen"], apart := false, laid := [("unicode/utf8.acceptRanges", laid_unicode_utf8_acceptRanges), ("unicode/utf8.first", laid_unicode_utf8_first)], narrowed := true }
def StencilMakesUptoSaid : Prop := stencilMakesUptoRow.holds Tryd.pinned (OpenSpec.upto stencilMakesSpec)

/-- 'flagstonelaw02.StencilFits', WHERE WHAT IT READS IS OF BULK AT MOST 1048576: true; the input reads as it did. -/
def stencilFitsUptoRow : OpenClaim := { program := "ytoojgfhhmdohaaadoor", sum := "81d3c9ffdf054b07bcf7b3cdcd7f6f525a4793b3489ce6224e79fd7eb785c107", func := "flagstone/flagstonelaw02.StencilFits", spec := "stencilFits", inPlace := ["internal/bytealg.IndexByteString", "internal/bytealg.IndexString", "internal/abi.NoEscape"], named := ["unicode/utf8.first", "unicode/utf8.acceptRanges", "internal/bytealg.MaxLen"], apart := false, laid := [("unicode/utf8.acceptRanges", laid_unicode_utf8_acceptRanges), ("unicode/utf8.first", laid_unicode_utf8_first)], narrowed := true }
def StencilFitsUptoSaid : Prop := stencilFitsUptoRow.holds Tryd.pinned (OpenSpec.upto stencilFitsSpec)

/-- 'flagstonelaw02.StencilApart', WHERE WHAT IT READS IS OF BULK AT MOST 1048576: true; the input reads as it did. -/
def stencilApartUptoRow : OpenClaim := { program := "ytoojgfhhmdohaaadoor", sum := "81d3c9ffdf054b07bcf7b3cdcd7f6f525a4793b3489ce6224e79fd7eb785c107", func := "flagstone/flagstonelaw02.StencilApart", spec := "stencilApart", inPlace := ["internal/bytealg.IndexByteString", "internal/bytealg.IndexString", "internal/abi.NoEscape"], named := ["unicode/utf8.first", "unicode/utf8.acceptRanges", "internal/bytealg.MaxLen"], apart := false, laid := [("unicode/utf8.acceptRanges", laid_unicode_utf8_acceptRanges), ("unicode/utf8.first", laid_unicode_utf8_first)], narrowed := true }
def StencilApartUptoSaid : Prop := stencilApartUptoRow.holds Tryd.pinned (OpenSpec.upto stencilApartSpec)

/-- 'flagstonelaw02.StencilOwn', WHERE WHAT IT READS IS OF BULK AT MOST 1048576: true; the input reads as it did. -/
def stencilOwnUptoRow : OpenClaim := { program := "ytoojgfhhmdohaaadoor", sum := "81d3c9ffdf054b07bcf7b3cdcd7f6f525a4793b3489ce6224e79fd7eb785c107", func := "flagstone/flagstonelaw02.StencilOwn", spec := "stencilOwn", inPlace := ["internal/bytealg.IndexByteString", "internal/bytealg.IndexString", "internal/abi.NoEscape"], named := ["unicode/utf8.first", "unicode/utf8.acceptRanges", "internal/bytealg.MaxLen"], apart := false, laid := [("unicode/utf8.acceptRanges", laid_unicode_utf8_acceptRanges), ("unicode/utf8.first", laid_unicode_utf8_first)], narrowed := true }
def StencilOwnUptoSaid : Prop := stencilOwnUptoRow.holds Tryd.pinned (OpenSpec.upto stencilOwnSpec)

/-- 'flagstonelaw02.StencilMore', WHERE WHAT IT READS IS OF BULK AT MOST 1048576: true; the input reads as it did. -/
def stencilMoreUptoRow : OpenClaim := { program := "ytoojgfhhmdohaaadoor", sum := "81d3c9ffdf054b07bcf7b3cdcd7f6f525a4793b3489ce6224e79fd7eb785c107", func := "flagstone/flagstonelaw02.StencilMore", spec := "stencilMore", inPlace := ["internal/bytealg.IndexByteString", "internal/bytealg.IndexString", "internal/abi.NoEscape"], named := ["unicode/utf8.first", "unicode/utf8.acceptRanges", "internal/bytealg.MaxLen"], apart := false, laid := [("unicode/utf8.acceptRanges", laid_unicode_utf8_acceptRanges), ("unicode/utf8.first", laid_unicode_utf8_first)], narrowed := true }
def StencilMoreUptoSaid : Prop := stencilMoreUptoRow.holds Tryd.pinned (OpenSpec.upto stencilMoreSpec)

end Rows
end Go.Proofs.YtoojgfhhmdohaaaDoor
