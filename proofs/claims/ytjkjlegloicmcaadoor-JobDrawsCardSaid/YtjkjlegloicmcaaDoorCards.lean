/-
  DERIVED. GIVEN WITH THE SEED: THE CARDS: each row of YtjkjlegloicmcaaDoorRows.lean that lists a variable, with what it lists TIED to the program's text (the seventh form; the later family's looks); each row that meets fmt, with fmt's text TOLD by the authors' own Lean function (tested against real Go, not proved from fmt's source: count such statements apart). THE CARD IS WHAT COUNTS. Prove the row's statement (the work); the ties are given (YtjkjlegloicmcaaDoorTie.lean); close each card by the builder's one call (the guide's Derived/Test/ToyasCard.lean, 'card_holds'). Laid BY PROGRAM, IN A SANDBOX (cutbox-door.mjs). By AI agents, Wed Nov 11 2026. No macro, syntax, notation, axiom, sorry.
-/
import Derived.Test.YtjkjlegloicmcaaDoorRows
import GoSem.ClaimSeven
namespace Go.Proofs.YtjkjlegloicmcaaDoor
namespace Rows

/-- THE TIED CARD OF 'flagstonelaw15.JobDraws'. -/
def jobDrawsCard : Claim7 := { stood := { row := jobDrawsRow, standIns := [], harness := (true, "715d024f5282e8688a37a6b164955a1de6eca4b14c663785171461ab69d4086f"), looks := false }, kinds := [], alts := [], laidByText := true, laidKinds := [.data, .data, .data], laidTests := true, laidLooks := .later }
def JobDrawsCardSaid : Prop := Claim7.holds Tryd.pinned (.plain (OpenSpec.ofChange jobDrawsSpec)) jobDrawsCard

/-- THE TIED CARD OF 'flagstonelaw15.JobSame'. -/
def jobSameCard : Claim7 := { stood := { row := jobSameRow, standIns := [], harness := (true, "715d024f5282e8688a37a6b164955a1de6eca4b14c663785171461ab69d4086f"), looks := false }, kinds := [], alts := [], laidByText := true, laidKinds := [.data, .data, .data], laidTests := true, laidLooks := .later }
def JobSameCardSaid : Prop := Claim7.holds Tryd.pinned (.plain (OpenSpec.ofChange jobSameSpec)) jobSameCard

/-- THE TIED CARD OF 'flagstonelaw15.JobStack'. -/
def jobStackCard : Claim7 := { stood := { row := jobStackRow, standIns := [], harness := (true, "715d024f5282e8688a37a6b164955a1de6eca4b14c663785171461ab69d4086f"), looks := false }, kinds := [], alts := [], laidByText := true, laidKinds := [.data, .data, .data], laidTests := true, laidLooks := .later }
def JobStackCardSaid : Prop := Claim7.holds Tryd.pinned (.plain (OpenSpec.ofChange jobStackSpec)) jobStackCard

/-- THE TIED CARD OF 'flagstonelaw15.JobTries'. -/
def jobTriesCard : Claim7 := { stood := { row := jobTriesRow, standIns := [], harness := (true, "715d024f5282e8688a37a6b164955a1de6eca4b14c663785171461ab69d4086f"), looks := false }, kinds := [], alts := [], laidByText := true, laidKinds := [.data, .data, .data], laidTests := true, laidLooks := .later }
def JobTriesCardSaid : Prop := Claim7.holds Tryd.pinned (.plain (OpenSpec.ofChange jobTriesSpec)) jobTriesCard

/-- THE SECOND FORM's CARD OF 'flagstonelaw15.JobDraws'. -/
def jobDrawsUptoCard : Claim7 := { stood := { row := jobDrawsUptoRow, standIns := [], harness := (true, "715d024f5282e8688a37a6b164955a1de6eca4b14c663785171461ab69d4086f"), looks := false }, kinds := [], alts := [], laidByText := true, laidKinds := [.data, .data, .data], laidTests := true, laidLooks := .later }
def JobDrawsUptoCardSaid : Prop := Claim7.holds Tryd.pinned (.plain (OpenSpec.upto jobDrawsSpec)) jobDrawsUptoCard

/-- THE SECOND FORM's CARD OF 'flagstonelaw15.JobSame'. -/
def jobSameUptoCard : Claim7 := { stood := { row := jobSameUptoRow, standIns := [], harness := (true, "715d024f5282e8688a37a6b164955a1de6eca4b14c663785171461ab69d4086f"), looks := false }, kinds := [], alts := [], laidByText := true, laidKinds := [.data, .data, .data], laidTests := true, laidLooks := .later }
def JobSameUptoCardSaid : Prop := Claim7.holds Tryd.pinned (.plain (OpenSpec.upto jobSameSpec)) jobSameUptoCard

/-- THE SECOND FORM's CARD OF 'flagstonelaw15.JobStack'. -/
def jobStackUptoCard : Claim7 := { stood := { row := jobStackUptoRow, standIns := [], harness := (true, "715d024f5282e8688a37a6b164955a1de6eca4b14c663785171461ab69d4086f"), looks := false }, kinds := [], alts := [], laidByText := true, laidKinds := [.data, .data, .data], laidTests := true, laidLooks := .later }
def JobStackUptoCardSaid : Prop := Claim7.holds Tryd.pinned (.plain (OpenSpec.upto jobStackSpec)) jobStackUptoCard

/-- THE SECOND FORM's CARD OF 'flagstonelaw15.JobTries'. -/
def jobTriesUptoCard : Claim7 := { stood := { row := jobTriesUptoRow, standIns := [], harness := (true, "715d024f5282e8688a37a6b164955a1de6eca4b14c663785171461ab69d4086f"), looks := false }, kinds := [], alts := [], laidByText := true, laidKinds := [.data, .data, .data], laidTests := true, laidLooks := .later }
def JobTriesUptoCardSaid : Prop := Claim7.holds Tryd.pinned (.plain (OpenSpec.upto jobTriesSpec)) jobTriesUptoCard
end Rows
end Go.Proofs.YtjkjlegloicmcaaDoor
