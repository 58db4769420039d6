/-
  DERIVED. GIVEN WITH THE SEED: THE CARDS: each row of YtoojgfhhmdohaaaDoorRows.lean that lists a variable, with what it lists TIED to the program's text (the seventh form; the later family's looks); each row that meets fmt, with fmt's text TOLD by the authors' own Lean function (tested against real Go, not proved from fmt's source: count such statements apart). THE CARD IS WHAT COUNTS. Prove the row's statement (the work); the ties are given (YtoojgfhhmdohaaaDoorTie.lean); close each card by the builder's one call (the guide's Derived/Test/ToyasCard.lean, 'card_holds'). Laid BY PROGRAM, IN A SANDBOX (cutbox-door.mjs). By AI agents, Wed Nov 11 2026. No macro, syntax, notation, axiom, sorry.
-/
import Derived.Test.YtoojgfhhmdohaaaDoorRows
import GoSem.ClaimSeven
namespace Go.Proofs.YtoojgfhhmdohaaaDoor
namespace Rows

/-- THE TIED CARD OF 'flagstonelaw02.StencilTells'. -/
def stencilTellsCard : Claim7 := { stood := { row := stencilTellsRow, standIns := [], harness := (true, "154accb6d51bcda44a3e4d47b0b9aad295e9e0c57290d4e5927e1a28ffa1a940"), looks := false }, kinds := [], alts := [], laidByText := true, laidKinds := [.data, .pinned], laidTests := true, laidLooks := .later }
def StencilTellsCardSaid : Prop := Claim7.holds Tryd.pinned (.plain (OpenSpec.ofChange stencilTellsSpec)) stencilTellsCard

/-- THE TIED CARD OF 'flagstonelaw02.StencilMakes'. -/
def stencilMakesCard : Claim7 := { stood := { row := stencilMakesRow, standIns := [], harness := (true, "154accb6d51bcda44a3e4d47b0b9aad295e9e0c57290d4e5927e1a28ffa1a940"), looks := false }, kinds := [], alts := [], laidByText := true, laidKinds := [.data, .pinned], laidTests := true, laidLooks := .later }
def StencilMakesCardSaid : Prop := Claim7.holds Tryd.pinned (.plain (OpenSpec.ofChange stencilMakesSpec)) stencilMakesCard

/-- THE TIED CARD OF 'flagstonelaw02.StencilFits'. -/
def stencilFitsCard : Claim7 := { stood := { row := stencilFitsRow, standIns := [], harness := (true, "154accb6d51bcda44a3e4d47b0b9aad295e9e0c57290d4e5927e1a28ffa1a940"), looks := false }, kinds := [], alts := [], laidByText := true, laidKinds := [.data, .pinned], laidTests := true, laidLooks := .later }
def StencilFitsCardSaid : Prop := Claim7.holds Tryd.pinned (.plain (OpenSpec.ofChange stencilFitsSpec)) stencilFitsCard

/-- THE TIED CARD OF 'flagstonelaw02.StencilApart'. -/
def stencilApartCard : Claim7 := { stood := { row := stencilApartRow, standIns := [], harness := (true, "154accb6d51bcda44a3e4d47b0b9aad295e9e0c57290d4e5927e1a28ffa1a940"), looks := false }, kinds := [], alts := [], laidByText := true, laidKinds := [.data, .pinned], laidTests := true, laidLooks := .later }
def StencilApartCardSaid : Prop := Claim7.holds Tryd.pinned (.plain (OpenSpec.ofChange stencilApartSpec)) stencilApartCard

/-- THE TIED CARD OF 'flagstonelaw02.StencilOwn'. -/
def stencilOwnCard : Claim7 := { stood := { row := stencilOwnRow, standIns := [], harness := (true, "154accb6d51bcda44a3e4d47b0b9aad295e9e0c57290d4e5927e1a28ffa1a940"), looks := false }, kinds := [], alts := [], laidByText := true, laidKinds := [.data, .pinned], laidTests := true, laidLooks := .later }
def StencilOwnCardSaid : Prop := Claim7.holds Tryd.pinned (.plain (OpenSpec.ofChange stencilOwnSpec)) stencilOwnCard

/-- THE TIED CARD OF 'flagstonelaw02.StencilMore'. -/
def stencilMoreCard : Claim7 := { stood := { row := stencilMoreRow, standIns := [], harness := (true, "154accb6d51bcda44a3e4d47b0b9aad295e9e0c57290d4e5927e1a28ffa1a940"), looks := false }, kinds := [], alts := [], laidByText := true, laidKinds := [.data, .pinned], laidTests := true, laidLooks := .later }
def StencilMoreCardSaid : Prop := Claim7.holds Tryd.pinned (.plain (OpenSpec.ofChange stencilMoreSpec)) stencilMoreCard

/-- THE SECOND FORM's CARD OF 'flagstonelaw02.StencilTells'. -/
def stencilTellsUptoCard : Claim7 := { stood := { row := stencilTellsUptoRow, standIns := [], harness := (true, "154accb6d51bcda44a3e4d47b0b9aad295e9e0c57290d4e5927e1a28ffa1a940"), looks := false }, kinds := [], alts := [], laidByText := true, laidKinds := [.data, .pinned], laidTests := true, laidLooks := .later }
def StencilTellsUptoCardSaid : Prop := Claim7.holds Tryd.pinned (.plain (OpenSpec.upto stencilTellsSpec)) stencilTellsUptoCard

/-- THE SECOND FORM's CARD OF 'flagstonelaw02.StencilMakes'. -/
def stencilMakesUptoCard : Claim7 := { stood := { row := stencilMakesUptoRow, standIns := [], harness := (true, "154accb6d51bcda44a3e4d47b0b9aad295e9e0c57290d4e5927e1a28ffa1a940"), looks := false }, kinds := [], alts := [], laidByText := true, laidKinds := [.data, .pinned], laidTests := true, laidLooks := .later }
def StencilMakesUptoCardSaid : Prop := Claim7.holds Tryd.pinned (.plain (OpenSpec.upto stencilMakesSpec)) stencilMakesUptoCard

/-- THE SECOND FORM's CARD OF 'flagstonelaw02.StencilFits'. -/
def stencilFitsUptoCard : Claim7 := { stood := { row := stencilFitsUptoRow, standIns := [], harness := (true, "154accb6d51bcda44a3e4d47b0b9aad295e9e0c57290d4e5927e1a28ffa1a940"), looks := false }, kinds := [], alts := [], laidByText := true, laidKinds := [.data, .pinned], laidTests := true, laidLooks := .later }
def StencilFitsUptoCardSaid : Prop := Claim7.holds Tryd.pinned (.plain (OpenSpec.upto stencilFitsSpec)) stencilFitsUptoCard

/-- THE SECOND FORM's CARD OF 'flagstonelaw02.StencilApart'. -/
def stencilApartUptoCard : Claim7 := { stood := { row := stencilApartUptoRow, standIns := [], harness := (true, "154accb6d51bcda44a3e4d47b0b9aad295e9e0c57290d4e5927e1a28ffa1a940"), looks := false }, kinds := [], alts := [], laidByText := true, laidKinds := [.data, .pinned], laidTests := true, laidLooks := .later }
def StencilApartUptoCardSaid : Prop := Claim7.holds Tryd.pinned (.plain (OpenSpec.upto stencilApartSpec)) stencilApartUptoCard

/-- THE SECOND FORM's CARD OF 'flagstonelaw02.StencilOwn'. -/
def stencilOwnUptoCard : Claim7 := { stood := { row := stencilOwnUptoRow, standIns := [], harness := (true, "154accb6d51bcda44a3e4d47b0b9aad295e9e0c57290d4e5927e1a28ffa1a940"), looks := false }, kinds := [], alts := [], laidByText := true, laidKinds := [.data, .pinned], laidTests := true, laidLooks := .later }
def StencilOwnUptoCardSaid : Prop := Claim7.holds Tryd.pinned (.plain (OpenSpec.upto stencilOwnSpec)) stencilOwnUptoCard

/-- THE SECOND FORM's CARD OF 'flagstonelaw02.StencilMore'. -/
def stencilMoreUptoCard : Claim7 := { stood := { row := stencilMoreUptoRow, standIns := [], harness := (true, "154accb6d51bcda44a3e4d47b0b9aad295e9e0c57290d4e5927e1a28ffa1a940"), looks := false }, kinds := [], alts := [], laidByText := true, laidKinds := [.data, .pinned], laidTests := true, laidLooks := .later }
def StencilMoreUptoCardSaid : Prop := Claim7.holds Tryd.pinned (.plain (OpenSpec.upto stencilMoreSpec)) stencilMoreUptoCard
end Rows
end Go.Proofs.YtoojgfhhmdohaaaDoor
