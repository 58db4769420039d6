/-
  DERIVED. GIVEN WITH THE SEED: THE CARDS: each row of YtpfbimkpcnnfkaaGreatDoorRows.lean that lists a variable, with what it lists TIED to the program's text (the seventh form; the later family's looks); each row that meets fmt, with fmt's text TOLD by the authors' own Lean function (tested against real Go, not proved from fmt's source: count such statements apart). THE CARD IS WHAT COUNTS. Prove the row's statement (the work); the ties are given (YtpfbimkpcnnfkaaGreatDoorTie.lean); close each card by the builder's one call (the guide's Derived/Test/ToyasCard.lean, 'card_holds'). Laid BY PROGRAM, IN A SANDBOX (cutbox-door.mjs). By AI agents, Wed Nov 11 2026. No macro, syntax, notation, axiom, sorry.
-/
import Derived.Test.YtpfbimkpcnnfkaaGreatDoorRows
import GoSem.ClaimSeven
namespace Go.Proofs.YtpfbimkpcnnfkaaGreatDoor
namespace Rows

/-- THE TIED CARD OF 'flagstonelaw08.ChangeRenames'. -/
def changeRenamesCard : Claim7 := { stood := { row := changeRenamesRow, standIns := [], harness := (true, "897ce41d144c35a31dab68c8899a528625e0e6303708f2f5003eb8a1880bffb8"), looks := true }, kinds := [], alts := [], laidByText := true, laidKinds := [.data, .handle, .sentinel, .pinned], laidTests := true, laidLooks := .later }
def ChangeRenamesCardSaid : Prop := Claim7.holds Tryz.pinned (.plain (OpenSpec.ofChange changeRenamesSpec)) changeRenamesCard

/-- THE TIED CARD OF 'flagstonelaw08.ChangeBack'. -/
def changeBackCard : Claim7 := { stood := { row := changeBackRow, standIns := [], harness := (true, "897ce41d144c35a31dab68c8899a528625e0e6303708f2f5003eb8a1880bffb8"), looks := true }, kinds := [], alts := [], laidByText := true, laidKinds := [.data, .handle, .sentinel, .pinned], laidTests := true, laidLooks := .later }
def ChangeBackCardSaid : Prop := Claim7.holds Tryz.pinned (.plain (OpenSpec.ofChange changeBackSpec)) changeBackCard

/-- THE TIED CARD OF 'flagstonelaw08.ChangeThere'. -/
def changeThereCard : Claim7 := { stood := { row := changeThereRow, standIns := [], harness := (true, "897ce41d144c35a31dab68c8899a528625e0e6303708f2f5003eb8a1880bffb8"), looks := true }, kinds := [], alts := [], laidByText := true, laidKinds := [.data, .handle, .sentinel, .pinned], laidTests := true, laidLooks := .later }
def ChangeThereCardSaid : Prop := Claim7.holds Tryz.pinned (.plain (OpenSpec.ofChange changeThereSpec)) changeThereCard

/-- THE TIED CARD OF 'flagstonelaw08.ChangeMoves'. -/
def changeMovesCard : Claim7 := { stood := { row := changeMovesRow, standIns := [], harness := (true, "897ce41d144c35a31dab68c8899a528625e0e6303708f2f5003eb8a1880bffb8"), looks := true }, kinds := [], alts := [], laidByText := true, laidKinds := [.data, .handle, .sentinel, .pinned], laidTests := true, laidLooks := .later }
def ChangeMovesCardSaid : Prop := Claim7.holds Tryz.pinned (.plain (OpenSpec.ofChange changeMovesSpec)) changeMovesCard

/-- THE TIED CARD OF 'flagstonelaw08.ChangeEnters'. -/
def changeEntersCard : Claim7 := { stood := { row := changeEntersRow, standIns := [], harness := (true, "897ce41d144c35a31dab68c8899a528625e0e6303708f2f5003eb8a1880bffb8"), looks := true }, kinds := [], alts := [], laidByText := true, laidKinds := [.data, .handle, .sentinel, .pinned], laidTests := true, laidLooks := .later }
def ChangeEntersCardSaid : Prop := Claim7.holds Tryz.pinned (.plain (OpenSpec.ofChange changeEntersSpec)) changeEntersCard

/-- THE TIED CARD OF 'flagstonelaw08.ChangeDrops'. -/
def changeDropsCard : Claim7 := { stood := { row := changeDropsRow, standIns := [], harness := (true, "897ce41d144c35a31dab68c8899a528625e0e6303708f2f5003eb8a1880bffb8"), looks := true }, kinds := [], alts := [], laidByText := true, laidKinds := [.data, .handle, .sentinel, .pinned], laidTests := true, laidLooks := .later }
def ChangeDropsCardSaid : Prop := Claim7.holds Tryz.pinned (.plain (OpenSpec.ofChange changeDropsSpec)) changeDropsCard

/-- THE TIED CARD OF 'flagstonelaw08.ChangeRight'. -/
def changeRightCard : Claim7 := { stood := { row := changeRightRow, standIns := [], harness := (true, "897ce41d144c35a31dab68c8899a528625e0e6303708f2f5003eb8a1880bffb8"), looks := true }, kinds := [], alts := [], laidByText := true, laidKinds := [.data, .handle, .sentinel, .pinned], laidTests := true, laidLooks := .later }
def ChangeRightCardSaid : Prop := Claim7.holds Tryz.pinned (.plain (OpenSpec.ofChange changeRightSpec)) changeRightCard

/-- THE SECOND FORM's CARD OF 'flagstonelaw08.ChangeRenames'. -/
def changeRenamesUptoCard : Claim7 := { stood := { row := changeRenamesUptoRow, standIns := [], harness := (true, "897ce41d144c35a31dab68c8899a528625e0e6303708f2f5003eb8a1880bffb8"), looks := true }, kinds := [], alts := [], laidByText := true, laidKinds := [.data, .handle, .sentinel, .pinned], laidTests := true, laidLooks := .later }
def ChangeRenamesUptoCardSaid : Prop := Claim7.holds Tryz.pinned (.plain (OpenSpec.upto changeRenamesSpec)) changeRenamesUptoCard

/-- THE SECOND FORM's CARD OF 'flagstonelaw08.ChangeBack'. -/
def changeBackUptoCard : Claim7 := { stood := { row := changeBackUptoRow, standIns := [], harness := (true, "897ce41d144c35a31dab68c8899a528625e0e6303708f2f5003eb8a1880bffb8"), looks := true }, kinds := [], alts := [], laidByText := true, laidKinds := [.data, .handle, .sentinel, .pinned], laidTests := true, laidLooks := .later }
def ChangeBackUptoCardSaid : Prop := Claim7.holds Tryz.pinned (.plain (OpenSpec.upto changeBackSpec)) changeBackUptoCard

/-- THE SECOND FORM's CARD OF 'flagstonelaw08.ChangeThere'. -/
def changeThereUptoCard : Claim7 := { stood := { row := changeThereUptoRow, standIns := [], harness := (true, "897ce41d144c35a31dab68c8899a528625e0e6303708f2f5003eb8a1880bffb8"), looks := true }, kinds := [], alts := [], laidByText := true, laidKinds := [.data, .handle, .sentinel, .pinned], laidTests := true, laidLooks := .later }
def ChangeThereUptoCardSaid : Prop := Claim7.holds Tryz.pinned (.plain (OpenSpec.upto changeThereSpec)) changeThereUptoCard

/-- THE SECOND FORM's CARD OF 'flagstonelaw08.ChangeMoves'. -/
def changeMovesUptoCard : Claim7 := { stood := { row := changeMovesUptoRow, standIns := [], harness := (true, "897ce41d144c35a31dab68c8899a528625e0e6303708f2f5003eb8a1880bffb8"), looks := true }, kinds := [], alts := [], laidByText := true, laidKinds := [.data, .handle, .sentinel, .pinned], laidTests := true, laidLooks := .later }
def ChangeMovesUptoCardSaid : Prop := Claim7.holds Tryz.pinned (.plain (OpenSpec.upto changeMovesSpec)) changeMovesUptoCard

/-- THE SECOND FORM's CARD OF 'flagstonelaw08.ChangeEnters'. -/
def changeEntersUptoCard : Claim7 := { stood := { row := changeEntersUptoRow, standIns := [], harness := (true, "897ce41d144c35a31dab68c8899a528625e0e6303708f2f5003eb8a1880bffb8"), looks := true }, kinds := [], alts := [], laidByText := true, laidKinds := [.data, .handle, .sentinel, .pinned], laidTests := true, laidLooks := .later }
def ChangeEntersUptoCardSaid : Prop := Claim7.holds Tryz.pinned (.plain (OpenSpec.upto changeEntersSpec)) changeEntersUptoCard

/-- THE SECOND FORM's CARD OF 'flagstonelaw08.ChangeDrops'. -/
def changeDropsUptoCard : Claim7 := { stood := { row := changeDropsUptoRow, standIns := [], harness := (true, "897ce41d144c35a31dab68c8899a528625e0e6303708f2f5003eb8a1880bffb8"), looks := true }, kinds := [], alts := [], laidByText := true, laidKinds := [.data, .handle, .sentinel, .pinned], laidTests := true, laidLooks := .later }
def ChangeDropsUptoCardSaid : Prop := Claim7.holds Tryz.pinned (.plain (OpenSpec.upto changeDropsSpec)) changeDropsUptoCard

/-- THE SECOND FORM's CARD OF 'flagstonelaw08.ChangeRight'. -/
def changeRightUptoCard : Claim7 := { stood := { row := changeRightUptoRow, standIns := [], harness := (true, "897ce41d144c35a31dab68c8899a528625e0e6303708f2f5003eb8a1880bffb8"), looks := true }, kinds := [], alts := [], laidByText := true, laidKinds := [.data, .handle, .sentinel, .pinned], laidTests := true, laidLooks := .later }
def ChangeRightUptoCardSaid : Prop := Claim7.holds Tryz.pinned (.plain (OpenSpec.upto changeRightSpec)) changeRightUptoCard
end Rows
end Go.Proofs.YtpfbimkpcnnfkaaGreatDoor
