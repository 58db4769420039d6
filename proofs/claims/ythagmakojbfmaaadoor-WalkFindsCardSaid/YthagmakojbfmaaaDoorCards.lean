/-
  DERIVED. GIVEN WITH THE SEED: THE CARDS: each row of YthagmakojbfmaaaDoorRows.lean that lists a variable, with what it lists TIED to the program's text (the seventh form; the later family's looks); each row that meets fmt, with fmt's text TOLD by the authors' own Lean function (tested against real Go, not proved from fmt's source: count such statements apart). THE CARD IS WHAT COUNTS. Prove the row's statement (the work); the ties are given (YthagmakojbfmaaaDoorTie.lean); close each card by the builder's one call (the guide's Derived/Test/ToyasCard.lean, 'card_holds'). Laid BY PROGRAM, IN A SANDBOX (cutbox-door.mjs). By AI agents, Wed Nov 11 2026. No macro, syntax, notation, axiom, sorry.
-/
import Derived.Test.YthagmakojbfmaaaDoorRows
import GoSem.ClaimSeven
namespace Go.Proofs.YthagmakojbfmaaaDoor
namespace Rows

/-- THE TIED CARD OF 'flagstonelaw07.WalkFinds'. -/
def walkFindsCard : Claim7 := { stood := { row := walkFindsRow, standIns := [], harness := (true, "d8d4a3e341ed76007721aa419c6e38f76a98d20fb19507108ce4e5856d665ffe"), looks := true }, kinds := [], alts := [], laidByText := true, laidKinds := [.data, .handle, .pinned], laidTests := true, laidLooks := .later }
def WalkFindsCardSaid : Prop := Claim7.holds Tryd.pinned (.plain (OpenSpec.ofChange walkFindsSpec)) walkFindsCard

/-- THE TIED CARD OF 'flagstonelaw07.WalkJoins'. -/
def walkJoinsCard : Claim7 := { stood := { row := walkJoinsRow, standIns := [], harness := (true, "d8d4a3e341ed76007721aa419c6e38f76a98d20fb19507108ce4e5856d665ffe"), looks := true }, kinds := [], alts := [], laidByText := true, laidKinds := [.data, .handle, .pinned], laidTests := true, laidLooks := .later }
def WalkJoinsCardSaid : Prop := Claim7.holds Tryd.pinned (.plain (OpenSpec.ofChange walkJoinsSpec)) walkJoinsCard

/-- THE TIED CARD OF 'flagstonelaw07.WalkRoot'. -/
def walkRootCard : Claim7 := { stood := { row := walkRootRow, standIns := [], harness := (true, "d8d4a3e341ed76007721aa419c6e38f76a98d20fb19507108ce4e5856d665ffe"), looks := true }, kinds := [], alts := [], laidByText := true, laidKinds := [.data, .handle, .pinned], laidTests := true, laidLooks := .later }
def WalkRootCardSaid : Prop := Claim7.holds Tryd.pinned (.plain (OpenSpec.ofChange walkRootSpec)) walkRootCard

/-- THE TIED CARD OF 'flagstonelaw07.WalkSuper'. -/
def walkSuperCard : Claim7 := { stood := { row := walkSuperRow, standIns := [], harness := (true, "d8d4a3e341ed76007721aa419c6e38f76a98d20fb19507108ce4e5856d665ffe"), looks := true }, kinds := [], alts := [], laidByText := true, laidKinds := [.data, .handle, .pinned], laidTests := true, laidLooks := .later }
def WalkSuperCardSaid : Prop := Claim7.holds Tryd.pinned (.plain (OpenSpec.ofChange walkSuperSpec)) walkSuperCard

/-- THE TIED CARD OF 'flagstonelaw07.WalkLast'. -/
def walkLastCard : Claim7 := { stood := { row := walkLastRow, standIns := [], harness := (true, "d8d4a3e341ed76007721aa419c6e38f76a98d20fb19507108ce4e5856d665ffe"), looks := true }, kinds := [], alts := [], laidByText := true, laidKinds := [.data, .handle, .pinned], laidTests := true, laidLooks := .later }
def WalkLastCardSaid : Prop := Claim7.holds Tryd.pinned (.plain (OpenSpec.ofChange walkLastSpec)) walkLastCard

/-- THE TIED CARD OF 'flagstonelaw07.WalkSpot'. -/
def walkSpotCard : Claim7 := { stood := { row := walkSpotRow, standIns := [], harness := (true, "d8d4a3e341ed76007721aa419c6e38f76a98d20fb19507108ce4e5856d665ffe"), looks := true }, kinds := [], alts := [], laidByText := true, laidKinds := [.data, .handle, .pinned], laidTests := true, laidLooks := .later }
def WalkSpotCardSaid : Prop := Claim7.holds Tryd.pinned (.plain (OpenSpec.ofChange walkSpotSpec)) walkSpotCard

/-- THE TIED CARD OF 'flagstonelaw07.WalkSlash'. -/
def walkSlashCard : Claim7 := { stood := { row := walkSlashRow, standIns := [], harness := (true, "d8d4a3e341ed76007721aa419c6e38f76a98d20fb19507108ce4e5856d665ffe"), looks := true }, kinds := [], alts := [], laidByText := true, laidKinds := [.data, .handle, .pinned], laidTests := true, laidLooks := .later }
def WalkSlashCardSaid : Prop := Claim7.holds Tryd.pinned (.plain (OpenSpec.ofChange walkSlashSpec)) walkSlashCard

/-- THE SECOND FORM's CARD OF 'flagstonelaw07.WalkFinds'. -/
def walkFindsUptoCard : Claim7 := { stood := { row := walkFindsUptoRow, standIns := [], harness := (true, "d8d4a3e341ed76007721aa419c6e38f76a98d20fb19507108ce4e5856d665ffe"), looks := true }, kinds := [], alts := [], laidByText := true, laidKinds := [.data, .handle, .pinned], laidTests := true, laidLooks := .later }
def WalkFindsUptoCardSaid : Prop := Claim7.holds Tryd.pinned (.plain (OpenSpec.upto walkFindsSpec)) walkFindsUptoCard

/-- THE SECOND FORM's CARD OF 'flagstonelaw07.WalkJoins'. -/
def walkJoinsUptoCard : Claim7 := { stood := { row := walkJoinsUptoRow, standIns := [], harness := (true, "d8d4a3e341ed76007721aa419c6e38f76a98d20fb19507108ce4e5856d665ffe"), looks := true }, kinds := [], alts := [], laidByText := true, laidKinds := [.data, .handle, .pinned], laidTests := true, laidLooks := .later }
def WalkJoinsUptoCardSaid : Prop := Claim7.holds Tryd.pinned (.plain (OpenSpec.upto walkJoinsSpec)) walkJoinsUptoCard

/-- THE SECOND FORM's CARD OF 'flagstonelaw07.WalkRoot'. -/
def walkRootUptoCard : Claim7 := { stood := { row := walkRootUptoRow, standIns := [], harness := (true, "d8d4a3e341ed76007721aa419c6e38f76a98d20fb19507108ce4e5856d665ffe"), looks := true }, kinds := [], alts := [], laidByText := true, laidKinds := [.data, .handle, .pinned], laidTests := true, laidLooks := .later }
def WalkRootUptoCardSaid : Prop := Claim7.holds Tryd.pinned (.plain (OpenSpec.upto walkRootSpec)) walkRootUptoCard

/-- THE SECOND FORM's CARD OF 'flagstonelaw07.WalkSuper'. -/
def walkSuperUptoCard : Claim7 := { stood := { row := walkSuperUptoRow, standIns := [], harness := (true, "d8d4a3e341ed76007721aa419c6e38f76a98d20fb19507108ce4e5856d665ffe"), looks := true }, kinds := [], alts := [], laidByText := true, laidKinds := [.data, .handle, .pinned], laidTests := true, laidLooks := .later }
def WalkSuperUptoCardSaid : Prop := Claim7.holds Tryd.pinned (.plain (OpenSpec.upto walkSuperSpec)) walkSuperUptoCard

/-- THE SECOND FORM's CARD OF 'flagstonelaw07.WalkLast'. -/
def walkLastUptoCard : Claim7 := { stood := { row := walkLastUptoRow, standIns := [], harness := (true, "d8d4a3e341ed76007721aa419c6e38f76a98d20fb19507108ce4e5856d665ffe"), looks := true }, kinds := [], alts := [], laidByText := true, laidKinds := [.data, .handle, .pinned], laidTests := true, laidLooks := .later }
def WalkLastUptoCardSaid : Prop := Claim7.holds Tryd.pinned (.plain (OpenSpec.upto walkLastSpec)) walkLastUptoCard

/-- THE SECOND FORM's CARD OF 'flagstonelaw07.WalkSpot'. -/
def walkSpotUptoCard : Claim7 := { stood := { row := walkSpotUptoRow, standIns := [], harness := (true, "d8d4a3e341ed76007721aa419c6e38f76a98d20fb19507108ce4e5856d665ffe"), looks := true }, kinds := [], alts := [], laidByText := true, laidKinds := [.data, .handle, .pinned], laidTests := true, laidLooks := .later }
def WalkSpotUptoCardSaid : Prop := Claim7.holds Tryd.pinned (.plain (OpenSpec.upto walkSpotSpec)) walkSpotUptoCard

/-- THE SECOND FORM's CARD OF 'flagstonelaw07.WalkSlash'. -/
def walkSlashUptoCard : Claim7 := { stood := { row := walkSlashUptoRow, standIns := [], harness := (true, "d8d4a3e341ed76007721aa419c6e38f76a98d20fb19507108ce4e5856d665ffe"), looks := true }, kinds := [], alts := [], laidByText := true, laidKinds := [.data, .handle, .pinned], laidTests := true, laidLooks := .later }
def WalkSlashUptoCardSaid : Prop := Claim7.holds Tryd.pinned (.plain (OpenSpec.upto walkSlashSpec)) walkSlashUptoCard
end Rows
end Go.Proofs.YthagmakojbfmaaaDoor
