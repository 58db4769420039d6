/-
  DERIVED. GIVEN WITH THE SEED: THE CARDS: each row of YtmjhlddlhicofaaDoorRows.lean that lists a variable, with what it lists TIED to the program's text (the seventh form; the later family's looks); each row that meets fmt, with fmt's text TOLD by the authors' own Lean function (tested against real Go, not proved from fmt's source: count such statements apart). THE CARD IS WHAT COUNTS. Prove the row's statement (the work); the ties are given (YtmjhlddlhicofaaDoorTie.lean); close each card by the builder's one call (the guide's Derived/Test/ToyasCard.lean, 'card_holds'). Laid BY PROGRAM, IN A SANDBOX (cutbox-door.mjs). By AI agents, Wed Nov 11 2026. No macro, syntax, notation, axiom, sorry.
-/
import Derived.Test.YtmjhlddlhicofaaDoorRows
import GoSem.ClaimSeven
namespace Go.Proofs.YtmjhlddlhicofaaDoor
namespace Rows

/-- THE TIED CARD OF 'flagstonelaw01.RouteNames'. -/
def routeNamesCard : Claim7 := { stood := { row := routeNamesRow, standIns := [], harness := (true, "81dd8ea423075e779be746ba31cf7d6154165bcb185a335c93868ce81670b045"), looks := false }, kinds := [], alts := [], laidByText := true, laidKinds := [.data, .pinned], laidTests := true, laidLooks := .later }
def RouteNamesCardSaid : Prop := Claim7.holds Tryd.pinned (.plain (OpenSpec.ofChange routeNamesSpec)) routeNamesCard

/-- THE TIED CARD OF 'flagstonelaw01.RouteBack'. -/
def routeBackCard : Claim7 := { stood := { row := routeBackRow, standIns := [], harness := (true, "81dd8ea423075e779be746ba31cf7d6154165bcb185a335c93868ce81670b045"), looks := false }, kinds := [], alts := [], laidByText := true, laidKinds := [.data, .pinned], laidTests := true, laidLooks := .later }
def RouteBackCardSaid : Prop := Claim7.holds Tryd.pinned (.plain (OpenSpec.ofChange routeBackSpec)) routeBackCard

/-- THE TIED CARD OF 'flagstonelaw01.RouteUps'. -/
def routeUpsCard : Claim7 := { stood := { row := routeUpsRow, standIns := [], harness := (true, "81dd8ea423075e779be746ba31cf7d6154165bcb185a335c93868ce81670b045"), looks := false }, kinds := [], alts := [], laidByText := true, laidKinds := [.data, .pinned], laidTests := true, laidLooks := .later }
def RouteUpsCardSaid : Prop := Claim7.holds Tryd.pinned (.plain (OpenSpec.ofChange routeUpsSpec)) routeUpsCard

/-- THE TIED CARD OF 'flagstonelaw01.RouteSlashes'. -/
def routeSlashesCard : Claim7 := { stood := { row := routeSlashesRow, standIns := [], harness := (true, "81dd8ea423075e779be746ba31cf7d6154165bcb185a335c93868ce81670b045"), looks := false }, kinds := [], alts := [], laidByText := true, laidKinds := [.data, .pinned], laidTests := true, laidLooks := .later }
def RouteSlashesCardSaid : Prop := Claim7.holds Tryd.pinned (.plain (OpenSpec.ofChange routeSlashesSpec)) routeSlashesCard

/-- THE TIED CARD OF 'flagstonelaw01.RouteJoins'. -/
def routeJoinsCard : Claim7 := { stood := { row := routeJoinsRow, standIns := [], harness := (true, "81dd8ea423075e779be746ba31cf7d6154165bcb185a335c93868ce81670b045"), looks := false }, kinds := [], alts := [], laidByText := true, laidKinds := [.data, .pinned], laidTests := true, laidLooks := .later }
def RouteJoinsCardSaid : Prop := Claim7.holds Tryd.pinned (.plain (OpenSpec.ofChange routeJoinsSpec)) routeJoinsCard

/-- THE SECOND FORM's CARD OF 'flagstonelaw01.RouteNames'. -/
def routeNamesUptoCard : Claim7 := { stood := { row := routeNamesUptoRow, standIns := [], harness := (true, "81dd8ea423075e779be746ba31cf7d6154165bcb185a335c93868ce81670b045"), looks := false }, kinds := [], alts := [], laidByText := true, laidKinds := [.data, .pinned], laidTests := true, laidLooks := .later }
def RouteNamesUptoCardSaid : Prop := Claim7.holds Tryd.pinned (.plain (OpenSpec.upto routeNamesSpec)) routeNamesUptoCard

/-- THE SECOND FORM's CARD OF 'flagstonelaw01.RouteBack'. -/
def routeBackUptoCard : Claim7 := { stood := { row := routeBackUptoRow, standIns := [], harness := (true, "81dd8ea423075e779be746ba31cf7d6154165bcb185a335c93868ce81670b045"), looks := false }, kinds := [], alts := [], laidByText := true, laidKinds := [.data, .pinned], laidTests := true, laidLooks := .later }
def RouteBackUptoCardSaid : Prop := Claim7.holds Tryd.pinned (.plain (OpenSpec.upto routeBackSpec)) routeBackUptoCard

/-- THE SECOND FORM's CARD OF 'flagstonelaw01.RouteUps'. -/
def routeUpsUptoCard : Claim7 := { stood := { row := routeUpsUptoRow, standIns := [], harness := (true, "81dd8ea423075e779be746ba31cf7d6154165bcb185a335c93868ce81670b045"), looks := false }, kinds := [], alts := [], laidByText := true, laidKinds := [.data, .pinned], laidTests := true, laidLooks := .later }
def RouteUpsUptoCardSaid : Prop := Claim7.holds Tryd.pinned (.plain (OpenSpec.upto routeUpsSpec)) routeUpsUptoCard

/-- THE SECOND FORM's CARD OF 'flagstonelaw01.RouteSlashes'. -/
def routeSlashesUptoCard : Claim7 := { stood := { row := routeSlashesUptoRow, standIns := [], harness := (true, "81dd8ea423075e779be746ba31cf7d6154165bcb185a335c93868ce81670b045"), looks := false }, kinds := [], alts := [], laidByText := true, laidKinds := [.data, .pinned], laidTests := true, laidLooks := .later }
def RouteSlashesUptoCardSaid : Prop := Claim7.holds Tryd.pinned (.plain (OpenSpec.upto routeSlashesSpec)) routeSlashesUptoCard

/-- THE SECOND FORM's CARD OF 'flagstonelaw01.RouteJoins'. -/
def routeJoinsUptoCard : Claim7 := { stood := { row := routeJoinsUptoRow, standIns := [], harness := (true, "81dd8ea423075e779be746ba31cf7d6154165bcb185a335c93868ce81670b045"), looks := false }, kinds := [], alts := [], laidByText := true, laidKinds := [.data, .pinned], laidTests := true, laidLooks := .later }
def RouteJoinsUptoCardSaid : Prop := Claim7.holds Tryd.pinned (.plain (OpenSpec.upto routeJoinsSpec)) routeJoinsUptoCard
end Rows
end Go.Proofs.YtmjhlddlhicofaaDoor
