/- By Sx: the document's Walk, Node. -/
import Derived.Test.YtpfbimkpcnnfkaaGreatDoorSwL
set_option maxRecDepth 100000
set_option linter.unusedVariables false
set_option linter.unusedSimpArgs false
namespace Go.Proofs.YtpfbimkpcnnfkaaGreatDoor.Sx
open Go Go.RowKit Go.Proofs.YtpfbimkpcnnfkaaGreatDoor Go.Proofs.YtpfbimkpcnnfkaaGreatDoor.Ext
end Go.Proofs.YtpfbimkpcnnfkaaGreatDoor.Sx
