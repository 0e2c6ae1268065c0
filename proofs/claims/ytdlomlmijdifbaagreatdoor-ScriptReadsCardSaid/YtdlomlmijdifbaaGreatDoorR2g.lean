/- Rows of slices whose room is asked for too. -/
import Derived.Test.YtdlomlmijdifbaaGreatDoorR1g
set_option linter.unusedVariables false
set_option maxRecDepth 100000
namespace Go.Proofs.YtdlomlmijdifbaaGreatDoor
open Go Go.V Go.ChangeShapes Go.WideShapes Go.ChangeAt Go.RowKit
end Go.Proofs.YtdlomlmijdifbaaGreatDoor
