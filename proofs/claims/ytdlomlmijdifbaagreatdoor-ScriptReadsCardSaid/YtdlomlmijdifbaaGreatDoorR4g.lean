/- Rows of laws: numbers of 32 and 64 bits; rows of elements of several cells. -/
import Derived.Test.YtdlomlmijdifbaaGreatDoorR2g
import Derived.Test.YtdlomlmijdifbaaGreatDoorGCg
import Derived.Lib.SmallJoins
import Derived.Deep.Slices
import Derived.Deep.Strs
set_option linter.unusedVariables false
set_option linter.unusedSimpArgs false
set_option maxRecDepth 100000
namespace Go.Proofs.YtdlomlmijdifbaaGreatDoor
open Go Go.V Go.ChangeShapes Go.WideShapes Go.ChangeAt Go.RowKit
end Go.Proofs.YtdlomlmijdifbaaGreatDoor
