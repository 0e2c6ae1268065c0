/- Own texts, packed: XO, XO2. -/
import Derived.Test.YtdlomlmijdifbaaGreatDoorTg
set_option maxRecDepth 100000
set_option linter.unusedVariables false
namespace Go.Proofs.YtdlomlmijdifbaaGreatDoor
open Go Go.V Go.World
end Go.Proofs.YtdlomlmijdifbaaGreatDoor
