/- Own texts, packed: W18, W19, W20. -/
import Derived.Test.YtdlomlmijdifbaaGreatDoorGWDg
import Derived.Test.YtdlomlmijdifbaaGreatDoorGWYg
set_option linter.unusedVariables false
set_option linter.unusedSimpArgs false
set_option maxHeartbeats 8000000
set_option maxRecDepth 100000
namespace Go.Proofs.YtdlomlmijdifbaaGreatDoor
open Go Go.V Go.RowKit
end Go.Proofs.YtdlomlmijdifbaaGreatDoor
