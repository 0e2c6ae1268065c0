/- Own texts, packed: W15, W16, W17. -/
import Derived.Test.YtdlomlmijdifbaaGreatDoorGWCg
import Derived.Test.YtdlomlmijdifbaaGreatDoorGWXg
set_option linter.unusedVariables false
set_option linter.unusedSimpArgs false
set_option maxHeartbeats 8000000
set_option maxRecDepth 100000
namespace Go.Proofs.YtdlomlmijdifbaaGreatDoor
open Go Go.V Go.RowKit
end Go.Proofs.YtdlomlmijdifbaaGreatDoor
