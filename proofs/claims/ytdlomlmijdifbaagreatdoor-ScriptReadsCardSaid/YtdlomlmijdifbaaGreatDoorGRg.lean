/- Own texts, packed: U8, U9, U10. -/
import Derived.Test.YtdlomlmijdifbaaGreatDoorGOg
import Derived.Test.YtdlomlmijdifbaaGreatDoorGPg
import Derived.Test.YtdlomlmijdifbaaGreatDoorGQg
import Derived.Test.YtdlomlmijdifbaaGreatDoorGYg
set_option linter.unusedVariables false
set_option linter.unusedSimpArgs false
set_option maxHeartbeats 4000000
set_option maxRecDepth 100000
namespace Go.Proofs.YtdlomlmijdifbaaGreatDoor
open Go Go.V Go.RowKit
end Go.Proofs.YtdlomlmijdifbaaGreatDoor
