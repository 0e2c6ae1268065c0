/- Own texts, packed: U1, U2, U3, U4, U5, U6, U7. -/
import Derived.Test.YtdlomlmijdifbaaGreatDoorGPg
import Derived.Test.YtdlomlmijdifbaaGreatDoorGOg
import Derived.Test.YtdlomlmijdifbaaGreatDoorGYg
import Derived.Test.YtdlomlmijdifbaaGreatDoorGZg
set_option linter.unusedVariables false
set_option linter.unusedSimpArgs false
set_option maxHeartbeats 4000000
set_option maxRecDepth 100000
namespace Go.Proofs.YtdlomlmijdifbaaGreatDoor
open Go Go.V Go.RowKit
end Go.Proofs.YtdlomlmijdifbaaGreatDoor
