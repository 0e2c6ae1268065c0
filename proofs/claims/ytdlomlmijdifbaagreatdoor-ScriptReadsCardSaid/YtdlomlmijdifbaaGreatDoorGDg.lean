/- Own texts, packed: C1T, C2T, C3T, C4T. -/
import Derived.Test.YtdlomlmijdifbaaGreatDoorGXg
import Derived.Test.YtdlomlmijdifbaaGreatDoorGCg
import Derived.Test.YtdlomlmijdifbaaGreatDoorGBg
set_option linter.unusedVariables false
set_option linter.unusedSimpArgs false
set_option maxHeartbeats 2000000
namespace Go.Proofs.YtdlomlmijdifbaaGreatDoor
open Go Go.V
end Go.Proofs.YtdlomlmijdifbaaGreatDoor
