/- Own texts, packed: C1I, C2I, C3I, C4I. -/
import Derived.Test.YtdlomlmijdifbaaGreatDoorGXg
import Derived.Test.YtdlomlmijdifbaaGreatDoorGCg
import Derived.Test.YtdlomlmijdifbaaGreatDoorGBg
set_option linter.unusedVariables false
set_option linter.unusedSimpArgs false
set_option maxHeartbeats 2000000
namespace Go.Proofs.YtdlomlmijdifbaaGreatDoor
open Go Go.V
end Go.Proofs.YtdlomlmijdifbaaGreatDoor
