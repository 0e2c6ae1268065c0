/- Own texts, packed: T1, T2, T3, T4. -/
import Derived.Test.YtdlomlmijdifbaaGreatDoorGCg
import Derived.Test.YtdlomlmijdifbaaGreatDoorGNg
import Derived.Test.YtdlomlmijdifbaaGreatDoorGYg
import Derived.Test.YtdlomlmijdifbaaGreatDoorGZg
import Derived.Laws.Externs
import Derived.Lib.Overlaps
import Derived.Laws.Small
set_option linter.unusedVariables false
set_option linter.unusedSimpArgs false
set_option maxHeartbeats 4000000
set_option maxRecDepth 100000
namespace Go.Proofs.YtdlomlmijdifbaaGreatDoor
open Go Go.V Go.RowKit
end Go.Proofs.YtdlomlmijdifbaaGreatDoor
