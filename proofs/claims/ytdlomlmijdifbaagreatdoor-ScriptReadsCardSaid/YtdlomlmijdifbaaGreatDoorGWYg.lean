/- The verification conditions of some functions, printed by program (gv.py); each is checked against the given form by the kernel. -/
import Derived.Test.YtdlomlmijdifbaaGreatDoorTg
set_option maxRecDepth 100000
set_option linter.unusedVariables false
namespace Go.Proofs.YtdlomlmijdifbaaGreatDoor
open Go Go.V Go.World
end Go.Proofs.YtdlomlmijdifbaaGreatDoor
