/- Rows of slices whose room is asked for too. -/
import Derived.Test.YtpfkpmapimonbaaR1g
namespace Go.Proofs.Ytpfkpmapimonbaa
open Go Go.V Go.ChangeShapes Go.WideShapes Go.ChangeAt Go.RowKit
set_option linter.unusedVariables false
set_option maxRecDepth 100000

end Go.Proofs.Ytpfkpmapimonbaa
