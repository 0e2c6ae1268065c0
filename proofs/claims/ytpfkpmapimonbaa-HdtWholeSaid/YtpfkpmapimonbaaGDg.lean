/- Own texts, packed: C1T, C2T, C3T, C4T. -/
import Derived.Test.YtpfkpmapimonbaaGXg
import Derived.Test.YtpfkpmapimonbaaGCg
import Derived.Test.YtpfkpmapimonbaaGBg

/-! slices: swapRange, rotate (the members pointers): what they leave. -/
namespace Go.Proofs.Ytpfkpmapimonbaa
open Go Go.V
set_option linter.unusedVariables false
set_option linter.unusedSimpArgs false

end Go.Proofs.Ytpfkpmapimonbaa

/-! slices: insertionSort (the members pointers): what it leaves. -/
namespace Go.Proofs.Ytpfkpmapimonbaa
open Go Go.V
set_option linter.unusedVariables false
set_option linter.unusedSimpArgs false

end Go.Proofs.Ytpfkpmapimonbaa

/-! slices: symMerge (the members pointers): what it leaves. -/
namespace Go.Proofs.Ytpfkpmapimonbaa
open Go Go.V
set_option linter.unusedVariables false
set_option linter.unusedSimpArgs false
set_option maxHeartbeats 2000000

end Go.Proofs.Ytpfkpmapimonbaa

/-! slices: SortStableFunc (the members pointers): what it leaves is the row in order. -/
namespace Go.Proofs.Ytpfkpmapimonbaa
open Go Go.V
set_option linter.unusedVariables false
set_option linter.unusedSimpArgs false
set_option maxHeartbeats 2000000

end Go.Proofs.Ytpfkpmapimonbaa
