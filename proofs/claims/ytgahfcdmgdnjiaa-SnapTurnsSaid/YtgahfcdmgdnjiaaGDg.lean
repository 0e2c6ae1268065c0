/- Own texts, packed: C1T, C2T, C3T, C4T. -/
import Derived.Test.YtgahfcdmgdnjiaaGXg
import Derived.Test.YtgahfcdmgdnjiaaGCg
import Derived.Test.YtgahfcdmgdnjiaaGBg

/-! slices: swapRange, rotate (the members pointers): what they leave. -/
namespace Go.Proofs.Ytgahfcdmgdnjiaa
open Go Go.V
set_option linter.unusedVariables false
set_option linter.unusedSimpArgs false

end Go.Proofs.Ytgahfcdmgdnjiaa

/-! slices: insertionSort (the members pointers): what it leaves. -/
namespace Go.Proofs.Ytgahfcdmgdnjiaa
open Go Go.V
set_option linter.unusedVariables false
set_option linter.unusedSimpArgs false

end Go.Proofs.Ytgahfcdmgdnjiaa

/-! slices: symMerge (the members pointers): what it leaves. -/
namespace Go.Proofs.Ytgahfcdmgdnjiaa
open Go Go.V
set_option linter.unusedVariables false
set_option linter.unusedSimpArgs false
set_option maxHeartbeats 2000000

end Go.Proofs.Ytgahfcdmgdnjiaa

/-! slices: SortStableFunc (the members pointers): what it leaves is the row in order. -/
namespace Go.Proofs.Ytgahfcdmgdnjiaa
open Go Go.V
set_option linter.unusedVariables false
set_option linter.unusedSimpArgs false
set_option maxHeartbeats 2000000

end Go.Proofs.Ytgahfcdmgdnjiaa
