/- Own texts, packed: D1, D2, D3, D4, D5, E0, E1, E2, E3, E4. -/
import Derived.Test.YtpfkpmapimonbaaGXg
import Derived.Test.YtpfkpmapimonbaaGDg
import Derived.Test.YtpfkpmapimonbaaGCg
import Derived.Test.YtpfkpmapimonbaaGBg
import Derived.KernelRfl

/-! merge: items in memory; many, the comparison, the list of coins. -/
namespace Go.Proofs.Ytpfkpmapimonbaa
open Go Go.V Go.RowKit
set_option linter.unusedVariables false
set_option linter.unusedSimpArgs false
set_option maxHeartbeats 2000000

end Go.Proofs.Ytpfkpmapimonbaa

/-! merge: packed, add, Lengths: what they compute. -/
namespace Go.Proofs.Ytpfkpmapimonbaa
open Go Go.V Go.RowKit
set_option linter.unusedVariables false
set_option linter.unusedSimpArgs false
set_option maxHeartbeats 2000000

end Go.Proofs.Ytpfkpmapimonbaa

/-! merge: add and Lengths: what they compute. -/
namespace Go.Proofs.Ytpfkpmapimonbaa
open Go Go.V Go.RowKit
set_option linter.unusedVariables false
set_option linter.unusedSimpArgs false
set_option maxHeartbeats 2000000

abbrev ints (xs : List Int) : List Value := xs.map (Value.int .i64)

end Go.Proofs.Ytpfkpmapimonbaa

/-! archipelagohelp.Ints, merge.Kraft, merge.Cost, archipelagolaw5.known: what they compute. -/
namespace Go.Proofs.Ytpfkpmapimonbaa
open Go Go.V Go.RowKit
set_option linter.unusedVariables false
set_option linter.unusedSimpArgs false
set_option maxHeartbeats 2000000
set_option maxRecDepth 100000

end Go.Proofs.Ytpfkpmapimonbaa

/-! archipelagolaw5.counts: what it makes; bools unlike; what the laws share. -/
namespace Go.Proofs.Ytpfkpmapimonbaa
open Go Go.V Go.RowKit
set_option linter.unusedVariables false
set_option linter.unusedSimpArgs false
set_option maxHeartbeats 2000000
set_option maxRecDepth 100000

def cnt5 (x : Int) : List Int := [x, x % 3, (x % 2) * 1000, 2 ^ (x % 40).toNat, x * x]
def cnt (k x : Int) : Int := (cnt5 x).getD ((k + x % 7) % 5).toNat 0
end Go.Proofs.Ytpfkpmapimonbaa

/-! archipelagoref5: clamp, Cost, Kraft: what they compute. -/
namespace Go.Proofs.Ytpfkpmapimonbaa
open Go Go.V Go.RowKit
set_option linter.unusedVariables false
set_option linter.unusedSimpArgs false
set_option maxHeartbeats 2000000
set_option maxRecDepth 100000

end Go.Proofs.Ytpfkpmapimonbaa

/-! archipelagoref5: coins in memory; merged: what it computes. -/
namespace Go.Proofs.Ytpfkpmapimonbaa
open Go Go.V Go.RowKit
set_option linter.unusedVariables false
set_option linter.unusedSimpArgs false
set_option maxHeartbeats 2000000
set_option maxRecDepth 100000

end Go.Proofs.Ytpfkpmapimonbaa

/-! archipelagoref5.merged: what it computes. -/
namespace Go.Proofs.Ytpfkpmapimonbaa
open Go Go.V Go.RowKit
set_option linter.unusedVariables false
set_option linter.unusedSimpArgs false
set_option maxHeartbeats 4000000
set_option maxRecDepth 100000

end Go.Proofs.Ytpfkpmapimonbaa

/-! archipelagoref5.Lengths: what it computes. -/
namespace Go.Proofs.Ytpfkpmapimonbaa
open Go Go.V Go.RowKit
set_option linter.unusedVariables false
set_option linter.unusedSimpArgs false
set_option maxHeartbeats 4000000
set_option maxRecDepth 100000

end Go.Proofs.Ytpfkpmapimonbaa

/-! archipelagoref5.Lengths: the walk. -/
namespace Go.Proofs.Ytpfkpmapimonbaa
open Go Go.V Go.RowKit
set_option linter.unusedVariables false
set_option linter.unusedSimpArgs false
set_option maxHeartbeats 4000000
set_option maxRecDepth 100000

end Go.Proofs.Ytpfkpmapimonbaa
