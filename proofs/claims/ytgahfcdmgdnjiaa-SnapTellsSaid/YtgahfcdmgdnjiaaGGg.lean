/- Own texts, packed: B1, B2, B3, B4, B5. -/
import Derived.Test.YtgahfcdmgdnjiaaGCg
import Derived.Test.YtgahfcdmgdnjiaaGFg
import Derived.Test.YtgahfcdmgdnjiaaGXg
import Derived.Laws.IdiomStrings

/-! The writers of bits: what stands in memory; what Put, Bytes, Len do. -/
namespace Go.Proofs.Ytgahfcdmgdnjiaa
open Go Go.V Go.RowKit
set_option linter.unusedVariables false
set_option linter.unusedSimpArgs false
set_option maxHeartbeats 4000000
set_option maxRecDepth 100000

abbrev u8s (xs : List Int) : List Value := xs.map (Value.int .u8)
abbrev bools (xs : List Bool) : List Value := xs.map Value.bool

end Go.Proofs.Ytgahfcdmgdnjiaa

/-! The writers of bits, and rows cloned: contracts as they are used. -/
namespace Go.Proofs.Ytgahfcdmgdnjiaa
open Go Go.V Go.RowKit
set_option linter.unusedVariables false
set_option linter.unusedSimpArgs false
set_option maxHeartbeats 4000000
set_option maxRecDepth 100000

/-! ### The reference's writer -/
end Go.Proofs.Ytgahfcdmgdnjiaa

/-! The reader of bits: what stands in memory; what Take, Left do. -/
namespace Go.Proofs.Ytgahfcdmgdnjiaa
open Go Go.V Go.RowKit
set_option linter.unusedVariables false
set_option linter.unusedSimpArgs false
set_option maxHeartbeats 4000000
set_option maxRecDepth 100000

end Go.Proofs.Ytgahfcdmgdnjiaa

/-! The reference's reader of bits: what stands in memory; what Take, Left do. -/
namespace Go.Proofs.Ytgahfcdmgdnjiaa
open Go Go.V Go.RowKit
set_option linter.unusedVariables false
set_option linter.unusedSimpArgs false
set_option maxHeartbeats 4000000
set_option maxRecDepth 100000


end Go.Proofs.Ytgahfcdmgdnjiaa

/-! Bytes as strings, held against one another. -/
namespace Go.Proofs.Ytgahfcdmgdnjiaa
open Go Go.V Go.RowKit
set_option linter.unusedVariables false
set_option linter.unusedSimpArgs false
set_option maxRecDepth 100000

end Go.Proofs.Ytgahfcdmgdnjiaa
