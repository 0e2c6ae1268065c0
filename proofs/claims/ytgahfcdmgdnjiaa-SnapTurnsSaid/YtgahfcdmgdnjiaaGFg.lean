/- Own texts, packed: D1, D2, D3, D4, D5, E0, E1, E2, E3, E4. -/
import Derived.Test.YtgahfcdmgdnjiaaGXg
import Derived.Test.YtgahfcdmgdnjiaaGDg
import Derived.Test.YtgahfcdmgdnjiaaGCg
import Derived.Test.YtgahfcdmgdnjiaaGBg
import Derived.KernelRfl

/-! merge: items in memory; many, the comparison, the list of coins. -/
namespace Go.Proofs.Ytgahfcdmgdnjiaa
open Go Go.V Go.RowKit
set_option linter.unusedVariables false
set_option linter.unusedSimpArgs false
set_option maxHeartbeats 2000000

end Go.Proofs.Ytgahfcdmgdnjiaa

/-! merge: packed, add, Lengths: what they compute. -/
namespace Go.Proofs.Ytgahfcdmgdnjiaa
open Go Go.V Go.RowKit
set_option linter.unusedVariables false
set_option linter.unusedSimpArgs false
set_option maxHeartbeats 2000000

end Go.Proofs.Ytgahfcdmgdnjiaa

/-! merge: add and Lengths: what they compute. -/
namespace Go.Proofs.Ytgahfcdmgdnjiaa
open Go Go.V Go.RowKit
set_option linter.unusedVariables false
set_option linter.unusedSimpArgs false
set_option maxHeartbeats 2000000

abbrev ints (xs : List Int) : List Value := xs.map (Value.int .i64)

end Go.Proofs.Ytgahfcdmgdnjiaa

/-! archipelagohelp.Ints, merge.Kraft, merge.Cost, archipelagolaw5.known: what they compute. -/
namespace Go.Proofs.Ytgahfcdmgdnjiaa
open Go Go.V Go.RowKit
set_option linter.unusedVariables false
set_option linter.unusedSimpArgs false
set_option maxHeartbeats 2000000
set_option maxRecDepth 100000

theorem row_alloc (w : World) (cs : Array Value) (t : TypeId) : Row (w.alloc (.cells cs t)) (some ⟨w.heap.size, 0, none⟩) cs.toList := by
  intro j u hj
  refine ⟨_, rfl, ?_⟩
  rw [add_lit, World.cell?_alloc_new]
  simpa using hj

end Go.Proofs.Ytgahfcdmgdnjiaa

/-! archipelagolaw5.counts: what it makes; bools unlike; what the laws share. -/
namespace Go.Proofs.Ytgahfcdmgdnjiaa
open Go Go.V Go.RowKit
set_option linter.unusedVariables false
set_option linter.unusedSimpArgs false
set_option maxHeartbeats 2000000
set_option maxRecDepth 100000

end Go.Proofs.Ytgahfcdmgdnjiaa

/-! archipelagoref5: clamp, Cost, Kraft: what they compute. -/
namespace Go.Proofs.Ytgahfcdmgdnjiaa
open Go Go.V Go.RowKit
set_option linter.unusedVariables false
set_option linter.unusedSimpArgs false
set_option maxHeartbeats 2000000
set_option maxRecDepth 100000

end Go.Proofs.Ytgahfcdmgdnjiaa

/-! archipelagoref5: coins in memory; merged: what it computes. -/
namespace Go.Proofs.Ytgahfcdmgdnjiaa
open Go Go.V Go.RowKit
set_option linter.unusedVariables false
set_option linter.unusedSimpArgs false
set_option maxHeartbeats 2000000
set_option maxRecDepth 100000

end Go.Proofs.Ytgahfcdmgdnjiaa

/-! archipelagoref5.merged: what it computes. -/
namespace Go.Proofs.Ytgahfcdmgdnjiaa
open Go Go.V Go.RowKit
set_option linter.unusedVariables false
set_option linter.unusedSimpArgs false
set_option maxHeartbeats 4000000
set_option maxRecDepth 100000

end Go.Proofs.Ytgahfcdmgdnjiaa

/-! archipelagoref5.Lengths: what it computes. -/
namespace Go.Proofs.Ytgahfcdmgdnjiaa
open Go Go.V Go.RowKit
set_option linter.unusedVariables false
set_option linter.unusedSimpArgs false
set_option maxHeartbeats 4000000
set_option maxRecDepth 100000

end Go.Proofs.Ytgahfcdmgdnjiaa

/-! archipelagoref5.Lengths: the walk. -/
namespace Go.Proofs.Ytgahfcdmgdnjiaa
open Go Go.V Go.RowKit
set_option linter.unusedVariables false
set_option linter.unusedSimpArgs false
set_option maxHeartbeats 4000000
set_option maxRecDepth 100000

end Go.Proofs.Ytgahfcdmgdnjiaa
