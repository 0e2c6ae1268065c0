/- Own texts, packed: Y1, Y2, Y3, Y4, Y5, Y6, Y7, Y8. -/
import Derived.Test.YtdlomlmijdifbaaGreatDoorGPg
import Derived.Test.YtdlomlmijdifbaaGreatDoorGWg
import Derived.Lib.ReflectliteSwap
import Derived.Laws.Externs
import Derived.Sort.LotD3
import Derived.Sort.LotA
import Derived.Sort.LotB
import Derived.Sort.LotC
import Derived.Test.YtdlomlmijdifbaaGreatDoorGQg
import Derived.Sort.Lot0
import Derived.Lib.ReflectliteSlice
set_option linter.unusedVariables false
set_option linter.unusedSimpArgs false
set_option maxHeartbeats 4000000
set_option maxRecDepth 100000
namespace Go.Proofs.YtdlomlmijdifbaaGreatDoor
open Go Go.V Go.RowKit
theorem wR{L:List (Edge×Bool)}{a:Edge}{v:Bool}(h:fX L a=some v):(a,v)∈L:=by
 induction L with
 | nil=>simp[fX]at h
 | cons q L ih =>
  unfold fX at h;split at h
  ·rename_i he;cases h;rw[← he];exact List.mem_cons_self
  ·exact List.mem_cons_of_mem _ (ih h)
end Go.Proofs.YtdlomlmijdifbaaGreatDoor
