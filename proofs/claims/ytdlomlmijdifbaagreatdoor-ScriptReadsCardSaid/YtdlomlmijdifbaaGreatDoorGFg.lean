/- Own texts, packed: D1, D2, D3, D4, D5, E0, E1, E2, E3, E4. -/
import Derived.Test.YtdlomlmijdifbaaGreatDoorGXg
import Derived.Test.YtdlomlmijdifbaaGreatDoorGDg
import Derived.Test.YtdlomlmijdifbaaGreatDoorGCg
import Derived.Test.YtdlomlmijdifbaaGreatDoorGBg
import Derived.KernelRfl
set_option linter.unusedVariables false
set_option linter.unusedSimpArgs false
set_option maxHeartbeats 4000000
set_option maxRecDepth 100000
namespace Go.Proofs.YtdlomlmijdifbaaGreatDoor
open Go Go.V Go.RowKit
abbrev ints(xs:List Int):List Value:=xs.map (Value.int .i64)
theorem fD(w:World)(cs:Array Value)(t:TypeId):bC (w.alloc (.cells cs t)) (some ⟨w.heap.size,0,none⟩) cs.toList:=by
 intro j u hj;refine⟨_,rfl,?_⟩;rw[aJ,World.cell?_alloc_new];simpa using hj
end Go.Proofs.YtdlomlmijdifbaaGreatDoor
