/- Own texts, packed: D1, D2, D3, D4, D5, E0, E1, E2, E3, E4. -/
import Derived.Test.YtdlomlmijdifbaaGreatDoorGXg
import Derived.Test.YtdlomlmijdifbaaGreatDoorGDg
import Derived.Test.YtdlomlmijdifbaaGreatDoorGCg
import Derived.Test.YtdlomlmijdifbaaGreatDoorGBg
import Derived.KernelRfl
set_option linter.unusedVariables false
set_option linter.unusedSimpArgs false
set_option maxHeartbeats 4000000
set_option maxRecDepth 100000
namespace Go.Proofs.YtdlomlmijdifbaaGreatDoor
open Go Go.V Go.RowKit
abbrev ints(xs:List Int):List Value:=xs.map (Value.int .i64)
theorem eV(w:World)(cs:Array Value)(t:TypeId):bF (w.alloc (.cells cs t)) (some ⟨w.heap.size,0,none⟩) cs.toList:=by
 intro j u hj;refine⟨_,rfl,?_⟩;rw[aS,World.cell?_alloc_new];simpa using hj
theorem Cl(s t:Operand)(a b:Bool)(w:World):Sem.run P (do eqGuard .neq 4 s t (.bool a) (.bool b);Go.binOp .neq 4 (.bool a) (.bool b):Sem Value) w=.ok (.bool (a !=b)) w:=by
 cases a <;>cases b <;>kernel_rfl
end Go.Proofs.YtdlomlmijdifbaaGreatDoor
