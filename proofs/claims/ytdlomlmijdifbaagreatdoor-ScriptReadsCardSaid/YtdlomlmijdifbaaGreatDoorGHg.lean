/- Own texts, packed: F1, F2, F3, F4, F5, F6. -/
import Derived.Test.YtdlomlmijdifbaaGreatDoorGBg
import Derived.Test.YtdlomlmijdifbaaGreatDoorGFg
import Derived.Test.YtdlomlmijdifbaaGreatDoorGXg
import Derived.Test.YtdlomlmijdifbaaGreatDoorGEg
import Derived.Test.YtdlomlmijdifbaaGreatDoorGCg
import Derived.Test.YtdlomlmijdifbaaGreatDoorGGg
set_option linter.unusedVariables false
set_option linter.unusedSimpArgs false
set_option maxHeartbeats 4000000
set_option maxRecDepth 100000
namespace Go.Proofs.YtdlomlmijdifbaaGreatDoor
open Go Go.V Go.RowKit
def okI64(x:Int):Prop:=-9223372036854775808<=x/\x<=9223372036854775807
theorem AU{x:Int}(h:okI64 x):(Lit.int .i64 x).wf=true:=by
 have h1:IntKind.i64.min=-9223372036854775808:=rfl;have h2:IntKind.i64.max=9223372036854775807:=rfl;obtain⟨a,b⟩:=h;simp only[Lit.wf,Bool.and_eq_true,decide_eq_true_eq];omega
end Go.Proofs.YtdlomlmijdifbaaGreatDoor
