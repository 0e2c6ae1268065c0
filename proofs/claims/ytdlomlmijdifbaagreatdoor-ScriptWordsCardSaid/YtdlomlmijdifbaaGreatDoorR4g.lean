/- Rows of laws: numbers of 32 and 64 bits; rows of elements of several cells. -/
import Derived.Test.YtdlomlmijdifbaaGreatDoorR2g
import Derived.Test.YtdlomlmijdifbaaGreatDoorGCg
import Derived.Lib.SmallJoins
import Derived.Deep.Slices
import Derived.Deep.Strs
set_option linter.unusedVariables false
set_option linter.unusedSimpArgs false
set_option maxRecDepth 100000
namespace Go.Proofs.YtdlomlmijdifbaaGreatDoor
open Go Go.V Go.ChangeShapes Go.WideShapes Go.ChangeAt Go.RowKit
theorem zA{x:Int}(h:(Lit.int .u64 x).wf=true):0<=x/\x<=18446744073709551615:=by
 have h1:IntKind.u64.min=0:=rfl;have h2:IntKind.u64.max=18446744073709551615:=rfl;simp only[Lit.wf,Bool.and_eq_true,decide_eq_true_eq]at h;omega
end Go.Proofs.YtdlomlmijdifbaaGreatDoor
