/- Rows of laws of numbers and slices of numbers: what an argument holds, and what stands behind the call. -/
import Derived.Test.YtdlomlmijdifbaaGreatDoorGFg
import Derived.Test.YtdlomlmijdifbaaGreatDoorRows
import Derived.WalkKit
import Derived.ProofKit
import Derived.OpenShut
import Derived.Carry
import Derived.SizedLaws
set_option linter.unusedVariables false
set_option maxRecDepth 100000
namespace Go.Proofs.YtdlomlmijdifbaaGreatDoor
open Go Go.V Go.ChangeShapes Go.WideShapes Go.ChangeAt Go.RowKit
theorem own:ownKnob Tryz.prog.godebug=none:=by kernel_rfl
theorem yZ{x:Int}(h:(Lit.int .u8 x).wf=true):0<=x/\x<=255:=by
 have h1:IntKind.u8.min=0:=rfl;have h2:IntKind.u8.max=255:=rfl;simp only[Lit.wf,Bool.and_eq_true,decide_eq_true_eq]at h;omega
end Go.Proofs.YtdlomlmijdifbaaGreatDoor
