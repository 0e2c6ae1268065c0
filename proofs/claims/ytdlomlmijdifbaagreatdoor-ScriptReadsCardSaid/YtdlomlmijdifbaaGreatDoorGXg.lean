/- Own texts, packed: XS, XM, XK, XR, XC, XB, X6, XV, XH, X7. -/
import Derived.Test.YtdlomlmijdifbaaGreatDoorTg
set_option maxRecDepth 100000
set_option linter.unusedVariables false
namespace Go.Proofs.YtdlomlmijdifbaaGreatDoor
open Go Go.V Go.World
def VC134(a:OA)(c b:Nat)(w:World)(R:EW):Prop:=(Br (a=none) (R (.returned (.slice none 0 0)) w) (Ap 22 22 (.slice (some (nb w 0)) 0 0) (.slice a c b) (alloc w (.cells #[] 5)) fun e g f d=>R (.returned (.slice e g f)) d))
theorem vc134(a c b w R)(d:VC134 a c b w R):Calls P 134 #[.slice a c b] w R:=xv 8 (sq (.seq (sq cD) (sq .leaf))) Tryz.func134 d
end Go.Proofs.YtdlomlmijdifbaaGreatDoor
