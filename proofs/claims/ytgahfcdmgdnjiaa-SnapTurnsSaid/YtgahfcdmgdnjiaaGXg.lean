/- Own texts, packed: XS, XM, XK, XR, XC, XB, X6, XV, XH, X7. -/
import Derived.Test.YtgahfcdmgdnjiaaTg

/-! The verification conditions of some functions, printed by program (gv.py); each is checked against the given form by the kernel. -/
namespace Go.Proofs.Ytgahfcdmgdnjiaa
open Go Go.V Go.World
set_option maxRecDepth 100000
set_option linter.unusedVariables false
end Go.Proofs.Ytgahfcdmgdnjiaa

/-! The verification conditions of some functions, printed by program (gv.py); each is checked against the given form by the kernel. -/
namespace Go.Proofs.Ytgahfcdmgdnjiaa
open Go Go.V Go.World
set_option maxRecDepth 100000
set_option linter.unusedVariables false
end Go.Proofs.Ytgahfcdmgdnjiaa

/-! The verification conditions of some functions, printed by program (gv.py); each is checked against the given form by the kernel. -/
namespace Go.Proofs.Ytgahfcdmgdnjiaa
open Go Go.V Go.World
set_option maxRecDepth 100000
set_option linter.unusedVariables false
end Go.Proofs.Ytgahfcdmgdnjiaa

/-! The verification conditions of some functions, printed by program (gv.py); each is checked against the given form by the kernel. -/
namespace Go.Proofs.Ytgahfcdmgdnjiaa
open Go Go.V Go.World
set_option maxRecDepth 100000
set_option linter.unusedVariables false
end Go.Proofs.Ytgahfcdmgdnjiaa

/-! The verification conditions of some functions, printed by program (gv.py); each is checked against the given form by the kernel. -/
namespace Go.Proofs.Ytgahfcdmgdnjiaa
open Go Go.V Go.World
set_option maxRecDepth 100000
set_option linter.unusedVariables false
end Go.Proofs.Ytgahfcdmgdnjiaa

/-! The verification conditions of some functions, printed by program (gv.py); each is checked against the given form by the kernel. -/
namespace Go.Proofs.Ytgahfcdmgdnjiaa
open Go Go.V Go.World
set_option maxRecDepth 100000
set_option linter.unusedVariables false
end Go.Proofs.Ytgahfcdmgdnjiaa

/-! The verification conditions of some functions, printed by program (gv.py); each is checked against the given form by the kernel. -/
namespace Go.Proofs.Ytgahfcdmgdnjiaa
open Go Go.V Go.World
set_option maxRecDepth 100000
set_option linter.unusedVariables false
end Go.Proofs.Ytgahfcdmgdnjiaa

/-! The verification conditions of some functions, printed by program (gv.py); each is checked against the given form by the kernel. -/
namespace Go.Proofs.Ytgahfcdmgdnjiaa
open Go Go.V Go.World
set_option maxRecDepth 100000
set_option linter.unusedVariables false
end Go.Proofs.Ytgahfcdmgdnjiaa

/-! The verification conditions of some functions, printed by program (gv.py); each is checked against the given form by the kernel. -/
namespace Go.Proofs.Ytgahfcdmgdnjiaa
open Go Go.V Go.World
set_option maxRecDepth 100000
set_option linter.unusedVariables false
end Go.Proofs.Ytgahfcdmgdnjiaa

/-! The verification conditions of some functions, printed by program (gv.py); each is checked against the given form by the kernel. -/
namespace Go.Proofs.Ytgahfcdmgdnjiaa
open Go Go.V Go.World
set_option maxRecDepth 100000
set_option linter.unusedVariables false
end Go.Proofs.Ytgahfcdmgdnjiaa
