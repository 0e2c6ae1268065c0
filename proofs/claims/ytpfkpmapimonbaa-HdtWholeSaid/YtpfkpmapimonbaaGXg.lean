/- Own texts, packed: XS, XM, XK. -/
import Derived.Test.YtpfkpmapimonbaaTg

/-! The verification conditions of some functions, printed by program (gv.py); each is checked against the given form by the kernel. -/
namespace Go.Proofs.Ytpfkpmapimonbaa
open Go Go.V Go.World
set_option maxRecDepth 100000
set_option linter.unusedVariables false
/-- cmp.Compare[int] -/
def VC70 (x : Int) (y : Int) (w : World) (R : Ending → World → Prop) : Prop :=
  Calls P 83 #[(.int .i64 x)] w fun ev_ wv_1 => ∃ x8 : Bool, ev_ = .returned (.bool x8) ∧ (Calls P 83 #[(.int .i64 y)] wv_1 fun ev__1 wv_2 => ∃ x10 : Bool, ev__1 = .returned (.bool x10) ∧ (((x8 = true) → (((x10 = true) → (R (.returned (.int .i64 (0 : Int))) wv_2)) ∧ ((x10 = false) → (R (.returned (.int .i64 (-1 : Int))) wv_2)))) ∧ ((x8 = false) → (((x10 = true) → (R (.returned (.int .i64 (1 : Int))) wv_2)) ∧ ((x10 = false) → (((x < y) → (R (.returned (.int .i64 (-1 : Int))) wv_2)) ∧ ((¬ (x < y)) → (((x > y) → (R (.returned (.int .i64 (1 : Int))) wv_2)) ∧ ((¬ (x > y)) → (R (.returned (.int .i64 (0 : Int))) wv_2))))))))))
theorem vc70 (x : Int) (y : Int) (w : World) (R : Ending → World → Prop) (hvc_ : VC70 x y w R) : Calls P 70 #[(.int .i64 x), (.int .i64 y)] w R :=
  XF_spec (cx := ⟨P, T, fs, 20⟩) (fn := Try.f70) (sk := (.seq (.reg ⟨[], [], [], []⟩) (.seq (.reg ⟨[], [], [], []⟩) (.seq (.reg ⟨[], [], [], []⟩) (.seq (.seq (.reg ⟨[], [], [], []⟩) (.cond (.seq (.seq (.reg ⟨[], [], [], []⟩) (.cond (.seq (.reg ⟨[], [], [], []⟩) .leaf) .leaf)) (.seq (.reg ⟨[], [], [], []⟩) .leaf)) .leaf)) (.seq (.seq (.reg ⟨[], [], [], []⟩) (.cond (.seq (.reg ⟨[], [], [], []⟩) .leaf) .leaf)) (.seq (.seq (.reg ⟨[], [], [], []⟩) (.cond (.seq (.reg ⟨[], [], [], []⟩) .leaf) .leaf)) (.seq (.seq (.reg ⟨[], [], [], []⟩) (.cond (.seq (.reg ⟨[], [], [], []⟩) .leaf) .leaf)) (.seq (.reg ⟨[], [], [], []⟩) .leaf))))))))) (args := [(.int .i64 x), (.int .i64 y)]) tOk fsOk mixed Try.func70 (Eq.mp (by kernel_rfl : VC70 x y w R = _) hvc_)
/-- cmp.isNaN[int] -/
def VC83 (x : Int) (w : World) (R : Ending → World → Prop) : Prop :=
  R (.returned (.bool (decide (x ≠ x)))) w
theorem vc83 (x : Int) (w : World) (R : Ending → World → Prop) (hvc_ : VC83 x w R) : Calls P 83 #[(.int .i64 x)] w R :=
  XF_spec (cx := ⟨P, T, fs, 6⟩) (fn := Try.f83) (sk := (.seq (.reg ⟨[], [], [], []⟩) (.seq (.reg ⟨[], [], [], []⟩) .leaf))) (args := [(.int .i64 x)]) tOk fsOk mixed Try.func83 (Eq.mp (by kernel_rfl : VC83 x w R = _) hvc_)
end Go.Proofs.Ytpfkpmapimonbaa

/-! The verification conditions of some functions, printed by program (gv.py); each is checked against the given form by the kernel. -/
namespace Go.Proofs.Ytpfkpmapimonbaa
open Go Go.V Go.World
set_option maxRecDepth 100000
set_option linter.unusedVariables false
end Go.Proofs.Ytpfkpmapimonbaa

/-! The verification conditions of some functions, printed by program (gv.py); each is checked against the given form by the kernel. -/
namespace Go.Proofs.Ytpfkpmapimonbaa
open Go Go.V Go.World
set_option maxRecDepth 100000
set_option linter.unusedVariables false
end Go.Proofs.Ytpfkpmapimonbaa
