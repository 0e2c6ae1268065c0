/- Own texts, packed: XS, XM, XK. -/
import Derived.Test.YtpfkpmapimonbaaTg

/-! The verification conditions of some functions, printed by program (gv.py); each is checked against the given form by the kernel. -/
namespace Go.Proofs.Ytpfkpmapimonbaa
open Go Go.V Go.World
set_option maxRecDepth 100000
set_option linter.unusedVariables false
end Go.Proofs.Ytpfkpmapimonbaa

/-! The verification conditions of some functions, printed by program (gv.py); each is checked against the given form by the kernel. -/
namespace Go.Proofs.Ytpfkpmapimonbaa
open Go Go.V Go.World
set_option maxRecDepth 100000
set_option linter.unusedVariables false
/-- archipelago/archipelagohelp.Ints -/
def VC23 (aA : Option Addr) (an ac : Nat) (bA : Option Addr) (bn bc : Nat) (w : World) (R : Ending → World → Prop) : Prop :=
  (((an : Int) ≠ (bn : Int)) → (R (.returned (.bool false)) w)) ∧ ((¬ ((an : Int) ≠ (bn : Int))) → (∃ I : Nat → Int → World → Prop, (∃ k : Nat, I k (0 : Int) w) ∧ ∀ (m : Nat) (i : Int) (wv_1 : World), I m i wv_1 → (((i < (an : Int)) → (∃ a19 : Addr, aA = some a19 ∧ 0 ≤ i ∧ i < (an : Int) ∧ (∃ x20 : Int, cell? (drew wv_1) (Addr.add a19 (Int.toNat i)) = some (.int .i64 x20) ∧ (∃ a23 : Addr, bA = some a23 ∧ 0 ≤ i ∧ i < (bn : Int) ∧ (∃ x24 : Int, cell? (drew wv_1) (Addr.add a23 (Int.toNat i)) = some (.int .i64 x24) ∧ (((x20 ≠ x24) → (R (.returned (.bool false)) (drew wv_1))) ∧ ((¬ (x20 ≠ x24)) → (InK .i64 (i + (1 : Int)) ∧ (∃ m_1 : Nat, m_1 < m ∧ I m_1 (i + (1 : Int)) (drew wv_1)))))))))) ∧ ((¬ (i < (an : Int))) → (R (.returned (.bool true)) wv_1)))))
theorem vc23 (aA : Option Addr) (an ac : Nat) (bA : Option Addr) (bn bc : Nat) (w : World) (R : Ending → World → Prop) (hvc_ : VC23 aA an ac bA bn bc w R) : Calls P 23 #[(.slice aA an ac), (.slice bA bn bc)] w R :=
  XF_spec (cx := ⟨P, T, fs, 26⟩) (fn := Try.f23) (sk := (.seq (.reg ⟨[], [], [], []⟩) (.seq (.seq (.reg ⟨[], [], [], []⟩) (.cond (.seq (.reg ⟨[], [], [], []⟩) .leaf) .leaf)) (.seq (.seq (.reg ⟨[], [], [], []⟩) (.block (.loop [(5, .int .i64)] [4, 5, 11, 12, 13, 14, 15, 16, 17, 18, 19, 20, 21, 22, 23, 24, 25] (.seq (.seq (.reg ⟨[], [], [], []⟩) (.cond .leaf .leaf)) (.seq (.block (.seq (.reg ⟨[], [], [(2, 0, 0), (2, 1, 1), (3, 2, 2), (6, 4, 4), (6, 5, 5), (7, 6, 6), (8, 3, 3), (8, 7, 7)], []⟩) (.cond (.seq (.reg ⟨[], [], [], []⟩) .leaf) .leaf))) (.reg ⟨[], [], [], []⟩)))))) (.seq (.reg ⟨[], [], [], []⟩) .leaf))))) (args := [(.slice aA an ac), (.slice bA bn bc)]) tOk fsOk mixed Try.func23 (Eq.mp (by kernel_rfl : VC23 aA an ac bA bn bc w R = _) hvc_)
end Go.Proofs.Ytpfkpmapimonbaa

/-! The verification conditions of some functions, printed by program (gv.py); each is checked against the given form by the kernel. -/
namespace Go.Proofs.Ytpfkpmapimonbaa
open Go Go.V Go.World
set_option maxRecDepth 100000
set_option linter.unusedVariables false
end Go.Proofs.Ytpfkpmapimonbaa
