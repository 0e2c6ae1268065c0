/- Own texts, packed: G1, G3, G5, H1, H2, H3, H4, H5, H6, H7, H8, H9, H10, H11. -/
import Derived.Test.YtgahfcdmgdnjiaaGHg
import Derived.Test.YtgahfcdmgdnjiaaGFg
import Derived.Test.YtgahfcdmgdnjiaaGXg
import Derived.Test.YtgahfcdmgdnjiaaGBg
import Derived.Test.YtgahfcdmgdnjiaaGGg
import Derived.Lib.SlBytesConst

/-! archipelagolaw6: known; lengths of numbers. -/
namespace Go.Proofs.Ytgahfcdmgdnjiaa
open Go Go.V Go.RowKit
set_option linter.unusedVariables false
set_option linter.unusedSimpArgs false
set_option maxHeartbeats 4000000
set_option maxRecDepth 100000

end Go.Proofs.Ytgahfcdmgdnjiaa

/-! archipelagolaw6.CodeFree: the walk. -/
namespace Go.Proofs.Ytgahfcdmgdnjiaa
open Go Go.V Go.RowKit
set_option linter.unusedVariables false
set_option linter.unusedSimpArgs false
set_option maxHeartbeats 4000000
set_option maxRecDepth 100000

theorem run_eql (s t : Operand) (a b : Bool) (w : World) : Sem.run P (do eqGuard .eql 4 s t (.bool a) (.bool b); Go.binOp .eql 4 (.bool a) (.bool b) : Sem Value) w = .ok (.bool (a == b)) w := by
  cases a <;> cases b <;> kernel_rfl

end Go.Proofs.Ytgahfcdmgdnjiaa

/-! archipelagolaw6.CodeTexts: the walk. -/
namespace Go.V

end Go.V
namespace Go.Proofs.Ytgahfcdmgdnjiaa
open Go Go.V Go.RowKit
set_option linter.unusedVariables false
set_option linter.unusedSimpArgs false
set_option maxHeartbeats 4000000
set_option maxRecDepth 100000

end Go.Proofs.Ytgahfcdmgdnjiaa

/-! Numbers in few bytes: lists alone. Plain Lean; no program. -/
namespace Go.V
set_option linter.unusedVariables false
set_option linter.unusedSimpArgs false

end Go.V

/-! Numbers in few bytes, counts, bytes held against bytes: both texts. -/
namespace Go.Proofs.Ytgahfcdmgdnjiaa
open Go Go.V Go.RowKit
set_option linter.unusedVariables false
set_option linter.unusedSimpArgs false
set_option maxHeartbeats 4000000
set_option maxRecDepth 100000

end Go.Proofs.Ytgahfcdmgdnjiaa

/-! Bytes in fewer ones: lists alone. -/
namespace Go.Proofs.Ytgahfcdmgdnjiaa
open Go Go.V Go.RowKit
set_option linter.unusedVariables false
set_option linter.unusedSimpArgs false
set_option maxHeartbeats 4000000
set_option maxRecDepth 100000

abbrev BytesB (b : List Int) : Prop := ∀ x ∈ b, 0 ≤ x ∧ x ≤ 255
end Go.Proofs.Ytgahfcdmgdnjiaa

/-! Bytes in fewer ones: no text begins as another. -/
namespace Go.Proofs.Ytgahfcdmgdnjiaa
open Go Go.V Go.RowKit
set_option linter.unusedVariables false
set_option linter.unusedSimpArgs false
set_option maxHeartbeats 4000000
set_option maxRecDepth 100000

end Go.Proofs.Ytgahfcdmgdnjiaa

/-! huff.Put: the walk. -/
namespace Go.Proofs.Ytgahfcdmgdnjiaa
open Go Go.V Go.RowKit
set_option linter.unusedVariables false
set_option linter.unusedSimpArgs false
set_option maxHeartbeats 4000000
set_option maxRecDepth 100000

theorem owned_apart {w : World} {b b' s s' n c n' c' : Nat} {e e' : TypeId} {A A' : Option Addr} {xs xs' : List Value} (h : OwnedK w b e s A n c xs) (h' : OwnedK w b' e' s' A' n' c' xs') (ne : e ≠ e') : (Value.slice A n c).ownBlock = none ∨ (Value.slice A n c).ownBlock ≠ (Value.slice A' n' c').ownBlock := by
  cases hk : (Value.slice A n c).ownBlock with
  | none => exact .inl rfl
  | some k =>
    refine .inr fun hq => ?_
    obtain ⟨c1, h1⟩ := h.block_type k hk
    obtain ⟨c2, h2⟩ := h'.block_type k hq.symm
    rw [h1] at h2
    cases h2
    exact ne rfl
theorem owned_cap {w : World} {b s n c : Nat} {e : TypeId} {A : Option Addr} {xs : List Value} (h : OwnedK w b e s A n c xs) : A = none → c = 0 := by
  obtain ⟨_, ⟨_, _, e, _⟩ | ⟨g, cur, e, _⟩⟩ := h.cases
  · exact fun _ => e
  · intro q; rw [q] at e; cases e
end Go.Proofs.Ytgahfcdmgdnjiaa

/-! archipelagoref5.Put: the walk. -/
namespace Go.Proofs.Ytgahfcdmgdnjiaa
open Go Go.V Go.RowKit
set_option linter.unusedVariables false
set_option linter.unusedSimpArgs false
set_option maxHeartbeats 4000000
set_option maxRecDepth 100000

end Go.Proofs.Ytgahfcdmgdnjiaa

/-! The readers' heads: numbers and lengths: the walks. -/
namespace Go.Proofs.Ytgahfcdmgdnjiaa
open Go Go.V Go.RowKit
set_option linter.unusedVariables false
set_option linter.unusedSimpArgs false
set_option maxHeartbeats 4000000
set_option maxRecDepth 100000

theorem set1 {w w' : World} {S : Nat → Prop} {g j : Nat} {u : Value} (h : Kp w w' S) (hS : S g) : Kp w (w'.setCell ⟨g, j, none⟩ u) S := h.set (p := ⟨g, j, none⟩) (.inr hS) u
end Go.Proofs.Ytgahfcdmgdnjiaa

/-! archipelagoref5's lengths: the walk. -/
namespace Go.Proofs.Ytgahfcdmgdnjiaa
open Go Go.V Go.RowKit
set_option linter.unusedVariables false
set_option linter.unusedSimpArgs false
set_option maxHeartbeats 4000000
set_option maxRecDepth 100000

end Go.Proofs.Ytgahfcdmgdnjiaa

/-! huff.Read: the walk. -/
namespace Go.Proofs.Ytgahfcdmgdnjiaa
open Go Go.V Go.RowKit
set_option linter.unusedVariables false
set_option linter.unusedSimpArgs false
set_option maxHeartbeats 4000000
set_option maxRecDepth 100000

end Go.Proofs.Ytgahfcdmgdnjiaa

/-! archipelagoref5.Read: the walk. -/
namespace Go.Proofs.Ytgahfcdmgdnjiaa
open Go Go.V Go.RowKit
set_option linter.unusedVariables false
set_option linter.unusedSimpArgs false
set_option maxHeartbeats 4000000
set_option maxRecDepth 100000

end Go.Proofs.Ytgahfcdmgdnjiaa

/-! archipelagolaw7: texts, what is known. -/
namespace Go.Proofs.Ytgahfcdmgdnjiaa
open Go Go.V Go.RowKit
set_option linter.unusedVariables false
set_option linter.unusedSimpArgs false
set_option maxHeartbeats 4000000
set_option maxRecDepth 100000

theorem row_allocM (w : World) (cs : Array Value) (t : TypeId) (fr : Nat × Nat) : Row (w.alloc (.cells cs t fr)) (some ⟨w.heap.size, 0, none⟩) cs.toList := by
  intro j u hj
  refine ⟨_, rfl, ?_⟩
  rw [add_lit]
  have : (w.alloc (.cells cs t fr)).heap[w.heap.size]? = some (.cells cs t fr) := by
    show (w.heap.push _)[w.heap.size]? = _
    simp
  rw [blk_cell this]
  simpa using hj
theorem owned_le {w : World} {b s n c : Nat} {e : TypeId} {A : Option Addr} {xs : List Value} (h : OwnedK w b e s A n c xs) : n ≤ c := by
  obtain ⟨_, ⟨_, e1, e2, _⟩ | ⟨g, cur, _, _, _, e, _⟩⟩ := h.cases
  · omega
  · exact e

end Go.Proofs.Ytgahfcdmgdnjiaa
