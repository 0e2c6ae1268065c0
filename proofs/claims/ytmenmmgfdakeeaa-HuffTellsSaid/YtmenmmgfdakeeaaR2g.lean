/- Rows of slices whose room is asked for too. -/
import Derived.Test.YtmenmmgfdakeeaaR1g
namespace Go.Proofs.Ytmenmmgfdakeeaa
open Go Go.V Go.ChangeShapes Go.WideShapes Go.ChangeAt Go.RowKit
set_option linter.unusedVariables false
set_option maxRecDepth 100000

theorem open_row2 {H : Type} {enc : TypeId × Value → H} {W : World} {r : Reach} {b : Nat} {t e : TypeId} {k : IntKind} (ht : P.underlying t = some (.slice e)) (he : P.underlying e = some (.int k)) (hc : P.cellsOf e = 1)
    {v : Value} {d : DataW H} {p : List MemPlace} (hok : Value.okWide P W r b t v) (h : DataW.Trod enc P W 0 (fun _ => true) true t v d p) :
    ∃ (A : Option Addr) (n c : Nat) (l : List Int), v = .slice A n c ∧ n = l.length ∧ n ≤ c ∧ Row W A (l.map (Value.int k)) ∧ ∀ x ∈ l, (Lit.int k x).wf = true := by
  have h' := h
  obtain ⟨A, n, c, l, rfl, h1, h2, h3⟩ := open_row ht he hc hok h
  refine ⟨A, n, c, l, rfl, h1, ?_, h2, h3⟩
  obtain ⟨fuel, hf⟩ := h'
  rcases open_ints ht he hc hf with ⟨hcs, hx⟩ | ⟨a, len', cap', zs, hcs, _, hl, hm, hz, hx, hcell, hwz⟩
  · simp [Value.cells] at hcs
    omega
  · simp [Value.cells] at hcs
    omega
end Go.Proofs.Ytmenmmgfdakeeaa
