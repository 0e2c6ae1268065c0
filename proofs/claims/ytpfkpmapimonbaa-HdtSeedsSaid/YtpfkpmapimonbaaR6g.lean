/- Rows of laws of stories: what such an argument holds. -/
import Derived.Test.YtpfkpmapimonbaaR4g
import Derived.Test.YtpfkpmapimonbaaGHFg
import Derived.Lib.SmallJoins
import Derived.Deep.Slices
import Derived.Deep.Strs
namespace Go.Proofs.Ytpfkpmapimonbaa
open Go Go.V Go.ChangeShapes Go.WideShapes Go.ChangeAt Go.RowKit
set_option linter.unusedVariables false
set_option linter.unusedSimpArgs false
set_option maxRecDepth 100000

section
variable {H : Type} {enc : TypeId × Value → H} {W : World}
theorem trod_act23 {n : Nat} {cs : List Value} {y : DataW H × List MemPlace} (h : DataW.trod enc P W 0 (fun _ => true) true n 50 cs = some y) : ∃ a : ActV, cs = actC a ∧ okAct a := by
  obtain ⟨y0, y1, y2, y3, k, _, hl, h0, h1, h2, h3⟩ := Go.Joins.trod_struct4 Try.underlying50 h
  have c4 : P.cellsOf 50 = 4 := by kernel_rfl
  have c1 : P.cellsOf 5 = 1 := by kernel_rfl
  have c0 : P.cellsOf 3 = 1 := by kernel_rfl
  rw [c4] at hl
  match cs, hl with
  | [a, b, c, d], _ =>
    simp only [c0, c1, List.drop_zero, List.take_succ_cons, List.take_zero, List.drop_succ_cons, List.take_nil] at h0 h1 h2 h3
    obtain ⟨x0, e0, _, w0⟩ := DataW.trod_int Try.underlying5 h0
    obtain ⟨x1, e1, _, w1⟩ := DataW.trod_int Try.underlying5 h1
    obtain ⟨x2, e2, _, w2⟩ := DataW.trod_int Try.underlying5 h2
    obtain ⟨x3, e3, _, w3⟩ := DataW.trod_int Try.underlying3 h3
    cases e0; cases e1; cases e2; cases e3
    exact ⟨⟨x0, x1, x2, x3⟩, rfl, wf_u8 w0, wf_u8 w1, wf_u8 w2, wf_i64 w3⟩
theorem open_acts23 {b : Nat} {r : Reach} {v : Value} {d : DataW H} {p : List MemPlace} (hok : Value.okWide P W r b 47 v) (h0 : DataW.Trod enc P W 0 (fun _ => true) true 47 v d p) :
    ∃ (A : Option Addr) (n c : Nat) (l : List ActV), v = .slice A n c ∧ n = l.length ∧ Row W A (acts l) ∧ ∀ x ∈ l, okAct x := by
  obtain ⟨A, n, c, rfl⟩ := okWide_slice Try.underlying47 hok
  obtain ⟨fuel, h⟩ := h0
  rcases Go.Deep.open_slice Try.underlying47 h with ⟨e, _⟩ | ⟨a, len, cap, m, k, D, Pl, e, _, hl, _, hm, _, hx⟩
  · simp [Value.cells] at e
    obtain ⟨rfl, rfl, rfl⟩ := e
    exact ⟨none, 0, 0, [], rfl, rfl, Row.nil _ _, by simp⟩
  · simp [Value.cells] at e
    obtain ⟨rfl, rfl, rfl⟩ := e
    rw [if_pos rfl] at hm
    have c4 : P.cellsOf 50 = 4 := by kernel_rfl
    rw [c4] at hx
    obtain ⟨l, hl1, hl2⟩ := choose_list (p := fun i (e : ActV) => (∀ j, j < 4 → W.cell? (a.add (i * 4 + j)) = (actC e)[j]?) ∧ okAct e) n fun i hi => by
      obtain ⟨cs', q1, q2⟩ := hx i (by omega)
      obtain ⟨e, rfl, hok⟩ := trod_act23 q2
      obtain ⟨_, _, q3⟩ := World.cells?_some q1
      exact ⟨e, fun j hj => by rw [← add_add]; exact q3 j hj, hok⟩
    refine ⟨some a, n, c, l, rfl, hl1.symm, row_flat (C := actC) (fun _ => rfl) l a (fun i hi => (hl2 i hi).1), fun x hx => ?_⟩
    obtain ⟨i, hi, rfl⟩ := List.getElem_of_mem hx
    exact (hl2 i hi).2
end
end Go.Proofs.Ytpfkpmapimonbaa
