/- Rows of laws of histories and of edges: what such an argument holds. -/
import Derived.Test.YtgahfcdmgdnjiaaR2g
import Derived.Test.YtgahfcdmgdnjiaaGPg
import Derived.Lib.SmallJoins
import Derived.Deep.Slices
import Derived.Deep.Strs
namespace Go.Proofs.Ytgahfcdmgdnjiaa
open Go Go.V Go.ChangeShapes Go.WideShapes Go.ChangeAt Go.RowKit
set_option linter.unusedVariables false
set_option linter.unusedSimpArgs false
set_option maxRecDepth 100000

theorem wf_u32 {x : Int} (h : (Lit.int .u32 x).wf = true) : 0 ≤ x ∧ x ≤ 4294967295 := by
  have h1 : IntKind.u32.min = 0 := rfl
  have h2 : IntKind.u32.max = 4294967295 := rfl
  simp only [Lit.wf, Bool.and_eq_true, decide_eq_true_eq] at h
  omega
theorem choose_list {α : Type} {p : Nat → α → Prop} : ∀ n : Nat, (∀ i, i < n → ∃ x, p i x) → ∃ l : List α, l.length = n ∧ ∀ i (hi : i < l.length), p i l[i]
  | 0, _ => ⟨[], rfl, fun i hi => absurd hi (by simp)⟩
  | n + 1, h => by
    obtain ⟨l, h1, h2⟩ := choose_list n fun i hi => h i (by omega)
    obtain ⟨x, hx⟩ := h n (by omega)
    refine ⟨l ++ [x], by simp [h1], fun i hi => ?_⟩
    by_cases e : i < l.length
    · rw [List.getElem_append_left e]; exact h2 i e
    · have : i = n := by simp at hi; omega
      subst this
      rw [List.getElem_append_right (by omega)]
      simpa [h1] using hx
theorem row_flat {α : Type} {W : World} {size : Nat} {C : α → List Value} (hC : ∀ x, (C x).length = size) : ∀ (l : List α) (a : Addr), (∀ i (hi : i < l.length) j, j < size → W.cell? (a.add (i * size + j)) = (C l[i])[j]?) → Row W (some a) (l.flatMap C)
  | [], a, _ => Row.nil _ _
  | x :: l, a, h => by
    have ih := row_flat hC l (a.add size) fun i hi j hj => by
      have := h (i + 1) (by simp; omega) j hj
      rw [add_add, show size + (i * size + j) = (i + 1) * size + j by rw [Nat.succ_mul]; omega]
      simpa using this
    intro j u hj
    rw [List.flatMap_cons, List.getElem?_append] at hj
    split at hj
    · rename_i hjs
      rw [hC] at hjs
      have := h 0 (by simp) j hjs
      rw [Nat.zero_mul, Nat.zero_add] at this
      exact ⟨a, rfl, by rw [this]; exact hj⟩
    · rename_i hjs
      rw [hC] at hjs hj
      obtain ⟨a', e, q⟩ := ih (j - size) u hj
      cases e
      refine ⟨a, rfl, ?_⟩
      rw [add_add, show size + (j - size) = j by omega] at q
      exact q
section
variable {H : Type} {enc : TypeId × Value → H} {W : World}
theorem trod_edge {n : Nat} {cs : List Value} {y : DataW H × List MemPlace} (h : DataW.trod enc P W 0 (fun _ => true) true n 39 cs = some y) : ∃ e : Edge, cs = edgeC e ∧ (0 ≤ e.1 ∧ e.1 ≤ 4294967295) ∧ 0 ≤ e.2 ∧ e.2 ≤ 4294967295 := by
  obtain ⟨y0, y1, k, _, hl, h0, h1⟩ := trod_struct2 Try.underlying39 h
  have c2 : P.cellsOf 39 = 2 := by kernel_rfl
  have c1 : P.cellsOf 37 = 1 := by kernel_rfl
  rw [c2] at hl
  match cs, hl with
  | [a, b], _ =>
    simp only [c1, List.drop_zero, List.take_succ_cons, List.take_zero, List.drop_succ_cons, List.take_nil] at h0 h1
    obtain ⟨u, e0, _, w0⟩ := DataW.trod_int Try.underlying37 h0
    obtain ⟨v, e1, _, w1⟩ := DataW.trod_int Try.underlying37 h1
    cases e0; cases e1
    exact ⟨(u, v), rfl, wf_u32 w0, wf_u32 w1⟩
theorem trod_evt {n : Nat} {cs : List Value} {y : DataW H × List MemPlace} (h : DataW.trod enc P W 0 (fun _ => true) true n 41 cs = some y) : ∃ e : Evt, cs = evtC e ∧ (0 ≤ e.u ∧ e.u ≤ 4294967295) ∧ 0 ≤ e.v ∧ e.v ≤ 4294967295 := by
  obtain ⟨y0, y1, y2, k, _, hl, h0, h1, h2⟩ := Go.Deep.trod_struct3 Try.underlying41 h
  have c4 : P.cellsOf 41 = 4 := by kernel_rfl
  have c2 : P.cellsOf 39 = 2 := by kernel_rfl
  have c1 : P.cellsOf 2 = 1 := by kernel_rfl
  have c0 : P.cellsOf 4 = 1 := by kernel_rfl
  rw [c4] at hl
  match cs, hl with
  | [a, b, c, d], _ =>
    simp only [c0, c1, c2, List.drop_zero, List.take_succ_cons, List.take_zero, List.drop_succ_cons, List.take_nil] at h0 h1 h2
    obtain ⟨t, e0, _, w0⟩ := DataW.trod_int Try.underlying2 h0
    obtain ⟨e, e1, w1⟩ := trod_edge h1
    obtain ⟨z, e2, _⟩ := DataW.trod_bool Try.underlying4 h2
    cases e0; cases e2
    simp only [edgeC, List.cons.injEq, and_true] at e1
    obtain ⟨rfl, rfl⟩ := e1
    exact ⟨⟨t, e.1, e.2, z⟩, rfl, w1⟩
theorem trod_edges {n : Nat} {cs : List Value} {y : DataW H × List MemPlace} (h : DataW.trod enc P W 0 (fun _ => true) true n 29 cs = some y) :
    ∃ (A : Option Addr) (n c : Nat) (l : List Edge), cs = [.slice A n c] ∧ n = l.length ∧ n ≤ c ∧ (A = none → c = 0) ∧ Row W A (edges l) := by
  rcases Go.Deep.open_slice Try.underlying29 h with ⟨rfl, _⟩ | ⟨a, len, cap, m, k, D, Pl, rfl, _, hl, _, hm, _, hx⟩
  · exact ⟨none, 0, 0, [], rfl, rfl, by omega, fun _ => rfl, Row.nil _ _⟩
  · rw [if_pos rfl] at hm
    have c2 : P.cellsOf 39 = 2 := by kernel_rfl
    rw [c2] at hx
    obtain ⟨l, hl1, hl2⟩ := choose_list (p := fun i (e : Edge) => ∀ j, j < 2 → W.cell? (a.add (i * 2 + j)) = (edgeC e)[j]?) len fun i hi => by
      obtain ⟨cs', q1, q2⟩ := hx i (by omega)
      obtain ⟨e, rfl, _⟩ := trod_edge q2
      obtain ⟨_, _, q3⟩ := World.cells?_some q1
      exact ⟨e, fun j hj => by rw [← add_add]; exact q3 j hj⟩
    exact ⟨some a, len, cap, l, rfl, hl1.symm, hl, fun h => (by cases h), row_flat (C := edgeC) (fun _ => rfl) l a hl2⟩
theorem trod_evts {n : Nat} {cs : List Value} {y : DataW H × List MemPlace} (h : DataW.trod enc P W 0 (fun _ => true) true n 25 cs = some y) :
    ∃ (A : Option Addr) (n c : Nat) (l : List Evt), cs = [.slice A n c] ∧ n = l.length ∧ n ≤ c ∧ (A = none → c = 0) ∧ Row W A (evts l) ∧ EvtsU l := by
  rcases Go.Deep.open_slice Try.underlying25 h with ⟨rfl, _⟩ | ⟨a, len, cap, m, k, D, Pl, rfl, _, hl, _, hm, _, hx⟩
  · exact ⟨none, 0, 0, [], rfl, rfl, by omega, fun _ => rfl, Row.nil _ _, fun e he => by simp at he⟩
  · rw [if_pos rfl] at hm
    have c4 : P.cellsOf 41 = 4 := by kernel_rfl
    rw [c4] at hx
    obtain ⟨l, hl1, hl2⟩ := choose_list (p := fun i (e : Evt) => (∀ j, j < 4 → W.cell? (a.add (i * 4 + j)) = (evtC e)[j]?) ∧ (0 ≤ e.u ∧ e.u ≤ 4294967295) ∧ 0 ≤ e.v ∧ e.v ≤ 4294967295) len fun i hi => by
      obtain ⟨cs', q1, q2⟩ := hx i (by omega)
      obtain ⟨e, rfl, he⟩ := trod_evt q2
      obtain ⟨_, _, q3⟩ := World.cells?_some q1
      exact ⟨e, fun j hj => by rw [← add_add]; exact q3 j hj, he⟩
    exact ⟨some a, len, cap, l, rfl, hl1.symm, hl, fun h => (by cases h), row_flat (C := evtC) (fun _ => rfl) l a (fun i hi => (hl2 i hi).1), fun e he => (by
      obtain ⟨i, hi, rfl⟩ := List.mem_iff_getElem.1 he
      exact (hl2 i hi).2)⟩
theorem open_edges {r : Reach} {b : Nat} {v : Value} {d : DataW H} {p : List MemPlace} (hok : Value.okWide P W r b 29 v) (h : DataW.Trod enc P W 0 (fun _ => true) true 29 v d p) :
    ∃ (A : Option Addr) (n c : Nat) (l : List Edge), v = .slice A n c ∧ n = l.length ∧ n ≤ c ∧ (A = none → c = 0) ∧ Row W A (edges l) := by
  obtain ⟨A, n, c, rfl⟩ := okWide_slice Try.underlying29 hok
  obtain ⟨fuel, hf⟩ := h
  obtain ⟨A', n', c', l, e, q⟩ := trod_edges hf
  simp [Value.cells] at e
  obtain ⟨rfl, rfl, rfl⟩ := e
  exact ⟨_, _, _, l, rfl, q⟩
theorem open_hist {r : Reach} {b : Nat} {v : Value} {d : DataW H} {p : List MemPlace} (hok : Value.okWide P W r b 27 v) (h : DataW.Trod enc P W 0 (fun _ => true) true 27 v d p) :
    ∃ (N : Int) (A : Option Addr) (n c : Nat) (l : List Evt), v = .agg #[.int .u64 N, .slice A n c] ∧ n = l.length ∧ n ≤ c ∧ (A = none → c = 0) ∧ Row W A (evts l) ∧ EvtsU l := by
  obtain ⟨v0, v1, y0, y1, k, rfl, rfl, rfl, h0, h1⟩ := Go.Joins.open_agg2 Try.underlying27 (by kernel_rfl) (by kernel_rfl) hok h
  obtain ⟨N, e0, _⟩ := DataW.trod_int Try.underlying24 h0
  obtain ⟨A, n, c, l, e1, q⟩ := trod_evts h1
  cases e0; cases e1
  exact ⟨N, A, n, c, l, rfl, q⟩
end
end Go.Proofs.Ytgahfcdmgdnjiaa
