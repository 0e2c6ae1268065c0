/- Own texts, packed: N1, N2, N3, N4, N5, N6, N7, N8, N9, N10, N11. -/
import Derived.Test.YtgahfcdmgdnjiaaGFg
import Derived.Laws.StructEq
import Derived.ChangeKeysEq
import Derived.Test.YtgahfcdmgdnjiaaGYg
import Derived.Test.YtgahfcdmgdnjiaaGCg
import Derived.Test.YtgahfcdmgdnjiaaGIg

/-! Edges and events in memory; when they are the same. -/
namespace Go.Proofs.Ytgahfcdmgdnjiaa
open Go Go.V Go.RowKit
set_option linter.unusedVariables false
set_option linter.unusedSimpArgs false
set_option maxHeartbeats 4000000
set_option maxRecDepth 100000

theorem equal_edge (a b c e : Int) (w : World) : (Op.equalIn 10000 39 (.agg #[.int .u32 a, .int .u32 b]) (.agg #[.int .u32 c, .int .u32 e])).run P w = .ok (decide (a = c ∧ b = e)) w := by
  rw [run_equalIn_struct w 9999 39 _ _ (by kernel_rfl) (by kernel_rfl)]
  obtain ⟨f, g, hfg, hf1, hf2, hf3, hg1, hg2, hg3⟩ : ∃ f g : Field, (P.fieldsOf 39).toList = [f, g] ∧ f.name = "U" ∧ f.type = 37 ∧ f.offset = 0 ∧ g.name = "V" ∧ g.type = 37 ∧ g.offset = 1 :=
    ⟨((P.fieldsOf 39).toList)[0]!, ((P.fieldsOf 39).toList)[1]!, by kernel_rfl, by kernel_rfl, by kernel_rfl, by kernel_rfl, by kernel_rfl, by kernel_rfl, by kernel_rfl⟩
  rw [hfg]
  have hu : P.underlying 37 = some (.int .u32) := by kernel_rfl
  have hp : P.plainKey 37 = true := by kernel_rfl
  have e1 : ∀ (x y : Int) (w : World), (part 37 #[.int .u32 x, .int .u32 y] 0).run P w = .ok (.int .u32 x) w := fun x y w => run_part_plain w hp rfl
  have e2 : ∀ (x y : Int) (w : World), (part 37 #[.int .u32 x, .int .u32 y] 1).run P w = .ok (.int .u32 y) w := fun x y w => run_part_plain w hp rfl
  have q : ∀ (x y : Int) (w : World), (Op.equalIn 9999 37 (.int .u32 x) (.int .u32 y)).run P w = .ok (x == y) w := fun x y w => run_equalIn_int w 9998 _ _ _ _ _ hu
  simp only [Op.eqFields, hf1, hf2, hf3, hg1, hg2, hg3, Sem.run_bind, Sem.run_ite, e1, e2, q, Result.andThen_ok]
  by_cases h1 : a = c
  · by_cases h2 : b = e
    · simp [h1, h2]
    · simp [h1, h2]
  · simp [h1]

theorem run_eqE (s t : Operand) (a b c e : Int) (w : World) : Sem.run P (do eqGuard .eql 39 s t (.agg #[.int .u32 a, .int .u32 b]) (.agg #[.int .u32 c, .int .u32 e]); Go.binOp .eql 39 (.agg #[.int .u32 a, .int .u32 b]) (.agg #[.int .u32 c, .int .u32 e]) : Sem Value) w = .ok (.bool (decide (a = c ∧ b = e))) w := by
  rw [Sem.run_bind, run_eqGuard_agg w .eql 39 s t _ _ (by kernel_rfl), Result.andThen_ok, run_eql_struct w, equal_edge]
  rfl
theorem run_neE (s t : Operand) (a b c e : Int) (w : World) : Sem.run P (do eqGuard .neq 39 s t (.agg #[.int .u32 a, .int .u32 b]) (.agg #[.int .u32 c, .int .u32 e]); Go.binOp .neq 39 (.agg #[.int .u32 a, .int .u32 b]) (.agg #[.int .u32 c, .int .u32 e]) : Sem Value) w = .ok (.bool (!decide (a = c ∧ b = e))) w := by
  rw [Sem.run_bind, run_eqGuard_agg w .neq 39 s t _ _ (by kernel_rfl), Result.andThen_ok, run_neq_struct w, equal_edge]
  rfl

/-- Edges in memory: two cells each. -/
abbrev Edge := Int × Int
def edgeC (e : Edge) : List Value := [.int .u32 e.1, .int .u32 e.2]
def edges (l : List Edge) : List Value := l.flatMap edgeC
theorem edges_append (l m : List Edge) : edges (l ++ m) = edges l ++ edges m := by simp [edges]
theorem edges_length (l : List Edge) : (edges l).length = l.length * 2 := by
  induction l with
  | nil => rfl
  | cons e l ih => simp [edges, edgeC] at ih ⊢; omega
theorem edges_get : ∀ {l : List Edge} {i : Nat} (h : i < l.length), (edges l)[i * 2]? = some (.int .u32 l[i].1) ∧ (edges l)[i * 2 + 1]? = some (.int .u32 l[i].2)
  | e :: l, 0, _ => by simp [edges, edgeC]
  | e :: l, i + 1, h => by
    have ih := edges_get (l := l) (i := i) (by simpa using h)
    rw [show (i + 1) * 2 = i * 2 + 1 + 1 by omega]
    exact ih
theorem edges_drop (l : List Edge) (k : Nat) : (edges l).drop (k * 2) = edges (l.drop k) := by
  induction k generalizing l with
  | zero => simp
  | succ k ih =>
    cases l with
    | nil => simp [edges]
    | cons e l => rw [show (k + 1) * 2 = k * 2 + 1 + 1 by omega]; exact ih l
theorem edges_take (l : List Edge) (k : Nat) : (edges l).take (k * 2) = edges (l.take k) := by
  induction k generalizing l with
  | zero => simp [edges]
  | succ k ih =>
    cases l with
    | nil => simp [edges]
    | cons e l =>
      rw [show (k + 1) * 2 = k * 2 + 1 + 1 by omega]
      show List.take (k * 2 + 1 + 1) (.int .u32 e.1 :: .int .u32 e.2 :: edges l) = .int .u32 e.1 :: .int .u32 e.2 :: edges (List.take k l)
      rw [List.take_succ_cons, List.take_succ_cons, ih]

/-- Events in memory: four cells each: time, edge, comes? -/
structure Evt where
  t : Int
  u : Int
  v : Int
  add : Bool
deriving DecidableEq
def evtC (e : Evt) : List Value := [.int .i64 e.t, .int .u32 e.u, .int .u32 e.v, .bool e.add]
def evts (l : List Evt) : List Value := l.flatMap evtC
theorem evts_length (l : List Evt) : (evts l).length = l.length * 4 := by
  induction l with
  | nil => rfl
  | cons e l ih => simp [evts, evtC] at ih ⊢; omega
theorem evts_get : ∀ {l : List Evt} {i : Nat} (h : i < l.length), (evts l)[i * 4]? = some (.int .i64 l[i].t) ∧ (evts l)[i * 4 + 1]? = some (.int .u32 l[i].u) ∧ (evts l)[i * 4 + 2]? = some (.int .u32 l[i].v) ∧ (evts l)[i * 4 + 3]? = some (.bool l[i].add)
  | e :: l, 0, _ => by simp [evts, evtC]
  | e :: l, i + 1, h => by
    have ih := evts_get (l := l) (i := i) (by simpa using h)
    rw [show (i + 1) * 4 = i * 4 + 1 + 1 + 1 + 1 by omega]
    exact ih
end Go.Proofs.Ytgahfcdmgdnjiaa

/-! archipelagoref8: Less, Before, Right, Rising, Find, Has, SameEdges: the walks. -/
namespace Go.Proofs.Ytgahfcdmgdnjiaa
open Go Go.V Go.RowKit
set_option linter.unusedVariables false
set_option linter.unusedSimpArgs false
set_option maxHeartbeats 4000000
set_option maxRecDepth 100000

abbrev edgeV (e : Edge) : Value := .agg #[.int .u32 e.1, .int .u32 e.2]
abbrev evtV (e : Evt) : Value := .agg #[.int .i64 e.t, .int .u32 e.u, .int .u32 e.v, .bool e.add]
def lessE (a b : Edge) : Bool := decide (a.1 < b.1 ∨ a.1 = b.1 ∧ a.2 < b.2)
def beforeV (a b : Evt) : Bool := decide (a.t < b.t) || (decide (a.t = b.t) && lessE (a.u, a.v) (b.u, b.v))
def risingL (l : List Edge) : Bool := (List.range (l.length - 1)).all fun i => lessE (l.getD i (0, 0)) (l.getD (i + 1) (0, 0))

theorem less_calls {w : World} (a b : Edge) : Calls P 61 #[edgeV a, edgeV b] w fun ev w' => ev = .returned (.bool (lessE a b)) ∧ w.grownBy w' none := by
  apply vc61; unfold VC61; try (conv => zeta)
  have g1 := World.grownBy_alloc w (.cells #[.int .u32 a.1, .int .u32 a.2] 39) none
  have b1 : (w.alloc (.cells #[.int .u32 a.1, .int .u32 a.2] 39)).heap[w.heap.size]? = some (.cells #[.int .u32 a.1, .int .u32 a.2] 39 (0, 0)) := heap_alloc_new w _
  obtain ⟨w1, hw1⟩ : ∃ w1, w1 = w.alloc (.cells #[.int .u32 a.1, .int .u32 a.2] 39) := ⟨_, rfl⟩
  rw [← hw1] at g1 b1 ⊢
  have g2 := World.grownBy_alloc w1 (.cells #[.int .u32 b.1, .int .u32 b.2] 39) none
  have b2 : (w1.alloc (.cells #[.int .u32 b.1, .int .u32 b.2] 39)).heap[w1.heap.size]? = some (.cells #[.int .u32 b.1, .int .u32 b.2] 39 (0, 0)) := heap_alloc_new w1 _
  obtain ⟨w2, hw2⟩ : ∃ w2, w2 = w1.alloc (.cells #[.int .u32 b.1, .int .u32 b.2] 39) := ⟨_, rfl⟩
  rw [← hw2] at g2 b2 ⊢
  have b1' : w2.heap[w.heap.size]? = some (.cells #[.int .u32 a.1, .int .u32 a.2] 39 (0, 0)) := by rw [g2.block _ (Array.getElem?_eq_some_iff.1 b1).1 (by simp)]; exact b1
  have g := grown_trans g1 g2
  refine ⟨_, blk_cell b1' 0, _, blk_cell b2 0, fun h => ⟨?_, g⟩, fun h => ⟨_, blk_cell b1' 0, _, blk_cell b2 0, fun h2 => ⟨_, blk_cell b1' 1, _, blk_cell b2 1, ?_, g⟩, fun h2 => ⟨?_, g⟩⟩⟩
  · have : lessE a b = true := by unfold lessE; exact decide_eq_true (.inl h)
    rw [this]
  · congr 2; unfold lessE; rw [decide_eq_decide]; omega
  · have : lessE a b = false := by unfold lessE; exact decide_eq_false (by omega)
    rw [this]

theorem right8_calls {w : World} (e : Edge) {n : Int} (he : 0 ≤ e.2 ∧ e.2 ≤ 4294967295) : Calls P 48 #[edgeV e, .int .u64 n] w fun ev w' => ev = .returned (.bool (decide (e.1 < e.2 ∧ e.2 < n))) ∧ w.grownBy w' none := by
  apply vc48; unfold VC48; try (conv => zeta)
  simp only [InK]
  have g1 := World.grownBy_alloc w (.cells #[.int .u32 e.1, .int .u32 e.2] 39) none
  have b1 : (w.alloc (.cells #[.int .u32 e.1, .int .u32 e.2] 39)).heap[w.heap.size]? = some (.cells #[.int .u32 e.1, .int .u32 e.2] 39 (0, 0)) := heap_alloc_new w _
  refine ⟨_, blk_cell b1 0, _, blk_cell b1 1, fun h => ⟨_, blk_cell b1 1, by omega, ?_, g1⟩, fun h => ⟨?_, g1⟩⟩
  · congr 2; simp; omega
  · congr 2; simp; omega

theorem before_calls {w : World} (a b : Evt) : Calls P 49 #[evtV a, evtV b] w fun ev w' => ev = .returned (.bool (beforeV a b)) ∧ w.grownBy w' none := by
  apply vc49; unfold VC49; try (conv => zeta)
  have g1 := World.grownBy_alloc w (.cells #[.int .i64 a.t, .int .u32 a.u, .int .u32 a.v, .bool a.add] 41) none
  have b1 : (w.alloc (.cells #[.int .i64 a.t, .int .u32 a.u, .int .u32 a.v, .bool a.add] 41)).heap[w.heap.size]? = some (.cells #[.int .i64 a.t, .int .u32 a.u, .int .u32 a.v, .bool a.add] 41 (0, 0)) := heap_alloc_new w _
  obtain ⟨w1, hw1⟩ : ∃ w1, w1 = w.alloc (.cells #[.int .i64 a.t, .int .u32 a.u, .int .u32 a.v, .bool a.add] 41) := ⟨_, rfl⟩
  rw [← hw1] at g1 b1 ⊢
  have g2 := World.grownBy_alloc w1 (.cells #[.int .i64 b.t, .int .u32 b.u, .int .u32 b.v, .bool b.add] 41) none
  have b2 : (w1.alloc (.cells #[.int .i64 b.t, .int .u32 b.u, .int .u32 b.v, .bool b.add] 41)).heap[w1.heap.size]? = some (.cells #[.int .i64 b.t, .int .u32 b.u, .int .u32 b.v, .bool b.add] 41 (0, 0)) := heap_alloc_new w1 _
  obtain ⟨w2, hw2⟩ : ∃ w2, w2 = w1.alloc (.cells #[.int .i64 b.t, .int .u32 b.u, .int .u32 b.v, .bool b.add] 41) := ⟨_, rfl⟩
  rw [← hw2] at g2 b2 ⊢
  have b1' : w2.heap[w.heap.size]? = some (.cells #[.int .i64 a.t, .int .u32 a.u, .int .u32 a.v, .bool a.add] 41 (0, 0)) := by rw [g2.block _ (Array.getElem?_eq_some_iff.1 b1).1 (by simp)]; exact b1
  have g := grown_trans g1 g2
  refine ⟨_, blk_cell b1' 0, _, blk_cell b2 0, fun h => ⟨?_, g⟩, fun h => ⟨_, blk_cell b1' 0, _, blk_cell b2 0, fun h2 => ⟨_, blk_cell b1' 1, _, blk_cell b1' 2, _, blk_cell b2 1, _, blk_cell b2 2, ?_⟩, fun h2 => ⟨?_, g⟩⟩⟩
  · congr 2; simp [beforeV, h]
  · refine (less_calls (a.u, a.v) (b.u, b.v)).mono fun ev w3 hh => ?_
    obtain ⟨rfl, g3⟩ := hh
    refine ⟨_, rfl, ?_, grown_trans g g3⟩
    congr 2; simp [beforeV, h, h2]
  · congr 2; simp [beforeV, h, h2]

/-- Where edges lie, their two cells are read. -/
theorem edge_at {w : World} {A : Option Addr} {l : List Edge} (h : Row w A (edges l)) {j : Nat} (hj : j < l.length) : ∃ a, A = some a ∧ w.cell? (a.add (j * 2)) = some (.int .u32 l[j].1) ∧ w.cell? ((a.add (j * 2)).add 1) = some (.int .u32 l[j].2) := by
  obtain ⟨h1, h2⟩ := edges_get hj
  obtain ⟨a, e1, e2⟩ := h _ _ h1
  obtain ⟨a', e3, e4⟩ := h _ _ h2
  rw [e1] at e3; cases e3
  exact ⟨a, e1, e2, by rw [add_add]; exact e4⟩

theorem rising_calls {w : World} {A : Option Addr} {n c : Nat} {l : List Edge} (hr : Row w A (edges l)) (hn : n = l.length) (hl : n ≤ 2 ^ 40) : Calls P 33 #[.slice A n c] w fun ev w' => ev = .returned (.bool (risingL l)) ∧ w.grownBy w' none := by
  apply vc33; unfold VC33; try (conv => zeta)
  simp only [InK]
  refine ⟨fun m i w1 => ∃ j : Nat, i = (j : Int) ∧ 1 ≤ j ∧ (j ≤ l.length ∨ j = 1) ∧ m = l.length - j ∧ (∀ t, t + 1 < j → lessE (l.getD t (0, 0)) (l.getD (t + 1) (0, 0)) = true) ∧ w.grownBy w1 none, ⟨_, 1, rfl, by omega, .inr rfl, rfl, fun t ht => by omega, grown_refl _ _⟩, ?_⟩
  rintro m i w1 ⟨j, rfl, h1, hj, rfl, hs, hg⟩
  have tj : (j : Int).toNat = j := by omega
  have tj1 : ((j : Int) - 1).toNat = j - 1 := by omega
  rw [tj, tj1]
  refine ⟨fun hlt => ?_, fun hge => ⟨?_, hg⟩⟩
  · have gd := grown_drew hg
    obtain ⟨a, e1, e2, e3⟩ := edge_at (hr.kept_none gd) (show j - 1 < l.length by omega)
    obtain ⟨a', f1, f2, f3⟩ := edge_at (hr.kept_none gd) (show j < l.length by omega)
    refine ⟨by omega, a, e1, by omega, by omega, _, e2, _, e3, a', f1, by omega, by omega, _, f2, _, f3, ?_⟩
    refine (less_calls l[j - 1] l[j]).mono fun ev w2 hh => ?_
    obtain ⟨rfl, g2⟩ := hh
    have g02 := grown_trans gd g2
    have d1 : l.getD (j - 1) (0, 0) = l[j - 1] := by simp [List.getD_eq_getElem?_getD, show j - 1 < l.length by omega]
    have d2 : l.getD (j - 1 + 1) (0, 0) = l[j] := by rw [show j - 1 + 1 = j by omega]; simp [List.getD_eq_getElem?_getD, show j < l.length by omega]
    refine ⟨_, rfl, fun h => ⟨?_, g02⟩, fun h => ⟨by omega, l.length - (j + 1), by omega, j + 1, by omega, by omega, .inl (by omega), rfl, fun t ht => ?_, g02⟩⟩
    · have : risingL l = false := by
        cases hq : risingL l with
        | false => rfl
        | true =>
          have := List.all_eq_true.1 hq (j - 1) (List.mem_range.2 (by omega))
          rw [d1, d2, h] at this; cases this
      rw [this]
    · by_cases e : t + 1 = j
      · have : t = j - 1 := by omega
        subst this
        rw [d1, d2]; simpa using h
      · exact hs t (by omega)
  · have : risingL l = true := List.all_eq_true.2 fun t ht => hs t (by have := List.mem_range.1 ht; omega)
    rw [this]

/-- Where an edge is, or -1. -/
def findL (l : List Edge) (e : Edge) : Int := if e ∈ l then (l.idxOf e : Int) else -1
theorem find_calls {w : World} {A : Option Addr} {n c : Nat} {l : List Edge} {e : Edge} (hr : Row w A (edges l)) (hn : n = l.length) (hl : n ≤ 2 ^ 40) : Calls P 60 #[.slice A n c, edgeV e] w fun ev w' => ev = .returned (.int .i64 (findL l e)) ∧ w.grownBy w' none := by
  apply vc60; unfold VC60; try (conv => zeta)
  simp only [InK]
  have g1 := World.grownBy_alloc w (.cells #[.int .u32 e.1, .int .u32 e.2] 39) none
  have b1 : (w.alloc (.cells #[.int .u32 e.1, .int .u32 e.2] 39)).heap[w.heap.size]? = some (.cells #[.int .u32 e.1, .int .u32 e.2] 39 (0, 0)) := heap_alloc_new w _
  obtain ⟨w1, hw1⟩ : ∃ w1, w1 = w.alloc (.cells #[.int .u32 e.1, .int .u32 e.2] 39) := ⟨_, rfl⟩
  rw [← hw1] at g1 b1 ⊢
  refine ⟨fun m i w2 => ∃ j : Nat, i = (j : Int) ∧ j ≤ l.length ∧ m = l.length - j ∧ (∀ t (h : t < l.length), t < j → l[t] ≠ e) ∧ w1.grownBy w2 none, ⟨_, 0, rfl, by omega, rfl, fun t _ ht => by omega, grown_refl _ _⟩, ?_⟩
  rintro m i w2 ⟨j, rfl, hj, rfl, hs, hg⟩
  have tj : (j : Int).toNat = j := by omega
  rw [tj]
  refine ⟨fun hlt => ?_, fun hge => ⟨?_, grown_trans g1 hg⟩⟩
  · have gd := grown_drew hg
    have lj : j < l.length := by omega
    obtain ⟨a, e1, e2, e3⟩ := edge_at ((hr.kept_none g1).kept_none gd) lj
    have b2 : w2.drew.heap[w.heap.size]? = some (.cells #[.int .u32 e.1, .int .u32 e.2] 39 (0, 0)) := by rw [gd.block _ (Array.getElem?_eq_some_iff.1 b1).1 (by simp)]; exact b1
    refine ⟨a, e1, by omega, by omega, _, e2, _, e3, _, blk_cell b2 0, _, blk_cell b2 1, _, fun w => run_eqE _ _ _ _ _ _ w, fun h => ⟨?_, grown_trans g1 gd⟩, fun h => ⟨by omega, l.length - (j + 1), by omega, j + 1, by omega, by omega, rfl, fun t ht h3 => ?_, gd⟩⟩
    · have he : l[j] = e := by
        have := of_decide_eq_true h
        exact Prod.ext this.1 this.2
      have hm : e ∈ l := by rw [← he]; exact List.getElem_mem lj
      have hi : l.idxOf e = j := by
        have h4 : l.idxOf e < l.length := List.idxOf_lt_length_iff.2 hm
        have h5 : l[l.idxOf e] = e := List.getElem_idxOf h4
        rcases Nat.lt_trichotomy (l.idxOf e) j with q | q | q
        · exact absurd h5 (hs _ h4 q)
        · exact q
        · exfalso
          have := List.not_of_lt_findIdx (p := (· == e)) (xs := l) (i := j) q
          simp [he] at this
      rw [findL, if_pos hm, hi]
    · by_cases e4 : t = j
      · subst e4
        intro h5
        rw [h5] at h
        simp at h
      · exact hs t ht (by omega)
  · have hm : e ∉ l := by
      intro h
      obtain ⟨t, ht, h2⟩ := List.mem_iff_getElem.1 h
      exact hs t ht (by omega) h2
    rw [findL, if_neg hm]

theorem has_calls {w : World} {A : Option Addr} {n c : Nat} {l : List Edge} {e : Edge} (hr : Row w A (edges l)) (hn : n = l.length) (hl : n ≤ 2 ^ 40) : Calls P 30 #[.slice A n c, edgeV e] w fun ev w' => ev = .returned (.bool (decide (e ∈ l))) ∧ w.grownBy w' none := by
  apply vc30; unfold VC30; try (conv => zeta)
  have g1 := World.grownBy_alloc w (.cells #[.int .u32 e.1, .int .u32 e.2] 39) none
  have b1 : (w.alloc (.cells #[.int .u32 e.1, .int .u32 e.2] 39)).heap[w.heap.size]? = some (.cells #[.int .u32 e.1, .int .u32 e.2] 39 (0, 0)) := heap_alloc_new w _
  refine ⟨_, blk_cell b1 0, _, blk_cell b1 1, ?_⟩
  refine (find_calls (e := e) (hr.kept_none g1) hn hl).mono fun ev w2 hh => ?_
  obtain ⟨rfl, g2⟩ := hh
  refine ⟨_, rfl, ?_, grown_trans g1 g2⟩
  congr 2
  unfold findL
  by_cases h : e ∈ l
  · simp [h]
  · simp [h]

theorem sameEdges_calls {w : World} {A B : Option Addr} {n c m d : Nat} {l k : List Edge} (hA : Row w A (edges l)) (hn : n = l.length) (hB : Row w B (edges k)) (hm : m = k.length) (hl : n ≤ 2 ^ 40) : Calls P 15 #[.slice A n c, .slice B m d] w fun ev w' => ev = .returned (.bool (decide (l = k))) ∧ w.grownBy w' none := by
  apply vc15; unfold VC15; try (conv => zeta)
  simp only [InK]
  refine ⟨fun hne => ⟨?_, grown_refl _ _⟩, fun heq => ?_⟩
  · have : l ≠ k := fun e => by subst e; omega
    simp [this]
  refine ⟨fun mm i w1 => ∃ j : Nat, i = (j : Int) ∧ j ≤ l.length ∧ mm = l.length - j ∧ l.take j = k.take j ∧ w.grownBy w1 none, ⟨_, 0, rfl, by omega, rfl, by simp, grown_refl _ _⟩, ?_⟩
  rintro mm i w1 ⟨j, rfl, hj, rfl, hs, hg⟩
  have tj : (j : Int).toNat = j := by omega
  rw [tj]
  refine ⟨fun hlt => ?_, fun hge => ⟨?_, hg⟩⟩
  · have gd := grown_drew hg
    have lj : j < l.length := by omega
    have kj : j < k.length := by omega
    obtain ⟨a, e1, e2, e3⟩ := edge_at (hA.kept_none gd) lj
    obtain ⟨b, f1, f2, f3⟩ := edge_at (hB.kept_none gd) kj
    refine ⟨a, e1, by omega, by omega, _, e2, _, e3, b, f1, by omega, by omega, _, f2, _, f3, _, fun w => run_neE _ _ _ _ _ _ w, fun h => ⟨?_, gd⟩, fun h => ⟨by omega, l.length - (j + 1), by omega, j + 1, by omega, by omega, rfl, ?_, gd⟩⟩
    · have : l ≠ k := fun e => by subst e; simp at h
      simp [this]
    · have he : l[j] = k[j] := by
        have : l[j].1 = k[j].1 ∧ l[j].2 = k[j].2 := by simpa using h
        exact Prod.ext this.1 this.2
      rw [List.take_succ_eq_append_getElem lj, List.take_succ_eq_append_getElem kj, hs, he]
  · rw [List.take_of_length_le (by omega), List.take_of_length_le (by omega)] at hs
    simp [hs]
end Go.Proofs.Ytgahfcdmgdnjiaa

/-! archipelagoref8.Turn: the walk. -/
namespace Go.Proofs.Ytgahfcdmgdnjiaa
open Go Go.V Go.RowKit
set_option linter.unusedVariables false
set_option linter.unusedSimpArgs false
set_option maxHeartbeats 4000000
set_option maxRecDepth 100000

theorem elemEdge : ElemK P 29 39 2 (P.bytesOf 39) := ⟨(P.info? 39).getD default, ((P.info? 39).getD default).zero.getD undef, by kernel_rfl, by kernel_rfl, by kernel_rfl, by kernel_rfl, by kernel_rfl, by kernel_rfl, by decide⟩
theorem bytesEdge : P.bytesOf 39 ≤ 64 := of_decide_eq_true (by kernel_rfl)

theorem append_edges {w : World} {base : Nat} {A B : Option Addr} {n c m d : Nat} {xs ys : List Edge} (ho : OwnedK w base 39 2 A n c (edges xs)) (hB : Row w B (edges ys)) (hm : m = ys.length) (hd : B = none → d = 0) (hn : n + m ≤ 2 ^ 39) (hb : base ≤ w.heap.size) :
    ∃ (A' : Option Addr) (n' c' : Nat) (w' : World), Sem.run P (Builtin.append_ #[29, 29] 29 #[.slice A n c, .slice B m d]) w = .ok (.slice A' n' c') w' ∧
      OwnedK w' base 39 2 A' n' c' (edges (xs ++ ys)) ∧ w.grownBy w' (Value.slice A n c).ownBlock ∧ n' = n + m := by
  cases B with
  | none =>
    have hys : ys = [] := by
      cases ys with
      | nil => rfl
      | cons y ys => obtain ⟨a, e, _⟩ := hB 0 _ rfl; cases e
    subst hys
    have h0 : m = 0 := by simpa using hm
    have h1 := hd rfl
    subst h0 h1
    exact ⟨A, n, c, w, ho.appends_nil elemEdge, by simpa using ho, grown_refl _ _, rfl⟩
  | some a =>
    obtain ⟨A', n', c', w', h1, h2, h3, h4, _⟩ := ho.appends (ty := 29) elemEdge bytesEdge (a := a) (m := m) (cc := d) (us := edges ys) (by rw [edges_length, hm]) (fun j u hj => by obtain ⟨b, q1, q2⟩ := hB j u hj; cases q1; exact q2) (fun u hu => by
      simp only [edges, List.mem_flatMap] at hu
      obtain ⟨e, _, he⟩ := hu
      simp [edgeC] at he
      rcases he with rfl | rfl <;> rfl) (by omega) hb
    exact ⟨A', n', c', w', h1, by rw [edges_append]; exact h2, h4, h3⟩

theorem cutE {w : World} {A : Option Addr} {c k : Nat} {l : List Edge} (h : Row w A (edges l)) (hA : A = none → c = 0) (hc : l.length ≤ c) : Row w (cutA A c k 2) (edges (l.drop k)) ∧ (cutA A c k 2 = none → c - k = 0) := by
  unfold cutA
  split
  · rename_i hck
    refine ⟨?_, fun _ => by omega⟩
    rw [List.drop_eq_nil_of_le (by omega)]
    intro j u hj; simp [edges] at hj
  · have := h.drop (k * 2)
    rw [edges_drop] at this
    refine ⟨this, fun e => ?_⟩
    cases A with
    | none => rw [hA rfl]; omega
    | some a => simp at e
theorem takeE {w : World} {A : Option Addr} {l : List Edge} (h : Row w A (edges l)) (k : Nat) : Row w A (edges (l.take k)) := by
  intro j u hj
  rw [← edges_take, List.getElem?_take] at hj
  split at hj
  · exact h j u hj
  · cases hj

def lowL (l : List Edge) (e : Edge) : Nat := (l.takeWhile fun x => lessE x e).length
/-- A graph behind an event. -/
def turnL (l : List Edge) (ev : Evt) : Option (List Edge) :=
  if risingL l = false then none else if ev.add = decide ((ev.u, ev.v) ∈ l) then none else
  if ev.add = false then some (l.take (l.idxOf (ev.u, ev.v)) ++ l.drop (l.idxOf (ev.u, ev.v) + 1)) else some (l.take (lowL l (ev.u, ev.v)) ++ ((ev.u, ev.v) :: l.drop (lowL l (ev.u, ev.v))))

theorem lowL_is {l : List Edge} {e : Edge} {j : Nat} (hj : j ≤ l.length) (h : ∀ t (ht : t < l.length), t < j → lessE l[t] e = true) (h2 : ∀ (ht : j < l.length), lessE l[j] e = false) : lowL l e = j := by
  induction l generalizing j with
  | nil => simp at hj; subst hj; rfl
  | cons x l ih =>
    cases j with
    | zero =>
      have := h2 (by simp)
      simp at this
      simp [lowL, List.takeWhile_cons, this]
    | succ j =>
      have h0 := h 0 (by simp) (by omega)
      simp at h0
      have := ih (j := j) (by simpa using hj) (fun t ht htj => h (t + 1) (Nat.succ_lt_succ ht) (by omega)) (fun ht => h2 (Nat.succ_lt_succ ht))
      simp [lowL, List.takeWhile_cons, h0] at this ⊢
      exact this

theorem turn_calls {w : World} {A : Option Addr} {n c : Nat} {l : List Edge} {e : Evt} (hr : Row w A (edges l)) (hn : n = l.length) (hc : n ≤ c) (hA : A = none → c = 0) (hl : n ≤ 2 ^ 30) :
    Calls P 28 #[.slice A n c, evtV e] w fun ev w' => ∃ (A' : Option Addr) (n' c' : Nat), ev = .returned (.tuple #[.slice A' n' c', .bool (turnL l e).isSome]) ∧ OwnedK w' w.heap.size 39 2 A' n' c' (edges ((turnL l e).getD [])) ∧ w.grownBy w' none := by
  apply vc28; unfold VC28; try (conv => zeta)
  simp only [InK]
  have g1 := World.grownBy_alloc w (.cells #[.int .i64 e.t, .int .u32 e.u, .int .u32 e.v, .bool e.add] 41) none
  have b1 : (w.alloc (.cells #[.int .i64 e.t, .int .u32 e.u, .int .u32 e.v, .bool e.add] 41)).heap[w.heap.size]? = some (.cells #[.int .i64 e.t, .int .u32 e.u, .int .u32 e.v, .bool e.add] 41 (0, 0)) := heap_alloc_new w _
  obtain ⟨w1, hw1⟩ : ∃ w1, w1 = w.alloc (.cells #[.int .i64 e.t, .int .u32 e.u, .int .u32 e.v, .bool e.add] 41) := ⟨_, rfl⟩
  rw [← hw1] at g1 b1 ⊢
  have keep : ∀ w', w1.grownBy w' none → w'.heap[w.heap.size]? = some (.cells #[.int .i64 e.t, .int .u32 e.u, .int .u32 e.v, .bool e.add] 41 (0, 0)) := fun w' g => by rw [g.block _ (Array.getElem?_eq_some_iff.1 b1).1 (by simp)]; exact b1
  refine ⟨_, blk_cell b1 1, _, blk_cell b1 2, ?_⟩
  refine (find_calls (e := (e.u, e.v)) (hr.kept_none g1) hn (by omega)).mono fun ev w2 hh => ?_
  obtain ⟨rfl, g2⟩ := hh
  refine ⟨_, rfl, ?_⟩
  refine (rising_calls ((hr.kept_none g1).kept_none g2) hn (by omega)).mono fun ev w3 hh => ?_
  obtain ⟨rfl, g3⟩ := hh
  have g13 := grown_trans g2 g3
  have g03 := grown_trans g1 g13
  have hfind : decide (findL l (e.u, e.v) ≥ 0) = decide ((e.u, e.v) ∈ l) := by
    unfold findL
    by_cases h : (e.u, e.v) ∈ l
    · simp [h]
    · simp [h]
  refine ⟨_, rfl, fun h => ?_, fun h => ?_⟩
  · have : turnL l e = none := by unfold turnL; rw [if_pos h]
    rw [this]; exact ⟨_, _, _, rfl, OwnedK.nil _ _ _ _, g03⟩
  have hris : ¬ risingL l = false := h
  have b3 := keep w3 g13
  have hu : P.underlying 4 = some .bool := by kernel_rfl
  refine ⟨_, blk_cell b3 3, _, fun w => run_eql _ _ _ _ w, fun h => ?_, fun h => ?_⟩
  · have h' : e.add = decide ((e.u, e.v) ∈ l) := by rw [← hfind]; simpa using h
    have : turnL l e = none := by unfold turnL; rw [if_neg hris, if_pos h']
    rw [this]; exact ⟨_, _, _, rfl, OwnedK.nil _ _ _ _, g03⟩
  have hadd : ¬ e.add = decide ((e.u, e.v) ∈ l) := by rw [← hfind]; simpa using h
  refine ⟨_, blk_cell b3 3, fun hdel => ?_, fun hins => ?_⟩
  · have hm : (e.u, e.v) ∈ l := by
      rw [hdel] at hadd
      by_cases q : (e.u, e.v) ∈ l
      · exact q
      · simp [q] at hadd
    have hft : findL l (e.u, e.v) = ((l.idxOf (e.u, e.v) : Nat) : Int) := by rw [findL, if_pos hm]
    have hil : l.idxOf (e.u, e.v) < l.length := List.idxOf_lt_length_iff.2 hm
    have htu : turnL l e = some (l.take (l.idxOf (e.u, e.v)) ++ l.drop (l.idxOf (e.u, e.v) + 1)) := by unfold turnL; rw [if_neg hris, if_neg hadd, if_pos hdel]
    rw [htu, hft]
    generalize l.idxOf (e.u, e.v) = i at *
    have ti : (i : Int).toNat = i := by omega
    have ti1 : ((i : Int) + 1).toNat = i + 1 := by omega
    rw [ti, ti1]
    have gd := grown_drew g03
    have rd := hr.kept_none gd
    obtain ⟨A4, n4, c4, w4, f1, f2, f3, f4⟩ := append_edges (n := 0) (c := 0) (A := none) (xs := []) (OwnedK.nil w3.drew w3.drew.heap.size 39 2) (m := i) (d := c) (takeE rd i) (by rw [List.length_take]; omega) hA (by omega) (Nat.le_refl _)
    have g4 : w3.drew.grownBy w4 none := grown_own (grown_refl w3.drew none) f3 (fun k hk => by simp [Value.ownBlock] at hk)
    rw [List.nil_append] at f2
    obtain ⟨r5, d5⟩ := cutE (k := i + 1) (rd.kept_none g4) hA (by omega)
    obtain ⟨A5, n5, c5, w5, p1, p2, p3, p4⟩ := append_edges f2 (m := n - (i + 1)) (d := c - (i + 1)) r5 (by rw [List.length_drop]; omega) d5 (by omega) g4.size
    exact ⟨⟨by omega, by omega⟩, _, _, _, w4, f1, by omega, ⟨by omega, by omega⟩, _, _, _, w5, p1, _, _, _, rfl, p2.mono gd.size, grown_trans gd (grown_own g4 p3 f2.block_ge)⟩
  · have hadd' : ¬ e.add = false := hins
    have htu : turnL l e = some (l.take (lowL l (e.u, e.v)) ++ ((e.u, e.v) :: l.drop (lowL l (e.u, e.v)))) := by unfold turnL; rw [if_neg hris, if_neg hadd, if_neg hadd']
    rw [htu]
    refine ⟨fun i w' => i = (lowL l (e.u, e.v) : Int) ∧ lowL l (e.u, e.v) ≤ l.length ∧ w1.grownBy w' none, ⟨fun m i w4 => ∃ j : Nat, i = (j : Int) ∧ j ≤ l.length ∧ m = l.length - j ∧ (∀ t (ht : t < l.length), t < j → lessE l[t] (e.u, e.v) = true) ∧ w1.grownBy w4 none, ⟨_, 0, rfl, by omega, rfl, fun t _ ht => by omega, g13⟩, ?_⟩, ?_⟩
    · rintro m i w4 ⟨j, rfl, hj, rfl, hs, g4⟩
      have tj : (j : Int).toNat = j := by omega
      rw [tj]
      have gd := grown_drew g4
      refine ⟨fun hlt => ?_, fun hge => ?_⟩
      · have lj : j < l.length := by omega
        obtain ⟨a, e1, e2, e3⟩ := edge_at ((hr.kept_none g1).kept_none gd) lj
        have b4 := keep w4.drew gd
        refine ⟨a, e1, by omega, by omega, _, e2, _, e3, _, blk_cell b4 1, _, blk_cell b4 2, ?_⟩
        refine (less_calls l[j] (e.u, e.v)).mono fun ev w5 hh => ?_
        obtain ⟨rfl, g5⟩ := hh
        refine ⟨_, rfl, fun h => ⟨by omega, l.length - (j + 1), by omega, j + 1, by omega, by omega, rfl, fun t ht htj => ?_, grown_trans gd g5⟩, fun h => ?_⟩
        · by_cases q : t = j
          · subst q; exact h
          · exact hs t ht (by omega)
        · have := lowL_is hj hs (fun _ => h)
          exact ⟨by rw [this], by omega, grown_trans gd g5⟩
      · have := lowL_is hj hs (fun ht => by omega)
        exact ⟨by rw [this], by omega, gd⟩
    · rintro i w4 ⟨rfl, hk, g4⟩
      generalize lowL l (e.u, e.v) = k at *
      have tk : (k : Int).toNat = k := by omega
      rw [tk]
      have gd := grown_drew g4
      have g0d := grown_trans g1 gd
      have rd := hr.kept_none g0d
      refine ⟨fun w' => w1.grownBy w' none, gd, ⟨⟨by omega, by omega⟩, ?_⟩, ⟨⟨by omega, by omega⟩, ?_⟩⟩
      · obtain ⟨A5, n5, c5, w5, f1, f2, f3, f4⟩ := append_edges (n := 0) (c := 0) (A := none) (xs := []) (OwnedK.nil w4.drew w4.drew.heap.size 39 2) (m := k) (d := c) (takeE rd k) (by rw [List.length_take]; omega) hA (by omega) (Nat.le_refl _)
        have g5 : w4.drew.grownBy w5 none := grown_own (grown_refl w4.drew none) f3 (fun k hk => by simp [Value.ownBlock] at hk)
        rw [List.nil_append] at f2
        have g15 := grown_trans gd g5
        have ga := World.grownBy_alloc w5 (.cells #[.int .u32 e.u, .int .u32 e.v] 39) none
        have ra : Row (w5.alloc (.cells #[.int .u32 e.u, .int .u32 e.v] 39)) (some ⟨w5.heap.size, 0, none⟩) (edges [(e.u, e.v)]) := row_alloc w5 _ 39
        obtain ⟨A6, n6, c6, w6, p1, p2, p3, p4⟩ := append_edges (f2.kept ga) (m := 1) (d := 1) ra rfl (fun h => by cases h) (by omega) (Nat.le_trans g5.size ga.size)
        have g56 := grown_trans g5 ga
        have g6 := grown_own g56 p3 f2.block_ge
        have g16 := grown_trans gd g6
        obtain ⟨r7, d7⟩ := cutE (k := k) (rd.kept_none g6) hA (by omega)
        obtain ⟨A7, n7, c7, w7, q1, q2, q3, q4⟩ := append_edges p2 (m := n - k) (d := c - k) r7 (by rw [List.length_drop]; omega) d7 (by omega) g6.size
        have g7 := grown_own g6 q3 p2.block_ge
        exact ⟨_, _, _, w5, f1, g15, _, fun w' h => blk_cell (keep w' h) 1, _, fun w' h => blk_cell (keep w' h) 2, grown_trans g15 ga, _, _, _, w6, p1, g16, ⟨by omega, by omega⟩, _, _, _, w7, q1, grown_trans gd g7, _, _, _, rfl, by simpa using q2.mono g0d.size, grown_trans g0d g7⟩
      · have ga := World.grownBy_alloc w4.drew (.cells #[.int .u32 e.u, .int .u32 e.v] 39) none
        have ra : Row (w4.drew.alloc (.cells #[.int .u32 e.u, .int .u32 e.v] 39)) (some ⟨w4.drew.heap.size, 0, none⟩) (edges [(e.u, e.v)]) := row_alloc w4.drew _ 39
        obtain ⟨wa, hwa⟩ : ∃ wa, wa = w4.drew.alloc (.cells #[.int .u32 e.u, .int .u32 e.v] 39) := ⟨_, rfl⟩
        refine ⟨_, fun w' h => blk_cell (keep w' h) 1, _, fun w' h => blk_cell (keep w' h) 2, ?_⟩
        simp only [List.getElem?_toArray]
        show (fun w' => w1.grownBy w' none) (w4.drew.alloc (.cells #[.int .u32 e.u, .int .u32 e.v] 39)) ∧ _
        rw [← hwa] at ga ra ⊢
        obtain ⟨A5, n5, c5, w5, f1, f2, f3, f4⟩ := append_edges (n := 0) (c := 0) (A := none) (xs := []) (OwnedK.nil wa wa.heap.size 39 2) (m := k) (d := c) (takeE (rd.kept_none ga) k) (by rw [List.length_take]; omega) hA (by omega) (Nat.le_refl _)
        have g5 : wa.grownBy w5 none := grown_own (grown_refl wa none) f3 (fun k hk => by simp [Value.ownBlock] at hk)
        rw [List.nil_append] at f2
        obtain ⟨A6, n6, c6, w6, p1, p2, p3, p4⟩ := append_edges f2 (m := 1) (d := 1) (ra.kept_none g5) rfl (fun h => by cases h) (by omega) g5.size
        have g6 := grown_own g5 p3 f2.block_ge
        obtain ⟨r7, d7⟩ := cutE (k := k) ((rd.kept_none ga).kept_none g6) hA (by omega)
        obtain ⟨A7, n7, c7, w7, q1, q2, q3, q4⟩ := append_edges p2 (m := n - k) (d := c - k) r7 (by rw [List.length_drop]; omega) d7 (by omega) g6.size
        have g7 := grown_own g6 q3 p2.block_ge
        have g1a := grown_trans gd ga
        exact ⟨g1a, _, _, _, w5, f1, grown_trans g1a g5, _, _, _, w6, p1, grown_trans g1a g6, ⟨by omega, by omega⟩, _, _, _, w7, q1, grown_trans g1a g7, _, _, _, rfl, by simpa using q2.mono (Nat.le_trans g0d.size ga.size), grown_trans g0d (grown_trans ga g7)⟩
end Go.Proofs.Ytgahfcdmgdnjiaa

/-! archipelagoref8: SameEvents, Check: the walks. -/
namespace Go.Proofs.Ytgahfcdmgdnjiaa
open Go Go.V Go.RowKit
set_option linter.unusedVariables false
set_option linter.unusedSimpArgs false
set_option maxHeartbeats 4000000
set_option maxRecDepth 100000

theorem evt_at {w : World} {A : Option Addr} {l : List Evt} (h : Row w A (evts l)) {j : Nat} (hj : j < l.length) : ∃ a, A = some a ∧ w.cell? (a.add (j * 4)) = some (.int .i64 l[j].t) ∧ w.cell? ((a.add (j * 4)).add 1) = some (.int .u32 l[j].u) ∧ w.cell? ((a.add (j * 4)).add 2) = some (.int .u32 l[j].v) ∧ w.cell? ((a.add (j * 4)).add 3) = some (.bool l[j].add) := by
  obtain ⟨h1, h2, h3, h4⟩ := evts_get hj
  obtain ⟨a, e1, e2⟩ := h _ _ h1
  have rd : ∀ k u, (evts l)[j * 4 + k]? = some u → w.cell? ((a.add (j * 4)).add k) = some u := fun k u hk => by
    obtain ⟨a', q1, q2⟩ := h _ _ hk
    rw [e1] at q1; cases q1
    rw [add_add]; exact q2
  exact ⟨a, e1, e2, rd 1 _ h2, rd 2 _ h3, rd 3 _ h4⟩

def okEvt (N : Int) (e : Evt) : Bool := decide (e.u < e.v ∧ e.v < N)
/-- What is wrong of a history, from an event on. -/
def checkGo (N : Int) : List Evt → Option Evt → List Edge → Nat → Int × Int
  | [], _, _, _ => (0, 0)
  | e :: l, p, now, i => if e.t < 0 ∨ e.t > 4611686018427387903 then ((i : Int), 26) else if okEvt N e = false then ((i : Int), 24) else
    if (match p with | none => true | some q => beforeV q e) = false then ((i : Int), 23) else match turnL now e with
    | none => ((i : Int), 25)
    | some x => checkGo N l (some e) x (i + 1)
theorem checkGo_cons (N : Int) (e : Evt) (l : List Evt) (p : Option Evt) (now : List Edge) (i : Nat) : checkGo N (e :: l) p now i = if e.t < 0 ∨ e.t > 4611686018427387903 then ((i : Int), 26) else if okEvt N e = false then ((i : Int), 24) else
    if (match p with | none => true | some q => beforeV q e) = false then ((i : Int), 23) else match turnL now e with
    | none => ((i : Int), 25)
    | some x => checkGo N l (some e) x (i + 1) := rfl
def checkL (N : Int) (l : List Evt) : Int × Int := if N > 4294967296 ∨ l.length > 2147483648 then (0, 26) else checkGo N l none [] 0

theorem turnL_len {l x : List Edge} {e : Evt} (h : turnL l e = some x) : x.length ≤ l.length + 1 := by
  unfold turnL at h
  split at h
  · cases h
  · split at h
    · cases h
    · split at h
      · cases h; simp; omega
      · cases h; simp; omega

theorem check8_calls {w : World} {A : Option Addr} {n c : Nat} {l : List Evt} {N : Int} (hr : Row w A (evts l)) (hn : n = l.length) (hl : n ≤ 2 ^ 20) (hb : ∀ e ∈ l, (0 ≤ e.u ∧ e.u ≤ 4294967295) ∧ 0 ≤ e.v ∧ e.v ≤ 4294967295) :
    Calls P 23 #[.agg #[.int .u64 N, .slice A n c]] w fun ev w' => ev = .returned (.tuple #[.int .i64 (checkL N l).1, .int .i64 (checkL N l).2]) ∧ w.grownBy w' none := by
  apply vc23; unfold VC23; try (conv => zeta)
  simp only [InK]
  have g1 := World.grownBy_alloc w (.cells #[.int .u64 N, .slice A n c] 27) none
  have b1 : (w.alloc (.cells #[.int .u64 N, .slice A n c] 27)).heap[w.heap.size]? = some (.cells #[.int .u64 N, .slice A n c] 27 (0, 0)) := heap_alloc_new w _
  obtain ⟨w1, hw1⟩ : ∃ w1, w1 = w.alloc (.cells #[.int .u64 N, .slice A n c] 27) := ⟨_, rfl⟩
  rw [← hw1] at g1 b1 ⊢
  have keep : ∀ w', w1.grownBy w' none → w'.heap[w.heap.size]? = some (.cells #[.int .u64 N, .slice A n c] 27 (0, 0)) := fun w' g => by rw [g.block _ (Array.getElem?_eq_some_iff.1 b1).1 (by simp)]; exact b1
  refine ⟨_, blk_cell b1 0, fun h => ⟨by rw [checkL, if_pos (.inl h)], g1⟩, fun h => ⟨_, _, _, blk_cell b1 1, fun h2 => ⟨by rw [checkL, if_pos (.inr (by omega))], g1⟩, fun h2 => ?_⟩⟩
  have hcl : checkL N l = checkGo N l none [] 0 := by rw [checkL, if_neg (by omega)]
  refine ⟨fun m B k d i w2 => ∃ (j : Nat) (now : List Edge), i = (j : Int) ∧ j ≤ l.length ∧ m = l.length - j ∧ OwnedK w2 w1.heap.size 39 2 B k d (edges now) ∧ now.length ≤ j ∧ checkL N l = checkGo N (l.drop j) (if j = 0 then none else l[j - 1]?) now j ∧ w1.grownBy w2 none,
    ⟨_, 0, [], rfl, by omega, rfl, OwnedK.nil _ _ _ _, by simp, by simpa using hcl, grown_refl _ _⟩, ?_⟩
  rintro m B k d i w2 ⟨j, now, rfl, hj, rfl, ho, hnl, hck, hg⟩
  have tj : (j : Int).toNat = j := by omega
  have tj1 : ((j : Int) - 1).toNat = j - 1 := by omega
  have hk : k = now.length := by have := ho.cases.1; rw [edges_length] at this; omega
  rw [tj, tj1]
  refine ⟨_, _, _, blk_cell (keep w2 hg) 1, fun hlt => ?_, fun hge => ?_⟩
  · have lj : j < l.length := by omega
    rw [List.drop_eq_getElem_cons lj, checkGo_cons] at hck
    obtain ⟨a, e1, e2, e3, e4, e5⟩ := evt_at ((hr.kept_none g1).kept_none hg) lj
    have hbj := hb _ (List.getElem_mem lj)
    have ga := World.grownBy_alloc w2 (.cells #[.int .i64 0, .int .u32 0, .int .u32 0, .bool false] 41) none
    have s0 : (w2.alloc (.cells #[.int .i64 0, .int .u32 0, .int .u32 0, .bool false] 41)).heap[w2.heap.size]? = some (.cells #[.int .i64 0, .int .u32 0, .int .u32 0, .bool false] 41 (0, 0)) := heap_alloc_new w2 _
    obtain ⟨wa, hwa⟩ : ∃ wa, wa = w2.alloc (.cells #[.int .i64 0, .int .u32 0, .int .u32 0, .bool false] 41) := ⟨_, rfl⟩
    rw [← hwa] at ga s0 ⊢
    have s1 := blk_set s0 0 (.int .i64 l[j].t)
    have s2 := blk_set s1 1 (.int .u32 l[j].u)
    have s3 := blk_set s2 2 (.int .u32 l[j].v)
    have s4 := blk_set s3 3 (.bool l[j].add)
    have K4 : Kp w2 ((((wa.setCell ⟨w2.heap.size, 0, none⟩ (.int .i64 l[j].t)).setCell ⟨w2.heap.size, 1, none⟩ (.int .u32 l[j].u)).setCell ⟨w2.heap.size, 2, none⟩ (.int .u32 l[j].v)).setCell ⟨w2.heap.size, 3, none⟩ (.bool l[j].add)) (fun k => w2.heap.size ≤ k) := set1 (set1 (set1 (set1 (Kp.of_none ga) (Nat.le_refl _)) (Nat.le_refl _)) (Nat.le_refl _)) (Nat.le_refl _)
    refine ⟨_, _, _, blk_cell (keep w2 hg) 1, a, e1, by omega, by omega, _, e2, _, e3, _, e4, _, e5, ⟨_, blk_cell s0 0⟩, blk_free s0 0, ⟨_, blk_cell s1 1⟩, blk_free s1 1, ⟨_, blk_cell s2 2⟩, blk_free s2 2, ⟨_, blk_cell s3 3⟩, blk_free s3 3, ?_⟩
    obtain ⟨w4, hw4⟩ : ∃ w4, w4 = (((wa.setCell ⟨w2.heap.size, 0, none⟩ (.int .i64 l[j].t)).setCell ⟨w2.heap.size, 1, none⟩ (.int .u32 l[j].u)).setCell ⟨w2.heap.size, 2, none⟩ (.int .u32 l[j].v)).setCell ⟨w2.heap.size, 3, none⟩ (.bool l[j].add) := ⟨_, rfl⟩
    rw [← hw4] at s4 K4 ⊢
    replace s4 : w4.heap[w2.heap.size]? = some (.cells #[.int .i64 l[j].t, .int .u32 l[j].u, .int .u32 l[j].v, .bool l[j].add] 41 (0, 0)) := by simpa using s4
    have g24 : w2.grownBy w4 none := K4.grown (fun k hk e => by omega)
    have g14 := grown_trans hg g24
    have g04 := grown_trans g1 g14
    refine ⟨_, blk_cell s4 0, fun h => ⟨by rw [hck, if_pos (.inl h)], g04⟩, fun h0 => ⟨_, blk_cell s4 0, fun h => ⟨by rw [hck, if_pos (.inr h)], g04⟩, fun h1 => ⟨_, blk_cell s4 1, _, blk_cell s4 2, _, blk_cell (keep w4 g14) 0, ?_⟩⟩⟩
    rw [if_neg (by omega)] at hck
    refine (right8_calls (l[j].u, l[j].v) hbj.2).mono fun ev w5 hh => ?_
    obtain ⟨rfl, g5⟩ := hh
    have g15 := grown_trans g14 g5
    refine ⟨_, rfl, fun h => ⟨by rw [hck, if_pos (show okEvt N l[j] = false from h)], grown_trans g1 g15⟩, fun h => ?_⟩
    rw [if_neg (show ¬ okEvt N l[j] = false from h)] at hck
    have s5 : ∀ w', w4.grownBy w' none → w'.heap[w2.heap.size]? = some (.cells #[.int .i64 l[j].t, .int .u32 l[j].u, .int .u32 l[j].v, .bool l[j].add] 41 (0, 0)) := fun w' g => by rw [g.block _ (Array.getElem?_eq_some_iff.1 s4).1 (by simp)]; exact s4
    have gd := grown_drew g5
    have hcap := owned_cap ho
    have hle : k ≤ d := owned_le ho
    -- the turn, behind whatever was looked at
    have fin : (match (if j = 0 then none else l[j - 1]?) with | none => true | some q => beforeV q l[j]) = true → ∀ w6, w4.grownBy w6 none → Calls P 28 #[.slice B k d, .agg #[.int .i64 l[j].t, .int .u32 l[j].u, .int .u32 l[j].v, .bool l[j].add]] w6 fun ev w7 => ∃ (C : Option Addr) (cn cc : Nat) (q : Bool), ev = .returned (.tuple #[.slice C cn cc, .bool q]) ∧ ((q = false → Ending.returned (Value.tuple #[.int .i64 (j : Int), .int .i64 25]) = Ending.returned (Value.tuple #[.int .i64 (checkL N l).1, .int .i64 (checkL N l).2]) ∧ w.grownBy w7 none) ∧ (¬ q = false → (-9223372036854775808 ≤ (j : Int) + 1 ∧ (j : Int) + 1 ≤ 9223372036854775807) ∧ ∃ m_1, m_1 < l.length - j ∧ ∃ (j' : Nat) (now' : List Edge), (j : Int) + 1 = (j' : Int) ∧ j' ≤ l.length ∧ m_1 = l.length - j' ∧ OwnedK w7 w1.heap.size 39 2 C cn cc (edges now') ∧ now'.length ≤ j' ∧ checkL N l = checkGo N (l.drop j') (if j' = 0 then none else l[j' - 1]?) now' j' ∧ w1.grownBy w7 none)) := by
      intro hbf w6 g6
      rw [if_neg (by rw [hbf]; simp)] at hck
      have g26 := grown_trans g24 g6
      refine (turn_calls (e := l[j]) ((ho.kept g26).row) hk hle hcap (by omega)).mono fun ev w7 hh => ?_
      obtain ⟨C, cn, cc, rfl, oC, g7⟩ := hh
      have g17 := grown_trans (grown_trans hg g26) g7
      refine ⟨_, _, _, _, rfl, fun hq => ?_, fun hq => ?_⟩
      · cases ht : turnL now l[j] with
        | some x => rw [ht] at hq; cases hq
        | none =>
          rw [ht] at hck
          exact ⟨by rw [hck], grown_trans g1 g17⟩
      · cases ht : turnL now l[j] with
        | none => rw [ht] at hq; exact absurd rfl hq
        | some x =>
          rw [ht] at hck oC
          have := turnL_len ht
          refine ⟨⟨by omega, by omega⟩, l.length - (j + 1), by omega, j + 1, x, by omega, by omega, rfl, oC.mono (Nat.le_trans hg.size g26.size), by omega, ?_, g17⟩
          rw [hck]; simp [lj]
    refine ⟨fun hpos => ?_, fun hz => ?_⟩
    · have lj1 : j - 1 < l.length := by omega
      obtain ⟨a', f1, f2, f3, f4, f5⟩ := evt_at ((hr.kept_none g1).kept_none (grown_trans g14 gd)) lj1
      have sd := s5 w5.drew gd
      have hprev : (if j = 0 then none else l[j - 1]?) = some l[j - 1] := by rw [if_neg (by omega)]; simp [lj1]
      refine ⟨_, _, _, blk_cell (keep w5.drew (grown_trans g14 gd)) 1, by omega, a', f1, by omega, by omega, _, f2, _, f3, _, f4, _, f5, _, blk_cell sd 0, _, blk_cell sd 1, _, blk_cell sd 2, _, blk_cell sd 3, ?_⟩
      refine (before_calls l[j - 1] l[j]).mono fun ev w6 hh => ?_
      obtain ⟨rfl, g6⟩ := hh
      have g46 := grown_trans gd g6
      refine ⟨_, rfl, fun hq => ⟨?_, grown_trans g1 (grown_trans g14 g46)⟩, fun hq => ?_⟩
      · rw [hck, hprev, if_pos hq]
      · have s6 := s5 w6 g46
        exact ⟨_, blk_cell s6 0, _, blk_cell s6 1, _, blk_cell s6 2, _, blk_cell s6 3, fin (by rw [hprev]; simpa using hq) w6 g46⟩
    · have j0 : j = 0 := by omega
      have sd := s5 w5.drew gd
      exact ⟨_, blk_cell sd 0, _, blk_cell sd 1, _, blk_cell sd 2, _, blk_cell sd 3, fin (by rw [if_pos j0]) w5.drew gd⟩
  · have e : j = l.length := by omega
    subst e
    rw [List.drop_length] at hck
    exact ⟨by rw [hck]; rfl, grown_trans g1 hg⟩
end Go.Proofs.Ytgahfcdmgdnjiaa

/-! archipelagoref8.After: the walk. -/
namespace Go.Proofs.Ytgahfcdmgdnjiaa
open Go Go.V Go.RowKit
set_option linter.unusedVariables false
set_option linter.unusedSimpArgs false
set_option maxHeartbeats 4000000
set_option maxRecDepth 100000

/-- A graph behind events; what may not be done makes it empty. -/
def foldT (l : List Evt) (now : List Edge) : List Edge := l.foldl (fun now e => (turnL now e).getD []) now
theorem foldT_snoc (l : List Evt) (e : Evt) (now : List Edge) : foldT (l ++ [e]) now = (turnL (foldT l now) e).getD [] := by simp [foldT]
theorem foldT_len : ∀ (l : List Evt) (now : List Edge), (foldT l now).length ≤ now.length + l.length
  | [], now => by simp [foldT]
  | e :: l, now => by
    have ih := foldT_len l ((turnL now e).getD [])
    have : ((turnL now e).getD []).length ≤ now.length + 1 := by
      cases h : turnL now e with
      | none => simp
      | some x => exact turnL_len h
    show (foldT l ((turnL now e).getD [])).length ≤ _
    simp only [List.length_cons]; omega
def afterL (N : Int) (l : List Evt) (k : Int) : List Edge := if (checkL N l).2 ≠ 0 then [] else foldT (l.take k.toNat) []

theorem after_calls {w : World} {A : Option Addr} {n c : Nat} {l : List Evt} {N k : Int} (hr : Row w A (evts l)) (hn : n = l.length) (hl : n ≤ 2 ^ 20) (hb : ∀ e ∈ l, (0 ≤ e.u ∧ e.u ≤ 4294967295) ∧ 0 ≤ e.v ∧ e.v ≤ 4294967295) :
    Calls P 25 #[.agg #[.int .u64 N, .slice A n c], .int .i64 k] w fun ev w' => ∃ (A' : Option Addr) (n' c' : Nat), ev = .returned (.tuple #[.slice A' n' c', .int .i64 (checkL N l).2]) ∧ OwnedK w' w.heap.size 39 2 A' n' c' (edges (afterL N l k)) ∧ w.grownBy w' none := by
  apply vc25; unfold VC25; try (conv => zeta)
  simp only [InK]
  have g1 := World.grownBy_alloc w (.cells #[.int .u64 N, .slice A n c] 27) none
  have b1 : (w.alloc (.cells #[.int .u64 N, .slice A n c] 27)).heap[w.heap.size]? = some (.cells #[.int .u64 N, .slice A n c] 27 (0, 0)) := heap_alloc_new w _
  obtain ⟨w1, hw1⟩ : ∃ w1, w1 = w.alloc (.cells #[.int .u64 N, .slice A n c] 27) := ⟨_, rfl⟩
  rw [← hw1] at g1 b1 ⊢
  have keep : ∀ w', w1.grownBy w' none → w'.heap[w.heap.size]? = some (.cells #[.int .u64 N, .slice A n c] 27 (0, 0)) := fun w' g => by rw [g.block _ (Array.getElem?_eq_some_iff.1 b1).1 (by simp)]; exact b1
  refine ⟨_, blk_cell b1 0, _, _, _, blk_cell b1 1, ?_⟩
  refine (check8_calls (hr.kept_none g1) hn hl hb).mono fun ev w2 hh => ?_
  obtain ⟨rfl, g2⟩ := hh
  have g02 := grown_trans g1 g2
  refine ⟨_, _, rfl, fun h => ?_, fun h => ?_⟩
  · have : afterL N l k = [] := by rw [afterL, if_pos h]
    rw [this]; exact ⟨_, _, _, rfl, OwnedK.nil _ _ _ _, g02⟩
  have hz : (checkL N l).2 = 0 := by omega
  have haf : afterL N l k = foldT (l.take k.toNat) [] := by rw [afterL, if_neg h]
  rw [haf, hz]
  refine ⟨fun m B q d i w3 => ∃ j : Nat, i = (j : Int) ∧ j ≤ l.length ∧ (j : Int) ≤ max k 0 ∧ m = l.length - j ∧ OwnedK w3 w.heap.size 39 2 B q d (edges (foldT (l.take j) [])) ∧ w1.grownBy w3 none,
    ⟨_, 0, rfl, by omega, by omega, rfl, OwnedK.nil _ _ _ _, g2⟩, ?_⟩
  rintro m B q d i w3 ⟨j, rfl, hj, hjk, rfl, ho, hg⟩
  have tj : (j : Int).toNat = j := by omega
  rw [tj]
  have hlen := foldT_len (l.take j) []
  rw [List.length_take] at hlen
  simp only [List.length_nil] at hlen
  have hq : q = (foldT (l.take j) []).length := by have := ho.cases.1; rw [edges_length] at this; omega
  refine ⟨_, _, _, blk_cell (keep w3 hg) 1, fun hlt => ⟨fun hk => ?_, fun hk => ?_⟩, fun hge => ?_⟩
  · have lj : j < l.length := by omega
    obtain ⟨a, e1, e2, e3, e4, e5⟩ := evt_at ((hr.kept_none g1).kept_none hg) lj
    refine ⟨_, _, _, blk_cell (keep w3 hg) 1, a, e1, by omega, by omega, _, e2, _, e3, _, e4, _, e5, ?_⟩
    refine (turn_calls (e := l[j]) ho.row hq (owned_le ho) (owned_cap ho) (by omega)).mono fun ev w4 hh => ?_
    obtain ⟨C, cn, cc, rfl, oC, g4⟩ := hh
    refine ⟨_, _, _, _, rfl, by omega, l.length - (j + 1), by omega, j + 1, by omega, by omega, by omega, rfl, ?_, grown_trans hg g4⟩
    rw [List.take_succ_eq_append_getElem lj, foldT_snoc]
    exact oC.mono (Nat.le_trans g1.size hg.size)
  · have : l.take k.toNat = l.take j := by
      have : k.toNat = j := by omega
      rw [this]
    rw [this]
    exact ⟨_, _, _, rfl, ho, grown_trans g1 hg⟩
  · have e : j = l.length := by omega
    have : l.take k.toNat = l.take j := by
      rw [List.take_of_length_le (l := l) (i := j) (by omega), List.take_of_length_le (by omega)]
    rw [this]
    exact ⟨_, _, _, rfl, ho, grown_trans g1 hg⟩
end Go.Proofs.Ytgahfcdmgdnjiaa

/-! archipelagoref8.SameEvents: the walk. -/
namespace Go.Proofs.Ytgahfcdmgdnjiaa
open Go Go.V Go.RowKit
set_option linter.unusedVariables false
set_option linter.unusedSimpArgs false
set_option maxHeartbeats 4000000
set_option maxRecDepth 100000

end Go.Proofs.Ytgahfcdmgdnjiaa

/-! archipelagoseat.Vertices, Edge: the walks. -/
namespace Go.Proofs.Ytgahfcdmgdnjiaa
open Go Go.V Go.RowKit
set_option linter.unusedVariables false
set_option linter.unusedSimpArgs false
set_option maxHeartbeats 4000000
set_option maxRecDepth 100000

def vertL (k : Int) : Int := ([8, 5, 2, 4294967296, 300, 12, 1048576, 3] : List Int).getD (k % 8).toNat 0
theorem vertL_is (k : Int) : 2 ≤ vertL k ∧ vertL k ≤ 4294967296 := by
  have h : ∀ t : Fin 8, 2 ≤ ([8, 5, 2, 4294967296, 300, 12, 1048576, 3] : List Int).getD t.val 0 ∧ ([8, 5, 2, 4294967296, 300, 12, 1048576, 3] : List Int).getD t.val 0 ≤ 4294967296 := by decide
  exact h ⟨(k % 8).toNat, by omega⟩
theorem vertices_calls {w : World} {k : Int} (hk : 0 ≤ k ∧ k ≤ 255) : Calls P 35 #[.int .u8 k] w fun ev w' => ev = .returned (.int .u64 (vertL k)) ∧ w.grownBy w' none := by
  apply vc35; unfold VC35; try (conv => zeta)
  have g := World.grownBy_alloc w (.cells #[.int .u64 8, .int .u64 5, .int .u64 2, .int .u64 4294967296, .int .u64 300, .int .u64 12, .int .u64 1048576, .int .u64 3] 24) none
  have hr : Row (w.alloc (.cells #[.int .u64 8, .int .u64 5, .int .u64 2, .int .u64 4294967296, .int .u64 300, .int .u64 12, .int .u64 1048576, .int .u64 3] 24)) (some ⟨w.heap.size, 0, none⟩) (([8, 5, 2, 4294967296, 300, 12, 1048576, 3] : List Int).map (Value.int .u64)) := row_alloc w _ 24
  have hlt : (k % 8).toNat < ([8, 5, 2, 4294967296, 300, 12, 1048576, 3] : List Int).length := by simp; omega
  obtain ⟨a, e1, e2⟩ := hr (k % 8).toNat (.int .u64 (vertL k)) (by rw [List.getElem?_map, List.getElem?_eq_getElem hlt, vertL, List.getD_eq_getElem?_getD, List.getElem?_eq_getElem hlt]; rfl)
  exact ⟨⟨by omega, by omega⟩, a, e1, by omega, by omega, _, e2, rfl, g⟩

def sideS (a most n : Int) : Int := if a > most then n - 1 - a % mn n 9 else a % mn n 9
/-- An edge of numbers. -/
def edgeS (a b n : Int) : Edge × Bool := if sideS a 230 n = sideS b 240 n then ((0, 0), false) else ((mn (sideS a 230 n) (sideS b 240 n), mx (sideS a 230 n) (sideS b 240 n)), true)
theorem sideS_is {a most n : Int} (ha : 0 ≤ a) (hn : 2 ≤ n ∧ n ≤ 4294967296) : 0 ≤ sideS a most n ∧ sideS a most n < n := by
  have h1 : 1 ≤ mn n 9 ∧ mn n 9 ≤ n := by unfold mn; split <;> omega
  have h2 := Int.emod_nonneg a (show mn n 9 ≠ 0 by omega)
  have h3 := Int.emod_lt_of_pos a (show 0 < mn n 9 by omega)
  unfold sideS
  split <;> omega

theorem edgeS_calls {w : World} {a b n : Int} (ha : 0 ≤ a ∧ a ≤ 255) (hb : 0 ≤ b ∧ b ≤ 255) (hn : 2 ≤ n ∧ n ≤ 4294967296) : Calls P 26 #[.int .u8 a, .int .u8 b, .int .u64 n] w fun ev w' => ev = .returned (.tuple #[edgeV (edgeS a b n).1, .bool (edgeS a b n).2]) ∧ w.grownBy w' none := by
  apply vc26; unfold VC26; try (conv => zeta)
  simp only [InK]
  have h1 : 1 ≤ mn n 9 ∧ mn n 9 ≤ n := by unfold mn; split <;> omega
  have ua := sideS_is (most := 230) ha.1 hn
  have ub := sideS_is (most := 240) hb.1 hn
  have a2 := Int.emod_nonneg a (show mn n 9 ≠ 0 by omega)
  have a3 := Int.emod_lt_of_pos a (show 0 < mn n 9 by omega)
  have c2 := Int.emod_nonneg b (show mn n 9 ≠ 0 by omega)
  have c3 := Int.emod_lt_of_pos b (show 0 < mn n 9 by omega)
  have g1 := grown_drew (World.grownBy_alloc w (.cells #[.int .u32 0, .int .u32 0] 39) none)
  have b1 : (w.alloc (.cells #[.int .u32 0, .int .u32 0] 39)).drew.heap[w.heap.size]? = some (.cells #[.int .u32 0, .int .u32 0] 39 (0, 0)) := heap_alloc_new w _
  obtain ⟨w1, hw1⟩ : ∃ w1, w1 = (w.alloc (.cells #[.int .u32 0, .int .u32 0] 39)).drew := ⟨_, rfl⟩
  rw [← hw1] at g1 b1 ⊢
  refine ⟨by omega, ⟨by omega, by omega⟩, by omega, ⟨by omega, by omega⟩, fun u w' => u = sideS a 230 n ∧ w' = w1, ⟨fun h => ⟨by omega, by omega, by unfold sideS; rw [if_pos h], rfl⟩, fun h => ⟨by unfold sideS; rw [if_neg h], rfl⟩⟩, ?_⟩
  rintro u w2 ⟨hu, hw2⟩
  rw [hw2]; clear hw2
  refine ⟨fun v w' => v = sideS b 240 n ∧ w' = w1, ⟨fun h => ⟨by omega, by omega, by unfold sideS; rw [if_pos h], rfl⟩, fun h => ⟨by unfold sideS; rw [if_neg h], rfl⟩⟩, ?_⟩
  rintro v w3 ⟨hv, hw3⟩
  rw [hw3]; clear hw3
  rw [← hu] at ua
  rw [← hv] at ub
  have hm : 0 ≤ mn u v ∧ mn u v ≤ 4294967295 ∧ 0 ≤ mx u v ∧ mx u v ≤ 4294967295 := by unfold mn mx; split <;> split <;> omega
  have fin : ∀ p q : Int, w.grownBy ((w1.setCell ⟨w.heap.size, 0, none⟩ (.int .u32 p)).setCell ⟨w.heap.size, 1, none⟩ (.int .u32 q)) none := fun p q => (set1 (set1 (Kp.of_none (S := fun k => w.heap.size ≤ k) g1) (Nat.le_refl _)) (Nat.le_refl _)).grown (fun k hk e => by omega)
  refine ⟨fun he => ?_, fun he => ?_⟩
  · have s1 := blk_set b1 0 (.int .u32 0)
    have s2 := blk_set s1 1 (.int .u32 0)
    refine ⟨⟨_, blk_cell b1 0⟩, blk_free b1 0, ⟨_, blk_cell s1 1⟩, blk_free s1 1, 0, blk_cell s2 0, 0, blk_cell s2 1, ?_, fin 0 0⟩
    unfold edgeS; rw [if_pos (by omega)]
  · have s1 := blk_set b1 0 (.int .u32 (mn u v))
    have s2 := blk_set s1 1 (.int .u32 (mx u v))
    refine ⟨by omega, by omega, ⟨_, blk_cell b1 0⟩, blk_free b1 0, ⟨_, blk_cell s1 1⟩, blk_free s1 1, _, blk_cell s2 0, _, blk_cell s2 1, ?_, fin _ _⟩
    unfold edgeS; rw [← hu, ← hv, if_neg he]
end Go.Proofs.Ytgahfcdmgdnjiaa

/-! archipelagoseat.insert: the walk. -/
namespace Go.Proofs.Ytgahfcdmgdnjiaa
open Go Go.V Go.RowKit
set_option linter.unusedVariables false
set_option linter.unusedSimpArgs false
set_option maxHeartbeats 4000000
set_option maxRecDepth 100000

theorem elemEvt : ElemK P 25 41 4 (P.bytesOf 41) := ⟨(P.info? 41).getD default, ((P.info? 41).getD default).zero.getD undef, by kernel_rfl, by kernel_rfl, by kernel_rfl, by kernel_rfl, by kernel_rfl, by kernel_rfl, by decide⟩
theorem bytesEvt : P.bytesOf 41 ≤ 64 := of_decide_eq_true (by kernel_rfl)
theorem evts_append (l m : List Evt) : evts (l ++ m) = evts l ++ evts m := by simp [evts]
theorem evts_drop (l : List Evt) (k : Nat) : (evts l).drop (k * 4) = evts (l.drop k) := by
  induction k generalizing l with
  | zero => simp
  | succ k ih =>
    cases l with
    | nil => simp [evts]
    | cons e l => rw [show (k + 1) * 4 = k * 4 + 1 + 1 + 1 + 1 by omega]; exact ih l
theorem evts_take (l : List Evt) (k : Nat) : (evts l).take (k * 4) = evts (l.take k) := by
  induction k generalizing l with
  | zero => simp [evts]
  | succ k ih =>
    cases l with
    | nil => simp [evts]
    | cons e l =>
      rw [show (k + 1) * 4 = k * 4 + 1 + 1 + 1 + 1 by omega]
      show List.take (k * 4 + 1 + 1 + 1 + 1) (.int .i64 e.t :: .int .u32 e.u :: .int .u32 e.v :: .bool e.add :: evts l) = .int .i64 e.t :: .int .u32 e.u :: .int .u32 e.v :: .bool e.add :: evts (List.take k l)
      rw [List.take_succ_cons, List.take_succ_cons, List.take_succ_cons, List.take_succ_cons, ih]

theorem append_evts {w : World} {base : Nat} {A B : Option Addr} {n c m d : Nat} {xs ys : List Evt} (ho : OwnedK w base 41 4 A n c (evts xs)) (hB : Row w B (evts ys)) (hm : m = ys.length) (hd : B = none → d = 0) (hn : n + m ≤ 2 ^ 39) (hb : base ≤ w.heap.size) :
    ∃ (A' : Option Addr) (n' c' : Nat) (w' : World), Sem.run P (Builtin.append_ #[25, 25] 25 #[.slice A n c, .slice B m d]) w = .ok (.slice A' n' c') w' ∧
      OwnedK w' base 41 4 A' n' c' (evts (xs ++ ys)) ∧ w.grownBy w' (Value.slice A n c).ownBlock ∧ n' = n + m := by
  cases B with
  | none =>
    have hys : ys = [] := by
      cases ys with
      | nil => rfl
      | cons y ys => obtain ⟨a, e, _⟩ := hB 0 _ rfl; cases e
    subst hys
    have h0 : m = 0 := by simpa using hm
    have h1 := hd rfl
    subst h0 h1
    exact ⟨A, n, c, w, ho.appends_nil elemEvt, by simpa using ho, grown_refl _ _, rfl⟩
  | some a =>
    obtain ⟨A', n', c', w', h1, h2, h3, h4, _⟩ := ho.appends (ty := 25) elemEvt bytesEvt (a := a) (m := m) (cc := d) (us := evts ys) (by rw [evts_length, hm]) (fun j u hj => by obtain ⟨b, q1, q2⟩ := hB j u hj; cases q1; exact q2) (fun u hu => by
      simp only [evts, List.mem_flatMap] at hu
      obtain ⟨e, _, he⟩ := hu
      simp [evtC] at he
      rcases he with rfl | rfl | rfl | rfl <;> rfl) (by omega) hb
    exact ⟨A', n', c', w', h1, by rw [evts_append]; exact h2, h4, h3⟩

theorem cutV {w : World} {A : Option Addr} {c k : Nat} {l : List Evt} (h : Row w A (evts l)) (hA : A = none → c = 0) (hc : l.length ≤ c) : Row w (cutA A c k 4) (evts (l.drop k)) ∧ (cutA A c k 4 = none → c - k = 0) := by
  unfold cutA
  split
  · rename_i hck
    refine ⟨?_, fun _ => by omega⟩
    rw [List.drop_eq_nil_of_le (by omega)]
    intro j u hj; simp [evts] at hj
  · have := h.drop (k * 4)
    rw [evts_drop] at this
    refine ⟨this, fun e => ?_⟩
    cases A with
    | none => rw [hA rfl]; omega
    | some a => simp at e
theorem takeV4 {w : World} {A : Option Addr} {l : List Evt} (h : Row w A (evts l)) (k : Nat) : Row w A (evts (l.take k)) := by
  intro j u hj
  rw [← evts_take, List.getElem?_take] at hj
  split at hj
  · exact h j u hj
  · cases hj

def placeGo (l : List Evt) (e : Evt) : Nat → Nat
  | 0 => 0
  | k + 1 => if beforeV e (l.getD k ⟨0, 0, 0, false⟩) = true then placeGo l e k else k + 1
theorem placeGo_le (l : List Evt) (e : Evt) : ∀ k, placeGo l e k ≤ k
  | 0 => Nat.le_refl _
  | k + 1 => by
    unfold placeGo
    split
    · exact Nat.le_succ_of_le (placeGo_le l e k)
    · exact Nat.le_refl _
/-- An event put among others, where none of its time and edge is there. -/
def insertV (l : List Evt) (e : Evt) : List Evt :=
  if 0 < placeGo l e l.length ∧ (l.getD (placeGo l e l.length - 1) ⟨0, 0, 0, false⟩).t = e.t ∧ (l.getD (placeGo l e l.length - 1) ⟨0, 0, 0, false⟩).u = e.u ∧ (l.getD (placeGo l e l.length - 1) ⟨0, 0, 0, false⟩).v = e.v then l
  else l.take (placeGo l e l.length) ++ (e :: l.drop (placeGo l e l.length))

theorem insert_calls {w : World} {base : Nat} {A : Option Addr} {n c : Nat} {l : List Evt} {e : Evt} (ho : OwnedK w base 41 4 A n c (evts l)) (hb : base ≤ w.heap.size) (hl : n ≤ 2 ^ 30) :
    Calls P 36 #[.slice A n c, evtV e] w fun ev w' => ∃ (A' : Option Addr) (n' c' : Nat), ev = .returned (.slice A' n' c') ∧ OwnedK w' base 41 4 A' n' c' (evts (insertV l e)) ∧ w.grownBy w' none := by
  have hn : n = l.length := by have := ho.cases.1; rw [evts_length] at this; omega
  have hc := owned_le ho
  have hA := owned_cap ho
  have hr := ho.row
  apply vc36; unfold VC36; try (conv => zeta)
  simp only [InK]
  have g1 := World.grownBy_alloc w (.cells #[.int .i64 e.t, .int .u32 e.u, .int .u32 e.v, .bool e.add] 41) none
  have b1 : (w.alloc (.cells #[.int .i64 e.t, .int .u32 e.u, .int .u32 e.v, .bool e.add] 41)).heap[w.heap.size]? = some (.cells #[.int .i64 e.t, .int .u32 e.u, .int .u32 e.v, .bool e.add] 41 (0, 0)) := heap_alloc_new w _
  obtain ⟨w1, hw1⟩ : ∃ w1, w1 = w.alloc (.cells #[.int .i64 e.t, .int .u32 e.u, .int .u32 e.v, .bool e.add] 41) := ⟨_, rfl⟩
  rw [← hw1] at g1 b1 ⊢
  have keep : ∀ w', w1.grownBy w' none → w'.heap[w.heap.size]? = some (.cells #[.int .i64 e.t, .int .u32 e.u, .int .u32 e.v, .bool e.add] 41 (0, 0)) := fun w' g => by rw [g.block _ (Array.getElem?_eq_some_iff.1 b1).1 (by simp)]; exact b1
  have getD' : ∀ t (h : t < l.length), l.getD t ⟨0, 0, 0, false⟩ = l[t] := fun t h => by simp [List.getD_eq_getElem?_getD, h]
  have hple := placeGo_le l e l.length
  refine ⟨fun k w' => k = (placeGo l e l.length : Int) ∧ w1.grownBy w' none, ⟨fun m k w2 => ∃ j : Nat, k = (j : Int) ∧ j ≤ l.length ∧ m = j ∧ placeGo l e l.length = placeGo l e j ∧ w1.grownBy w2 none, ⟨_, l.length, by omega, Nat.le_refl _, rfl, rfl, grown_refl _ _⟩, ?_⟩, ?_⟩
  · rintro m k w2 ⟨j, rfl, hj, rfl, hp, hg⟩
    have gd := grown_drew hg
    have tj : ((m : Int) - 1).toNat = m - 1 := by omega
    rw [tj]
    refine ⟨fun hpos => ?_, fun hz => ⟨?_, gd⟩⟩
    · have b2 := keep _ gd
      obtain ⟨a, e1, e2, e3, e4, e5⟩ := evt_at ((hr.kept_none g1).kept_none gd) (show m - 1 < l.length by omega)
      refine ⟨_, blk_cell b2 0, _, blk_cell b2 1, _, blk_cell b2 2, _, blk_cell b2 3, by omega, a, e1, by omega, by omega, _, e2, _, e3, _, e4, _, e5, ?_⟩
      refine (before_calls e l[m - 1]).mono fun ev w3 hh => ?_
      obtain ⟨rfl, g3⟩ := hh
      have hstep : placeGo l e m = if beforeV e l[m - 1] = true then placeGo l e (m - 1) else m := by
        obtain ⟨q, rfl⟩ : ∃ q, m = q + 1 := ⟨m - 1, by omega⟩
        rw [placeGo, getD' q (by omega)]; rfl
      refine ⟨_, rfl, fun h => ⟨by omega, m - 1, by omega, m - 1, by omega, by omega, rfl, by rw [hp, hstep, if_pos h], grown_trans gd g3⟩, fun h => ⟨by rw [hp, hstep, if_neg (by rw [h]; simp)], grown_trans gd g3⟩⟩
    · have : m = 0 := by omega
      subst this
      rw [hp]; rfl
  · rintro k w3 ⟨rfl, g3⟩
    have hins : insertV l e = if 0 < placeGo l e l.length ∧ (l.getD (placeGo l e l.length - 1) ⟨0, 0, 0, false⟩).t = e.t ∧ (l.getD (placeGo l e l.length - 1) ⟨0, 0, 0, false⟩).u = e.u ∧ (l.getD (placeGo l e l.length - 1) ⟨0, 0, 0, false⟩).v = e.v then l else l.take (placeGo l e l.length) ++ (e :: l.drop (placeGo l e l.length)) := rfl
    generalize placeGo l e l.length = k at *
    have tk : (k : Int).toNat = k := by omega
    have tk1 : ((k : Int) - 1).toNat = k - 1 := by omega
    rw [tk, tk1]
    have gd := grown_drew g3
    have b3 := keep _ gd
    refine ⟨fun q w' => q = decide (0 < k ∧ (l.getD (k - 1) ⟨0, 0, 0, false⟩).t = e.t ∧ (l.getD (k - 1) ⟨0, 0, 0, false⟩).u = e.u ∧ (l.getD (k - 1) ⟨0, 0, 0, false⟩).v = e.v) ∧ w1.grownBy w' none, ⟨fun hpos => ?_, fun hz => ⟨by simp; omega, gd⟩⟩, ?_⟩
    · obtain ⟨a, e1, e2, e3, e4, e5⟩ := evt_at ((hr.kept_none g1).kept_none gd) (show k - 1 < l.length by omega)
      refine ⟨by omega, a, e1, by omega, by omega, _, e2, _, blk_cell b3 0, fun ht => ⟨by omega, a, e1, by omega, by omega, _, e3, _, by rw [add_add]; exact e4, _, blk_cell b3 1, _, blk_cell b3 2, _, fun w => run_eqE _ _ _ _ _ _ w, ?_, gd⟩, fun ht => ⟨?_, gd⟩⟩
      · rw [getD' (k - 1) (by omega), decide_eq_decide]
        exact ⟨fun h => ⟨by omega, ht, h.1, h.2⟩, fun h => h.2.2⟩
      · rw [getD' (k - 1) (by omega)]
        symm; rw [decide_eq_false_iff_not]
        exact fun h => ht h.2.1
    · rintro q w4 ⟨hq, g4⟩
      refine ⟨fun h => ?_, fun h => ?_⟩
      · rw [h] at hq
        rw [hins, if_pos (of_decide_eq_true hq.symm)]
        exact ⟨_, _, _, rfl, ho.kept (grown_trans g1 g4), grown_trans g1 g4⟩
      · rw [h] at hq
        rw [hins, if_neg (of_decide_eq_false hq.symm)]
        have gd := grown_drew g4
        have g0d := grown_trans g1 gd
        have rd := hr.kept_none g0d
        refine ⟨fun w' => w1.grownBy w' none, gd, ⟨⟨by omega, by omega⟩, ?_⟩, ⟨⟨by omega, by omega⟩, ?_⟩⟩
        · obtain ⟨A5, n5, c5, w5, f1, f2, f3, f4⟩ := append_evts (n := 0) (c := 0) (A := none) (xs := []) (OwnedK.nil w4.drew w4.drew.heap.size 41 4) (m := k) (d := c) (takeV4 rd k) (by rw [List.length_take]; omega) hA (by omega) (Nat.le_refl _)
          have g5 : w4.drew.grownBy w5 none := grown_own (grown_refl w4.drew none) f3 (fun k hk => by simp [Value.ownBlock] at hk)
          rw [List.nil_append] at f2
          have g15 := grown_trans gd g5
          have ga := World.grownBy_alloc w5 (.cells #[.int .i64 e.t, .int .u32 e.u, .int .u32 e.v, .bool e.add] 41) none
          have ra : Row (w5.alloc (.cells #[.int .i64 e.t, .int .u32 e.u, .int .u32 e.v, .bool e.add] 41)) (some ⟨w5.heap.size, 0, none⟩) (evts [e]) := row_alloc w5 _ 41
          obtain ⟨A6, n6, c6, w6, p1, p2, p3, p4⟩ := append_evts (f2.kept ga) (m := 1) (d := 1) ra rfl (fun h => by cases h) (by omega) (Nat.le_trans g5.size ga.size)
          have g56 := grown_trans g5 ga
          have g6 := grown_own g56 p3 f2.block_ge
          obtain ⟨r7, d7⟩ := cutV (k := k) (rd.kept_none g6) hA (by omega)
          obtain ⟨A7, n7, c7, w7, q1, q2, q3, q4⟩ := append_evts p2 (m := n - k) (d := c - k) r7 (by rw [List.length_drop]; omega) d7 (by omega) g6.size
          have g7 := grown_own g6 q3 p2.block_ge
          exact ⟨_, _, _, w5, f1, g15, _, fun w' h => blk_cell (keep w' h) 0, _, fun w' h => blk_cell (keep w' h) 1, _, fun w' h => blk_cell (keep w' h) 2, _, fun w' h => blk_cell (keep w' h) 3, grown_trans g15 ga, _, _, _, w6, p1, grown_trans gd g6, ⟨by omega, by omega⟩, _, _, _, w7, q1, grown_trans gd g7, _, _, _, rfl, by simpa using q2.mono (Nat.le_trans hb g0d.size), grown_trans g0d g7⟩
        · refine ⟨_, fun w' h => blk_cell (keep w' h) 0, _, fun w' h => blk_cell (keep w' h) 1, _, fun w' h => blk_cell (keep w' h) 2, _, fun w' h => blk_cell (keep w' h) 3, ?_⟩
          have ga := World.grownBy_alloc w4.drew (.cells #[.int .i64 e.t, .int .u32 e.u, .int .u32 e.v, .bool e.add] 41) none
          have ra : Row (w4.drew.alloc (.cells #[.int .i64 e.t, .int .u32 e.u, .int .u32 e.v, .bool e.add] 41)) (some ⟨w4.drew.heap.size, 0, none⟩) (evts [e]) := row_alloc w4.drew _ 41
          obtain ⟨wa, hwa⟩ : ∃ wa, wa = w4.drew.alloc (.cells #[.int .i64 e.t, .int .u32 e.u, .int .u32 e.v, .bool e.add] 41) := ⟨_, rfl⟩
          show (fun w' => w1.grownBy w' none) (w4.drew.alloc (.cells #[.int .i64 e.t, .int .u32 e.u, .int .u32 e.v, .bool e.add] 41)) ∧ _
          rw [← hwa] at ga ra ⊢
          obtain ⟨A5, n5, c5, w5, f1, f2, f3, f4⟩ := append_evts (n := 0) (c := 0) (A := none) (xs := []) (OwnedK.nil wa wa.heap.size 41 4) (m := k) (d := c) (takeV4 (rd.kept_none ga) k) (by rw [List.length_take]; omega) hA (by omega) (Nat.le_refl _)
          have g5 : wa.grownBy w5 none := grown_own (grown_refl wa none) f3 (fun k hk => by simp [Value.ownBlock] at hk)
          rw [List.nil_append] at f2
          obtain ⟨A6, n6, c6, w6, p1, p2, p3, p4⟩ := append_evts f2 (m := 1) (d := 1) (ra.kept_none g5) rfl (fun h => by cases h) (by omega) g5.size
          have g6 := grown_own g5 p3 f2.block_ge
          obtain ⟨r7, d7⟩ := cutV (k := k) ((rd.kept_none ga).kept_none g6) hA (by omega)
          obtain ⟨A7, n7, c7, w7, q1, q2, q3, q4⟩ := append_evts p2 (m := n - k) (d := c - k) r7 (by rw [List.length_drop]; omega) d7 (by omega) g6.size
          have g7 := grown_own g6 q3 p2.block_ge
          have g1a := grown_trans gd ga
          exact ⟨g1a, _, _, _, w5, f1, grown_trans g1a g5, _, _, _, w6, p1, grown_trans g1a g6, ⟨by omega, by omega⟩, _, _, _, w7, q1, grown_trans g1a g7, _, _, _, rfl, by simpa using q2.mono (Nat.le_trans hb (Nat.le_trans g0d.size ga.size)), grown_trans g0d (grown_trans ga g7)⟩
end Go.Proofs.Ytgahfcdmgdnjiaa

/-! Histories of few numbers: lists alone. -/
namespace Go.Proofs.Ytgahfcdmgdnjiaa
open Go Go.V Go.RowKit
set_option linter.unusedVariables false
set_option linter.unusedSimpArgs false

def timeS (t a : Int) : Int := if a > 240 then t + a % 4 + 2 ^ (a % 40).toNat else t + a % 4
def stepS (n a b c t : Int) (ts : List Evt) : List Evt := if (edgeS b c n).2 = true then insertV ts ⟨timeS t a, (edgeS b c n).1.1, (edgeS b c n).1.2, false⟩ else ts
/-- The events' times and edges, in order. -/
def timesGo (n : Int) : List Int → Int → List Evt → List Evt
  | a :: b :: c :: l, t, ts => if ts.length < 40 then timesGo n l (timeS t a) (stepS n a b c t ts) else ts
  | _, _, ts => ts
/-- Each comes, if it isn't there, else it goes. -/
def histGo : List Evt → List Edge → List Evt
  | [], _ => []
  | e :: l, now => ⟨e.t, e.u, e.v, !decide ((e.u, e.v) ∈ now)⟩ :: histGo l ((turnL now ⟨e.t, e.u, e.v, !decide ((e.u, e.v) ∈ now)⟩).getD [])
def historyL (k : Int) (l : List Int) : List Evt := histGo (timesGo (vertL k) l (k % 3) []) []

theorem edgeS_is {a b n : Int} (ha : 0 ≤ a) (hb : 0 ≤ b) (hn : 2 ≤ n ∧ n ≤ 4294967296) (h : (edgeS a b n).2 = true) : 0 ≤ (edgeS a b n).1.1 ∧ (edgeS a b n).1.1 < (edgeS a b n).1.2 ∧ (edgeS a b n).1.2 < n := by
  have ua := sideS_is (most := 230) ha hn
  have ub := sideS_is (most := 240) hb hn
  unfold edgeS at h ⊢
  split at h
  · cases h
  · rename_i hne
    rw [if_neg hne]
    simp only [mn, mx]
    split <;> split <;> omega
theorem insertV_length (l : List Evt) (e : Evt) : (insertV l e).length ≤ l.length + 1 := by
  unfold insertV
  split
  · omega
  · simp only [List.length_append, List.length_cons, List.length_take, List.length_drop]; omega
theorem insertV_mem {l : List Evt} {e x : Evt} (h : x ∈ insertV l e) : x ∈ l ∨ x = e := by
  unfold insertV at h
  split at h
  · exact .inl h
  · rcases List.mem_append.1 h with q | q
    · exact .inl (List.mem_of_mem_take q)
    · rcases List.mem_cons.1 q with q | q
      · exact .inr q
      · exact .inl (List.mem_of_mem_drop q)
theorem stepS_length (n a b c t : Int) (ts : List Evt) : (stepS n a b c t ts).length ≤ ts.length + 1 := by
  unfold stepS
  split
  · exact insertV_length _ _
  · omega
theorem timesGo_length (n : Int) : ∀ (l : List Int) (t : Int) (ts : List Evt), ts.length ≤ 40 → (timesGo n l t ts).length ≤ 40
  | a :: b :: c :: l, t, ts, h => by
    rw [timesGo]
    split
    · have := stepS_length n a b c t ts
      exact timesGo_length n l _ _ (by omega)
    · exact h
  | [], t, ts, h => by simpa [timesGo] using h
  | [_], t, ts, h => by simpa [timesGo] using h
  | [_, _], t, ts, h => by simpa [timesGo] using h
theorem histGo_length : ∀ (l : List Evt) (now : List Edge), (histGo l now).length = l.length
  | [], _ => rfl
  | e :: l, now => by rw [histGo, List.length_cons, List.length_cons, histGo_length l]
theorem historyL_length (k : Int) (l : List Int) : (historyL k l).length ≤ 40 := by
  rw [historyL, histGo_length]; exact timesGo_length _ _ _ _ (by simp)
end Go.Proofs.Ytgahfcdmgdnjiaa

/-! archipelagoseat.History: the walk. -/
namespace Go.Proofs.Ytgahfcdmgdnjiaa
open Go Go.V Go.RowKit
set_option linter.unusedVariables false
set_option linter.unusedSimpArgs false
set_option maxHeartbeats 4000000
set_option maxRecDepth 100000

theorem timesGo_short {N t : Int} {ts : List Evt} : ∀ (q : List Int), q.length ≤ 2 → timesGo N q t ts = ts
  | [], _ => by simp [timesGo]
  | [_], _ => by simp [timesGo]
  | [_, _], _ => by simp [timesGo]
  | _ :: _ :: _ :: _, h => by simp at h
theorem history_calls {w : World} {A : Option Addr} {n c : Nat} {l : List Int} {k : Int} (hr : Row w A (u8s l)) (hn : n = l.length) (hb : BytesB l) (hk : 0 ≤ k ∧ k ≤ 255) (hl : n ≤ 2 ^ 10) :
    Calls P 11 #[.int .u8 k, .slice A n c] w fun ev w' => ∃ (A' : Option Addr) (n' c' : Nat), ev = .returned (.agg #[.int .u64 (vertL k), .slice A' n' c']) ∧ OwnedK w' w.heap.size 41 4 A' n' c' (evts (historyL k l)) ∧ w.grownBy w' none := by
  apply vc11; unfold VC11; try (conv => zeta)
  simp only [InK]
  have hN := vertL_is k
  have g0 := World.grownBy_alloc w (.cells #[.int .u64 0, .slice none 0 0] 27) none
  have b0 : (w.alloc (.cells #[.int .u64 0, .slice none 0 0] 27)).heap[w.heap.size]? = some (.cells #[.int .u64 0, .slice none 0 0] 27 (0, 0)) := heap_alloc_new w _
  obtain ⟨w0, hw0⟩ : ∃ w0, w0 = w.alloc (.cells #[.int .u64 0, .slice none 0 0] 27) := ⟨_, rfl⟩
  rw [← hw0] at g0 b0 ⊢
  refine (vertices_calls hk).mono fun ev w1 hh => ?_
  obtain ⟨rfl, g1⟩ := hh
  have hhist : historyL k l = histGo (timesGo (vertL k) l (k % 3) []) [] := rfl
  have htl40 := timesGo_length (vertL k) l (k % 3) [] (by simp)
  generalize vertL k = N at *
  refine ⟨_, rfl, ?_⟩
  have ga := World.grownBy_alloc w1 (.cells #[.int .u64 0, .slice none 0 0] 27) none
  have s0 : (w1.alloc (.cells #[.int .u64 0, .slice none 0 0] 27)).heap[w1.heap.size]? = some (.cells #[.int .u64 0, .slice none 0 0] 27 (0, 0)) := heap_alloc_new w1 _
  have s1 := blk_set s0 0 (.int .u64 N)
  have s2 := blk_set s1 1 (.slice none 0 0)
  have K2 : Kp w1 (((w1.alloc (.cells #[.int .u64 0, .slice none 0 0] 27)).setCell ⟨w1.heap.size, 0, none⟩ (.int .u64 N)).setCell ⟨w1.heap.size, 1, none⟩ (.slice none 0 0)) (fun k => w1.heap.size ≤ k) := set1 (set1 (Kp.of_none ga) (Nat.le_refl _)) (Nat.le_refl _)
  refine ⟨⟨_, blk_cell s0 0⟩, blk_free s0 0, ⟨_, blk_cell s1 1⟩, blk_free s1 1, ⟨by omega, by omega⟩, by omega, ?_⟩
  obtain ⟨w2, hw2⟩ : ∃ w2, w2 = ((w1.alloc (.cells #[.int .u64 0, .slice none 0 0] 27)).setCell ⟨w1.heap.size, 0, none⟩ (.int .u64 N)).setCell ⟨w1.heap.size, 1, none⟩ (.slice none 0 0) := ⟨_, rfl⟩
  rw [← hw2] at s2 K2 ⊢
  replace s2 : w2.heap[w1.heap.size]? = some (.cells #[.int .u64 N, .slice none 0 0] 27 (0, 0)) := by simpa using s2
  have g12 : w1.grownBy w2 none := K2.grown (fun k hk e => by omega)
  have g01 := grown_trans g0 g1
  have g02 := grown_trans g01 g12
  have hs2 : w1.heap.size < w2.heap.size := (Array.getElem?_eq_some_iff.1 s2).1
  have keep : ∀ w', w2.grownBy w' none → w'.heap[w1.heap.size]? = some (.cells #[.int .u64 N, .slice none 0 0] 27 (0, 0)) := fun w' g => by rw [g.block _ hs2 (by simp)]; exact s2
  have rd : ∀ (w' : World) (p : Nat), w2.grownBy w' none → (h : p < l.length) → ∃ a, A = some a ∧ w'.cell? (a.add p) = some (.int .u8 l[p]) := fun w' p g h => ((hr.kept_none g02).kept_none g) p (.int .u8 l[p]) (by simp [h])
  refine ⟨fun tA tn tc w' => OwnedK w' w.heap.size 41 4 tA tn tc (evts (timesGo N l (k % 3) [])) ∧ w2.grownBy w' none, ⟨fun m t tA tn tc i w' => ∃ (p : Nat) (ts : List Evt), i = (p : Int) ∧ p ≤ l.length + 2 ∧ m = l.length + 3 - p ∧ OwnedK w' w.heap.size 41 4 tA tn tc (evts ts) ∧ ts.length ≤ 40 ∧ 0 ≤ t ∧ t ≤ (p : Int) * 2199023255552 + 2 ∧ timesGo N l (k % 3) [] = timesGo N (l.drop p) t ts ∧ w2.grownBy w' none,
    ⟨_, 0, [], rfl, by omega, rfl, OwnedK.nil _ _ _ _, by simp, by omega, by omega, by simp, grown_refl _ _⟩, ?_⟩, ?_⟩
  · rintro m t tA tn tc i w3 ⟨p, ts, rfl, hp, rfl, ho, htl, ht0, ht1, htg, hg⟩
    have tp : (p : Int).toNat = p := by omega
    have tp1 : ((p : Int) + 1).toNat = p + 1 := by omega
    have tp2 : ((p : Int) + 2).toNat = p + 2 := by omega
    rw [tp, tp1, tp2]
    have htn : tn = ts.length := by have := ho.cases.1; rw [evts_length] at this; omega
    refine ⟨by omega, fun hlt => ⟨fun h40 => ?_, fun h40 => ?_⟩, fun hge => ?_⟩
    · have lp : p + 2 < l.length := by omega
      have hdrop : l.drop p = l[p] :: l[p + 1] :: l[p + 2] :: l.drop (p + 3) := by
        rw [List.drop_eq_getElem_cons (show p < l.length by omega), List.drop_eq_getElem_cons (show p + 1 < l.length by omega), List.drop_eq_getElem_cons (show p + 1 + 1 < l.length by omega)]
      rw [hdrop, timesGo, if_pos (by omega)] at htg
      obtain ⟨a, e1, e2⟩ := rd w3 p hg (by omega)
      have hx := hb _ (List.getElem_mem (show p < l.length by omega))
      have hy := hb _ (List.getElem_mem (show p + 1 < l.length by omega))
      have hz := hb _ (List.getElem_mem (show p + 2 < l.length by omega))
      have hpw : (2 : Int) ^ (l[p] % 40).toNat ≤ 549755813888 ∧ 0 < (2 : Int) ^ (l[p] % 40).toNat := by
        have := Nat.pow_le_pow_right (n := 2) (by omega) (show (l[p] % 40).toNat ≤ 39 by omega)
        have := Nat.two_pow_pos (l[p] % 40).toNat
        have e : ((2 ^ (l[p] % 40).toNat : Nat) : Int) = 2 ^ (l[p] % 40).toNat := by simp
        omega
      refine ⟨a, e1, by omega, by omega, _, e2, ⟨by omega, by omega⟩, by omega, by omega, fun t1 w' => t1 = timeS t l[p] ∧ w' = w3, ⟨a, e1, by omega, by omega, _, e2, fun h240 => ⟨a, e1, by omega, by omega, _, e2, ⟨by omega, by omega⟩, ⟨by omega, ?_⟩, ?_, ?_, rfl⟩, fun h240 => ⟨by unfold timeS; rw [if_neg h240], rfl⟩⟩, ?_⟩
      · rw [show min (l[p] % 40).toNat 64 = (l[p] % 40).toNat by omega]; omega
      · rw [show min (l[p] % 40).toNat 64 = (l[p] % 40).toNat by omega]; omega
      · rw [show min (l[p] % 40).toNat 64 = (l[p] % 40).toNat by omega]; unfold timeS; rw [if_pos h240]; omega
      rintro t1 w4 ⟨ht, hw4⟩
      rw [hw4]; clear hw4
      have htb : 0 ≤ t1 ∧ t1 ≤ ((p + 3 : Nat) : Int) * 2199023255552 + 2 := by rw [ht]; unfold timeS; split <;> omega
      have gd := grown_drew hg
      obtain ⟨a1, q1, q2⟩ := rd w3.drew (p + 1) gd (by omega)
      obtain ⟨a2, q3, q4⟩ := rd w3.drew (p + 2) gd (by omega)
      have rdC : ∀ (p' : Nat) (h : p' < l.length) (b : Addr), A = some b → ∀ wq, w2.grownBy wq none → wq.cell? (b.add p') = some (.int .u8 l[p']) := fun p' h b hb' wq gq => by
        obtain ⟨b', r1, r2⟩ := rd wq p' gq h
        rw [hb'] at r1; cases r1; exact r2
      have fin : ∀ (W : World) (g : Nat), w2.grownBy W none → OwnedK W w.heap.size 41 4 tA tn tc (evts ts) → W.heap[g]? = some (.cells #[.int .u32 (edgeS l[p + 1] l[p + 2] N).1.1, .int .u32 (edgeS l[p + 1] l[p + 2] N).1.2] 39 (0, 0)) →
          ∃ J : Option Addr → Nat → Nat → World → Prop, (((edgeS l[p + 1] l[p + 2] N).2 = true → ∃ x, W.cell? ⟨g, 0, none⟩ = some (.int .u32 x) ∧ ∃ y, W.cell? ⟨g, 1, none⟩ = some (.int .u32 y) ∧ Calls P 36 #[.slice tA tn tc, .agg #[.int .i64 t1, .int .u32 x, .int .u32 y, .bool false]] W fun ev w5 => ∃ (X : Option Addr) (xn xc : Nat), ev = .returned (.slice X xn xc) ∧ J X xn xc w5) ∧ ((edgeS l[p + 1] l[p + 2] N).2 = false → J tA tn tc W)) ∧
          ∀ (X : Option Addr) (xn xc : Nat) (w6 : World), J X xn xc w6 → (-9223372036854775808 ≤ (p : Int) + 3 ∧ (p : Int) + 3 ≤ 9223372036854775807) ∧ ∃ m_1, m_1 < l.length + 3 - p ∧ ∃ (p' : Nat) (ts' : List Evt), (p : Int) + 3 = (p' : Int) ∧ p' ≤ l.length + 2 ∧ m_1 = l.length + 3 - p' ∧ OwnedK w6 w.heap.size 41 4 X xn xc (evts ts') ∧ ts'.length ≤ 40 ∧ 0 ≤ t1 ∧ t1 ≤ (p' : Int) * 2199023255552 + 2 ∧ timesGo N l (k % 3) [] = timesGo N (l.drop p') t1 ts' ∧ w2.grownBy w6 none := by
        intro W g gW oW bW
        have hsl := stepS_length N l[p] l[p + 1] l[p + 2] t ts
        refine ⟨fun X xn xc w6 => OwnedK w6 w.heap.size 41 4 X xn xc (evts (stepS N l[p] l[p + 1] l[p + 2] t ts)) ∧ w2.grownBy w6 none, ⟨fun hok => ⟨_, blk_cell bW 0, _, blk_cell bW 1, ?_⟩, fun hok => ⟨?_, gW⟩⟩, ?_⟩
        · refine (insert_calls (e := ⟨t1, (edgeS l[p + 1] l[p + 2] N).1.1, (edgeS l[p + 1] l[p + 2] N).1.2, false⟩) oW (Nat.le_trans g02.size gW.size) (by omega)).mono fun ev w5 hh => ?_
          obtain ⟨X, xn, xc, rfl, oX, g5⟩ := hh
          refine ⟨_, _, _, rfl, ?_, grown_trans gW g5⟩
          have : stepS N l[p] l[p + 1] l[p + 2] t ts = insertV ts ⟨t1, (edgeS l[p + 1] l[p + 2] N).1.1, (edgeS l[p + 1] l[p + 2] N).1.2, false⟩ := by unfold stepS; rw [if_pos hok, ht]
          rw [this]; exact oX
        · have : stepS N l[p] l[p + 1] l[p + 2] t ts = ts := by unfold stepS; rw [if_neg (by rw [hok]; simp)]
          rw [this]; exact oW
        · rintro X xn xc w6 ⟨oX, g6⟩
          exact ⟨by omega, l.length + 3 - (p + 3), by omega, p + 3, _, by omega, by omega, rfl, oX, by omega, htb.1, htb.2, by rw [htg, ht], g6⟩
      refine ⟨fun w' => w2.grownBy w' none, gd, ⟨by omega, a1, q1, by omega, by omega, _, fun wq gq => rdC (p + 1) (by omega) a1 q1 wq gq, by omega, a2, q3, by omega, by omega, _, fun wq gq => rdC (p + 2) (by omega) a2 q3 wq gq, _, fun wq gq => blk_cell (keep wq gq) 0, ?_⟩, ⟨by omega, a1, q1, by omega, by omega, _, fun wq gq => rdC (p + 1) (by omega) a1 q1 wq gq, by omega, a2, q3, by omega, by omega, _, fun wq gq => rdC (p + 2) (by omega) a2 q3 wq gq, _, fun wq gq => blk_cell (keep wq gq) 0, ?_⟩⟩
      · refine (edgeS_calls hy hz hN).mono fun ev w5 hh => ?_
        obtain ⟨rfl, g5⟩ := hh
        have gd5 := grown_trans gd g5
        have gE := World.grownBy_alloc w5 (.cells #[.int .u32 0, .int .u32 0] 39) none
        have t0 : (w5.alloc (.cells #[.int .u32 0, .int .u32 0] 39)).heap[w5.heap.size]? = some (.cells #[.int .u32 0, .int .u32 0] 39 (0, 0)) := heap_alloc_new w5 _
        have t1' := blk_set t0 0 (.int .u32 (edgeS l[p + 1] l[p + 2] N).1.1)
        have t2 := blk_set t1' 1 (.int .u32 (edgeS l[p + 1] l[p + 2] N).1.2)
        have gS : w5.grownBy (((w5.alloc (.cells #[.int .u32 0, .int .u32 0] 39)).setCell ⟨w5.heap.size, 0, none⟩ (.int .u32 (edgeS l[p + 1] l[p + 2] N).1.1)).setCell ⟨w5.heap.size, 1, none⟩ (.int .u32 (edgeS l[p + 1] l[p + 2] N).1.2)) none := (set1 (set1 (Kp.of_none (S := fun k => w5.heap.size ≤ k) gE) (Nat.le_refl _)) (Nat.le_refl _)).grown (fun k hk e => by omega)
        have gA := grown_trans gd5 gS
        exact ⟨_, _, _, rfl, gd5, grown_trans gd5 gE, ⟨_, blk_cell t0 0⟩, blk_free t0 0, ⟨_, blk_cell t1' 1⟩, blk_free t1' 1, gA, fin _ _ gA (ho.kept (grown_trans (grown_trans (grown_drew (grown_refl w3 none)) g5) gS)) (by simpa using t2)⟩
      · have gE := World.grownBy_alloc w3.drew (.cells #[.int .u32 0, .int .u32 0] 39) none
        have t0 : (w3.drew.alloc (.cells #[.int .u32 0, .int .u32 0] 39)).heap[w3.drew.heap.size]? = some (.cells #[.int .u32 0, .int .u32 0] 39 (0, 0)) := heap_alloc_new w3.drew _
        refine ⟨grown_trans gd gE, (edgeS_calls hy hz hN).mono fun ev w7 hh => ?_⟩
        obtain ⟨rfl, g7⟩ := hh
        have gd7 := grown_trans (grown_trans gd gE) g7
        have t0' : w7.heap[w3.drew.heap.size]? = some (.cells #[.int .u32 0, .int .u32 0] 39 (0, 0)) := by rw [g7.block _ (Array.getElem?_eq_some_iff.1 t0).1 (by simp)]; exact t0
        have t1' := blk_set t0' 0 (.int .u32 (edgeS l[p + 1] l[p + 2] N).1.1)
        have t2 := blk_set t1' 1 (.int .u32 (edgeS l[p + 1] l[p + 2] N).1.2)
        have gS : w3.drew.grownBy ((w7.setCell ⟨w3.drew.heap.size, 0, none⟩ (.int .u32 (edgeS l[p + 1] l[p + 2] N).1.1)).setCell ⟨w3.drew.heap.size, 1, none⟩ (.int .u32 (edgeS l[p + 1] l[p + 2] N).1.2)) none := (set1 (set1 (Kp.of_none (S := fun k => w3.drew.heap.size ≤ k) (grown_trans gE g7)) (Nat.le_refl _)) (Nat.le_refl _)).grown (fun k hk e => by omega)
        have gA := grown_trans gd gS
        exact ⟨_, _, _, rfl, gd7, ⟨_, blk_cell t0' 0⟩, blk_free t0' 0, ⟨_, blk_cell t1' 1⟩, blk_free t1' 1, gA, fin _ _ gA (ho.kept (grown_trans (grown_drew (grown_refl w3 none)) gS)) (by simpa using t2)⟩
    · have lp : p + 2 < l.length := by omega
      have hdrop : l.drop p = l[p] :: l[p + 1] :: l[p + 2] :: l.drop (p + 3) := by
        rw [List.drop_eq_getElem_cons (show p < l.length by omega), List.drop_eq_getElem_cons (show p + 1 < l.length by omega), List.drop_eq_getElem_cons (show p + 1 + 1 < l.length by omega)]
      rw [hdrop, timesGo, if_neg (by omega)] at htg
      rw [htg]; exact ⟨ho, hg⟩
    · rw [timesGo_short (l.drop p) (by rw [List.length_drop]; omega)] at htg
      rw [htg]; exact ⟨ho, hg⟩
  · rintro tA tn tc w10 ⟨oT, g10⟩
    generalize timesGo N l (k % 3) [] = ts at *
    have hts : ts.length ≤ 40 := htl40
    have htn : tn = ts.length := by have := oT.cases.1; rw [evts_length] at this; omega
    have b10 := keep w10 g10
    have g010 := grown_trans g02 g10
    have l10 : w1.heap.size < w10.heap.size := Nat.lt_of_lt_of_le hs2 g10.size
    have bw10 : w10.heap[w.heap.size]? = some (.cells #[.int .u64 0, .slice none 0 0] 27 (0, 0)) := by
      rw [(grown_trans g1 (grown_trans g12 g10)).block _ (Array.getElem?_eq_some_iff.1 b0).1 (by simp)]; exact b0
    have lw0 : w.heap.size < w1.heap.size := Nat.lt_of_lt_of_le (Array.getElem?_eq_some_iff.1 b0).1 g1.size
    refine ⟨fun m nA nn nc i w' => ∃ (j : Nat) (now : List Edge) (out : List Evt) (hA : Option Addr) (hn hc : Nat), i = (j : Int) ∧ j ≤ ts.length ∧ m = ts.length - j ∧ OwnedK w' w10.heap.size 39 2 nA nn nc (edges now) ∧ now.length ≤ j ∧ OwnedK w' w10.heap.size 41 4 hA hn hc (evts out) ∧ out.length = j ∧ histGo ts [] = out ++ histGo (ts.drop j) now ∧ w'.heap[w1.heap.size]? = some (.cells #[.int .u64 N, .slice hA hn hc] 27 (0, 0)) ∧ Kp w10 w' (fun q => q = w1.heap.size ∨ w10.heap.size ≤ q),
      ⟨_, 0, [], [], none, 0, 0, rfl, by omega, rfl, OwnedK.nil _ _ _ _, by simp, OwnedK.nil _ _ _ _, rfl, by simp, b10, Kp.refl _ _⟩, ?_⟩
    rintro m nA nn nc i w11 ⟨j, now, out, hA, hn', hc', rfl, hj, rfl, oN, hnl, oH, hol, hgo, bH, K11⟩
    have tj : (j : Int).toNat = j := by omega
    rw [tj]
    have hnn : nn = now.length := by have := oN.cases.1; rw [edges_length] at this; omega
    have hhn : hn' = out.length := by have := oH.cases.1; rw [evts_length] at this; omega
    have lH := (Array.getElem?_eq_some_iff.1 bH).1
    refine ⟨fun hlt => ?_, fun hge => ?_⟩
    · have lj : j < ts.length := by omega
      rw [List.drop_eq_getElem_cons lj, histGo] at hgo
      have oT11 := oT.kp K11 (fun q hq e => by
        rcases e with e | e
        · obtain ⟨cur, h⟩ := oT.block_type q hq
          rw [e, b10] at h; cases h
        · have := oT.block_lt q hq; omega)
      obtain ⟨a, e1, e2, e3, e4, e5⟩ := evt_at oT11.row lj
      have ga := World.grownBy_alloc w11 (.cells #[.int .i64 0, .int .u32 0, .int .u32 0, .bool false] 41) none
      have s0 : (w11.alloc (.cells #[.int .i64 0, .int .u32 0, .int .u32 0, .bool false] 41)).heap[w11.heap.size]? = some (.cells #[.int .i64 0, .int .u32 0, .int .u32 0, .bool false] 41 (0, 0)) := heap_alloc_new w11 _
      obtain ⟨wa, hwa⟩ : ∃ wa, wa = w11.alloc (.cells #[.int .i64 0, .int .u32 0, .int .u32 0, .bool false] 41) := ⟨_, rfl⟩
      rw [← hwa] at ga s0 ⊢
      have s1 := blk_set s0 0 (.int .i64 ts[j].t)
      have s2' := blk_set s1 1 (.int .u32 ts[j].u)
      have s3 := blk_set s2' 2 (.int .u32 ts[j].v)
      have s4 := blk_set s3 3 (.bool ts[j].add)
      have K4 : Kp w11 ((((wa.setCell ⟨w11.heap.size, 0, none⟩ (.int .i64 ts[j].t)).setCell ⟨w11.heap.size, 1, none⟩ (.int .u32 ts[j].u)).setCell ⟨w11.heap.size, 2, none⟩ (.int .u32 ts[j].v)).setCell ⟨w11.heap.size, 3, none⟩ (.bool ts[j].add)) (fun k => w11.heap.size ≤ k) := set1 (set1 (set1 (set1 (Kp.of_none ga) (Nat.le_refl _)) (Nat.le_refl _)) (Nat.le_refl _)) (Nat.le_refl _)
      refine ⟨a, e1, by omega, by omega, _, e2, _, e3, _, e4, _, e5, ⟨_, blk_cell s0 0⟩, blk_free s0 0, ⟨_, blk_cell s1 1⟩, blk_free s1 1, ⟨_, blk_cell s2' 2⟩, blk_free s2' 2, ⟨_, blk_cell s3 3⟩, blk_free s3 3, ?_⟩
      obtain ⟨w4, hw4⟩ : ∃ w4, w4 = (((wa.setCell ⟨w11.heap.size, 0, none⟩ (.int .i64 ts[j].t)).setCell ⟨w11.heap.size, 1, none⟩ (.int .u32 ts[j].u)).setCell ⟨w11.heap.size, 2, none⟩ (.int .u32 ts[j].v)).setCell ⟨w11.heap.size, 3, none⟩ (.bool ts[j].add) := ⟨_, rfl⟩
      rw [← hw4] at s4 K4 ⊢
      replace s4 : w4.heap[w11.heap.size]? = some (.cells #[.int .i64 ts[j].t, .int .u32 ts[j].u, .int .u32 ts[j].v, .bool ts[j].add] 41 (0, 0)) := by simpa using s4
      have g24 : w11.grownBy w4 none := K4.grown (fun k hk e => by omega)
      refine ⟨_, blk_cell s4 1, _, blk_cell s4 2, ?_⟩
      refine (has_calls (e := (ts[j].u, ts[j].v)) (oN.kept g24).row hnn (by omega)).mono fun ev w12 hh => ?_
      obtain ⟨rfl, g12'⟩ := hh
      have s5 : w12.heap[w11.heap.size]? = some (.cells #[.int .i64 ts[j].t, .int .u32 ts[j].u, .int .u32 ts[j].v, .bool ts[j].add] 41 (0, 0)) := by rw [g12'.block _ (Array.getElem?_eq_some_iff.1 s4).1 (by simp)]; exact s4
      have s6 := blk_set s5 3 (.bool (decide (decide ((ts[j].u, ts[j].v) ∈ now) = false)))
      have gS : w11.grownBy (w12.setCell ⟨w11.heap.size, 3, none⟩ (.bool (decide (decide ((ts[j].u, ts[j].v) ∈ now) = false)))) none := (set1 (Kp.of_none (S := fun k => w11.heap.size ≤ k) (grown_trans g24 g12')) (Nat.le_refl _)).grown (fun k hk e => by omega)
      refine ⟨_, rfl, ⟨_, blk_cell s5 3⟩, blk_free s5 3, _, blk_cell s6 0, _, blk_cell s6 1, _, blk_cell s6 2, _, blk_cell s6 3, ?_⟩
      have hneg : decide (decide ((ts[j].u, ts[j].v) ∈ now) = false) = !decide ((ts[j].u, ts[j].v) ∈ now) := by cases decide ((ts[j].u, ts[j].v) ∈ now) <;> rfl
      rw [hneg] at s6 gS ⊢
      obtain ⟨wb, hwb⟩ : ∃ wb, wb = w12.setCell ⟨w11.heap.size, 3, none⟩ (.bool (!decide ((ts[j].u, ts[j].v) ∈ now))) := ⟨_, rfl⟩
      rw [← hwb] at s6 gS ⊢
      replace s6 : wb.heap[w11.heap.size]? = some (.cells #[.int .i64 ts[j].t, .int .u32 ts[j].u, .int .u32 ts[j].v, .bool (!decide ((ts[j].u, ts[j].v) ∈ now))] 41 (0, 0)) := by simpa using s6
      have oNb := oN.kept gS
      refine (turn_calls (e := ⟨ts[j].t, ts[j].u, ts[j].v, !decide ((ts[j].u, ts[j].v) ∈ now)⟩) oNb.row hnn (owned_le oNb) (owned_cap oNb) (by omega)).mono fun ev w13 hh => ?_
      obtain ⟨X, xn, xc, rfl, oX, g13⟩ := hh
      have g1113 := grown_trans gS g13
      have s7 : w13.heap[w11.heap.size]? = some (.cells #[.int .i64 ts[j].t, .int .u32 ts[j].u, .int .u32 ts[j].v, .bool (!decide ((ts[j].u, ts[j].v) ∈ now))] 41 (0, 0)) := by rw [g13.block _ (Array.getElem?_eq_some_iff.1 s6).1 (by simp)]; exact s6
      have bH13 : w13.heap[w1.heap.size]? = some (.cells #[.int .u64 N, .slice hA hn' hc'] 27 (0, 0)) := by rw [g1113.block _ lH (by simp)]; exact bH
      have gal := World.grownBy_alloc w13 (.cells #[.int .i64 ts[j].t, .int .u32 ts[j].u, .int .u32 ts[j].v, .bool (!decide ((ts[j].u, ts[j].v) ∈ now))] 41) none
      have ra : Row (w13.alloc (.cells #[.int .i64 ts[j].t, .int .u32 ts[j].u, .int .u32 ts[j].v, .bool (!decide ((ts[j].u, ts[j].v) ∈ now))] 41)) (some ⟨w13.heap.size, 0, none⟩) (evts [⟨ts[j].t, ts[j].u, ts[j].v, !decide ((ts[j].u, ts[j].v) ∈ now)⟩]) := row_alloc w13 _ 41
      have gfull := grown_trans g1113 gal
      have sz := K11.size
      obtain ⟨C, cn, cc, w14, p1, p2, p3, p4⟩ := append_evts (oH.kept gfull) (m := 1) (d := 1) ra rfl (fun h => by cases h) (by omega) (Nat.le_trans sz gfull.size)
      have bH14 : w14.heap[w1.heap.size]? = some (.cells #[.int .u64 N, .slice hA hn' hc'] 27 (0, 0)) := by
        rw [p3.block _ (Nat.lt_of_lt_of_le lH gfull.size) (fun e => by have := oH.block_ge _ e.symm; omega), gal.block _ (Nat.lt_of_lt_of_le lH g1113.size) (by simp)]; exact bH13
      have bH15 := blk_set bH14 1 (.slice C cn cc)
      have hx1 : ((turnL now ⟨ts[j].t, ts[j].u, ts[j].v, !decide ((ts[j].u, ts[j].v) ∈ now)⟩).getD []).length ≤ now.length + 1 := by
        cases h : turnL now ⟨ts[j].t, ts[j].u, ts[j].v, !decide ((ts[j].u, ts[j].v) ∈ now)⟩ with
        | none => simp
        | some x => exact turnL_len h
      have KS : Kp w14 (w14.setCell ⟨w1.heap.size, 1, none⟩ (.slice C cn cc)) (fun q => q = w1.heap.size) := set1 (Kp.refl w14 _) rfl
      have oX14 := (oX.kept gal).apart p3 (owned_apart (oX.kept gal) (oH.kept gfull) (by decide))
      refine ⟨_, _, _, _, rfl, _, _, _, blk_cell bH13 1, _, blk_cell s7 0, _, blk_cell s7 1, _, blk_cell s7 2, _, blk_cell s7 3, C, cn, cc, w14, p1, ⟨_, blk_cell bH14 1⟩, blk_free bH14 1, by omega, ts.length - (j + 1), by omega, j + 1, _, _, C, cn, cc, by omega, by omega, rfl, (oX14.mono (Nat.le_trans sz gS.size)).kp KS (fun q hq e => by have := oX14.block_ge q hq; have := gS.size; omega), by omega, p2.kp KS (fun q hq e => by have := p2.block_ge q hq; omega), by simp; omega, ?_, by simpa using bH15, (((K11.step gfull (fun k hk => by cases hk)).step p3 (fun k hk => .inr (.inr (oH.block_ge k hk)))).then KS (fun q _ e => .inl e))⟩
      rw [hgo]; simp
    · have e : j = ts.length := by omega
      subst e
      rw [List.drop_length] at hgo
      have bw : w11.heap[w.heap.size]? = some (.cells #[.int .u64 0, .slice none 0 0] 27 (0, 0)) := by
        rw [K11.block _ (by omega) (by omega)]; exact bw10
      have s1 := blk_set bw 0 (.int .u64 N)
      have s2' := blk_set s1 1 (.slice hA hn' hc')
      have KK : Kp w ((w11.setCell ⟨w.heap.size, 0, none⟩ (.int .u64 N)).setCell ⟨w.heap.size, 1, none⟩ (.slice hA hn' hc')) (fun q => w.heap.size ≤ q) := set1 (set1 ((Kp.of_none g010).then K11 (fun q hq e => by omega)) (Nat.le_refl _)) (Nat.le_refl _)
      refine ⟨_, blk_cell bH 0, _, _, _, blk_cell bH 1, ⟨_, blk_cell bw 0⟩, blk_free bw 0, ⟨_, blk_cell s1 1⟩, blk_free s1 1, _, blk_cell s2' 0, _, _, _, blk_cell s2' 1, _, _, _, rfl, ?_, KK.grown (fun q hq e => by omega)⟩
      have hx : historyL k l = out := by rw [hhist, hgo]; simp [histGo]
      rw [hx]
      exact (OwnedK.kp oH (set1 (set1 (Kp.refl w11 (fun q => q = w.heap.size)) rfl) rfl) (fun q hq e => by have := oH.block_ge q hq; omega)).mono g010.size
end Go.Proofs.Ytgahfcdmgdnjiaa

/-! Rising rows of edges; edges that come and go; which histories are right. Lists alone. -/
namespace Go.Proofs.Ytgahfcdmgdnjiaa
open Go Go.V Go.RowKit
set_option linter.unusedVariables false
set_option linter.unusedSimpArgs false

/-- In order, each once. -/
def Rise (l : List Edge) : Prop := l.Pairwise fun a b => lessE a b = true
theorem lessE_iff {a b : Edge} : lessE a b = true ↔ a.1 < b.1 ∨ a.1 = b.1 ∧ a.2 < b.2 := by simp [lessE]
theorem lessE_trans {a b c : Edge} (h : lessE a b = true) (k : lessE b c = true) : lessE a c = true := by
  rw [lessE_iff] at *; omega
theorem lessE_ne {a b : Edge} (h : lessE a b = true) : a ≠ b := by
  rintro rfl; rw [lessE_iff] at h; omega
theorem lessE_total {a b : Edge} (h : lessE a b = false) (k : a ≠ b) : lessE b a = true := by
  have h' : ¬ lessE a b = true := by rw [h]; simp
  rw [lessE_iff] at *
  obtain ⟨a1, a2⟩ := a; obtain ⟨b1, b2⟩ := b
  simp only [ne_eq, Prod.mk.injEq] at k h' ⊢
  omega
theorem lessE_asymm {a b : Edge} (h : lessE a b = true) : lessE b a = false := by
  have : ¬ lessE b a = true := by intro k; rw [lessE_iff] at *; omega
  simpa using this
theorem risingL_cons (e : Edge) (l : List Edge) : risingL (e :: l) = true ↔ (∀ x, l.head? = some x → lessE e x = true) ∧ risingL l = true := by
  unfold risingL
  simp only [List.all_eq_true, List.mem_range, List.length_cons]
  constructor
  · intro h
    refine ⟨fun x hx => ?_, fun i hi => ?_⟩
    · cases l with
      | nil => simp at hx
      | cons y l => simp at hx; subst hx; simpa using h 0 (by simp)
    · simpa using h (i + 1) (by omega)
  · rintro ⟨h1, h2⟩ i hi
    cases i with
    | zero =>
      cases l with
      | nil => simp at hi
      | cons y l => simpa using h1 y rfl
    | succ i => simpa using h2 i (by omega)
theorem risingL_iff (l : List Edge) : risingL l = true ↔ Rise l := by
  induction l with
  | nil => simp [risingL, Rise]
  | cons e l ih =>
    rw [risingL_cons, ih]
    unfold Rise
    rw [List.pairwise_cons]
    constructor
    · rintro ⟨h1, h2⟩
      refine ⟨fun x hx => ?_, h2⟩
      cases l with
      | nil => simp at hx
      | cons y l =>
        have hy := h1 y rfl
        rcases List.mem_cons.1 hx with rfl | hx
        · exact hy
        · exact lessE_trans hy ((List.pairwise_cons.1 h2).1 x hx)
    · rintro ⟨h1, h2⟩
      exact ⟨fun x hx => h1 x (List.mem_of_head? hx), h2⟩
theorem Rise.nodup {l : List Edge} (h : Rise l) : l.Nodup := h.imp (fun h => lessE_ne h)
theorem Rise.ext {l m : List Edge} (hl : Rise l) (hm : Rise m) (h : ∀ e, e ∈ l ↔ e ∈ m) : l = m := by
  induction l generalizing m with
  | nil =>
    cases m with
    | nil => rfl
    | cons e m => exact absurd ((h e).2 (by simp)) (by simp)
  | cons a l ih =>
    cases m with
    | nil => exact absurd ((h a).1 (by simp)) (by simp)
    | cons b m =>
      have hl' := List.pairwise_cons.1 hl
      have hm' := List.pairwise_cons.1 hm
      have hab : a = b := by
        rcases List.mem_cons.1 ((h a).1 (by simp)) with e | e
        · exact e
        · rcases List.mem_cons.1 ((h b).2 (by simp)) with e' | e'
          · exact e'.symm
          · have h1 := hm'.1 a e
            have h2 := hl'.1 b e'
            rw [lessE_asymm h1] at h2; cases h2
      subst hab
      rw [ih hl'.2 hm'.2 fun e => ?_]
      constructor
      · intro he
        rcases List.mem_cons.1 ((h e).1 (by simp [he])) with e' | e'
        · subst e'; exact absurd rfl (lessE_ne (hl'.1 e he))
        · exact e'
      · intro he
        rcases List.mem_cons.1 ((h e).2 (by simp [he])) with e' | e'
        · subst e'; exact absurd rfl (lessE_ne (hm'.1 e he))
        · exact e'
theorem take_lowL (l : List Edge) (e : Edge) : l.take (lowL l e) = l.takeWhile fun x => lessE x e := by
  have h := List.takeWhile_append_dropWhile (p := fun x => lessE x e) (l := l)
  conv => lhs; rw [← h]
  unfold lowL
  exact List.take_left' (by rw [h])
theorem drop_lowL (l : List Edge) (e : Edge) : l.drop (lowL l e) = l.dropWhile fun x => lessE x e := by
  have h := List.takeWhile_append_dropWhile (p := fun x => lessE x e) (l := l)
  conv => lhs; rw [← h]
  unfold lowL
  exact List.drop_left' (by rw [h])
theorem low_rise {l : List Edge} {e : Edge} (h : Rise l) (he : e ∉ l) : Rise (l.take (lowL l e) ++ (e :: l.drop (lowL l e))) := by
  rw [take_lowL, drop_lowL]
  have h0 := h
  rw [← List.takeWhile_append_dropWhile (p := fun x => lessE x e) (l := l)] at h0
  obtain ⟨h1, h2, h3⟩ := List.pairwise_append.1 h0
  have hlt : ∀ a ∈ l.takeWhile (fun x => lessE x e), lessE a e = true := by
    have h := List.all_takeWhile (p := fun x => lessE x e) (l := l)
    exact List.all_eq_true.1 h
  have hgt : ∀ a ∈ l.dropWhile (fun x => lessE x e), lessE e a = true := by
    intro a ha
    have hmem : ∀ a ∈ l.dropWhile (fun x => lessE x e), a ∈ l := fun a ha => List.dropWhile_sublist _ |>.mem ha
    generalize hd : l.dropWhile (fun x => lessE x e) = d at *
    cases d with
    | nil => simp at ha
    | cons y d =>
      have hy : lessE y e = false := by
        have := List.head?_dropWhile_not (fun x => lessE x e) l
        rw [hd] at this
        simpa using this
      have hye : lessE e y = true := lessE_total hy (fun h => he (h ▸ hmem y (by simp)))
      rcases List.mem_cons.1 ha with rfl | ha
      · exact hye
      · exact lessE_trans hye ((List.pairwise_cons.1 h2).1 a ha)
  refine List.pairwise_append.2 ⟨h1, List.pairwise_cons.2 ⟨hgt, h2⟩, fun a ha b hb => ?_⟩
  rcases List.mem_cons.1 hb with rfl | hb
  · exact hlt a ha
  · exact h3 a ha b hb
theorem low_mem {l : List Edge} {e x : Edge} : x ∈ l.take (lowL l e) ++ (e :: l.drop (lowL l e)) ↔ x = e ∨ x ∈ l := by
  have h : x ∈ l ↔ x ∈ l.take (lowL l e) ++ l.drop (lowL l e) := by rw [List.take_append_drop]
  rw [h, List.mem_append, List.mem_append, List.mem_cons]
  constructor <;> rintro (h | h | h) <;> simp [h]
theorem cut_erase (l : List Edge) (e : Edge) : l.take (l.idxOf e) ++ l.drop (l.idxOf e + 1) = l.erase e := by
  rw [← List.eraseIdx_eq_take_drop_succ, List.erase_eq_eraseIdx_of_idxOf (i := l.idxOf e)]
  rfl
theorem turn_none {l : List Edge} (h : Rise l) (e : Evt) : turnL l e = none ↔ e.add = decide ((e.u, e.v) ∈ l) := by
  unfold turnL
  rw [if_neg (by rw [(risingL_iff l).2 h]; simp)]
  split
  · simp_all
  · rename_i hne
    constructor
    · intro h; split at h <;> cases h
    · intro h; exact absurd h hne
theorem turn_rise {l : List Edge} {e : Evt} {x : List Edge} (hx : turnL l e = some x) : Rise l := by
  unfold turnL at hx
  split at hx
  · cases hx
  · rename_i h
    exact (risingL_iff l).1 (by simpa using h)
theorem turn_some {l : List Edge} {e : Evt} {x : List Edge} (hx : turnL l e = some x) : Rise x ∧ (∀ a, a ∈ x ↔ if a = (e.u, e.v) then e.add = true else a ∈ l) ∧ (e.add = !decide ((e.u, e.v) ∈ l)) := by
  have h := turn_rise hx
  have hne : ¬ e.add = decide ((e.u, e.v) ∈ l) := fun k => by rw [(turn_none h e).2 k] at hx; cases hx
  have hne' : e.add = !decide ((e.u, e.v) ∈ l) := by
    cases h1 : e.add <;> cases h2 : decide ((e.u, e.v) ∈ l) <;> simp_all
  unfold turnL at hx
  rw [if_neg (by rw [(risingL_iff l).2 h]; simp), if_neg hne] at hx
  refine ⟨?_, ?_, hne'⟩
  · split at hx
    · cases hx
      rw [cut_erase]
      exact List.Pairwise.sublist List.erase_sublist h
    · rename_i ha
      cases hx
      refine low_rise h fun hm => ?_
      simp [hm] at hne'
      exact ha hne'
  · intro a
    split at hx
    · rename_i ha
      cases hx
      rw [cut_erase, h.nodup.mem_erase_iff]
      split
      · rename_i e; simp [e, ha]
      · rename_i e; simp [e]
    · rename_i ha
      cases hx
      rw [low_mem]
      split
      · rename_i e; simp [e]; simpa using ha
      · rename_i e; simp [e]
theorem turn_back {l x : List Edge} {e : Evt} (hx : turnL l e = some x) : turnL x ⟨e.t, e.u, e.v, !e.add⟩ = some l := by
  have h := turn_rise hx
  obtain ⟨h1, h2, h3⟩ := turn_some hx
  have hm := h2 (e.u, e.v)
  rw [if_pos rfl] at hm
  cases hy : turnL x ⟨e.t, e.u, e.v, !e.add⟩ with
  | none =>
    have := (turn_none h1 _).1 hy
    exfalso
    simp only at this
    cases ha : e.add <;> simp_all
  | some y =>
    obtain ⟨k1, k2, k3⟩ := turn_some hy
    rw [Rise.ext k1 h fun a => ?_]
    rw [k2 a]
    split
    · rename_i e'
      subst e'
      simp only at *
      cases ha : e.add <;> simp_all
    · rename_i e'
      rw [h2 a, if_neg e']
theorem turn_has {l x : List Edge} {e : Evt} (hx : turnL l e = some x) : decide ((e.u, e.v) ∈ x) = e.add := by
  have hm := (turn_some hx).2.1 (e.u, e.v)
  rw [if_pos rfl] at hm
  cases ha : e.add <;> simp_all
theorem turn_mem {l x : List Edge} {e : Evt} (hx : turnL l e = some x) {a : Edge} (ha : a ∈ x) : a ∈ l ∨ a = (e.u, e.v) := by
  have := (turn_some hx).2.1 a
  by_cases e' : a = (e.u, e.v)
  · exact .inr e'
  · rw [if_neg e'] at this; exact .inl (this.1 ha)

/-- Events that may be behind a graph: right, in order, each edge not there that comes, and there that goes. -/
def OkH (N : Int) : List Evt → Option Evt → List Edge → Prop
  | [], _, _ => True
  | e :: l, p, now => (0 ≤ e.t ∧ e.t ≤ 4611686018427387903) ∧ (e.u < e.v ∧ e.v < N) ∧ (∀ q, p = some q → beforeV q e = true) ∧ ∃ x, turnL now e = some x ∧ OkH N l (some e) x
theorem checkGo_ok {N : Int} : ∀ {l : List Evt} {p : Option Evt} {now : List Edge} {i : Nat}, ((checkGo N l p now i).2 = 0 ↔ OkH N l p now) ∧ ((checkGo N l p now i).2 = 0 → (checkGo N l p now i).1 = 0)
  | [], p, now, i => by simp [checkGo, OkH]
  | e :: l, p, now, i => by
    rw [checkGo_cons, OkH]
    by_cases h1 : e.t < 0 ∨ e.t > 4611686018427387903
    · rw [if_pos h1]
      exact ⟨⟨fun h => by simp at h, fun h => by omega⟩, fun h => by simp at h⟩
    rw [if_neg h1]
    by_cases h2 : okEvt N e = false
    · rw [if_pos h2]
      refine ⟨⟨fun h => by simp at h, fun h => ?_⟩, fun h => by simp at h⟩
      have : okEvt N e = true := by simpa [okEvt] using h.2.1
      rw [this] at h2; cases h2
    rw [if_neg h2]
    have h2' : e.u < e.v ∧ e.v < N := by simpa [okEvt] using h2
    have hp : (∀ q, p = some q → beforeV q e = true) ↔ (match p with | none => true | some q => beforeV q e) = true := by
      cases p with
      | none => simp
      | some q => simp
    have hm : ∀ b : Bool, ((∀ q, p = some q → beforeV q e = true) ↔ b = true) → ∀ z : Int × Int, ((if b = false then ((i : Int), 23) else z).2 = 0 → (∀ q, p = some q → beforeV q e = true) ∧ z.2 = 0 ∧ ((if b = false then ((i : Int), 23) else z).1 = z.1)) ∧ ((∀ q, p = some q → beforeV q e = true) → (if b = false then ((i : Int), 23) else z) = z) := by
      intro b hb z
      cases b
      · exact ⟨fun h => by simp at h, fun h => by have := hb.1 h; cases this⟩
      · exact ⟨fun h => ⟨hb.2 rfl, by simpa using h, rfl⟩, fun h => rfl⟩
    have hm2 := hm _ hp (match turnL now e with | none => ((i : Int), 25) | some x => checkGo N l (some e) x (i + 1))
    have hx : ((match turnL now e with | none => ((i : Int), 25) | some x => checkGo N l (some e) x (i + 1)) : Int × Int).2 = 0 → ∃ x, turnL now e = some x ∧ OkH N l (some e) x ∧ ((match turnL now e with | none => ((i : Int), 25) | some x => checkGo N l (some e) x (i + 1)) : Int × Int).1 = 0 := by
      intro h
      cases ht : turnL now e with
      | none => rw [ht] at h; simp at h
      | some x =>
        rw [ht] at h
        have ih := checkGo_ok (N := N) (l := l) (p := some e) (now := x) (i := i + 1)
        exact ⟨x, rfl, ih.1.1 h, ih.2 h⟩
    have hy : ∀ x, turnL now e = some x → OkH N l (some e) x → ((match turnL now e with | none => ((i : Int), 25) | some x => checkGo N l (some e) x (i + 1)) : Int × Int).2 = 0 := by
      intro x ht h
      rw [ht]
      exact (checkGo_ok (N := N) (l := l) (p := some e) (now := x) (i := i + 1)).1.2 h
    refine ⟨⟨fun h => ?_, fun h => ?_⟩, fun h => ?_⟩
    · obtain ⟨q1, q2, _⟩ := hm2.1 h
      obtain ⟨x, q3, q4, _⟩ := hx q2
      exact ⟨by omega, h2', q1, x, q3, q4⟩
    · obtain ⟨x, q3, q4⟩ := h.2.2.2
      have := hm2.2 h.2.2.1
      exact (congrArg Prod.snd this).trans (hy x q3 q4)
    · obtain ⟨q1, q2, q5⟩ := hm2.1 h
      obtain ⟨x, q3, q4, q6⟩ := hx q2
      exact q5.trans q6
theorem checkL_ok {N : Int} {l : List Evt} : (checkL N l).2 = 0 ↔ N ≤ 4294967296 ∧ l.length ≤ 2147483648 ∧ OkH N l none [] := by
  unfold checkL
  split
  · constructor
    · intro h; simp at h
    · intro h; omega
  · rw [checkGo_ok.1]
    constructor
    · intro h; exact ⟨by omega, by omega, h⟩
    · intro h; exact h.2.2
theorem foldT_cons (e : Evt) (l : List Evt) (now : List Edge) : foldT (e :: l) now = foldT l ((turnL now e).getD []) := rfl
theorem foldT_append (l m : List Evt) (now : List Edge) : foldT (l ++ m) now = foldT m (foldT l now) := by unfold foldT; rw [List.foldl_append]
def lastE (l : List Evt) (p : Option Evt) : Option Evt := l.foldl (fun _ e => some e) p
theorem OkH.drop {N : Int} : ∀ {l : List Evt} {p : Option Evt} {now : List Edge} (i : Nat), OkH N l p now → OkH N (l.drop i) (lastE (l.take i) p) (foldT (l.take i) now)
  | l, p, now, 0, h => by simpa [lastE, foldT] using h
  | [], p, now, i + 1, h => by simp [OkH]
  | e :: l, p, now, i + 1, h => by
    obtain ⟨_, _, _, x, hx, h'⟩ := h
    have ih := OkH.drop i h'
    rw [List.take_succ_cons, foldT_cons, hx]
    exact ih
theorem OkH.take {N : Int} : ∀ {l : List Evt} {p : Option Evt} {now : List Edge} (i : Nat), OkH N l p now → OkH N (l.take i) p now
  | l, p, now, 0, h => by simp [OkH]
  | [], p, now, i + 1, h => by simp [OkH]
  | e :: l, p, now, i + 1, h => by
    obtain ⟨h1, h2, h3, x, hx, h'⟩ := h
    rw [List.take_succ_cons]
    exact ⟨h1, h2, h3, x, hx, OkH.take i h'⟩
theorem OkH.step {N : Int} {l : List Evt} {p : Option Evt} {now : List Edge} (h : OkH N l p now) {i : Nat} (hi : i < l.length) : ∃ x, turnL (foldT (l.take i) now) l[i] = some x ∧ foldT (l.take (i + 1)) now = x := by
  have hd := h.drop i
  rw [List.drop_eq_getElem_cons hi] at hd
  obtain ⟨_, _, _, x, hx, _⟩ := hd
  refine ⟨x, hx, ?_⟩
  rw [List.take_succ_eq_append_getElem hi, foldT_append, foldT_cons, hx]
  rfl
theorem OkH.mem {N : Int} : ∀ {l : List Evt} {p : Option Evt} {now : List Edge}, OkH N l p now → ∀ e ∈ l, (0 ≤ e.t ∧ e.t ≤ 4611686018427387903) ∧ e.u < e.v ∧ e.v < N
  | [], _, _, _, e, he => by simp at he
  | a :: l, p, now, h, e, he => by
    rcases List.mem_cons.1 he with rfl | he
    · exact ⟨h.1, h.2.1⟩
    · obtain ⟨x, _, h'⟩ := h.2.2.2
      exact h'.mem e he
theorem OkH.fold {N : Int} : ∀ {l : List Evt} {p : Option Evt} {now : List Edge}, OkH N l p now → Rise now → Rise (foldT l now) ∧ ∀ a ∈ foldT l now, a ∈ now ∨ ∃ e ∈ l, a = (e.u, e.v)
  | [], _, now, _, hr => ⟨hr, fun a ha => .inl ha⟩
  | e :: l, p, now, h, hr => by
    obtain ⟨x, hx, h'⟩ := h.2.2.2
    rw [foldT_cons, hx]
    have ih := h'.fold (turn_some hx).1
    refine ⟨ih.1, fun a ha => ?_⟩
    rcases ih.2 a ha with k | ⟨e', k1, k2⟩
    · rcases turn_mem hx k with k | k
      · exact .inl k
      · exact .inr ⟨e, by simp, k⟩
    · exact .inr ⟨e', by simp [k1], k2⟩

theorem beforeV_iff {a b : Evt} : beforeV a b = true ↔ a.t < b.t ∨ a.t = b.t ∧ (a.u < b.u ∨ a.u = b.u ∧ a.v < b.v) := by
  simp [beforeV, lessE]
theorem beforeV_trans {a b c : Evt} (h : beforeV a b = true) (k : beforeV b c = true) : beforeV a c = true := by
  rw [beforeV_iff] at *; omega
theorem placeGo_is (l : List Evt) (e : Evt) : ∀ k, k ≤ l.length → (∀ j (hj : j < l.length), placeGo l e k ≤ j → j < k → beforeV e l[j] = true) ∧ (∀ j (hj : j < l.length), placeGo l e k = j + 1 → beforeV e l[j] = false)
  | 0, _ => ⟨fun j hj h1 h2 => by omega, fun j hj h => by simp [placeGo] at h⟩
  | k + 1, hk => by
    have ih := placeGo_is l e k (by omega)
    have hg : l.getD k ⟨0, 0, 0, false⟩ = l[k] := by simp [List.getD_eq_getElem?_getD, show k < l.length by omega]
    unfold placeGo
    rw [hg]
    split
    · rename_i hb
      refine ⟨fun j hj h1 h2 => ?_, ih.2⟩
      by_cases e' : j = k
      · subst e'; exact hb
      · exact ih.1 j hj h1 (by omega)
    · rename_i hb
      refine ⟨fun j hj h1 h2 => by omega, fun j hj h => ?_⟩
      have : j = k := by omega
      subst this
      simpa using hb
def SortV (l : List Evt) : Prop := l.Pairwise fun a b => beforeV a b = true
theorem insertV_sort {l : List Evt} {e : Evt} (h : SortV l) : SortV (insertV l e) := by
  unfold insertV
  split
  · exact h
  · rename_i hne
    obtain ⟨p1, p2⟩ := placeGo_is l e l.length (Nat.le_refl _)
    have hle := placeGo_le l e l.length
    generalize placeGo l e l.length = k at *
    have h0 := h
    unfold SortV at h0
    rw [← List.take_append_drop k l] at h0
    obtain ⟨h1, h2, h3⟩ := List.pairwise_append.1 h0
    have hgt : ∀ a ∈ l.drop k, beforeV e a = true := by
      intro a ha
      obtain ⟨j, hj, rfl⟩ := List.mem_iff_getElem.1 ha
      rw [List.getElem_drop]
      rw [List.length_drop] at hj
      exact p1 (k + j) (by omega) (by omega) (by omega)
    have hlt : ∀ a ∈ l.take k, beforeV a e = true := by
      intro a ha
      cases k with
      | zero => simp at ha
      | succ k =>
        have hk : k < l.length := by omega
        have q := p2 k hk rfl
        have hg : l.getD (k + 1 - 1) ⟨0, 0, 0, false⟩ = l[k] := by simp [List.getD_eq_getElem?_getD, hk]
        rw [hg] at hne
        have hk' : beforeV l[k] e = true := by
          have q' : ¬ beforeV e l[k] = true := by rw [q]; simp
          rw [beforeV_iff] at q' ⊢
          omega
        obtain ⟨j, hj, rfl⟩ := List.mem_iff_getElem.1 ha
        rw [List.getElem_take]
        rw [List.length_take] at hj
        by_cases e' : j = k
        · subst e'; exact hk'
        · exact beforeV_trans (List.pairwise_iff_getElem.1 h j k (by omega) hk (by omega)) hk'
    refine List.pairwise_append.2 ⟨h1, List.pairwise_cons.2 ⟨hgt, h2⟩, fun a ha b hb => ?_⟩
    rcases List.mem_cons.1 hb with rfl | hb
    · exact hlt a ha
    · exact h3 a ha b hb
theorem timeS_is {t a : Int} (ht : 0 ≤ t) (ha : 0 ≤ a ∧ a ≤ 255) : 0 ≤ timeS t a ∧ timeS t a ≤ t + 1099511627776 := by
  have h1 : (2 : Int) ^ (a % 40).toNat ≤ 549755813888 ∧ 0 < (2 : Int) ^ (a % 40).toNat := by
    have h2 := Nat.pow_le_pow_right (n := 2) (by omega) (show (a % 40).toNat ≤ 39 by omega)
    have h3 := Nat.two_pow_pos (a % 40).toNat
    have e : ((2 ^ (a % 40).toNat : Nat) : Int) = 2 ^ (a % 40).toNat := by simp
    omega
  unfold timeS
  split <;> omega
theorem timesGo_is {N : Int} (hN : 2 ≤ N ∧ N ≤ 4294967296) : ∀ (l : List Int) (t : Int) (ts : List Evt), BytesB l → 0 ≤ t → SortV ts → (∀ e ∈ ts, 0 ≤ e.t ∧ e.t ≤ t) → (∀ e ∈ ts, 0 ≤ e.u ∧ e.u < e.v ∧ e.v < N) →
    SortV (timesGo N l t ts) ∧ (∀ e ∈ timesGo N l t ts, 0 ≤ e.t ∧ e.t ≤ t + l.length * 1099511627776) ∧ ∀ e ∈ timesGo N l t ts, 0 ≤ e.u ∧ e.u < e.v ∧ e.v < N
  | a :: b :: c :: l, t, ts, hb, ht, h1, h2, h3 => by
    rw [timesGo]
    have ha := hb a (by simp)
    have hb' := hb b (by simp)
    have hc := hb c (by simp)
    have tt := timeS_is ht ha
    split
    · have hins : ∀ x ∈ stepS N a b c t ts, x ∈ ts ∨ x = ⟨timeS t a, (edgeS b c N).1.1, (edgeS b c N).1.2, false⟩ ∧ (edgeS b c N).2 = true := by
        intro x hx
        unfold stepS at hx
        split at hx
        · rename_i he
          rcases insertV_mem hx with k | k
          · exact .inl k
          · exact .inr ⟨k, he⟩
        · exact .inl hx
      have hge : ∀ t' : Int, t ≤ t' → True := fun _ _ => trivial
      have htle : t ≤ timeS t a := by
        have h3 : 0 < (2 : Int) ^ (a % 40).toNat := Int.pow_pos (by omega)
        unfold timeS; split <;> omega
      have ih := timesGo_is hN l (timeS t a) (stepS N a b c t ts) (fun y hy => hb y (by simp [hy])) tt.1
        (by unfold stepS; split; exact insertV_sort h1; exact h1)
        (fun e he => by
          rcases hins e he with k | ⟨k, _⟩
          · have := h2 e k; omega
          · rw [k]; exact ⟨tt.1, Int.le_refl _⟩)
        (fun e he => by
          rcases hins e he with k | ⟨k, k'⟩
          · exact h3 e k
          · rw [k]; exact edgeS_is hb'.1 hc.1 hN k')
      refine ⟨ih.1, fun e he => ?_, ih.2.2⟩
      have := ih.2.1 e he
      simp only [List.length_cons]
      omega
    · refine ⟨h1, fun e he => ?_, h3⟩
      have := h2 e he
      simp only [List.length_cons]
      omega
  | [], t, ts, hb, ht, h1, h2, h3 => by
    refine ⟨by simpa [timesGo] using h1, fun e he => ?_, by simpa [timesGo] using h3⟩
    rw [timesGo] at he
    · have := h2 e he; simp; omega
    · simp
  | [_], t, ts, hb, ht, h1, h2, h3 => by
    refine ⟨by simpa [timesGo] using h1, fun e he => ?_, by simpa [timesGo] using h3⟩
    rw [timesGo] at he
    · have := h2 e he; simp; omega
    · simp
  | [_, _], t, ts, hb, ht, h1, h2, h3 => by
    refine ⟨by simpa [timesGo] using h1, fun e he => ?_, by simpa [timesGo] using h3⟩
    rw [timesGo] at he
    · have := h2 e he; simp; omega
    · simp
theorem histGo_ok {N : Int} : ∀ (l : List Evt) (now : List Edge) (p : Option Evt), Rise now → SortV l → (∀ q, p = some q → ∀ e ∈ l, beforeV q e = true) → (∀ e ∈ l, (0 ≤ e.t ∧ e.t ≤ 4611686018427387903) ∧ e.u < e.v ∧ e.v < N) → OkH N (histGo l now) p now
  | [], now, p, _, _, _, _ => by simp [histGo, OkH]
  | e :: l, now, p, hr, hs, hp, hv => by
    rw [histGo]
    have hs' := List.pairwise_cons.1 hs
    have hne : turnL now ⟨e.t, e.u, e.v, !decide ((e.u, e.v) ∈ now)⟩ ≠ none := by
      intro h
      have := (turn_none hr _).1 h
      simp at this
    cases hx : turnL now ⟨e.t, e.u, e.v, !decide ((e.u, e.v) ∈ now)⟩ with
    | none => exact absurd hx hne
    | some x =>
      have he := hv e (by simp)
      refine ⟨he.1, he.2, fun q hq => ?_, x, hx, ?_⟩
      · have := hp q hq e (by simp)
        rw [beforeV_iff] at this ⊢
        exact this
      · rw [Option.getD_some]
        refine histGo_ok l x _ (turn_some hx).1 hs'.2 (fun q hq a ha => ?_) (fun a ha => hv a (by simp [ha]))
        cases hq
        have := hs'.1 a ha
        rw [beforeV_iff] at this ⊢
        exact this
theorem histGo_mem : ∀ (l : List Evt) (now : List Edge), ∀ e ∈ histGo l now, ∃ a ∈ l, a.t = e.t ∧ a.u = e.u ∧ a.v = e.v
  | [], now, e, he => by simp [histGo] at he
  | a :: l, now, e, he => by
    rw [histGo] at he
    rcases List.mem_cons.1 he with rfl | he
    · exact ⟨a, by simp, rfl, rfl, rfl⟩
    · obtain ⟨b, h1, h2⟩ := histGo_mem l _ e he
      exact ⟨b, by simp [h1], h2⟩
theorem historyL_is {k : Int} {l : List Int} (hb : BytesB l) (hl : l.length ≤ 1024) : OkH (vertL k) (historyL k l) none [] ∧ ∀ e ∈ historyL k l, (0 ≤ e.t ∧ e.t ≤ 1125899906842624 * 2) ∧ 0 ≤ e.u ∧ e.u < e.v ∧ e.v < vertL k := by
  have h := timesGo_is (vertL_is k) l (k % 3) [] hb (by omega) List.Pairwise.nil (by simp) (by simp)
  refine ⟨histGo_ok _ _ _ List.Pairwise.nil h.1 (fun q hq => by cases hq) (fun e he => ?_), fun e he => ?_⟩
  · have h1 := h.2.1 e he
    have h2 := h.2.2 e he
    exact ⟨by omega, h2.2⟩
  · obtain ⟨a, ha, e1, e2, e3⟩ := histGo_mem _ _ e he
    have h1 := h.2.1 a ha
    have h2 := h.2.2 a ha
    rw [← e1, ← e2, ← e3]
    exact ⟨by omega, h2⟩
theorem historyL_check {k : Int} {l : List Int} (hb : BytesB l) (hl : l.length ≤ 1024) : checkL (vertL k) (historyL k l) = (0, 0) := by
  have h1 := vertL_is k
  have h2 := historyL_length k l
  have h3 := checkL_ok.2 ⟨h1.2, by omega, (historyL_is hb hl).1⟩
  have h4 : (checkL (vertL k) (historyL k l)).1 = 0 := by
    unfold checkL at h3 ⊢
    split at h3
    · simp at h3
    · rename_i hn; rw [if_neg hn]; exact checkGo_ok.2 h3
  exact Prod.ext h4 h3
/-- The graph behind some events of a right history. -/
theorem afterL_ok {N k : Int} {l : List Evt} (h : OkH N l none []) : Rise (foldT (l.take k.toNat) []) ∧ ∀ a ∈ foldT (l.take k.toNat) [], ∃ e ∈ l, a = (e.u, e.v) := by
  have := (h.take k.toNat).fold List.Pairwise.nil
  refine ⟨this.1, fun a ha => ?_⟩
  rcases this.2 a ha with k | ⟨e, k1, k2⟩
  · simp at k
  · exact ⟨e, List.mem_of_mem_take k1, k2⟩
end Go.Proofs.Ytgahfcdmgdnjiaa
