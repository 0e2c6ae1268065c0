/- Own texts, packed: T1, T2, T3. -/
import Derived.Test.YtgahfcdmgdnjiaaGNg
import Derived.Test.YtgahfcdmgdnjiaaGYg
import Derived.Test.YtgahfcdmgdnjiaaGZg
import Derived.Test.YtgahfcdmgdnjiaaGCg
import Derived.Laws.Externs
import Derived.Lib.Overlaps
import Derived.Laws.Small

/-! Package edge, and cmp.Or, cmp.Compare: the walks. -/
namespace Go.Proofs.Ytgahfcdmgdnjiaa
open Go Go.V Go.RowKit
set_option linter.unusedVariables false
set_option linter.unusedSimpArgs false
set_option maxHeartbeats 4000000
set_option maxRecDepth 100000

theorem blk_keep {w w' : World} {g : Nat} {o : Obj} (h : w.heap[g]? = some o) (hg : w.grownBy w' none) : w'.heap[g]? = some o := by rw [hg.block _ (Array.getElem?_eq_some_iff.1 h).1 (by simp)]; exact h
def cmpI (x y : Int) : Int := if x < y then -1 else if x > y then 1 else 0
theorem isNaN32_calls {x : Int} {w : World} {R : Ending → World → Prop} (h : R (.returned (.bool false)) w) : Calls P 143 #[.int .u32 x] w R := by
  apply vc143; unfold VC143; simpa using h
theorem isNaN64_calls {x : Int} {w : World} {R : Ending → World → Prop} (h : R (.returned (.bool false)) w) : Calls P 137 #[.int .i64 x] w R := by
  apply vc137; unfold VC137; simpa using h
theorem compare32_calls {x y : Int} {w : World} : Calls P 124 #[.int .u32 x, .int .u32 y] w fun ev w' => ev = .returned (.int .i64 (cmpI x y)) ∧ w' = w := by
  apply vc124; unfold VC124; try (conv => zeta)
  refine isNaN32_calls ⟨false, rfl, isNaN32_calls ⟨false, rfl, by simp, fun _ => ⟨by simp, fun _ => ⟨fun h => ⟨?_, rfl⟩, fun h => ⟨fun h' => ⟨?_, rfl⟩, fun h' => ⟨?_, rfl⟩⟩⟩⟩⟩⟩ <;> unfold cmpI
  · rw [if_pos h]
  · rw [if_neg h, if_pos h']
  · rw [if_neg h, if_neg h']
theorem compare64_calls {x y : Int} {w : World} : Calls P 104 #[.int .i64 x, .int .i64 y] w fun ev w' => ev = .returned (.int .i64 (cmpI x y)) ∧ w' = w := by
  apply vc104; unfold VC104; try (conv => zeta)
  refine isNaN64_calls ⟨false, rfl, isNaN64_calls ⟨false, rfl, by simp, fun _ => ⟨by simp, fun _ => ⟨fun h => ⟨?_, rfl⟩, fun h => ⟨fun h' => ⟨?_, rfl⟩, fun h' => ⟨?_, rfl⟩⟩⟩⟩⟩⟩ <;> unfold cmpI
  · rw [if_pos h]
  · rw [if_neg h, if_pos h']
  · rw [if_neg h, if_neg h']
theorem or2_calls {w : World} {A : Option Addr} {c : Nat} {x y : Int} (hr : Row w A [.int .i64 x, .int .i64 y]) : Calls P 103 #[.slice A 2 c] w fun ev w' => ev = .returned (.int .i64 (if x ≠ 0 then x else y)) ∧ w.grownBy w' none := by
  apply vc103; unfold VC103; try (conv => zeta)
  simp only [InK]
  refine ⟨fun m i w' => ∃ p : Nat, i = (p : Int) ∧ p ≤ 2 ∧ m = 2 - p ∧ w.grownBy w' none ∧ (0 < p → x = 0) ∧ (1 < p → y = 0), ⟨_, 0, rfl, by omega, rfl, grown_refl _ _, by omega, by omega⟩, ?_⟩
  rintro m i w1 ⟨p, rfl, hp, rfl, hg, h0, h1⟩
  have tp : (p : Int).toNat = p := by omega
  rw [tp]
  refine ⟨fun hlt => ?_, fun hge => ?_⟩
  · match p, hp, hlt with
    | 0, _, _ =>
      obtain ⟨a, e1, e2⟩ := (hr.kept_none hg) 0 (.int .i64 x) rfl
      refine ⟨a, e1, by omega, by omega, _, e2, fun hx => ⟨by rw [if_pos hx], hg⟩, fun hx => ⟨by omega, _, ?_, 1, rfl, by omega, rfl, hg, fun _ => by omega, by omega⟩⟩
      omega
    | 1, _, _ =>
      obtain ⟨a, e1, e2⟩ := (hr.kept_none hg) 1 (.int .i64 y) rfl
      refine ⟨a, e1, by omega, by omega, _, e2, fun hx => ⟨by rw [if_neg (by have := h0 (by omega); omega)], hg⟩, fun hx => ⟨by omega, _, ?_, 2, rfl, by omega, rfl, hg, fun _ => h0 (by omega), fun _ => by omega⟩⟩
      omega
    | 2, _, h => omega
  · have : p = 2 := by omega
    subst this
    refine ⟨?_, hg⟩
    have := h0 (by omega); have := h1 (by omega)
    rw [if_neg (by omega)]; congr 2; omega
theorem cmpI_or {a b : Edge} : (if cmpI a.1 b.1 ≠ 0 then cmpI a.1 b.1 else cmpI a.2 b.2) < 0 ↔ lessE a b = true := by
  rw [lessE_iff]; unfold cmpI
  repeat' split
  all_goals omega
theorem cmpI_no {x y c : Int} (h : ¬ c < 0) : (if cmpI x y ≠ 0 then cmpI x y else c) < 0 ↔ x < y := by
  unfold cmpI
  repeat' split
  all_goals omega
theorem cmpI_yes {x y c : Int} (h : c < 0) : (if cmpI x y ≠ 0 then cmpI x y else c) < 0 ↔ (x < y ∨ x = y) := by
  unfold cmpI
  repeat' split
  all_goals omega
theorem ecompare_calls {w : World} (a b : Edge) : Calls P 84 #[edgeV a, edgeV b] w fun ev w' => ∃ c : Int, ev = .returned (.int .i64 c) ∧ (c < 0 ↔ lessE a b = true) ∧ w.grownBy w' none := by
  apply vc84; unfold VC84; try (conv => zeta)
  have g1 := World.grownBy_alloc w (.cells #[.int .u32 a.1, .int .u32 a.2] 39) none
  have b1 : (w.alloc (.cells #[.int .u32 a.1, .int .u32 a.2] 39)).heap[w.heap.size]? = some (.cells #[.int .u32 a.1, .int .u32 a.2] 39 (0, 0)) := heap_alloc_new w _
  obtain ⟨w1, hw_w1⟩ : ∃ w1, w1 = w.alloc (.cells #[.int .u32 a.1, .int .u32 a.2] 39) := ⟨_, rfl⟩
  rw [← hw_w1] at g1 b1 ⊢
  have g2 := World.grownBy_alloc w1 (.cells #[.int .u32 b.1, .int .u32 b.2] 39) none
  have b2 : (w1.alloc (.cells #[.int .u32 b.1, .int .u32 b.2] 39)).heap[w1.heap.size]? = some (.cells #[.int .u32 b.1, .int .u32 b.2] 39 (0, 0)) := heap_alloc_new w1 _
  obtain ⟨w2, hw_w2⟩ : ∃ w2, w2 = w1.alloc (.cells #[.int .u32 b.1, .int .u32 b.2] 39) := ⟨_, rfl⟩
  rw [← hw_w2] at g2 b2 ⊢
  have b1' := blk_keep b1 g2
  have gd := grown_drew (grown_refl w2 none)
  refine ⟨fun w' => w2.grownBy w' none, gd, _, blk_cell (blk_keep b1' gd) 0, _, blk_cell (blk_keep b2 gd) 0, compare32_calls.mono fun ev w3 hh => ?_⟩
  obtain ⟨rfl, rfl⟩ := hh
  refine ⟨_, rfl, gd, _, fun wq gq => blk_cell (blk_keep b1' gq) 1, _, fun wq gq => blk_cell (blk_keep b2 gq) 1, compare32_calls.mono fun ev w4 hh => ?_⟩
  obtain ⟨rfl, rfl⟩ := hh
  have ga := World.grownBy_alloc w2.drew (.cells #[.int .i64 (cmpI a.1 b.1), .int .i64 (cmpI a.2 b.2)] 3) none
  have hA := grown_trans gd ga
  refine ⟨_, rfl, gd, hA, (or2_calls (row_allocM w2.drew #[.int .i64 (cmpI a.1 b.1), .int .i64 (cmpI a.2 b.2)] 3 (0, 0))).mono fun ev w5 hh => ?_⟩
  obtain ⟨rfl, g5⟩ := hh
  exact ⟨_, rfl, grown_trans hA g5, _, rfl, cmpI_or, grown_trans g1 (grown_trans g2 (grown_trans hA g5))⟩
theorem eless_calls {w : World} (a b : Edge) : Calls P 53 #[edgeV a, edgeV b] w fun ev w' => ev = .returned (.bool (lessE a b)) ∧ w.grownBy w' none := by
  apply vc53; unfold VC53; try (conv => zeta)
  have g1 := World.grownBy_alloc w (.cells #[.int .u32 a.1, .int .u32 a.2] 39) none
  have b1 : (w.alloc (.cells #[.int .u32 a.1, .int .u32 a.2] 39)).heap[w.heap.size]? = some (.cells #[.int .u32 a.1, .int .u32 a.2] 39 (0, 0)) := heap_alloc_new w _
  obtain ⟨w1, hw_w1⟩ : ∃ w1, w1 = w.alloc (.cells #[.int .u32 a.1, .int .u32 a.2] 39) := ⟨_, rfl⟩
  rw [← hw_w1] at g1 b1 ⊢
  have g2 := World.grownBy_alloc w1 (.cells #[.int .u32 b.1, .int .u32 b.2] 39) none
  have b2 : (w1.alloc (.cells #[.int .u32 b.1, .int .u32 b.2] 39)).heap[w1.heap.size]? = some (.cells #[.int .u32 b.1, .int .u32 b.2] 39 (0, 0)) := heap_alloc_new w1 _
  obtain ⟨w2, hw_w2⟩ : ∃ w2, w2 = w1.alloc (.cells #[.int .u32 b.1, .int .u32 b.2] 39) := ⟨_, rfl⟩
  rw [← hw_w2] at g2 b2 ⊢
  have b1' := blk_keep b1 g2
  refine ⟨_, blk_cell b1' 0, _, blk_cell b1' 1, _, blk_cell b2 0, _, blk_cell b2 1, (ecompare_calls a b).mono fun ev w3 hh => ?_⟩
  obtain ⟨c, rfl, hc, g3⟩ := hh
  refine ⟨c, rfl, ?_, grown_trans g1 (grown_trans g2 g3)⟩
  congr 2
  by_cases h : c < 0
  · rw [hc.1 h]; simpa using h
  · have : lessE a b = false := by
      cases hl : lessE a b
      · rfl
      · exact absurd (hc.2 hl) h
    rw [this]; simpa using h
theorem eright_calls {w : World} (e : Edge) {n : Int} (he : 0 ≤ e.2 ∧ e.2 ≤ 4294967295) : Calls P 76 #[edgeV e, .int .u64 n] w fun ev w' => ev = .returned (.bool (decide (e.1 < e.2 ∧ e.2 < n))) ∧ w.grownBy w' none := by
  apply vc76; unfold VC76; try (conv => zeta)
  simp only [InK]
  have g1 := World.grownBy_alloc w (.cells #[.int .u32 e.1, .int .u32 e.2] 39) none
  have b1 : (w.alloc (.cells #[.int .u32 e.1, .int .u32 e.2] 39)).heap[w.heap.size]? = some (.cells #[.int .u32 e.1, .int .u32 e.2] 39 (0, 0)) := heap_alloc_new w _
  obtain ⟨w1, hw_w1⟩ : ∃ w1, w1 = w.alloc (.cells #[.int .u32 e.1, .int .u32 e.2] 39) := ⟨_, rfl⟩
  rw [← hw_w1] at g1 b1 ⊢
  refine ⟨_, blk_cell b1 0, _, blk_cell b1 1, fun h => ⟨_, blk_cell b1 1, by omega, ?_, g1⟩, fun h => ⟨?_, g1⟩⟩
  · congr 2; rw [decide_eq_decide]; exact ⟨fun h' => ⟨h, h'⟩, fun h' => h'.2⟩
  · congr 2; symm; rw [decide_eq_false_iff_not]; exact fun h' => h h'.1
theorem erising_calls {w : World} {A : Option Addr} {n c : Nat} {l : List Edge} (hr : Row w A (edges l)) (hn : n = l.length) (hl : n ≤ 2 ^ 40) : Calls P 54 #[.slice A n c] w fun ev w' => ev = .returned (.bool (risingL l)) ∧ w.grownBy w' none := by
  apply vc54; unfold VC54; try (conv => zeta)
  simp only [InK]
  refine ⟨fun m i w' => ∃ p : Nat, i = (p : Int) ∧ p ≤ l.length ∧ m = l.length - p ∧ w.grownBy w' none ∧ ∀ j (h : j + 1 < l.length), j + 1 < p → lessE l[j] l[j + 1] = true, ⟨_, 0, rfl, by omega, rfl, grown_refl _ _, fun j h hj => by omega⟩, ?_⟩
  rintro m i w1 ⟨p, rfl, hp, rfl, hg, hx⟩
  have gd := grown_drew hg
  have tp : (p : Int).toNat = p := by omega
  have tp1 : ((p : Int) - 1).toNat = p - 1 := by omega
  rw [tp, tp1]
  refine ⟨fun hlt => ⟨fun hpos => ?_, fun hz => ⟨by omega, _, ?_, p + 1, by omega, by omega, rfl, gd, fun j h hj => by omega⟩⟩, fun hge => ⟨?_, hg⟩⟩
  · have lp : p < l.length := by omega
    obtain ⟨a, e1, e2, e3⟩ := edge_at (hr.kept_none gd) (show p - 1 < l.length by omega)
    obtain ⟨a', e1', e2', e3'⟩ := edge_at (hr.kept_none gd) lp
    refine ⟨by omega, a, e1, by omega, by omega, _, e2, _, e3, a', e1', by omega, by omega, _, e2', _, e3', (eless_calls l[p - 1] l[p]).mono fun ev w2 hh => ?_⟩
    obtain ⟨rfl, g2⟩ := hh
    have g02 := grown_trans gd g2
    refine ⟨_, rfl, fun h => ⟨?_, g02⟩, fun h => ⟨by omega, _, ?_, p + 1, by omega, by omega, rfl, g02, fun j hj hjp => ?_⟩⟩
    · congr 2
      symm
      rw [Bool.eq_false_iff]
      intro hrise
      have := List.pairwise_iff_getElem.1 ((risingL_iff l).1 hrise) (p - 1) p (by omega) lp (by omega)
      rw [this] at h; cases h
    · omega
    · by_cases e : j + 1 = p
      · subst e
        simpa using h
      · exact hx j hj (by omega)
  · omega
  · have : p = l.length := by omega
    subst this
    congr 2
    symm
    unfold risingL
    rw [List.all_eq_true]
    intro j hj
    have hj' : j + 1 < l.length := by have := List.mem_range.1 hj; omega
    have := hx j hj' hj'
    rw [List.getD_eq_getElem?_getD, List.getD_eq_getElem?_getD, List.getElem?_eq_getElem (by omega), List.getElem?_eq_getElem hj']
    exact this
theorem ebefore_calls {w : World} (a b : Evt) : Calls P 78 #[evtV a, evtV b] w fun ev w' => ev = .returned (.bool (beforeV a b)) ∧ w.grownBy w' none := by
  apply vc78; unfold VC78; try (conv => zeta)
  have g1 := World.grownBy_alloc w (.cells #[.int .i64 a.t, .int .u32 a.u, .int .u32 a.v, .bool a.add] 41) none
  have b1 : (w.alloc (.cells #[.int .i64 a.t, .int .u32 a.u, .int .u32 a.v, .bool a.add] 41)).heap[w.heap.size]? = some (.cells #[.int .i64 a.t, .int .u32 a.u, .int .u32 a.v, .bool a.add] 41 (0, 0)) := heap_alloc_new w _
  obtain ⟨w1, hw_w1⟩ : ∃ w1, w1 = w.alloc (.cells #[.int .i64 a.t, .int .u32 a.u, .int .u32 a.v, .bool a.add] 41) := ⟨_, rfl⟩
  rw [← hw_w1] at g1 b1 ⊢
  have g2 := World.grownBy_alloc w1 (.cells #[.int .i64 b.t, .int .u32 b.u, .int .u32 b.v, .bool b.add] 41) none
  have b2 : (w1.alloc (.cells #[.int .i64 b.t, .int .u32 b.u, .int .u32 b.v, .bool b.add] 41)).heap[w1.heap.size]? = some (.cells #[.int .i64 b.t, .int .u32 b.u, .int .u32 b.v, .bool b.add] 41 (0, 0)) := heap_alloc_new w1 _
  obtain ⟨w2, hw_w2⟩ : ∃ w2, w2 = w1.alloc (.cells #[.int .i64 b.t, .int .u32 b.u, .int .u32 b.v, .bool b.add] 41) := ⟨_, rfl⟩
  rw [← hw_w2] at g2 b2 ⊢
  have b1' := blk_keep b1 g2
  have gd := grown_drew (grown_refl w2 none)
  refine ⟨fun w' => w2.grownBy w' none, gd, _, blk_cell (blk_keep b1' gd) 0, _, blk_cell (blk_keep b2 gd) 0, compare64_calls.mono fun ev w3 hh => ?_⟩
  obtain ⟨rfl, rfl⟩ := hh
  refine ⟨_, rfl, gd, _, fun wq gq => blk_cell (blk_keep b1' gq) 1, _, fun wq gq => blk_cell (blk_keep b1' gq) 2, _, fun wq gq => blk_cell (blk_keep b2 gq) 1, _, fun wq gq => blk_cell (blk_keep b2 gq) 2, (ecompare_calls (a.u, a.v) (b.u, b.v)).mono fun ev w4 hh => ?_⟩
  obtain ⟨c, rfl, hc, g4⟩ := hh
  have g24 := grown_trans gd g4
  have ga := World.grownBy_alloc w4 (.cells #[.int .i64 (cmpI a.t b.t), .int .i64 c] 3) none
  have hA := grown_trans g24 ga
  refine ⟨_, rfl, g24, hA, (or2_calls (row_allocM w4 #[.int .i64 (cmpI a.t b.t), .int .i64 c] 3 (0, 0))).mono fun ev w5 hh => ?_⟩
  obtain ⟨rfl, g5⟩ := hh
  refine ⟨_, rfl, grown_trans hA g5, ?_, grown_trans g1 (grown_trans g2 (grown_trans hA g5))⟩
  congr 2
  unfold beforeV
  cases hl : lessE (a.u, a.v) (b.u, b.v)
  · have hc' : ¬ c < 0 := fun h => by rw [hc.1 h] at hl; cases hl
    have e : decide ((if cmpI a.t b.t ≠ 0 then cmpI a.t b.t else c) < 0) = decide (a.t < b.t) := decide_eq_decide.2 (cmpI_no hc')
    rw [e]; simp
  · have e : decide ((if cmpI a.t b.t ≠ 0 then cmpI a.t b.t else c) < 0) = decide (a.t < b.t ∨ a.t = b.t) := decide_eq_decide.2 (cmpI_yes (hc.2 hl))
    rw [e]; simp
end Go.Proofs.Ytgahfcdmgdnjiaa

/-! Rows of edges cloned, searched, an edge struck out, put in: package slices. -/
namespace Go.Proofs.Ytgahfcdmgdnjiaa
open Go Go.V Go.RowKit
set_option linter.unusedVariables false
set_option linter.unusedSimpArgs false
set_option maxHeartbeats 4000000
set_option maxRecDepth 100000

end Go.Proofs.Ytgahfcdmgdnjiaa

/-! Maps by edges; history.Check. -/
namespace Go.Proofs.Ytgahfcdmgdnjiaa
open Go Go.V Go.RowKit
set_option linter.unusedVariables false
set_option linter.unusedSimpArgs false
set_option maxHeartbeats 4000000
set_option maxRecDepth 100000

def okU32 (x : Int) : Prop := 0 ≤ x ∧ x ≤ 4294967295
def okEdge (e : Edge) : Prop := okU32 e.1 ∧ okU32 e.2
theorem wf_of_u32 {x : Int} (h : okU32 x) : (Lit.int .u32 x).wf = true := by
  have h1 : IntKind.u32.min = 0 := rfl
  have h2 : IntKind.u32.max = 4294967295 := rfl
  obtain ⟨a, b⟩ := h
  simp only [Lit.wf, Bool.and_eq_true, decide_eq_true_eq]
  omega
theorem keyOf_edge {a b : Int} (wa : (Lit.int .u32 a).wf = true) (wb : (Lit.int .u32 b).wf = true) : ∃ l, keyOf P 39 (.agg #[.int .u32 a, .int .u32 b]) = some l := by
  have hsz : ∃ m, P.types.size = m + 1 := ⟨P.types.size - 1, by kernel_rfl⟩
  have hu := Try.underlying39
  have h32 := Try.underlying37
  have c1 : P.cellsOf 39 = 2 := by kernel_rfl
  have c2 : P.cellsOf 37 = 1 := by kernel_rfl
  have hk : P.keyType 39 = true := by kernel_rfl
  obtain ⟨m, hm⟩ := hsz
  unfold keyOf
  simp only [P] at *
  simp only [hu]
  rw [if_pos (by simp [hk, Value.formed, hu, c1]), hm]
  unfold Program.keyLits
  simp only [hu, Value.cells]
  rw [if_pos (by rw [c1]; exact ⟨rfl, by simp⟩)]
  simp only [List.mapM_cons, List.mapM_nil]
  simp [c2, Program.keyLits, h32, wa, wb]
theorem keyE : KeyT P 39 edgeV okEdge where
  law := deep_law (m := 3) (by omega) (by kernel_rfl) (by kernel_rfl) (by kernel_rfl)
  key := fun x hx => keyOf_edge (wf_of_u32 hx.1) (wf_of_u32 hx.2)
  inj := by
    rintro ⟨a, b⟩ ⟨c, d⟩ h
    simp [edgeV] at h
    simp [h]
abbrev MapE (w : World) (b : Nat) (L : List (Edge × Bool)) : Prop := MapAt edgeV okEdge Value.bool w b L
theorem zero_bool (w : World) : (zeroValue 4).run P w = .ok (.bool false) w := by
  have h : ((P.info? 4).getD default).zero = some (.bool false) := by kernel_rfl
  have h2 : (P.info? 4).isSome = true := by kernel_rfl
  cases hq : P.info? 4 with
  | none => rw [hq] at h2; cases h2
  | some i => rw [hq] at h; simp at h; simp [zeroValue, typeInfo, hq, h]
theorem lookE {w : World} {b : Nat} {L : List (Edge × Bool)} (h : MapE w b L) {k : Edge} (hk : okEdge k) : Sem.run P (Instr.lookup 92 (.map (some b)) (edgeV k) false) w = .ok (.bool ((getK L k).getD false)) w := by
  have := MapAt.look keyE (mt := 92) (et := 4) Try.underlying92 (zero_bool w) h hk false
  rw [this]
  cases getK L k <;> rfl
theorem run_eqB (s t : Operand) (a b : Bool) (w : World) : Sem.run P (do eqGuard .eql 4 s t (.bool a) (.bool b); Go.binOp .eql 4 (.bool a) (.bool b) : Sem Value) w = .ok (.bool (decide (a = b))) w := by
  have hb : P.underlying 4 = some .bool := Try.underlying4
  have h : (a == b) = decide (a = b) := by cases a <;> cases b <;> rfl
  simp [eqGuard_at_bool, run_eql_bool w 4 a b hb, h]
/-- What a map of edges tells is what is there. -/
def There (L : List (Edge × Bool)) (now : List Edge) : Prop := ∀ a, (getK L a).getD false = decide (a ∈ now)
theorem There.upd {L : List (Edge × Bool)} {now x : List Edge} {e : Evt} (h : There L now) (ht : turnL now e = some x) : There (updK L (e.u, e.v) e.add) x := by
  intro a
  rw [getK_upd]
  have := (turn_some ht).2.1 a
  by_cases ha : (e.u, e.v) = a
  · rw [if_pos ha]
    rw [if_pos ha.symm] at this
    cases hadd : e.add <;> simp_all
  · rw [if_neg ha, h a]
    rw [if_neg (fun e => ha e.symm)] at this
    exact decide_eq_decide.2 this.symm
theorem There.turn {L : List (Edge × Bool)} {now : List Edge} {e : Evt} (h : There L now) (hr : Rise now) : (turnL now e = none ↔ (getK L (e.u, e.v)).getD false = e.add) := by
  rw [turn_none hr, h]; exact eq_comm
def EvtsU (l : List Evt) : Prop := ∀ e ∈ l, (0 ≤ e.u ∧ e.u ≤ 4294967295) ∧ 0 ≤ e.v ∧ e.v ≤ 4294967295
end Go.Proofs.Ytgahfcdmgdnjiaa
