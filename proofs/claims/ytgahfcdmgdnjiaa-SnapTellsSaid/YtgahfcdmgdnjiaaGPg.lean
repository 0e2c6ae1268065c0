/- Own texts, packed: T1, T2, T3, T4. -/
import Derived.Test.YtgahfcdmgdnjiaaGNg
import Derived.Test.YtgahfcdmgdnjiaaGYg
import Derived.Test.YtgahfcdmgdnjiaaGZg
import Derived.Test.YtgahfcdmgdnjiaaGCg
import Derived.Laws.Externs
import Derived.Lib.Overlaps
import Derived.Laws.Small

/-! Package edge, and cmp.Or, cmp.Compare: the walks. -/
namespace Go.Proofs.Ytgahfcdmgdnjiaa
open Go Go.V Go.RowKit
set_option linter.unusedVariables false
set_option linter.unusedSimpArgs false
set_option maxHeartbeats 4000000
set_option maxRecDepth 100000

theorem blk_keep {w w' : World} {g : Nat} {o : Obj} (h : w.heap[g]? = some o) (hg : w.grownBy w' none) : w'.heap[g]? = some o := by rw [hg.block _ (Array.getElem?_eq_some_iff.1 h).1 (by simp)]; exact h
def cmpI (x y : Int) : Int := if x < y then -1 else if x > y then 1 else 0
theorem isNaN32_calls {x : Int} {w : World} {R : Ending → World → Prop} (h : R (.returned (.bool false)) w) : Calls P 143 #[.int .u32 x] w R := by
  apply vc143; unfold VC143; simpa using h
theorem isNaN64_calls {x : Int} {w : World} {R : Ending → World → Prop} (h : R (.returned (.bool false)) w) : Calls P 137 #[.int .i64 x] w R := by
  apply vc137; unfold VC137; simpa using h
theorem compare32_calls {x y : Int} {w : World} : Calls P 124 #[.int .u32 x, .int .u32 y] w fun ev w' => ev = .returned (.int .i64 (cmpI x y)) ∧ w' = w := by
  apply vc124; unfold VC124; try (conv => zeta)
  refine isNaN32_calls ⟨false, rfl, isNaN32_calls ⟨false, rfl, by simp, fun _ => ⟨by simp, fun _ => ⟨fun h => ⟨?_, rfl⟩, fun h => ⟨fun h' => ⟨?_, rfl⟩, fun h' => ⟨?_, rfl⟩⟩⟩⟩⟩⟩ <;> unfold cmpI
  · rw [if_pos h]
  · rw [if_neg h, if_pos h']
  · rw [if_neg h, if_neg h']
theorem compare64_calls {x y : Int} {w : World} : Calls P 104 #[.int .i64 x, .int .i64 y] w fun ev w' => ev = .returned (.int .i64 (cmpI x y)) ∧ w' = w := by
  apply vc104; unfold VC104; try (conv => zeta)
  refine isNaN64_calls ⟨false, rfl, isNaN64_calls ⟨false, rfl, by simp, fun _ => ⟨by simp, fun _ => ⟨fun h => ⟨?_, rfl⟩, fun h => ⟨fun h' => ⟨?_, rfl⟩, fun h' => ⟨?_, rfl⟩⟩⟩⟩⟩⟩ <;> unfold cmpI
  · rw [if_pos h]
  · rw [if_neg h, if_pos h']
  · rw [if_neg h, if_neg h']
theorem or2_calls {w : World} {A : Option Addr} {c : Nat} {x y : Int} (hr : Row w A [.int .i64 x, .int .i64 y]) : Calls P 103 #[.slice A 2 c] w fun ev w' => ev = .returned (.int .i64 (if x ≠ 0 then x else y)) ∧ w.grownBy w' none := by
  apply vc103; unfold VC103; try (conv => zeta)
  simp only [InK]
  refine ⟨fun m i w' => ∃ p : Nat, i = (p : Int) ∧ p ≤ 2 ∧ m = 2 - p ∧ w.grownBy w' none ∧ (0 < p → x = 0) ∧ (1 < p → y = 0), ⟨_, 0, rfl, by omega, rfl, grown_refl _ _, by omega, by omega⟩, ?_⟩
  rintro m i w1 ⟨p, rfl, hp, rfl, hg, h0, h1⟩
  have tp : (p : Int).toNat = p := by omega
  rw [tp]
  refine ⟨fun hlt => ?_, fun hge => ?_⟩
  · match p, hp, hlt with
    | 0, _, _ =>
      obtain ⟨a, e1, e2⟩ := (hr.kept_none hg) 0 (.int .i64 x) rfl
      refine ⟨a, e1, by omega, by omega, _, e2, fun hx => ⟨by rw [if_pos hx], hg⟩, fun hx => ⟨by omega, _, ?_, 1, rfl, by omega, rfl, hg, fun _ => by omega, by omega⟩⟩
      omega
    | 1, _, _ =>
      obtain ⟨a, e1, e2⟩ := (hr.kept_none hg) 1 (.int .i64 y) rfl
      refine ⟨a, e1, by omega, by omega, _, e2, fun hx => ⟨by rw [if_neg (by have := h0 (by omega); omega)], hg⟩, fun hx => ⟨by omega, _, ?_, 2, rfl, by omega, rfl, hg, fun _ => h0 (by omega), fun _ => by omega⟩⟩
      omega
    | 2, _, h => omega
  · have : p = 2 := by omega
    subst this
    refine ⟨?_, hg⟩
    have := h0 (by omega); have := h1 (by omega)
    rw [if_neg (by omega)]; congr 2; omega
theorem cmpI_or {a b : Edge} : (if cmpI a.1 b.1 ≠ 0 then cmpI a.1 b.1 else cmpI a.2 b.2) < 0 ↔ lessE a b = true := by
  rw [lessE_iff]; unfold cmpI
  repeat' split
  all_goals omega
theorem cmpI_no {x y c : Int} (h : ¬ c < 0) : (if cmpI x y ≠ 0 then cmpI x y else c) < 0 ↔ x < y := by
  unfold cmpI
  repeat' split
  all_goals omega
theorem cmpI_yes {x y c : Int} (h : c < 0) : (if cmpI x y ≠ 0 then cmpI x y else c) < 0 ↔ (x < y ∨ x = y) := by
  unfold cmpI
  repeat' split
  all_goals omega
theorem ecompare_calls {w : World} (a b : Edge) : Calls P 84 #[edgeV a, edgeV b] w fun ev w' => ∃ c : Int, ev = .returned (.int .i64 c) ∧ (c < 0 ↔ lessE a b = true) ∧ w.grownBy w' none := by
  apply vc84; unfold VC84; try (conv => zeta)
  have g1 := World.grownBy_alloc w (.cells #[.int .u32 a.1, .int .u32 a.2] 39) none
  have b1 : (w.alloc (.cells #[.int .u32 a.1, .int .u32 a.2] 39)).heap[w.heap.size]? = some (.cells #[.int .u32 a.1, .int .u32 a.2] 39 (0, 0)) := heap_alloc_new w _
  obtain ⟨w1, hw_w1⟩ : ∃ w1, w1 = w.alloc (.cells #[.int .u32 a.1, .int .u32 a.2] 39) := ⟨_, rfl⟩
  rw [← hw_w1] at g1 b1 ⊢
  have g2 := World.grownBy_alloc w1 (.cells #[.int .u32 b.1, .int .u32 b.2] 39) none
  have b2 : (w1.alloc (.cells #[.int .u32 b.1, .int .u32 b.2] 39)).heap[w1.heap.size]? = some (.cells #[.int .u32 b.1, .int .u32 b.2] 39 (0, 0)) := heap_alloc_new w1 _
  obtain ⟨w2, hw_w2⟩ : ∃ w2, w2 = w1.alloc (.cells #[.int .u32 b.1, .int .u32 b.2] 39) := ⟨_, rfl⟩
  rw [← hw_w2] at g2 b2 ⊢
  have b1' := blk_keep b1 g2
  have gd := grown_drew (grown_refl w2 none)
  refine ⟨fun w' => w2.grownBy w' none, gd, _, blk_cell (blk_keep b1' gd) 0, _, blk_cell (blk_keep b2 gd) 0, compare32_calls.mono fun ev w3 hh => ?_⟩
  obtain ⟨rfl, rfl⟩ := hh
  refine ⟨_, rfl, gd, _, fun wq gq => blk_cell (blk_keep b1' gq) 1, _, fun wq gq => blk_cell (blk_keep b2 gq) 1, compare32_calls.mono fun ev w4 hh => ?_⟩
  obtain ⟨rfl, rfl⟩ := hh
  have ga := World.grownBy_alloc w2.drew (.cells #[.int .i64 (cmpI a.1 b.1), .int .i64 (cmpI a.2 b.2)] 3) none
  have hA := grown_trans gd ga
  refine ⟨_, rfl, gd, hA, (or2_calls (row_allocM w2.drew #[.int .i64 (cmpI a.1 b.1), .int .i64 (cmpI a.2 b.2)] 3 (0, 0))).mono fun ev w5 hh => ?_⟩
  obtain ⟨rfl, g5⟩ := hh
  exact ⟨_, rfl, grown_trans hA g5, _, rfl, cmpI_or, grown_trans g1 (grown_trans g2 (grown_trans hA g5))⟩
theorem eless_calls {w : World} (a b : Edge) : Calls P 53 #[edgeV a, edgeV b] w fun ev w' => ev = .returned (.bool (lessE a b)) ∧ w.grownBy w' none := by
  apply vc53; unfold VC53; try (conv => zeta)
  have g1 := World.grownBy_alloc w (.cells #[.int .u32 a.1, .int .u32 a.2] 39) none
  have b1 : (w.alloc (.cells #[.int .u32 a.1, .int .u32 a.2] 39)).heap[w.heap.size]? = some (.cells #[.int .u32 a.1, .int .u32 a.2] 39 (0, 0)) := heap_alloc_new w _
  obtain ⟨w1, hw_w1⟩ : ∃ w1, w1 = w.alloc (.cells #[.int .u32 a.1, .int .u32 a.2] 39) := ⟨_, rfl⟩
  rw [← hw_w1] at g1 b1 ⊢
  have g2 := World.grownBy_alloc w1 (.cells #[.int .u32 b.1, .int .u32 b.2] 39) none
  have b2 : (w1.alloc (.cells #[.int .u32 b.1, .int .u32 b.2] 39)).heap[w1.heap.size]? = some (.cells #[.int .u32 b.1, .int .u32 b.2] 39 (0, 0)) := heap_alloc_new w1 _
  obtain ⟨w2, hw_w2⟩ : ∃ w2, w2 = w1.alloc (.cells #[.int .u32 b.1, .int .u32 b.2] 39) := ⟨_, rfl⟩
  rw [← hw_w2] at g2 b2 ⊢
  have b1' := blk_keep b1 g2
  refine ⟨_, blk_cell b1' 0, _, blk_cell b1' 1, _, blk_cell b2 0, _, blk_cell b2 1, (ecompare_calls a b).mono fun ev w3 hh => ?_⟩
  obtain ⟨c, rfl, hc, g3⟩ := hh
  refine ⟨c, rfl, ?_, grown_trans g1 (grown_trans g2 g3)⟩
  congr 2
  by_cases h : c < 0
  · rw [hc.1 h]; simpa using h
  · have : lessE a b = false := by
      cases hl : lessE a b
      · rfl
      · exact absurd (hc.2 hl) h
    rw [this]; simpa using h
theorem eright_calls {w : World} (e : Edge) {n : Int} (he : 0 ≤ e.2 ∧ e.2 ≤ 4294967295) : Calls P 76 #[edgeV e, .int .u64 n] w fun ev w' => ev = .returned (.bool (decide (e.1 < e.2 ∧ e.2 < n))) ∧ w.grownBy w' none := by
  apply vc76; unfold VC76; try (conv => zeta)
  simp only [InK]
  have g1 := World.grownBy_alloc w (.cells #[.int .u32 e.1, .int .u32 e.2] 39) none
  have b1 : (w.alloc (.cells #[.int .u32 e.1, .int .u32 e.2] 39)).heap[w.heap.size]? = some (.cells #[.int .u32 e.1, .int .u32 e.2] 39 (0, 0)) := heap_alloc_new w _
  obtain ⟨w1, hw_w1⟩ : ∃ w1, w1 = w.alloc (.cells #[.int .u32 e.1, .int .u32 e.2] 39) := ⟨_, rfl⟩
  rw [← hw_w1] at g1 b1 ⊢
  refine ⟨_, blk_cell b1 0, _, blk_cell b1 1, fun h => ⟨_, blk_cell b1 1, by omega, ?_, g1⟩, fun h => ⟨?_, g1⟩⟩
  · congr 2; rw [decide_eq_decide]; exact ⟨fun h' => ⟨h, h'⟩, fun h' => h'.2⟩
  · congr 2; symm; rw [decide_eq_false_iff_not]; exact fun h' => h h'.1
theorem erising_calls {w : World} {A : Option Addr} {n c : Nat} {l : List Edge} (hr : Row w A (edges l)) (hn : n = l.length) (hl : n ≤ 2 ^ 40) : Calls P 54 #[.slice A n c] w fun ev w' => ev = .returned (.bool (risingL l)) ∧ w.grownBy w' none := by
  apply vc54; unfold VC54; try (conv => zeta)
  simp only [InK]
  refine ⟨fun m i w' => ∃ p : Nat, i = (p : Int) ∧ p ≤ l.length ∧ m = l.length - p ∧ w.grownBy w' none ∧ ∀ j (h : j + 1 < l.length), j + 1 < p → lessE l[j] l[j + 1] = true, ⟨_, 0, rfl, by omega, rfl, grown_refl _ _, fun j h hj => by omega⟩, ?_⟩
  rintro m i w1 ⟨p, rfl, hp, rfl, hg, hx⟩
  have gd := grown_drew hg
  have tp : (p : Int).toNat = p := by omega
  have tp1 : ((p : Int) - 1).toNat = p - 1 := by omega
  rw [tp, tp1]
  refine ⟨fun hlt => ⟨fun hpos => ?_, fun hz => ⟨by omega, _, ?_, p + 1, by omega, by omega, rfl, gd, fun j h hj => by omega⟩⟩, fun hge => ⟨?_, hg⟩⟩
  · have lp : p < l.length := by omega
    obtain ⟨a, e1, e2, e3⟩ := edge_at (hr.kept_none gd) (show p - 1 < l.length by omega)
    obtain ⟨a', e1', e2', e3'⟩ := edge_at (hr.kept_none gd) lp
    refine ⟨by omega, a, e1, by omega, by omega, _, e2, _, e3, a', e1', by omega, by omega, _, e2', _, e3', (eless_calls l[p - 1] l[p]).mono fun ev w2 hh => ?_⟩
    obtain ⟨rfl, g2⟩ := hh
    have g02 := grown_trans gd g2
    refine ⟨_, rfl, fun h => ⟨?_, g02⟩, fun h => ⟨by omega, _, ?_, p + 1, by omega, by omega, rfl, g02, fun j hj hjp => ?_⟩⟩
    · congr 2
      symm
      rw [Bool.eq_false_iff]
      intro hrise
      have := List.pairwise_iff_getElem.1 ((risingL_iff l).1 hrise) (p - 1) p (by omega) lp (by omega)
      rw [this] at h; cases h
    · omega
    · by_cases e : j + 1 = p
      · subst e
        simpa using h
      · exact hx j hj (by omega)
  · omega
  · have : p = l.length := by omega
    subst this
    congr 2
    symm
    unfold risingL
    rw [List.all_eq_true]
    intro j hj
    have hj' : j + 1 < l.length := by have := List.mem_range.1 hj; omega
    have := hx j hj' hj'
    rw [List.getD_eq_getElem?_getD, List.getD_eq_getElem?_getD, List.getElem?_eq_getElem (by omega), List.getElem?_eq_getElem hj']
    exact this
theorem ebefore_calls {w : World} (a b : Evt) : Calls P 78 #[evtV a, evtV b] w fun ev w' => ev = .returned (.bool (beforeV a b)) ∧ w.grownBy w' none := by
  apply vc78; unfold VC78; try (conv => zeta)
  have g1 := World.grownBy_alloc w (.cells #[.int .i64 a.t, .int .u32 a.u, .int .u32 a.v, .bool a.add] 41) none
  have b1 : (w.alloc (.cells #[.int .i64 a.t, .int .u32 a.u, .int .u32 a.v, .bool a.add] 41)).heap[w.heap.size]? = some (.cells #[.int .i64 a.t, .int .u32 a.u, .int .u32 a.v, .bool a.add] 41 (0, 0)) := heap_alloc_new w _
  obtain ⟨w1, hw_w1⟩ : ∃ w1, w1 = w.alloc (.cells #[.int .i64 a.t, .int .u32 a.u, .int .u32 a.v, .bool a.add] 41) := ⟨_, rfl⟩
  rw [← hw_w1] at g1 b1 ⊢
  have g2 := World.grownBy_alloc w1 (.cells #[.int .i64 b.t, .int .u32 b.u, .int .u32 b.v, .bool b.add] 41) none
  have b2 : (w1.alloc (.cells #[.int .i64 b.t, .int .u32 b.u, .int .u32 b.v, .bool b.add] 41)).heap[w1.heap.size]? = some (.cells #[.int .i64 b.t, .int .u32 b.u, .int .u32 b.v, .bool b.add] 41 (0, 0)) := heap_alloc_new w1 _
  obtain ⟨w2, hw_w2⟩ : ∃ w2, w2 = w1.alloc (.cells #[.int .i64 b.t, .int .u32 b.u, .int .u32 b.v, .bool b.add] 41) := ⟨_, rfl⟩
  rw [← hw_w2] at g2 b2 ⊢
  have b1' := blk_keep b1 g2
  have gd := grown_drew (grown_refl w2 none)
  refine ⟨fun w' => w2.grownBy w' none, gd, _, blk_cell (blk_keep b1' gd) 0, _, blk_cell (blk_keep b2 gd) 0, compare64_calls.mono fun ev w3 hh => ?_⟩
  obtain ⟨rfl, rfl⟩ := hh
  refine ⟨_, rfl, gd, _, fun wq gq => blk_cell (blk_keep b1' gq) 1, _, fun wq gq => blk_cell (blk_keep b1' gq) 2, _, fun wq gq => blk_cell (blk_keep b2 gq) 1, _, fun wq gq => blk_cell (blk_keep b2 gq) 2, (ecompare_calls (a.u, a.v) (b.u, b.v)).mono fun ev w4 hh => ?_⟩
  obtain ⟨c, rfl, hc, g4⟩ := hh
  have g24 := grown_trans gd g4
  have ga := World.grownBy_alloc w4 (.cells #[.int .i64 (cmpI a.t b.t), .int .i64 c] 3) none
  have hA := grown_trans g24 ga
  refine ⟨_, rfl, g24, hA, (or2_calls (row_allocM w4 #[.int .i64 (cmpI a.t b.t), .int .i64 c] 3 (0, 0))).mono fun ev w5 hh => ?_⟩
  obtain ⟨rfl, g5⟩ := hh
  refine ⟨_, rfl, grown_trans hA g5, ?_, grown_trans g1 (grown_trans g2 (grown_trans hA g5))⟩
  congr 2
  unfold beforeV
  cases hl : lessE (a.u, a.v) (b.u, b.v)
  · have hc' : ¬ c < 0 := fun h => by rw [hc.1 h] at hl; cases hl
    have e : decide ((if cmpI a.t b.t ≠ 0 then cmpI a.t b.t else c) < 0) = decide (a.t < b.t) := decide_eq_decide.2 (cmpI_no hc')
    rw [e]; simp
  · have e : decide ((if cmpI a.t b.t ≠ 0 then cmpI a.t b.t else c) < 0) = decide (a.t < b.t ∨ a.t = b.t) := decide_eq_decide.2 (cmpI_yes (hc.2 hl))
    rw [e]; simp
end Go.Proofs.Ytgahfcdmgdnjiaa

/-! Rows of edges cloned, searched, an edge struck out, put in: package slices. -/
namespace Go.Proofs.Ytgahfcdmgdnjiaa
open Go Go.V Go.RowKit
set_option linter.unusedVariables false
set_option linter.unusedSimpArgs false
set_option maxHeartbeats 4000000
set_option maxRecDepth 100000

theorem edges_len (l : List Edge) : (edges l).length = l.length * 2 := edges_length l
theorem edges_one (l : List Edge) : ∀ v ∈ edges l, v.oneCell' = true := by
  intro u hu
  simp only [edges, List.mem_flatMap] at hu
  obtain ⟨e, _, he⟩ := hu
  simp [edgeC] at he
  rcases he with rfl | rfl <;> rfl
theorem cloneEdges_calls {w : World} {A : Option Addr} {n c : Nat} {l : List Edge} (hr : Row w A (edges l)) (hn : n = l.length) (hA : A = none → c = 0) (hl : n ≤ 2 ^ 30) :
    Calls P 57 #[.slice A n c] w fun ev w' => ∃ (A' : Option Addr) (n' c' : Nat), ev = .returned (.slice A' n' c') ∧ OwnedK w' w.heap.size 39 2 A' n' c' (edges l) ∧ w.grownBy w' none := by
  apply vc57; unfold VC57; try (conv => zeta)
  refine ⟨fun e => ?_, fun e => ?_⟩
  · subst e
    have : l = [] := by
      cases l with
      | nil => rfl
      | cons y ys => obtain ⟨a, e, _⟩ := hr 0 _ rfl; cases e
    subst this
    exact ⟨_, _, _, rfl, OwnedK.nil _ _ _ _, grown_refl _ _⟩
  · have ga := World.grownBy_alloc w (.cells #[] 39) none
    have h0 : (w.alloc (.cells #[] 39)).heap[w.heap.size]? = some (.cells #[] 39 (0, 0)) := heap_alloc_new w _
    have ho : OwnedK (w.alloc (.cells #[] 39)) w.heap.size 39 2 (some ⟨w.heap.size, 0, none⟩) 0 0 (edges []) :=
      OwnedK.of_block (Nat.le_refl _) h0 (Nat.le_refl _) (by simp [maxLen]) rfl rfl rfl
    obtain ⟨A', n', c', w', h1, h2, h3, h4⟩ := append_edges ho (hr.kept_none ga) hn hA (by omega) ga.size
    exact ⟨_, _, _, _, h1, _, _, _, rfl, by simpa using h2, grown_own ga h3 (fun k hk => by simp [Value.ownBlock] at hk; omega)⟩
theorem indexEdge_calls {w : World} {A : Option Addr} {n c : Nat} {l : List Edge} {e : Edge} (hr : Row w A (edges l)) (hn : n = l.length) (hl : n ≤ 2 ^ 40) :
    Calls P 87 #[.slice A n c, edgeV e] w fun ev w' => ∃ i : Int, ev = .returned (.int .i64 i) ∧ (0 ≤ i ↔ e ∈ l) ∧ w.grownBy w' none := by
  apply vc87; unfold VC87; try (conv => zeta)
  simp only [InK]
  have g1 := World.grownBy_alloc w (.cells #[.int .u32 e.1, .int .u32 e.2] 39) none
  have b1 : (w.alloc (.cells #[.int .u32 e.1, .int .u32 e.2] 39)).heap[w.heap.size]? = some (.cells #[.int .u32 e.1, .int .u32 e.2] 39 (0, 0)) := heap_alloc_new w _
  obtain ⟨w1, hw_w1⟩ : ∃ w1, w1 = w.alloc (.cells #[.int .u32 e.1, .int .u32 e.2] 39) := ⟨_, rfl⟩
  rw [← hw_w1] at g1 b1 ⊢
  refine ⟨fun m i w' => ∃ p : Nat, i = (p : Int) ∧ p ≤ l.length ∧ m = l.length - p ∧ w1.grownBy w' none ∧ ∀ j (h : j < l.length), j < p → l[j] ≠ e, ⟨_, 0, rfl, by omega, rfl, grown_refl _ _, fun j h hj => by omega⟩, ?_⟩
  rintro m i w2 ⟨p, rfl, hp, rfl, hg, hx⟩
  have tp : (p : Int).toNat = p := by omega
  rw [tp]
  have gd := grown_drew hg
  refine ⟨fun hlt => ?_, fun hge => ?_⟩
  · have lp : p < l.length := by omega
    obtain ⟨a, e1, e2, e3⟩ := edge_at ((hr.kept_none g1).kept_none gd) lp
    refine ⟨_, blk_cell (blk_keep b1 gd) 0, _, blk_cell (blk_keep b1 gd) 1, a, e1, by omega, by omega, _, e2, _, e3, _, fun w => run_eqE _ _ _ _ _ _ w, fun h => ?_, fun h => ⟨by omega, _, ?_, p + 1, by omega, by omega, rfl, gd, fun j hj hjp => ?_⟩⟩
    · have := of_decide_eq_true h
      exact ⟨_, rfl, ⟨fun _ => by rw [show e = l[p] from Prod.ext this.1 this.2]; exact List.getElem_mem lp, fun _ => by omega⟩, grown_trans g1 gd⟩
    · omega
    · have := of_decide_eq_false h
      by_cases ej : j = p
      · subst ej; intro he; exact this ⟨by rw [← he], by rw [← he]⟩
      · exact hx j hj (by omega)
  · have : p = l.length := by omega
    subst this
    refine ⟨_, rfl, ⟨fun h => by omega, fun h => ?_⟩, grown_trans g1 hg⟩
    obtain ⟨j, hj, he⟩ := List.mem_iff_getElem.1 h
    exact absurd he (hx j hj hj)
theorem containsEdge_calls {w : World} {A : Option Addr} {n c : Nat} {l : List Edge} {e : Edge} (hr : Row w A (edges l)) (hn : n = l.length) (hl : n ≤ 2 ^ 40) :
    Calls P 62 #[.slice A n c, edgeV e] w fun ev w' => ev = .returned (.bool (decide (e ∈ l))) ∧ w.grownBy w' none := by
  apply vc62; unfold VC62; try (conv => zeta)
  have g1 := World.grownBy_alloc w (.cells #[.int .u32 e.1, .int .u32 e.2] 39) none
  have b1 : (w.alloc (.cells #[.int .u32 e.1, .int .u32 e.2] 39)).heap[w.heap.size]? = some (.cells #[.int .u32 e.1, .int .u32 e.2] 39 (0, 0)) := heap_alloc_new w _
  obtain ⟨w1, hw_w1⟩ : ∃ w1, w1 = w.alloc (.cells #[.int .u32 e.1, .int .u32 e.2] 39) := ⟨_, rfl⟩
  rw [← hw_w1] at g1 b1 ⊢
  refine ⟨_, blk_cell b1 0, _, blk_cell b1 1, (indexEdge_calls (hr.kept_none g1) hn hl).mono fun ev w2 hh => ?_⟩
  obtain ⟨i, rfl, hi, g2⟩ := hh
  refine ⟨_, rfl, ?_, grown_trans g1 g2⟩
  congr 2
  exact decide_eq_decide.2 hi
theorem shas_calls {w : World} {A : Option Addr} {n c : Nat} {l : List Edge} {e : Edge} (hr : Row w A (edges l)) (hn : n = l.length) (hl : n ≤ 2 ^ 40) :
    Calls P 29 #[.slice A n c, edgeV e] w fun ev w' => ev = .returned (.bool (decide (e ∈ l))) ∧ w.grownBy w' none := by
  apply vc29; unfold VC29; try (conv => zeta)
  have g1 := World.grownBy_alloc w (.cells #[.int .u32 e.1, .int .u32 e.2] 39) none
  have b1 : (w.alloc (.cells #[.int .u32 e.1, .int .u32 e.2] 39)).heap[w.heap.size]? = some (.cells #[.int .u32 e.1, .int .u32 e.2] 39 (0, 0)) := heap_alloc_new w _
  obtain ⟨w1, hw_w1⟩ : ∃ w1, w1 = w.alloc (.cells #[.int .u32 e.1, .int .u32 e.2] 39) := ⟨_, rfl⟩
  rw [← hw_w1] at g1 b1 ⊢
  refine ⟨_, blk_cell b1 0, _, blk_cell b1 1, (containsEdge_calls (hr.kept_none g1) hn hl).mono fun ev w2 hh => ?_⟩
  obtain ⟨rfl, g2⟩ := hh
  exact ⟨_, rfl, rfl, grown_trans g1 g2⟩
/-- An edge struck out of a row that a call owns. -/
theorem deleteEdge_calls {w : World} {base : Nat} {A : Option Addr} {n c : Nat} {l : List Edge} {i : Nat} (ho : OwnedK w base 39 2 A n c (edges l)) (hb : base ≤ w.heap.size) (hi : i < l.length) (hl : n ≤ 2 ^ 30) :
    Calls P 58 #[.slice A n c, .int .i64 (i : Int), .int .i64 ((i : Int) + 1)] w fun ev w' => ∃ (A' : Option Addr) (n' c' : Nat), ev = .returned (.slice A' n' c') ∧ OwnedK w' base 39 2 A' n' c' (edges (l.take i ++ l.drop (i + 1))) ∧ w.grownBy w' (Value.slice A n c).ownBlock := by
  apply vc58; unfold VC58; try (conv => zeta)
  obtain ⟨hlen, ⟨_, _, _, hx⟩ | ⟨g, cur, rfl, hbg, hcm, hnc, hg, hcs, htk⟩⟩ := ho.cases
  · have := congrArg List.length hx; rw [edges_len] at this; simp at this; omega
  have hn : n = l.length := by rw [edges_len] at hlen; omega
  have ti : (i : Int).toNat = i := by omega
  have ti1 : ((i : Int) + 1).toNat = i + 1 := by omega
  have tn : (n : Int).toNat = n := by omega
  rw [ti, ti1]
  refine ⟨by omega, fun h => by omega, fun _ => ⟨by omega, by omega, ?_⟩⟩
  have hr : Row w.drew (some ⟨g, 0, none⟩) (edges l) := ho.row.drew
  have hcut := cutE (k := i + 1) hr (by simp) (show l.length ≤ c by omega)
  have hoi : OwnedK w.drew base 39 2 (some ⟨g, 0, none⟩) i c (edges (l.take i)) := by
    refine OwnedK.of_block hbg hg (by omega) hcm hcs (by rw [edges_len, List.length_take]; omega) ?_
    rw [← edges_take, ← htk, List.take_take]; congr 1; omega
  obtain ⟨A', n', c', w1, h1, h2, h3, h4⟩ := append_edges (n := i) (d := c - (i + 1)) hoi hcut.1 (show n - (i + 1) = _ by rw [List.length_drop, hn]) hcut.2 (by omega) (by simpa using hb)
  have hb2 : A' = some ⟨g, 0, none⟩ ∧ c' = c := by
    obtain ⟨i0, z, e1, e2, e3, e4, e5, e6, e7⟩ := elemEdge.ex
    have hcutA : ∃ a : Addr, cutA (some ⟨g, 0, none⟩) c (i + 1) 2 = some a := by unfold cutA; split <;> exact ⟨_, rfl⟩
    obtain ⟨a, ha⟩ := hcutA
    have hroom := run_append_room (P := P) w.drew 29 29 39 i0 e1 e2 g i c cur hg a (n - (i + 1)) (c - (i + 1)) (edges (l.drop (i + 1))) (by rw [edges_len, List.length_drop, e4, hn]) (fun j u hj => by obtain ⟨b, q1, q2⟩ := hcut.1 j u hj; rw [ha] at q1; cases q1; exact q2) (edges_one _) (by omega) (by rw [edges_len, List.length_drop, e4]; omega)
    rw [ha, hroom] at h1
    cases h1
    exact ⟨rfl, rfl⟩
  obtain ⟨rfl, rfl⟩ := hb2
  have hn' : n' = n - 1 := by omega
  subst hn'
  obtain ⟨_, ⟨h0, _⟩ | ⟨g', cur', e1, _, hcm', hnc', hg', hcs', htk'⟩⟩ := h2.cases
  · cases h0
  cases e1
  have tn1 : (((n - 1 : Nat) : Int)).toNat = n - 1 := by omega
  refine ⟨_, _, _, _, h1, ⟨by omega, by omega, by omega, by omega⟩, ?_⟩
  rw [tn, tn1]
  have hA : cutA (some (⟨g, 0, none⟩ : Addr)) c' (n - 1) 2 = some ⟨g, (n - 1) * 2, none⟩ := by
    unfold cutA
    rw [if_neg (by omega), Option.map_some, add_lit]
  rw [hA]
  obtain ⟨i0, z, e1, e2, e3, e4, e5, e6, e7⟩ := elemEdge.ex
  obtain ⟨w2, cur2, k1, k2, k3, k4, k5⟩ := clear_at (P := P) (ty := 0) (c := c' - (n - 1)) (n := n - (n - 1)) (o := (n - 1) * 2) e1 e2 e3 (by
    have hz : z = .agg #[.int .u32 0, .int .u32 0] := by
      have : ((P.info? 39).getD default).zero.getD undef = .agg #[.int .u32 0, .int .u32 0] := by kernel_rfl
      rw [e2, Option.getD_some, e3, Option.getD_some] at this
      exact this
    subst hz
    intro v hv
    simp [Value.cells] at hv
    rcases hv with rfl | rfl <;> rfl) hg' (by omega) (by rw [e6, hcs', show n - (n - 1) = 1 from (by omega)]; omega)
  refine ⟨w2, k1, _, _, _, rfl, ?_, ?_⟩
  · refine OwnedK.of_block hbg k2 (by omega) hcm' (by rw [k3, hcs']) (by have := h2.cases.1; exact this) ?_
    rw [k4, htk', edges_append]
  · exact grown_trans (grown_trans (grown_drew (grown_refl w _)) (by simpa [Value.ownBlock] using h3)) (by simpa [Value.ownBlock] using k5)
theorem run_cap (A : Option Addr) (n c : Nat) (w : World) : Sem.run P (Builtin.cap_ #[29] 3 #[.slice A n c]) w = .ok (.int .i64 (c : Int)) w := by
  obtain ⟨i0, z, e1, e2, e3, e4, e5, e6, e7⟩ := elemEdge.ex
  simp [Builtin.cap_, run_underlying e1, goInt]
theorem copyEdges {w : World} {g o dLen dCap sLen sCap : Nat} {a : Addr} {cur : Array Value} {X M Z : List Value} {ys : List Edge} (hg : w.heap[g]? = some (.cells cur 39 (0, 0))) (hc : cur.toList = X ++ M ++ Z) (hl : M.length = ys.length * 2) (hn : ys.length = Nat.min sLen dLen) (ho : o = X.length) (hr : Row w (some a) (edges ys)) :
    ∃ (w' : World) (cur' : Array Value), Sem.run P (Builtin.copy_ #[29, 29] 3 #[.slice (some ⟨g, o, none⟩) dLen dCap, .slice (some a) sLen sCap]) w = .ok (.int .i64 (ys.length : Int)) w' ∧ w'.heap[g]? = some (.cells cur' 39 (0, 0)) ∧ cur'.toList = X ++ edges ys ++ Z ∧ w.grownBy w' (some g) := by
  obtain ⟨i0, z, e1, e2, e3, e4, e5, e6, e7⟩ := elemEdge.ex
  obtain ⟨w', cur', h1, h2, h3, h4⟩ := copy_at (P := P) (dT := 29) (sT := 29) (ty := 3) (dLen := dLen) (dCap := dCap) (sLen := sLen) (sCap := sCap) (size := 2) (ys := edges ys) e1 (by rw [e2]; simp [e4]) hg hc (by rw [edges_len, hl]) (by rw [edges_len, hn]) ho (fun j v hj => by obtain ⟨b, q1, q2⟩ := hr j v hj; cases q1; exact q2) (edges_one _)
  exact ⟨w', cur', by rw [h1, hn]; rfl, h2, h3, h4⟩
theorem run_overlaps {w : World} {g gv o n c : Nat} {cur cv : Array Value} (hg : w.heap[g]? = some (.cells cur 39 (0, 0))) (hv : w.heap[gv]? = some (.cells cv 39 (0, 0))) (hne : gv ≠ g) (hc : cur.size ≠ 0) :
    Sem.run P (callFunc 85 #[.slice (some ⟨gv, 0, none⟩) 1 1, .slice (some ⟨g, o, none⟩) n c]) w = .ok (.value (.bool false)) w := by
  obtain ⟨i0, z, e1, e2, e3, e4, e5, e6, e7⟩ := elemEdge.ex
  rw [run_callFunc_extern (P := P) Try.func85 (by kernel_rfl) (by kernel_rfl) (by kernel_rfl) (e := Extern.SlicesOverlaps.overlaps #[29, 29] #[4]) (by kernel_rfl) _ w]
  rw [Lib.run_overlaps_apart (P := P) w 29 4 39 e1 2 (fun w => by simp [sizeOf, typeInfo, e2, e4]) ⟨gv, 0, none⟩ ⟨g, o, none⟩ 1 1 n c hne 39 39 cv.size cur.size (by simp [World.shape?, hv]) (by simp [World.shape?, hg]) hc (by simp [World.frozen?, hv]) (by simp [World.frozen?, hv])]
  rfl
/-- An edge put into a row that a call owns. -/
theorem insertEdge_calls {w : World} {base gv : Nat} {A : Option Addr} {n c : Nat} {l : List Edge} {i : Nat} {e : Edge} (ho : OwnedK w base 39 2 A n c (edges l)) (hv : w.heap[gv]? = some (.cells #[.int .u32 e.1, .int .u32 e.2] 39 (0, 0)))
    (hne : (Value.slice A n c).ownBlock ≠ some gv) (hb : base ≤ w.heap.size) (hi : i ≤ l.length) (hl : n ≤ 2 ^ 30) :
    Calls P 59 #[.slice A n c, .int .i64 (i : Int), .slice (some ⟨gv, 0, none⟩) 1 1] w fun ev w' => ∃ (A' : Option Addr) (n' c' : Nat), ev = .returned (.slice A' n' c') ∧ OwnedK w' base 39 2 A' n' c' (edges (l.take i ++ (e :: l.drop i))) ∧ w.grownBy w' (Value.slice A n c).ownBlock := by
  apply vc59; unfold VC59; try (conv => zeta)
  simp only [InK]
  have hn : n = l.length := by have := ho.cases.1; rw [edges_len] at this; omega
  have ti : (i : Int).toNat = i := by omega
  have ti1 : ((i : Int) + ((1 : Nat) : Int)).toNat = i + 1 := by omega
  have tn1 : ((n : Int) + ((1 : Nat) : Int)).toNat = n + 1 := by omega
  have rowv : ∀ w' : World, w'.heap[gv]? = some (.cells #[.int .u32 e.1, .int .u32 e.2] 39 (0, 0)) → Row w' (some ⟨gv, 0, none⟩) (edges [e]) := by
    intro w' hv'
    intro j u hj
    refine ⟨_, rfl, ?_⟩
    rw [add_lit, blk_cell hv']
    match j, hj with
    | 0, hj => simpa [edges, edgeC] using hj
    | 1, hj => simpa [edges, edgeC] using hj
    | j + 2, hj => simp [edges, edgeC] at hj
  rw [ti, ti1, tn1]
  refine ⟨by omega, fun h => by omega, fun _ => ⟨fun hin => ?_, fun hin => ⟨by omega, _, _, run_cap A n c w, fun hgt => ?_, fun hle => ?_⟩⟩⟩
  · obtain ⟨A', n', c', w', h1, h2, h3, h4⟩ := append_edges (m := 1) (d := 1) (ys := [e]) ho (rowv w hv) rfl (by simp) (by omega) hb
    refine ⟨_, _, _, _, h1, _, _, _, rfl, ?_, h3⟩
    have : i = l.length := by omega
    subst this
    simpa using h2
  · obtain ⟨_, ⟨_, h0, _, _⟩ | ⟨g, cur, rfl, hbg, hcm, hnc, hg, hcs, htk⟩⟩ := ho.cases
    · omega
    refine ⟨by omega, by omega, by omega, ?_⟩
    obtain ⟨i0, z, e1, e2, e3, e4, e5, e6, e7⟩ := elemEdge.ex
    have holds : Row w (some ⟨g, 0, none⟩) (edges (l.take i)) := takeE ho.row i
    have hm := append_make_grow (P := P) (w := w) (ty := 29) e1 (show P.underlying 3 = some (.int .i64) by kernel_rfl) e2 e3 ⟨g, 0, none⟩ i c (edges (l.take i)) (by rw [edges_len, List.length_take, e4]; omega) (fun j v hj => by obtain ⟨b, q1, q2⟩ := holds j v hj; cases q1; exact q2) (n + 1 - i) (by omega) (by omega) (by rw [e5]; exact bytesEdge) (by rw [e6, e4]) (by omega) (by omega)
    rw [show i + (n + 1 - i) = n + 1 by omega] at hm
    generalize hK : grownCap w (n + 1) c 39 = K at hm
    have hKge : n + 1 ≤ K := by rw [← hK]; exact grownCap_ge w (n + 1) c 39
    have hKle : K ≤ maxLen := by rw [← hK]; exact grownCap_le_maxLen w (n + 1) c 39 (by simp [maxLen]; omega)
    have g1 := World.grownBy_alloc w.drew (.cells ((edges (l.take i)).toArray ++ Builtin.zeroCells z.cells (n + 1 - i) ++ Builtin.zeroCells z.cells (K - (n + 1))) 39) none
    have b1 := heap_alloc_new w.drew (.cells ((edges (l.take i)).toArray ++ Builtin.zeroCells z.cells (n + 1 - i) ++ Builtin.zeroCells z.cells (K - (n + 1))) 39)
    have b1 : (w.drew.alloc (.cells ((edges (l.take i)).toArray ++ Builtin.zeroCells z.cells (n + 1 - i) ++ Builtin.zeroCells z.cells (K - (n + 1))) 39)).heap[w.heap.size]? = some (.cells ((edges (l.take i)).toArray ++ Builtin.zeroCells z.cells (n + 1 - i) ++ Builtin.zeroCells z.cells (K - (n + 1))) 39 (0, 0)) := b1
    obtain ⟨w1, hw1⟩ : ∃ w1, w1 = w.drew.alloc (.cells ((edges (l.take i)).toArray ++ Builtin.zeroCells z.cells (n + 1 - i) ++ Builtin.zeroCells z.cells (K - (n + 1))) 39) := ⟨_, rfl⟩
    rw [← hw1] at hm g1 b1
    have g01 : w.grownBy w1 none := grown_trans (grown_drew (grown_refl w none)) g1
    have zl : ∀ k, (Builtin.zeroCells z.cells k).toList.length = k * 2 := fun k => by simp [Builtin.zeroCells, e6]
    obtain ⟨Z1, hZ1⟩ : ∃ Z1, Z1 = (Builtin.zeroCells z.cells (n + 1 - i)).toList := ⟨_, rfl⟩
    obtain ⟨Z2, hZ2⟩ : ∃ Z2, Z2 = (Builtin.zeroCells z.cells (K - (n + 1))).toList := ⟨_, rfl⟩
    have l1 : Z1.length = (n + 1 - i) * 2 := by rw [hZ1, zl]
    have l2 : Z2.length = (K - (n + 1)) * 2 := by rw [hZ2, zl]
    have cl : ((edges (l.take i)).toArray ++ Builtin.zeroCells z.cells (n + 1 - i) ++ Builtin.zeroCells z.cells (K - (n + 1))).toList = edges (l.take i) ++ Z1.take 2 ++ (Z1.drop 2 ++ Z2) := by
      rw [Array.toList_append, Array.toList_append, ← hZ1, ← hZ2, List.append_assoc, List.append_assoc, ← List.append_assoc (Z1.take 2), List.take_append_drop]
    have lX : (edges (l.take i)).length = i * 2 := by rw [edges_len, List.length_take]; omega
    have kint : ((n : Int) + ((1 : Nat) : Int) - (i : Int)) = ((n + 1 - i : Nat) : Int) := by omega
    rw [kint]
    have hd0 : w.heap.size ≠ g := by have := (Array.getElem?_eq_some_iff.1 hg).1; omega
    have cA : ∀ k, k < K → cutA (some (⟨w.heap.size, 0, none⟩ : Addr)) K k 2 = some ⟨w.heap.size, k * 2, none⟩ := fun k hk => by unfold cutA; rw [if_neg (by omega), Option.map_some, add_lit]
    refine ⟨_, _, _, _, hm, by omega, ?_⟩
    rw [cA i (by omega), cA (i + 1) (by omega)]
    obtain ⟨w2, cur2, q1, q2, q3, q4⟩ := copyEdges (dLen := n + 1 - i) (dCap := K - i) (sLen := 1) (sCap := 1) (ys := [e]) b1 cl (by rw [List.length_take, l1]; simp; omega) (by show 1 = Nat.min 1 (n + 1 - i); have : Nat.min 1 (n + 1 - i) = 1 := Nat.min_eq_left (by omega); omega) lX.symm (rowv w1 (blk_keep hv g01))
    refine ⟨_, _, q1, by omega, by omega, by omega, ?_⟩
    have rS : Row w (some ⟨g, i * 2, none⟩) (edges (l.drop i)) := by
      have := ho.row.drop (i * 2)
      rw [edges_drop] at this
      rwa [Option.map_some, add_lit] at this
    have cS : cutA (some (⟨g, 0, none⟩ : Addr)) c i 2 = some ⟨g, i * 2, none⟩ := by unfold cutA; rw [if_neg (by omega), Option.map_some, add_lit]
    rw [cS]
    have rS2 : Row w2.drew (some ⟨g, i * 2, none⟩) (edges (l.drop i)) := (rS.kept (grown_trans (grown_none g01) q4) (fun a ha => by cases ha; simp; exact fun h => hd0 h.symm)).drew
    have cl2 : cur2.toList = (edges (l.take i) ++ edges [e]) ++ (Z1.drop 2) ++ Z2 := by rw [q3]; simp [List.append_assoc]
    have lv : (edges [e]).length = 2 := rfl
    obtain ⟨w3, cur3, r1, r2, r3, r4⟩ := copyEdges (w := w2.drew) (dLen := n + 1 - (i + 1)) (dCap := K - (i + 1)) (sLen := n - i) (sCap := c - i) (ys := l.drop i) (o := (i + 1) * 2) q2 cl2 (by simp only [List.length_drop, l1]; omega) (by rw [List.length_drop]; show l.length - i = Nat.min (n - i) (n + 1 - (i + 1)); rw [show n + 1 - (i + 1) = n - i by omega]; simp; omega) (by rw [List.length_append, lX, lv]; omega) rS2
    refine ⟨_, _, r1, _, _, _, rfl, ?_, ?_⟩
    · have sz3 : cur3.size = K * 2 := by
        rw [← Array.length_toList, r3]
        simp only [List.length_append, lX, lv, edges_len, List.length_drop, l2]
        omega
      refine OwnedK.of_block (Nat.le_trans hb (Nat.le_refl _)) r2 hKge hKle sz3 ?_ ?_
      · rw [edges_len, List.length_append, List.length_take, List.length_cons, List.length_drop]; omega
      · rw [r3]
        have : edges (l.take i ++ (e :: l.drop i)) = edges (l.take i) ++ edges [e] ++ edges (l.drop i) := by
          rw [List.append_assoc, ← edges_append, ← edges_append]; rfl
        rw [this]
        refine List.take_left' ?_
        rw [List.length_append, List.length_append, lX, lv, edges_len, List.length_drop]; omega
    · refine grown_none (grown_own (grown_own g01 q4 (fun k hk => by cases hk; exact Nat.le_refl _)) (grown_trans (grown_drew (grown_refl w2 _)) r4) (fun k hk => by cases hk; exact Nat.le_refl _))
  · obtain ⟨_, ⟨_, h0, _, _⟩ | ⟨g, cur, rfl, hbg, hcm, hnc, hg, hcs, htk⟩⟩ := ho.cases
    · omega
    have hgv : gv ≠ g := fun h => hne (by rw [h]; rfl)
    have cS : ∀ k, k < c → cutA (some (⟨g, 0, none⟩ : Addr)) c k 2 = some ⟨g, k * 2, none⟩ := fun k hk => by unfold cutA; rw [if_neg (by omega), Option.map_some, add_lit]
    rw [cS i (by omega), cS (i + 1) (by omega)]
    refine ⟨by omega, by omega, by omega, by omega, _, _, run_overlaps hg hv hgv (by omega), fun _ => ?_, fun h => absurd rfl h⟩
    refine ⟨by omega, by omega, by omega, ?_⟩
    obtain ⟨Z, hZ⟩ : ∃ Z, cur.toList = edges l ++ Z := ⟨_, by rw [← htk, List.take_append_drop]⟩
    have lZ : Z.length = (c - n) * 2 := by
      have := congrArg List.length hZ
      rw [Array.length_toList, List.length_append, edges_len, hcs] at this; omega
    have hY : edges l = edges (l.take i) ++ edges (l.drop i) := by rw [← edges_append, List.take_append_drop]
    have lX : (edges (l.take i)).length = i * 2 := by rw [edges_len, List.length_take]; omega
    have lY : (edges (l.drop i)).length = (n - i) * 2 := by rw [edges_len, List.length_drop, hn]
    obtain ⟨Y1, Y2, hY12, lY1⟩ : ∃ Y1 Y2, edges (l.drop i) = Y1 ++ Y2 ∧ Y1.length = 2 := ⟨_, _, (List.take_append_drop 2 _).symm, by rw [List.length_take, lY]; omega⟩
    have lY2 : Y2.length = (n - i) * 2 - 2 := by have := congrArg List.length hY12; rw [lY, List.length_append, lY1] at this; omega
    obtain ⟨Z1, Z2, hZ12, lZ1⟩ : ∃ Z1 Z2, Z = Z1 ++ Z2 ∧ Z1.length = 2 := ⟨_, _, (List.take_append_drop 2 _).symm, by rw [List.length_take, lZ]; omega⟩
    have cl : cur.toList = (edges (l.take i) ++ Y1) ++ (Y2 ++ Z1) ++ Z2 := by rw [hZ, hY, hY12, hZ12]; simp [List.append_assoc]
    have rS : Row w.drew (some ⟨g, i * 2, none⟩) (edges (l.drop i)) := by
      have := ho.row.drew.drop (i * 2)
      rw [edges_drop] at this
      rwa [Option.map_some, add_lit] at this
    obtain ⟨w2, cur2, q1, q2, q3, q4⟩ := copyEdges (w := w.drew) (dLen := n + 1 - (i + 1)) (dCap := c - (i + 1)) (sLen := n + 1 - i) (sCap := c - i) (ys := l.drop i) (o := (i + 1) * 2) hg cl (by rw [List.length_append, lY2, lZ1, List.length_drop]; omega) (by rw [List.length_drop]; show l.length - i = Nat.min (n + 1 - i) (n + 1 - (i + 1)); have : Nat.min (n + 1 - i) (n + 1 - (i + 1)) = n + 1 - (i + 1) := Nat.min_eq_right (by omega); omega) (by rw [List.length_append, lX, lY1]; omega) rS
    refine ⟨_, _, q1, by omega, ?_⟩
    have cl2 : cur2.toList = edges (l.take i) ++ Y1 ++ (edges (l.drop i) ++ Z2) := by rw [q3]; simp [List.append_assoc]
    have hv2 : w2.heap[gv]? = some (.cells #[.int .u32 e.1, .int .u32 e.2] 39 (0, 0)) := by
      rw [q4.block gv (Array.getElem?_eq_some_iff.1 hv).1 (by simp; exact hgv)]; exact hv
    obtain ⟨w3, cur3, r1, r2, r3, r4⟩ := copyEdges (dLen := n + 1 - i) (dCap := c - i) (sLen := 1) (sCap := 1) (ys := [e]) (o := i * 2) q2 cl2 lY1 (by show 1 = Nat.min 1 (n + 1 - i); have : Nat.min 1 (n + 1 - i) = 1 := Nat.min_eq_left (by omega); omega) lX.symm (rowv w2 hv2)
    refine ⟨_, _, r1, _, _, _, rfl, ?_, ?_⟩
    · have sz3 : cur3.size = c * 2 := by
        have lv : (edges [e]).length = 2 := rfl
        have lZ2 : Z2.length = (c - n) * 2 - 2 := by have := congrArg List.length hZ12; rw [lZ, List.length_append, lZ1] at this; omega
        rw [← Array.length_toList, r3]
        simp only [List.length_append, lX, lv, lY, lZ2]
        omega
      refine OwnedK.of_block hbg r2 (by omega) hcm sz3 ?_ ?_
      · rw [edges_len, List.length_append, List.length_take, List.length_cons, List.length_drop]; omega
      · rw [r3]
        have : edges (l.take i ++ (e :: l.drop i)) = edges (l.take i) ++ edges [e] ++ edges (l.drop i) := by
          rw [List.append_assoc, ← edges_append, ← edges_append]; rfl
        rw [this, ← List.append_assoc]
        refine List.take_left' ?_
        have lv : (edges [e]).length = 2 := rfl
        rw [List.length_append, List.length_append, lX, lv, lY]; omega
    · exact grown_trans (grown_trans (grown_drew (grown_refl w _)) q4) r4
end Go.Proofs.Ytgahfcdmgdnjiaa

/-! Maps by edges; history.Check. -/
namespace Go.Proofs.Ytgahfcdmgdnjiaa
open Go Go.V Go.RowKit
set_option linter.unusedVariables false
set_option linter.unusedSimpArgs false
set_option maxHeartbeats 4000000
set_option maxRecDepth 100000

def okU32 (x : Int) : Prop := 0 ≤ x ∧ x ≤ 4294967295
def okEdge (e : Edge) : Prop := okU32 e.1 ∧ okU32 e.2
theorem wf_of_u32 {x : Int} (h : okU32 x) : (Lit.int .u32 x).wf = true := by
  have h1 : IntKind.u32.min = 0 := rfl
  have h2 : IntKind.u32.max = 4294967295 := rfl
  obtain ⟨a, b⟩ := h
  simp only [Lit.wf, Bool.and_eq_true, decide_eq_true_eq]
  omega
theorem keyOf_edge {a b : Int} (wa : (Lit.int .u32 a).wf = true) (wb : (Lit.int .u32 b).wf = true) : ∃ l, keyOf P 39 (.agg #[.int .u32 a, .int .u32 b]) = some l := by
  have hsz : ∃ m, P.types.size = m + 1 := ⟨P.types.size - 1, by kernel_rfl⟩
  have hu := Try.underlying39
  have h32 := Try.underlying37
  have c1 : P.cellsOf 39 = 2 := by kernel_rfl
  have c2 : P.cellsOf 37 = 1 := by kernel_rfl
  have hk : P.keyType 39 = true := by kernel_rfl
  obtain ⟨m, hm⟩ := hsz
  unfold keyOf
  simp only [P] at *
  simp only [hu]
  rw [if_pos (by simp [hk, Value.formed, hu, c1]), hm]
  unfold Program.keyLits
  simp only [hu, Value.cells]
  rw [if_pos (by rw [c1]; exact ⟨rfl, by simp⟩)]
  simp only [List.mapM_cons, List.mapM_nil]
  simp [c2, Program.keyLits, h32, wa, wb]
theorem keyE : KeyT P 39 edgeV okEdge where
  law := deep_law (m := 3) (by omega) (by kernel_rfl) (by kernel_rfl) (by kernel_rfl)
  key := fun x hx => keyOf_edge (wf_of_u32 hx.1) (wf_of_u32 hx.2)
  inj := by
    rintro ⟨a, b⟩ ⟨c, d⟩ h
    simp [edgeV] at h
    simp [h]
abbrev MapE (w : World) (b : Nat) (L : List (Edge × Bool)) : Prop := MapAt edgeV okEdge Value.bool w b L
theorem zero_bool (w : World) : (zeroValue 4).run P w = .ok (.bool false) w := by
  have h : ((P.info? 4).getD default).zero = some (.bool false) := by kernel_rfl
  have h2 : (P.info? 4).isSome = true := by kernel_rfl
  cases hq : P.info? 4 with
  | none => rw [hq] at h2; cases h2
  | some i => rw [hq] at h; simp at h; simp [zeroValue, typeInfo, hq, h]
theorem lookE {w : World} {b : Nat} {L : List (Edge × Bool)} (h : MapE w b L) {k : Edge} (hk : okEdge k) : Sem.run P (Instr.lookup 92 (.map (some b)) (edgeV k) false) w = .ok (.bool ((getK L k).getD false)) w := by
  have := MapAt.look keyE (mt := 92) (et := 4) Try.underlying92 (zero_bool w) h hk false
  rw [this]
  cases getK L k <;> rfl
theorem run_eqB (s t : Operand) (a b : Bool) (w : World) : Sem.run P (do eqGuard .eql 4 s t (.bool a) (.bool b); Go.binOp .eql 4 (.bool a) (.bool b) : Sem Value) w = .ok (.bool (decide (a = b))) w := by
  have hb : P.underlying 4 = some .bool := Try.underlying4
  have h : (a == b) = decide (a = b) := by cases a <;> cases b <;> rfl
  simp [eqGuard_at_bool, run_eql_bool w 4 a b hb, h]
/-- What a map of edges tells is what is there. -/
def There (L : List (Edge × Bool)) (now : List Edge) : Prop := ∀ a, (getK L a).getD false = decide (a ∈ now)
theorem There.upd {L : List (Edge × Bool)} {now x : List Edge} {e : Evt} (h : There L now) (ht : turnL now e = some x) : There (updK L (e.u, e.v) e.add) x := by
  intro a
  rw [getK_upd]
  have := (turn_some ht).2.1 a
  by_cases ha : (e.u, e.v) = a
  · rw [if_pos ha]
    rw [if_pos ha.symm] at this
    cases hadd : e.add <;> simp_all
  · rw [if_neg ha, h a]
    rw [if_neg (fun e => ha e.symm)] at this
    exact decide_eq_decide.2 this.symm
theorem There.turn {L : List (Edge × Bool)} {now : List Edge} {e : Evt} (h : There L now) (hr : Rise now) : (turnL now e = none ↔ (getK L (e.u, e.v)).getD false = e.add) := by
  rw [turn_none hr, h]; exact eq_comm
def befO (p : Option Evt) (e : Evt) : Bool := match p with
  | none => true
  | some q => beforeV q e
theorem checkGo_step (N : Int) (e : Evt) (l : List Evt) (p : Option Evt) (now : List Edge) (i : Nat) : checkGo N (e :: l) p now i = if e.t < 0 ∨ e.t > 4611686018427387903 then ((i : Int), 26)
    else if okEvt N e = false then ((i : Int), 24)
    else if befO p e = false then ((i : Int), 23)
    else match turnL now e with
      | none => ((i : Int), 25)
      | some x => checkGo N l (some e) x (i + 1) := by
  rw [checkGo_cons]; cases p <;> rfl
def EvtsU (l : List Evt) : Prop := ∀ e ∈ l, (0 ≤ e.u ∧ e.u ≤ 4294967295) ∧ 0 ≤ e.v ∧ e.v ≤ 4294967295
theorem hcheck_calls {w : World} {A : Option Addr} {n c : Nat} {l : List Evt} {N : Int} (hr : Row w A (evts l)) (hn : n = l.length) (hl : n ≤ 2 ^ 20) (hb : EvtsU l) :
    Calls P 50 #[.agg #[.int .u64 N, .slice A n c]] w fun ev w' => ev = .returned (.tuple #[.int .i64 (checkL N l).1, .int .i64 (checkL N l).2]) ∧ w.grownBy w' none := by
  apply vc50; unfold VC50; try (conv => zeta)
  simp only [InK]
  have g0 := World.grownBy_alloc w (.cells #[.int .u64 N, .slice A n c] 27) none
  have b0 : (w.alloc (.cells #[.int .u64 N, .slice A n c] 27)).heap[w.heap.size]? = some (.cells #[.int .u64 N, .slice A n c] 27 (0, 0)) := heap_alloc_new w _
  obtain ⟨w0, hw_w0⟩ : ∃ w0, w0 = w.alloc (.cells #[.int .u64 N, .slice A n c] 27) := ⟨_, rfl⟩
  rw [← hw_w0] at g0 b0 ⊢
  refine ⟨_, blk_cell b0 0, fun hN => ⟨by unfold checkL; rw [if_pos (.inl hN)], g0⟩, fun hN => ⟨_, _, _, blk_cell b0 1, fun hL => by omega, fun hL => ?_⟩⟩
  have hM : MapE (w0.alloc (.map #[] 0)) w0.heap.size [] := MapAt.made w0
  have g1 := World.grownBy_alloc w0 (.map #[] 0) none
  obtain ⟨w1, hw1⟩ : ∃ w1, w1 = w0.alloc (.map #[] 0) := ⟨_, rfl⟩
  rw [← hw1] at hM g1 ⊢
  have hck : checkL N l = checkGo N l none [] 0 := by unfold checkL; rw [if_neg (by omega)]
  rw [hck]
  have lb : w.heap.size < w0.heap.size := (Array.getElem?_eq_some_iff.1 b0).1
  refine ⟨_, _, _, blk_cell (blk_keep b0 g1) 1, fun m i w' => ∃ (p : Nat) (now : List Edge) (L : List (Edge × Bool)), i = (p : Int) ∧ p ≤ l.length ∧ m = l.length - p ∧ Rise now ∧ MapE w' w0.heap.size L ∧ There L now ∧
      checkGo N l none [] 0 = checkGo N (l.drop p) (if p = 0 then none else l[p - 1]?) now p ∧ w.grownBy w' none ∧ w'.heap[w.heap.size]? = some (.cells #[.int .u64 N, .slice A n c] 27 (0, 0)),
    ⟨_, 0, [], [], rfl, by omega, rfl, List.Pairwise.nil, hM, fun a => by simp [getK], rfl, grown_trans g0 g1, blk_keep b0 g1⟩, ?_⟩
  rintro m i w2 ⟨p, now, L, rfl, hp, rfl, hrise, hM2, hth, hgo, hg, bH⟩
  have tp : (p : Int).toNat = p := by omega
  have tp1 : ((p : Int) - 1).toNat = p - 1 := by omega
  rw [tp, tp1]
  refine ⟨fun hlt => ?_, fun hge => ?_⟩
  · have lp : p < l.length := by omega
    rw [List.drop_eq_getElem_cons lp, checkGo_step] at hgo
    have hbe := hb _ (List.getElem_mem lp)
    obtain ⟨a, e1, e2, e3, e4, e5⟩ := evt_at (hr.kept_none hg) lp
    have sE0 : (w2.alloc (.cells #[.int .i64 0, .int .u32 0, .int .u32 0, .bool false] 41)).heap[w2.heap.size]? = some (.cells #[.int .i64 0, .int .u32 0, .int .u32 0, .bool false] 41 (0, 0)) := heap_alloc_new w2 _
    have sE1 := blk_set sE0 0 (.int .i64 l[p].t)
    have sE2 := blk_set sE1 1 (.int .u32 l[p].u)
    have sE3 := blk_set sE2 2 (.int .u32 l[p].v)
    have sE4 := blk_set sE3 3 (.bool l[p].add)
    have bE : (((((w2.alloc (.cells #[.int .i64 0, .int .u32 0, .int .u32 0, .bool false] 41)).setCell ⟨w2.heap.size, 0, none⟩ (.int .i64 l[p].t)).setCell ⟨w2.heap.size, 1, none⟩ (.int .u32 l[p].u)).setCell ⟨w2.heap.size, 2, none⟩ (.int .u32 l[p].v)).setCell ⟨w2.heap.size, 3, none⟩ (.bool l[p].add)).heap[w2.heap.size]? = some (.cells #[.int .i64 l[p].t, .int .u32 l[p].u, .int .u32 l[p].v, .bool l[p].add] 41 (0, 0)) := by simpa using sE4
    have gE : w2.grownBy (((((w2.alloc (.cells #[.int .i64 0, .int .u32 0, .int .u32 0, .bool false] 41)).setCell ⟨w2.heap.size, 0, none⟩ (.int .i64 l[p].t)).setCell ⟨w2.heap.size, 1, none⟩ (.int .u32 l[p].u)).setCell ⟨w2.heap.size, 2, none⟩ (.int .u32 l[p].v)).setCell ⟨w2.heap.size, 3, none⟩ (.bool l[p].add)) none := (Kp.grown (set1 (set1 (set1 (set1 (Kp.of_none (S := fun k => w2.heap.size ≤ k) (grown_alloc (grown_refl w2 none) _)) (Nat.le_refl _)) (Nat.le_refl _)) (Nat.le_refl _)) (Nat.le_refl _)) (fun k hk e => by omega))
    obtain ⟨w3, hE⟩ : ∃ w3, w3 = (((((w2.alloc (.cells #[.int .i64 0, .int .u32 0, .int .u32 0, .bool false] 41)).setCell ⟨w2.heap.size, 0, none⟩ (.int .i64 l[p].t)).setCell ⟨w2.heap.size, 1, none⟩ (.int .u32 l[p].u)).setCell ⟨w2.heap.size, 2, none⟩ (.int .u32 l[p].v)).setCell ⟨w2.heap.size, 3, none⟩ (.bool l[p].add)) := ⟨_, rfl⟩
    rw [← hE] at bE gE
    refine ⟨a, e1, by omega, by omega, _, e2, _, e3, _, e4, _, e5, ⟨_, blk_cell sE0 0⟩, blk_free sE0 0, ⟨_, blk_cell sE1 1⟩, blk_free sE1 1, ⟨_, blk_cell sE2 2⟩, blk_free sE2 2, ⟨_, blk_cell sE3 3⟩, blk_free sE3 3, ?_⟩
    rw [← hE]
    have bH3 := blk_keep bH gE
    have hg3 := grown_trans hg gE
    refine ⟨_, blk_cell bE 0, fun h1 => ⟨by rw [hgo, if_pos (.inl h1)], hg3⟩, fun h1 => ⟨_, blk_cell bE 0, fun h2 => ⟨by rw [hgo, if_pos (.inr h2)], hg3⟩, fun h2 => ⟨_, blk_cell bE 1, _, blk_cell bE 2, _, blk_cell bH3 0, (eright_calls (l[p].u, l[p].v) ⟨hbe.2.1, hbe.2.2⟩).mono fun ev w4 hh => ?_⟩⟩⟩
    obtain ⟨rfl, g4⟩ := hh
    rw [if_neg (by omega)] at hgo
    have bH4 := blk_keep bH3 g4
    have bE4 := blk_keep bE g4
    have hg4 := grown_trans hg3 g4
    have hM4 : MapE w4 w0.heap.size L := (hM2.kept gE).kept g4
    refine ⟨_, rfl, fun h3 => ⟨by rw [hgo, if_pos (by unfold okEvt; exact h3)], hg4⟩, fun h3 => ?_⟩
    rw [if_neg (by unfold okEvt; exact h3)] at hgo
    -- what is asked of the map, and what is written into it then
    have last : ∀ W : World, w4.grownBy W none → befO (if p = 0 then none else l[p - 1]?) l[p] = true →
        ∃ x61 : Int, World.cell? W ⟨w2.heap.size, 1, none⟩ = some (.int .u32 x61) ∧ ∃ x61_1 : Int, World.cell? W ⟨w2.heap.size, 2, none⟩ = some (.int .u32 x61_1) ∧ ∃ x62 : Bool, Sem.run P (Instr.lookup 92 (.map (some w0.heap.size)) (.agg #[.int .u32 x61, .int .u32 x61_1]) false) W = .ok (.bool x62) W ∧
          ∃ x64 : Bool, World.cell? W ⟨w2.heap.size, 3, none⟩ = some (.bool x64) ∧ ∃ x65 : Bool, (∀ w : World, Sem.run P (do eqGuard .eql 4 (.tmp 62) (.tmp 64) (.bool x62) (.bool x64); Go.binOp .eql 4 (.bool x62) (.bool x64) : Sem Value) w = .ok (.bool x65) w) ∧
          ((x65 = true → (Ending.returned (.tuple #[.int .i64 p, .int .i64 25]) = Ending.returned (.tuple #[.int .i64 (checkGo N l none [] 0).1, .int .i64 (checkGo N l none [] 0).2]) ∧ w.grownBy W none)) ∧
           (x65 = false → ∃ x69 : Int, World.cell? W ⟨w2.heap.size, 1, none⟩ = some (.int .u32 x69) ∧ ∃ x69_1 : Int, World.cell? W ⟨w2.heap.size, 2, none⟩ = some (.int .u32 x69_1) ∧ ∃ x71 : Bool, World.cell? W ⟨w2.heap.size, 3, none⟩ = some (.bool x71) ∧ ∃ wv_4 : World, Sem.run P (Instr.mapUpdate 92 (.map (some w0.heap.size)) (.agg #[.int .u32 x69, .int .u32 x69_1]) (.bool x71)) W = .ok () wv_4 ∧ (-9223372036854775808 ≤ (p : Int) + 1 ∧ (p : Int) + 1 ≤ 9223372036854775807) ∧ ∃ m_1 : Nat, m_1 < l.length - p ∧ ∃ (p' : Nat) (now : List Edge) (L : List (Edge × Bool)), (p : Int) + 1 = (p' : Int) ∧ p' ≤ l.length ∧ m_1 = l.length - p' ∧ Rise now ∧ MapE wv_4 w0.heap.size L ∧ There L now ∧
              checkGo N l none [] 0 = checkGo N (l.drop p') (if p' = 0 then none else l[p' - 1]?) now p' ∧ w.grownBy wv_4 none ∧ wv_4.heap[w.heap.size]? = some (.cells #[.int .u64 N, .slice A n c] 27 (0, 0)))) := by
      intro W gW hbef
      have bEW := blk_keep bE4 gW
      have hMW := hM4.kept gW
      have hgW := grown_trans hg4 gW
      have okk : okEdge (l[p].u, l[p].v) := ⟨hbe.1, hbe.2⟩
      refine ⟨_, blk_cell bEW 1, _, blk_cell bEW 2, _, lookE hMW okk, _, blk_cell bEW 3, _, fun w => run_eqB _ _ _ _ w, fun h5 => ?_, fun h5 => ?_⟩
      · have := (hth.turn (e := l[p]) hrise).2 (of_decide_eq_true h5)
        rw [hgo, this]
        rw [if_neg (by rw [hbef]; simp)]
        exact ⟨rfl, hgW⟩
      · have hne : turnL now l[p] ≠ none := fun h => of_decide_eq_false h5 ((hth.turn (e := l[p]) hrise).1 h)
        obtain ⟨x, hx⟩ : ∃ x, turnL now l[p] = some x := by
          cases hq : turnL now l[p] with
          | none => exact absurd hq hne
          | some x => exact ⟨x, rfl⟩
        obtain ⟨W2, k1, k2, k3⟩ := MapAt.update keyE Try.underlying92 hMW okk l[p].add
        refine ⟨_, blk_cell bEW 1, _, blk_cell bEW 2, _, blk_cell bEW 3, W2, k1, ⟨by omega, by omega⟩, l.length - (p + 1), by omega, p + 1, x, updK L (l[p].u, l[p].v) l[p].add, by omega, by omega, rfl, (turn_some hx).1, k2, hth.upd hx, ?_, grown_own hgW k3 (fun k hk => by cases hk; omega), ?_⟩
        · rw [hgo, if_neg (by rw [hbef]; simp), hx]
          simp [lp]
        · rw [k3.block _ (by have := hgW.size; have := (Array.getElem?_eq_some_iff.1 (blk_keep bH4 gW)).1; omega) (by simp; omega)]
          exact blk_keep bH4 gW
    refine ⟨fun hpos => ?_, fun hz => ?_⟩
    · have gd := grown_drew (grown_refl w4 none)
      obtain ⟨a', q1, q2, q3, q4, q5⟩ := evt_at (hr.kept_none (grown_trans hg4 gd)) (show p - 1 < l.length by omega)
      refine ⟨_, _, _, blk_cell (blk_keep bH4 gd) 1, by omega, a', q1, by omega, by omega, _, q2, _, q3, _, q4, _, q5, _, blk_cell (blk_keep bE4 gd) 0, _, blk_cell (blk_keep bE4 gd) 1, _, blk_cell (blk_keep bE4 gd) 2, _, blk_cell (blk_keep bE4 gd) 3, (ebefore_calls l[p - 1] l[p]).mono fun ev w5 hh => ?_⟩
      obtain ⟨rfl, g5⟩ := hh
      have hpr : (if p = 0 then none else l[p - 1]? : Option Evt) = some l[p - 1] := by rw [if_neg (by omega)]; exact List.getElem?_eq_getElem (by omega)
      refine ⟨_, rfl, fun h4 => ⟨?_, grown_trans hg4 (grown_trans gd g5)⟩, fun h4 => last _ (grown_drew (grown_trans gd g5)) ?_⟩
      · rw [hgo, if_pos (by rw [hpr]; exact h4)]
      · rw [hpr]; show beforeV l[p - 1] l[p] = true; simpa using h4
    · refine last _ (grown_drew (grown_drew (grown_refl w4 none))) ?_
      rw [if_pos (by omega)]; rfl
  · have : p = l.length := by omega
    subst this
    rw [List.drop_length] at hgo
    refine ⟨?_, hg⟩
    rw [hgo]; rfl
end Go.Proofs.Ytgahfcdmgdnjiaa

/-! sort.Search; history.Upto; snap.Turn, Degree; the reference's Upto, Degree, In: the walks. -/
namespace Go.Proofs.Ytgahfcdmgdnjiaa
open Go Go.V Go.RowKit
set_option linter.unusedVariables false
set_option linter.unusedSimpArgs false
set_option maxHeartbeats 4000000
set_option maxRecDepth 100000

theorem search_u {w : World} {n : Nat} {f : Nat → Bool} {env1 env2 : Addr} (hn : n ≤ 2 ^ 40)
    (hf : ∀ w', w.grownBy w' none → ∀ i, i < n → Calls P 77 #[.int .i64 (i : Int), .pointer (some env1), .pointer (some env2)] w' fun ev w'' => ev = .returned (.bool (f i)) ∧ w'.grownBy w'' none) :
    Calls P 55 #[.int .i64 (n : Int), .func (.func 77) #[] #[.pointer (some env1), .pointer (some env2)]] w fun ev w' => ∃ i : Nat, ev = .returned (.int .i64 (i : Int)) ∧ i ≤ n ∧ (0 < i → f (i - 1) = false) ∧ (i < n → f i = true) ∧ w.grownBy w' none := by
  apply vc55u; unfold VC55u
  simp only [InK]
  refine ⟨fun m i j w' => ∃ p q : Nat, i = (p : Int) ∧ j = (q : Int) ∧ p ≤ q ∧ q ≤ n ∧ m = q - p ∧ (0 < p → f (p - 1) = false) ∧ (q < n → f q = true) ∧ w.grownBy w' none, ⟨_, 0, n, rfl, rfl, by omega, by omega, rfl, by omega, by omega, grown_refl _ _⟩, ?_⟩
  rintro m i j w1 ⟨p, q, rfl, rfl, hpq, hq, rfl, h0, h1, hg⟩
  refine ⟨fun hlt => ?_, fun hge => ⟨p, rfl, by omega, h0, fun h => ?_, hg⟩⟩
  · have hm : ((p : Int) + (q : Int)) / 2 ^ 1 = (((p + q) / 2 : Nat) : Int) := by omega
    rw [hm]
    refine ⟨by omega, by omega, by omega, by omega, (hf w1 hg ((p + q) / 2) (by omega)).mono fun ev w2 hh => ?_⟩
    obtain ⟨rfl, g2⟩ := hh
    refine ⟨_, rfl, fun h => ⟨by omega, _, ?_, (p + q) / 2 + 1, q, by omega, rfl, by omega, hq, rfl, fun _ => by simpa using h, h1, grown_trans hg g2⟩, fun h => ⟨_, ?_, p, (p + q) / 2, rfl, rfl, by omega, by omega, rfl, h0, fun _ => by simpa using h, grown_trans hg g2⟩⟩
    · omega
    · omega
  · have : p = q := by omega
    subst this
    exact h1 h
theorem search_t {w : World} {n : Nat} {f : Nat → Bool} {env1 env2 : Addr} (hn : n ≤ 2 ^ 40)
    (hf : ∀ w', w.grownBy w' none → ∀ i, i < n → Calls P 56 #[.int .i64 (i : Int), .pointer (some env1), .pointer (some env2)] w' fun ev w'' => ev = .returned (.bool (f i)) ∧ w'.grownBy w'' none) :
    Calls P 55 #[.int .i64 (n : Int), .func (.func 56) #[] #[.pointer (some env1), .pointer (some env2)]] w fun ev w' => ∃ i : Nat, ev = .returned (.int .i64 (i : Int)) ∧ i ≤ n ∧ (0 < i → f (i - 1) = false) ∧ (i < n → f i = true) ∧ w.grownBy w' none := by
  apply vc55t; unfold VC55t
  simp only [InK]
  refine ⟨fun m i j w' => ∃ p q : Nat, i = (p : Int) ∧ j = (q : Int) ∧ p ≤ q ∧ q ≤ n ∧ m = q - p ∧ (0 < p → f (p - 1) = false) ∧ (q < n → f q = true) ∧ w.grownBy w' none, ⟨_, 0, n, rfl, rfl, by omega, by omega, rfl, by omega, by omega, grown_refl _ _⟩, ?_⟩
  rintro m i j w1 ⟨p, q, rfl, rfl, hpq, hq, rfl, h0, h1, hg⟩
  refine ⟨fun hlt => ?_, fun hge => ⟨p, rfl, by omega, h0, fun h => ?_, hg⟩⟩
  · have hm : ((p : Int) + (q : Int)) / 2 ^ 1 = (((p + q) / 2 : Nat) : Int) := by omega
    rw [hm]
    refine ⟨by omega, by omega, by omega, by omega, (hf w1 hg ((p + q) / 2) (by omega)).mono fun ev w2 hh => ?_⟩
    obtain ⟨rfl, g2⟩ := hh
    refine ⟨_, rfl, fun h => ⟨by omega, _, ?_, (p + q) / 2 + 1, q, by omega, rfl, by omega, hq, rfl, fun _ => by simpa using h, h1, grown_trans hg g2⟩, fun h => ⟨_, ?_, p, (p + q) / 2, rfl, rfl, by omega, by omega, rfl, h0, fun _ => by simpa using h, grown_trans hg g2⟩⟩
    · omega
    · omega
  · have : p = q := by omega
    subst this
    exact h1 h
theorem uptoCl_calls {w : World} {bh bt : Nat} {A : Option Addr} {n c : Nat} {l : List Evt} {N t : Int} {i : Nat} (b1 : w.heap[bh]? = some (.cells #[.int .u64 N, .slice A n c] 27 (0, 0))) (b2 : w.heap[bt]? = some (.cells #[.int .i64 t] 2 (0, 0))) (hr : Row w A (evts l)) (hn : n = l.length) (hi : i < l.length) :
    Calls P 77 #[.int .i64 (i : Int), .pointer (some ⟨bh, 0, none⟩), .pointer (some ⟨bt, 0, none⟩)] w fun ev w' => ev = .returned (.bool (decide (l[i].t > t))) ∧ w.grownBy w' none := by
  apply vc77; unfold VC77; try (conv => zeta)
  have gd := grown_drew (grown_refl w none)
  have ti : (i : Int).toNat = i := by omega
  obtain ⟨a, e1, e2, e3, e4, e5⟩ := evt_at (hr.kept_none gd) hi
  refine ⟨_, _, _, by rw [add_lit]; exact blk_cell (blk_keep b1 gd) 1, a, e1, by omega, by omega, _, by rw [ti]; exact e2, _, blk_cell (blk_keep b2 gd) 0, rfl, gd⟩
theorem hupto_calls {w : World} {A : Option Addr} {n c : Nat} {l : List Evt} {N t : Int} (hr : Row w A (evts l)) (hn : n = l.length) (hl : n ≤ 2 ^ 20) :
    Calls P 46 #[.agg #[.int .u64 N, .slice A n c], .int .i64 t] w fun ev w' => ∃ i : Nat, ev = .returned (.int .i64 (i : Int)) ∧ i ≤ n ∧ (∀ h : 0 < i ∧ i ≤ l.length, l[i - 1].t ≤ t) ∧ (∀ h : i < l.length, l[i].t > t) ∧ w.grownBy w' none := by
  apply vc46; unfold VC46; try (conv => zeta)
  have g1 := World.grownBy_alloc w (.cells #[.int .u64 N, .slice A n c] 27) none
  have b1 : (w.alloc (.cells #[.int .u64 N, .slice A n c] 27)).heap[w.heap.size]? = some (.cells #[.int .u64 N, .slice A n c] 27 (0, 0)) := heap_alloc_new w _
  obtain ⟨w1, hw_w1⟩ : ∃ w1, w1 = w.alloc (.cells #[.int .u64 N, .slice A n c] 27) := ⟨_, rfl⟩
  rw [← hw_w1] at g1 b1 ⊢
  have g2 := World.grownBy_alloc w1 (.cells #[.int .i64 t] 2) none
  have b2 : (w1.alloc (.cells #[.int .i64 t] 2)).heap[w1.heap.size]? = some (.cells #[.int .i64 t] 2 (0, 0)) := heap_alloc_new w1 _
  obtain ⟨w2, hw_w2⟩ : ∃ w2, w2 = w1.alloc (.cells #[.int .i64 t] 2) := ⟨_, rfl⟩
  rw [← hw_w2] at g2 b2 ⊢
  have b1' := blk_keep b1 g2
  have g02 := grown_trans g1 g2
  refine ⟨_, _, _, blk_cell b1' 1, (search_u (f := fun i => decide ((l.getD i ⟨0, 0, 0, false⟩).t > t)) (by omega) (fun w' hg i hi => ?_)).mono fun ev w3 hh => ?_⟩
  · have hi' : i < l.length := by omega
    have := uptoCl_calls (i := i) (blk_keep b1' hg) (blk_keep b2 hg) (hr.kept_none (grown_trans g02 hg)) hn hi'
    have e : l.getD i ⟨0, 0, 0, false⟩ = l[i] := by simp [List.getD_eq_getElem?_getD, hi']
    rw [e]; exact this
  · obtain ⟨i, rfl, h1, h2, h3, g3⟩ := hh
    refine ⟨_, rfl, i, rfl, h1, fun h => ?_, fun h => ?_, grown_trans g02 g3⟩
    · have := h2 h.1
      have e : l.getD (i - 1) ⟨0, 0, 0, false⟩ = l[i - 1] := by simp [List.getD_eq_getElem?_getD, show i - 1 < l.length by omega]
      rw [e] at this
      have := of_decide_eq_false this
      omega
    · have := h3 (by omega)
      have e : l.getD i ⟨0, 0, 0, false⟩ = l[i] := by simp [List.getD_eq_getElem?_getD, h]
      rw [e] at this
      exact of_decide_eq_true this
/-- How many events there are up to a time. -/
def uptoL (l : List Evt) (t : Int) : Nat := (l.takeWhile fun e => decide (e.t ≤ t)).length
theorem uptoL_is {l : List Evt} {t : Int} {i : Nat} (hi : i ≤ l.length) (h : ∀ j (hj : j < l.length), j < i → l[j].t ≤ t) (h2 : ∀ (hi : i < l.length), ¬ l[i].t ≤ t) : uptoL l t = i := by
  induction l generalizing i with
  | nil => simp at hi; subst hi; rfl
  | cons x l ih =>
    cases i with
    | zero =>
      have := h2 (by simp)
      simp only [List.getElem_cons_zero] at this
      simp [uptoL, List.takeWhile_cons, this]
    | succ i =>
      have h0 := h 0 (by simp) (by omega)
      simp only [List.getElem_cons_zero] at h0
      have := ih (i := i) (by simpa using hi) (fun j hj hji => h (j + 1) (Nat.succ_lt_succ hj) (by omega)) (fun hi => h2 (Nat.succ_lt_succ hi))
      unfold uptoL at this ⊢
      rw [List.takeWhile_cons]; simp [h0, this]
theorem rupto_calls {w : World} {A : Option Addr} {n c : Nat} {l : List Evt} {N t : Int} (hr : Row w A (evts l)) (hn : n = l.length) (hl : n ≤ 2 ^ 20) :
    Calls P 47 #[.agg #[.int .u64 N, .slice A n c], .int .i64 t] w fun ev w' => ev = .returned (.int .i64 (uptoL l t : Int)) ∧ w.grownBy w' none := by
  apply vc47; unfold VC47; try (conv => zeta)
  simp only [InK]
  have g1 := World.grownBy_alloc w (.cells #[.int .u64 N, .slice A n c] 27) none
  have b1 : (w.alloc (.cells #[.int .u64 N, .slice A n c] 27)).heap[w.heap.size]? = some (.cells #[.int .u64 N, .slice A n c] 27 (0, 0)) := heap_alloc_new w _
  obtain ⟨w1, hw_w1⟩ : ∃ w1, w1 = w.alloc (.cells #[.int .u64 N, .slice A n c] 27) := ⟨_, rfl⟩
  rw [← hw_w1] at g1 b1 ⊢
  refine ⟨fun m i w' => ∃ p : Nat, i = (p : Int) ∧ p ≤ l.length ∧ m = l.length - p ∧ w1.grownBy w' none ∧ ∀ j (hj : j < l.length), j < p → l[j].t ≤ t, ⟨_, 0, rfl, by omega, rfl, grown_refl _ _, fun j hj h => by omega⟩, ?_⟩
  rintro m i w2 ⟨p, rfl, hp, rfl, hg, hx⟩
  have tp : (p : Int).toNat = p := by omega
  rw [tp]
  refine ⟨_, _, _, blk_cell (blk_keep b1 hg) 1, fun hlt => ?_, fun hge => ?_⟩
  · have lp : p < l.length := by omega
    obtain ⟨a, e1, e2, e3, e4, e5⟩ := evt_at ((hr.kept_none g1).kept_none hg) lp
    refine ⟨_, _, _, blk_cell (blk_keep b1 hg) 1, a, e1, by omega, by omega, _, e2, fun h => ⟨by omega, _, ?_, p + 1, by omega, by omega, rfl, hg, fun j hj hjp => ?_⟩, fun h => ⟨?_, grown_trans g1 hg⟩⟩
    · omega
    · by_cases e : j = p
      · subst e; exact h
      · exact hx j hj (by omega)
    · rw [uptoL_is (by omega) hx (fun _ => h)]
  · have : p = l.length := by omega
    subst this
    refine ⟨?_, grown_trans g1 hg⟩
    rw [uptoL_is (Nat.le_refl _) hx (fun h => by omega)]
theorem OkH.times {N : Int} {l : List Evt} {p : Option Evt} {now : List Edge} (h : OkH N l p now) : SortV l := by
  have key : ∀ {l : List Evt} {p : Option Evt} {now : List Edge}, OkH N l p now → SortV l ∧ ∀ q, p = some q → ∀ e ∈ l, beforeV q e = true := by
    intro l
    induction l with
    | nil => intro p now _; exact ⟨List.Pairwise.nil, fun _ _ e he => by simp at he⟩
    | cons e l ih =>
      intro p now h
      obtain ⟨_, _, h3, x, _, h'⟩ := h
      obtain ⟨k1, k2⟩ := ih h'
      refine ⟨List.pairwise_cons.2 ⟨fun a ha => k2 e rfl a ha, k1⟩, fun q hq a ha => ?_⟩
      rcases List.mem_cons.1 ha with rfl | ha
      · exact h3 q hq
      · exact beforeV_trans (h3 q hq) (k2 e rfl a ha)
  exact (key h).1
theorem SortV.le {l : List Evt} (h : SortV l) {i j : Nat} (hij : i ≤ j) (hj : j < l.length) : l[i].t ≤ l[j].t := by
  by_cases e : i = j
  · subst e; exact Int.le_refl _
  · have := List.pairwise_iff_getElem.1 h i j (by omega) hj (by omega)
    rw [beforeV_iff] at this; omega
/-- What the search finds among rising times. -/
theorem upto_found {l : List Evt} {t : Int} {i : Nat} (h : SortV l) (hi : i ≤ l.length) (h1 : ∀ h : 0 < i ∧ i ≤ l.length, l[i - 1].t ≤ t) (h2 : ∀ h : i < l.length, l[i].t > t) : i = uptoL l t := by
  symm
  refine uptoL_is hi (fun j hj hji => ?_) (fun hi => by have := h2 hi; omega)
  have := h1 ⟨by omega, hi⟩
  have := h.le (i := j) (j := i - 1) (by omega) (by omega)
  omega

/-- How many edges have a vertex. -/
def degL (l : List Edge) (v : Int) : Int := ((l.filter fun e => decide (e.1 = v ∨ e.2 = v)).length : Int)
theorem degL_step {l : List Edge} {v : Int} {p : Nat} (hp : p < l.length) : degL (l.take (p + 1)) v = degL (l.take p) v + (if l[p].1 = v ∨ l[p].2 = v then 1 else 0) := by
  rw [List.take_succ_eq_append_getElem hp]
  unfold degL
  rw [List.filter_append, List.length_append]
  by_cases h : l[p].1 = v ∨ l[p].2 = v
  · simp [h]
  · simp [h]
theorem degL_le (l : List Edge) (v : Int) : 0 ≤ degL l v ∧ degL l v ≤ l.length := by
  unfold degL
  have := List.length_filter_le (fun e : Edge => decide (e.1 = v ∨ e.2 = v)) l
  omega
theorem sdegree_calls {w : World} {A : Option Addr} {n c : Nat} {l : List Edge} {v : Int} (hr : Row w A (edges l)) (hn : n = l.length) (hl : n ≤ 2 ^ 40) :
    Calls P 31 #[.slice A n c, .int .u32 v] w fun ev w' => ev = .returned (.int .i64 (degL l v)) ∧ w.grownBy w' none := by
  apply vc31; unfold VC31; try (conv => zeta)
  simp only [InK]
  refine ⟨fun m k i w' => ∃ p : Nat, i = (p : Int) ∧ p ≤ l.length ∧ m = l.length - p ∧ k = degL (l.take p) v ∧ w.grownBy w' none, ⟨_, 0, rfl, by omega, rfl, by simp [degL], grown_refl _ _⟩, ?_⟩
  rintro m k i w1 ⟨p, rfl, hp, rfl, rfl, hg⟩
  have tp : (p : Int).toNat = p := by omega
  rw [tp]
  refine ⟨fun hlt => ?_, fun hge => ?_⟩
  · have lp : p < l.length := by omega
    obtain ⟨a, e1, e2, e3⟩ := edge_at (hr.kept_none hg) lp
    have hd := degL_step (v := v) lp
    have hb := degL_le (l.take p) v
    rw [List.length_take] at hb
    have sE0 : (w1.alloc (.cells #[.int .u32 0, .int .u32 0] 39)).heap[w1.heap.size]? = some (.cells #[.int .u32 0, .int .u32 0] 39 (0, 0)) := heap_alloc_new w1 _
    have sE1 := blk_set sE0 0 (.int .u32 l[p].1)
    have sE2 := blk_set sE1 1 (.int .u32 l[p].2)
    have bE : (((w1.alloc (.cells #[.int .u32 0, .int .u32 0] 39)).setCell ⟨w1.heap.size, 0, none⟩ (.int .u32 l[p].1)).setCell ⟨w1.heap.size, 1, none⟩ (.int .u32 l[p].2)).heap[w1.heap.size]? = some (.cells #[.int .u32 l[p].1, .int .u32 l[p].2] 39 (0, 0)) := by simpa using sE2
    have gE : w1.grownBy (((w1.alloc (.cells #[.int .u32 0, .int .u32 0] 39)).setCell ⟨w1.heap.size, 0, none⟩ (.int .u32 l[p].1)).setCell ⟨w1.heap.size, 1, none⟩ (.int .u32 l[p].2)) none := (Kp.grown (set1 (set1 (Kp.of_none (S := fun k => w1.heap.size ≤ k) (grown_alloc (grown_refl w1 none) _)) (Nat.le_refl _)) (Nat.le_refl _)) (fun k hk e => by omega))
    obtain ⟨w2, hE⟩ : ∃ w2, w2 = (((w1.alloc (.cells #[.int .u32 0, .int .u32 0] 39)).setCell ⟨w1.heap.size, 0, none⟩ (.int .u32 l[p].1)).setCell ⟨w1.heap.size, 1, none⟩ (.int .u32 l[p].2)) := ⟨_, rfl⟩
    rw [← hE] at bE gE
    refine ⟨a, e1, by omega, by omega, _, e2, _, e3, ⟨_, blk_cell sE0 0⟩, blk_free sE0 0, ⟨_, blk_cell sE1 1⟩, blk_free sE1 1, ?_⟩
    rw [← hE]
    have hg2 := grown_trans hg gE
    refine ⟨_, blk_cell bE 0, fun h1 => ⟨by omega, by omega, _, ?_, p + 1, by omega, by omega, rfl, by rw [hd, if_pos (.inl h1)], hg2⟩, fun h1 => ⟨_, blk_cell bE 1, fun h2 => ⟨by omega, by omega, _, ?_, p + 1, by omega, by omega, rfl, by rw [hd, if_pos (.inr h2)], hg2⟩, fun h2 => ⟨by omega, _, ?_, p + 1, by omega, by omega, rfl, by rw [hd, if_neg (by rintro (h | h) <;> contradiction)]; omega, hg2⟩⟩⟩ <;> omega
  · have : p = l.length := by omega
    subst this
    rw [List.take_length]
    exact ⟨rfl, hg⟩
theorem rdegree_calls {w : World} {A : Option Addr} {n c : Nat} {l : List Edge} {v : Int} (hr : Row w A (edges l)) (hn : n = l.length) (hl : n ≤ 2 ^ 40) :
    Calls P 32 #[.slice A n c, .int .u32 v] w fun ev w' => ev = .returned (.int .i64 (degL l v)) ∧ w.grownBy w' none := by
  apply vc32; unfold VC32; try (conv => zeta)
  simp only [InK]
  refine ⟨fun m k i w' => ∃ p : Nat, i = (p : Int) ∧ p ≤ l.length ∧ m = l.length - p ∧ k = degL (l.take p) v ∧ w.grownBy w' none, ⟨_, 0, rfl, by omega, rfl, by simp [degL], grown_refl _ _⟩, ?_⟩
  rintro m k i w1 ⟨p, rfl, hp, rfl, rfl, hg⟩
  have tp : (p : Int).toNat = p := by omega
  rw [tp]
  refine ⟨fun hlt => ?_, fun hge => ?_⟩
  · have lp : p < l.length := by omega
    obtain ⟨a, e1, e2, e3⟩ := edge_at (hr.kept_none hg) lp
    have hd := degL_step (v := v) lp
    have hb := degL_le (l.take p) v
    rw [List.length_take] at hb
    refine ⟨a, e1, by omega, by omega, _, e2, fun h1 => ⟨by omega, by omega, _, ?_, p + 1, by omega, by omega, rfl, by rw [hd, if_pos (.inl h1)], hg⟩, fun h1 => ⟨a, e1, by omega, by omega, _, e3, fun h2 => ⟨by omega, by omega, _, ?_, p + 1, by omega, by omega, rfl, by rw [hd, if_pos (.inr h2)], hg⟩, fun h2 => ⟨by omega, _, ?_, p + 1, by omega, by omega, rfl, by rw [hd, if_neg (by rintro (h | h) <;> contradiction)]; omega, hg⟩⟩⟩ <;> omega
  · have : p = l.length := by omega
    subst this
    rw [List.take_length]
    exact ⟨rfl, hg⟩
abbrev u32s (xs : List Int) : List Value := xs.map (Value.int .u32)
theorem rin_calls {w : World} {A : Option Addr} {n c : Nat} {l : List Int} {v : Int} (hr : Row w A (u32s l)) (hn : n = l.length) (hl : n ≤ 2 ^ 40) :
    Calls P 34 #[.slice A n c, .int .u32 v] w fun ev w' => ev = .returned (.bool (decide (v ∈ l))) ∧ w.grownBy w' none := by
  apply vc34; unfold VC34; try (conv => zeta)
  simp only [InK]
  refine ⟨fun m i w' => ∃ p : Nat, i = (p : Int) ∧ p ≤ l.length ∧ m = l.length - p ∧ w.grownBy w' none ∧ ∀ j (hj : j < l.length), j < p → l[j] ≠ v, ⟨_, 0, rfl, by omega, rfl, grown_refl _ _, fun j hj h => by omega⟩, ?_⟩
  rintro m i w1 ⟨p, rfl, hp, rfl, hg, hx⟩
  have tp : (p : Int).toNat = p := by omega
  rw [tp]
  refine ⟨fun hlt => ?_, fun hge => ?_⟩
  · have lp : p < l.length := by omega
    obtain ⟨a, e1, e2⟩ := (hr.kept_none hg) p (.int .u32 l[p]) (by simp [lp])
    refine ⟨a, e1, by omega, by omega, _, e2, fun h => ⟨?_, hg⟩, fun h => ⟨by omega, _, ?_, p + 1, by omega, by omega, rfl, hg, fun j hj hjp => ?_⟩⟩
    · have : v ∈ l := by rw [← h]; exact List.getElem_mem lp
      simp [this]
    · omega
    · by_cases e : j = p
      · subst e; exact h
      · exact hx j hj (by omega)
  · have : p = l.length := by omega
    subst this
    refine ⟨?_, hg⟩
    have : v ∉ l := by
      intro hv
      obtain ⟨j, hj, e⟩ := List.mem_iff_getElem.1 hv
      exact hx j hj hj e
    simp [this]

theorem turnCl_calls {w : World} {bl be : Nat} {A : Option Addr} {n c : Nat} {l : List Edge} {e : Evt} {i : Nat} (b1 : w.heap[bl]? = some (.cells #[.slice A n c] 29 (0, 0))) (b2 : w.heap[be]? = some (.cells #[.int .i64 e.t, .int .u32 e.u, .int .u32 e.v, .bool e.add] 41 (0, 0))) (hr : Row w A (edges l)) (hn : n = l.length) (hi : i < l.length) :
    Calls P 56 #[.int .i64 (i : Int), .pointer (some ⟨bl, 0, none⟩), .pointer (some ⟨be, 0, none⟩)] w fun ev w' => ev = .returned (.bool (!lessE l[i] (e.u, e.v))) ∧ w.grownBy w' none := by
  apply vc56; unfold VC56; try (conv => zeta)
  have gd := grown_drew (grown_refl w none)
  have ti : (i : Int).toNat = i := by omega
  obtain ⟨a, e1, e2, e3⟩ := edge_at (hr.kept_none gd) hi
  refine ⟨_, _, _, blk_cell (blk_keep b1 gd) 0, a, e1, by omega, by omega, _, by rw [ti]; exact e2, _, by rw [ti]; exact e3, _, by rw [add_lit]; exact blk_cell (blk_keep b2 gd) 1, _, by rw [add_add, add_lit]; exact blk_cell (blk_keep b2 gd) 2, (eless_calls l[i] (e.u, e.v)).mono fun ev w2 hh => ?_⟩
  obtain ⟨rfl, g2⟩ := hh
  refine ⟨_, rfl, ?_, grown_trans gd g2⟩
  congr 2
  cases lessE l[i] (e.u, e.v) <;> rfl
/-- What the search finds among rising edges. -/
theorem low_found {l : List Edge} {e : Edge} {i : Nat} (h : Rise l) (hi : i ≤ l.length) (h1 : ∀ h : 0 < i ∧ i ≤ l.length, lessE l[i - 1] e = true) (h2 : ∀ h : i < l.length, lessE l[i] e = false) : lowL l e = i := by
  refine lowL_is hi (fun t ht hti => ?_) h2
  have k := h1 ⟨by omega, hi⟩
  by_cases et : t = i - 1
  · subst et; exact k
  · exact lessE_trans (List.pairwise_iff_getElem.1 h t (i - 1) ht (by omega) (by omega)) k
theorem low_has {l : List Edge} {e : Edge} (h : Rise l) (he : e ∈ l) : ∃ hl : lowL l e < l.length, l[lowL l e] = e ∧ l.idxOf e = lowL l e := by
  obtain ⟨k, hk, rfl⟩ := List.mem_iff_getElem.1 he
  have e1 : lowL l l[k] = k := lowL_is (by omega) (fun t ht htk => List.pairwise_iff_getElem.1 h t k ht hk htk) (fun _ => by
    have := lessE_asymm (a := l[k]) (b := l[k])
    cases hc : lessE l[k] l[k] with
    | false => rfl
    | true => rw [hc] at this; simpa using this rfl)
  refine ⟨by omega, by simp only [e1], ?_⟩
  rw [e1]
  exact h.nodup.idxOf_getElem k hk
theorem sturn_calls {w : World} {A : Option Addr} {n c : Nat} {l : List Edge} {e : Evt} (hr : Row w A (edges l)) (hn : n = l.length) (hA : A = none → c = 0) (hl : n ≤ 2 ^ 20) :
    Calls P 27 #[.slice A n c, evtV e] w fun ev w' => ∃ (A' : Option Addr) (n' c' : Nat), ev = .returned (.tuple #[.slice A' n' c', .bool (turnL l e).isSome]) ∧ OwnedK w' w.heap.size 39 2 A' n' c' (edges ((turnL l e).getD [])) ∧ w.grownBy w' none := by
  apply vc27; unfold VC27; try (conv => zeta)
  simp only [InK]
  have g1 := World.grownBy_alloc w (.cells #[.slice A n c] 29) none
  have b1 : (w.alloc (.cells #[.slice A n c] 29)).heap[w.heap.size]? = some (.cells #[.slice A n c] 29 (0, 0)) := heap_alloc_new w _
  obtain ⟨w1, hw_w1⟩ : ∃ w1, w1 = w.alloc (.cells #[.slice A n c] 29) := ⟨_, rfl⟩
  rw [← hw_w1] at g1 b1 ⊢
  have g2 := World.grownBy_alloc w1 (.cells #[.int .i64 e.t, .int .u32 e.u, .int .u32 e.v, .bool e.add] 41) none
  have b2 : (w1.alloc (.cells #[.int .i64 e.t, .int .u32 e.u, .int .u32 e.v, .bool e.add] 41)).heap[w1.heap.size]? = some (.cells #[.int .i64 e.t, .int .u32 e.u, .int .u32 e.v, .bool e.add] 41 (0, 0)) := heap_alloc_new w1 _
  obtain ⟨w2, hw_w2⟩ : ∃ w2, w2 = w1.alloc (.cells #[.int .i64 e.t, .int .u32 e.u, .int .u32 e.v, .bool e.add] 41) := ⟨_, rfl⟩
  rw [← hw_w2] at g2 b2 ⊢
  have b1' := blk_keep b1 g2
  have g02 := grown_trans g1 g2
  refine ⟨_, _, _, blk_cell b1' 0, (erising_calls (hr.kept_none g02) hn (by omega)).mono fun ev w3 hh => ?_⟩
  obtain ⟨rfl, g3⟩ := hh
  have g03 := grown_trans g02 g3
  refine ⟨_, rfl, fun h => ?_, fun h => ?_⟩
  · have : turnL l e = none := by unfold turnL; rw [if_pos h]
    rw [this]
    exact ⟨_, _, _, rfl, OwnedK.nil _ _ _ _, g03⟩
  have hris : Rise l := (risingL_iff l).1 (by simpa using h)
  have b13 := blk_keep b1' g3
  have b23 := blk_keep b2 g3
  refine ⟨_, _, _, blk_cell b13 0, (search_t (f := fun i => !lessE (l.getD i (0, 0)) (e.u, e.v)) (by omega) (fun w' hg i hi => ?_)).mono fun ev w4 hh => ?_⟩
  · have hi' : i < l.length := by omega
    have := turnCl_calls (i := i) (blk_keep b13 hg) (blk_keep b23 hg) (hr.kept_none (grown_trans g03 hg)) hn hi'
    have e : l.getD i (0, 0) = l[i] := by simp [List.getD_eq_getElem?_getD, hi']
    rw [e]; exact this
  obtain ⟨i, rfl, hi, h1, h2, g4⟩ := hh
  have hlow : lowL l (e.u, e.v) = i := low_found hris (by omega) (fun h => by
      have := h1 h.1
      have e' : l.getD (i - 1) (0, 0) = l[i - 1] := by simp [List.getD_eq_getElem?_getD, show i - 1 < l.length by omega]
      rw [e'] at this; simpa using this) (fun h => by
      have := h2 (by omega)
      have e' : l.getD i (0, 0) = l[i] := by simp [List.getD_eq_getElem?_getD, h]
      rw [e'] at this; simpa using this)
  have g04 := grown_trans g03 g4
  have gd := grown_drew (grown_refl w4 none)
  have g0d := grown_trans g04 gd
  have b1d := blk_keep (blk_keep b13 g4) gd
  have b2d := blk_keep (blk_keep b23 g4) gd
  have ti : (i : Int).toNat = i := by omega
  -- an edge that isn't there is put in
  have put : (e.u, e.v) ∉ l → e.add = true → ∀ (W : World) (X : Option Addr) (xn xc : Nat), w4.drew.grownBy W none → OwnedK W w4.drew.heap.size 39 2 X xn xc (edges l) →
      Calls P 59 #[.slice X xn xc, .int .i64 (i : Int), .slice (some ⟨W.heap.size, 0, none⟩) 1 1] (W.alloc (.cells #[.int .u32 e.u, .int .u32 e.v] 39)) fun ev w' => ∃ (x48A : Option Addr) (x48n x48c : Nat), ev = .returned (.slice x48A x48n x48c) ∧ ∃ (A' : Option Addr) (n' c' : Nat), Ending.returned (.tuple #[.slice x48A x48n x48c, .bool true]) = Ending.returned (.tuple #[.slice A' n' c', .bool (turnL l e).isSome]) ∧ OwnedK w' w.heap.size 39 2 A' n' c' (edges ((turnL l e).getD [])) ∧ w.grownBy w' none := by
    intro hnot hadd W X xn xc gW oW
    have ht : turnL l e = some (l.take i ++ ((e.u, e.v) :: l.drop i)) := by
      unfold turnL
      rw [if_neg (by rw [(risingL_iff l).2 hris]; simp), if_neg (by rw [hadd]; simp [hnot]), if_neg (by rw [hadd]; simp), hlow]
    rw [ht]
    have gA := World.grownBy_alloc W (.cells #[.int .u32 e.u, .int .u32 e.v] 39) none
    have bA : (W.alloc (.cells #[.int .u32 e.u, .int .u32 e.v] 39)).heap[W.heap.size]? = some (.cells #[.int .u32 e.u, .int .u32 e.v] 39 (0, 0)) := heap_alloc_new W _
    have g0W := grown_trans g0d gW
    have hxn : xn = l.length := by have := oW.cases.1; rw [edges_len] at this; omega
    refine (insertEdge_calls (e := (e.u, e.v)) (oW.kept gA) bA (fun h => by have := oW.block_lt _ h; omega) (by rw [World.size_alloc]; have := gW.size; omega) (by omega) (by omega)).mono fun ev w5 hh => ?_
    obtain ⟨A', n', c', rfl, o5, g5⟩ := hh
    refine ⟨_, _, _, rfl, _, _, _, rfl, o5.mono g0d.size, grown_own (grown_trans g0W gA) g5 (fun k hk => ?_)⟩
    have := oW.block_ge k hk
    have := g0d.size
    omega
  have cl := cloneEdges_calls (hr.kept_none g0d) hn hA (by omega)
  refine ⟨_, rfl, ?_⟩
  rw [ti]
  refine ⟨_, _, _, blk_cell b1d 0, fun hlt => ?_, fun hge => ?_⟩
  · have li : i < l.length := by omega
    obtain ⟨a, e1, e2, e3⟩ := edge_at (hr.kept_none g0d) li
    refine ⟨_, _, _, blk_cell b1d 0, a, e1, by omega, by omega, _, e2, _, e3, _, blk_cell b2d 1, _, blk_cell b2d 2, _, fun w => run_eqE _ _ _ _ _ _ w, _, _, _, blk_cell b1d 0, cl.mono fun ev w5 hh => ?_⟩
    obtain ⟨X, xn, xc, rfl, o5, g5⟩ := hh
    have hxn : xn = l.length := by have := o5.cases.1; rw [edges_len] at this; omega
    have hmem : decide (l[i].1 = e.u ∧ l[i].2 = e.v) = decide ((e.u, e.v) ∈ l) := by
      rw [decide_eq_decide]
      constructor
      · rintro ⟨q1, q2⟩
        have : (e.u, e.v) = l[i] := Prod.ext q1.symm q2.symm
        rw [this]; exact List.getElem_mem li
      · intro hm
        obtain ⟨q1, q2, _⟩ := low_has hris hm
        simp only [hlow] at q2
        rw [q2]; exact ⟨rfl, rfl⟩
    rw [hmem]
    refine ⟨_, _, _, rfl, _, blk_cell (blk_keep b2d g5) 3, _, fun w => run_eqB _ _ _ _ w, fun h5 => ?_, fun h5 => ⟨fun h6 => ?_, fun h6 => ?_⟩⟩
    · have : turnL l e = none := (turn_none hris e).2 (of_decide_eq_true h5).symm
      rw [this]
      exact ⟨_, _, _, rfl, OwnedK.nil _ _ _ _, grown_trans g0d g5⟩
    · have hm : (e.u, e.v) ∈ l := of_decide_eq_true h6
      have hadd : e.add = false := by
        have := of_decide_eq_false h5
        rw [h6] at this
        cases ha : e.add with
        | false => rfl
        | true => rw [ha] at this; exact absurd rfl this
      obtain ⟨_, _, hidx⟩ := low_has hris hm
      have ht : turnL l e = some (l.take i ++ l.drop (i + 1)) := by
        unfold turnL
        rw [if_neg (by rw [(risingL_iff l).2 hris]; simp), if_neg (by rw [hadd]; simp [hm]), if_pos hadd, hidx, hlow]
      rw [ht]
      refine ⟨by omega, (deleteEdge_calls o5 g5.size li (by omega)).mono fun ev w6 hh => ?_⟩
      obtain ⟨A', n', c', rfl, o6, g6⟩ := hh
      refine ⟨_, _, _, rfl, _, _, _, rfl, o6.mono g0d.size, grown_own (grown_trans g0d g5) g6 (fun k hk => ?_)⟩
      have := o5.block_ge k hk
      have := g0d.size
      omega
    · have hm : (e.u, e.v) ∉ l := of_decide_eq_false h6
      have hadd : e.add = true := by
        have := of_decide_eq_false h5
        rw [h6] at this
        cases ha : e.add with
        | true => rfl
        | false => rw [ha] at this; exact absurd rfl this
      exact ⟨_, blk_cell (blk_keep b2d g5) 1, _, blk_cell (blk_keep b2d g5) 2, put hm hadd w5 X xn xc g5 o5⟩
  · refine ⟨_, _, _, blk_cell b1d 0, cl.mono fun ev w5 hh => ?_⟩
    obtain ⟨X, xn, xc, rfl, o5, g5⟩ := hh
    have hm : (e.u, e.v) ∉ l := fun hm => by
      obtain ⟨q1, _⟩ := low_has hris hm
      omega
    refine ⟨_, _, _, rfl, _, blk_cell (blk_keep b2d g5) 3, _, fun w => run_eqB _ _ _ _ w, fun h5 => ?_, fun h5 => ?_⟩
    · have : turnL l e = none := (turn_none hris e).2 (by rw [← of_decide_eq_true h5]; simp [hm])
      rw [this]
      exact ⟨_, _, _, rfl, OwnedK.nil _ _ _ _, grown_trans g0d g5⟩
    · have hadd : e.add = true := by
        have := of_decide_eq_false h5
        cases ha : e.add with
        | true => rfl
        | false => rw [ha] at this; exact absurd rfl this
      exact ⟨_, blk_cell (blk_keep b2d g5) 1, _, blk_cell (blk_keep b2d g5) 2, put hm hadd w5 X xn xc g5 o5⟩
end Go.Proofs.Ytgahfcdmgdnjiaa
