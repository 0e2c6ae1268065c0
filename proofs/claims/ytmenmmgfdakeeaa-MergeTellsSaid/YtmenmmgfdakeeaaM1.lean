/- Rows in memory that a call owns, read and written cell by cell; what a world keeps. No program. -/
import Derived.Test.YtmenmmgfdakeeaaV8
import Derived.Below
import Derived.Laws.AppendOwn
namespace Go.V
open Go Go.RowKit
set_option linter.unusedVariables false

/-- Block g is a row of 'cap' one-cell elements that begins with xs. -/
def Own (w : World) (g : Nat) (e : TypeId) (cap : Nat) (xs : List Value) : Prop :=
  ∃ cur : Array Value, w.heap[g]? = some (.cells cur e (0, 0)) ∧ cur.size = cap ∧ ∃ t, cur.toList = xs ++ t

/-- The cells from an address on hold xs. -/
def Row (w : World) (A : Option Addr) (xs : List Value) : Prop := ∀ j u, xs[j]? = some u → ∃ a, A = some a ∧ w.cell? (a.add j) = some u

theorem add_block (a : Addr) (n : Nat) : (a.add n).block = a.block := by unfold Addr.add; split <;> rfl
theorem add_lit (g j : Nat) : (⟨g, 0, none⟩ : Addr).add j = ⟨g, j, none⟩ := by unfold Addr.add; split <;> simp_all

theorem grown_refl (w : World) (r : Option Nat) : w.grownBy w r := ⟨rfl, rfl, rfl, Nat.le_refl _, fun _ _ _ => rfl⟩
theorem grown_trans {a b c : World} {r : Option Nat} (h : a.grownBy b r) (k : b.grownBy c r) : a.grownBy c r :=
  ⟨k.os.trans h.os, k.tape.trans h.tape, k.output.trans h.output, Nat.le_trans h.size k.size, fun i hi hr => (k.block i (Nat.lt_of_lt_of_le hi h.size) hr).trans (h.block i hi hr)⟩
theorem grown_none {a b : World} {r : Option Nat} (h : a.grownBy b none) : a.grownBy b r := ⟨h.os, h.tape, h.output, h.size, fun i hi _ => h.block i hi (by simp)⟩
theorem grown_drew {a b : World} {r : Option Nat} (h : a.grownBy b r) : a.grownBy b.drew r := ⟨h.os, h.tape, h.output, h.size, h.block⟩
theorem grown_set {a b : World} {g : Nat} (h : a.grownBy b (some g)) {p : Addr} (hp : p.block = g) (u : Value) : a.grownBy (b.setCell p u) (some g) :=
  grown_trans h ⟨rfl, rfl, rfl, by simp, fun k hk hr => Below.heap_setCell _ _ _ _ (by rw [hp]; intro e; exact hr (by rw [e]))⟩
theorem grown_alloc {a b : World} {r : Option Nat} (h : a.grownBy b r) (o : Obj) : a.grownBy (b.alloc o) r := grown_trans h (World.grownBy_alloc b o r)

theorem below_grown {B : Nat} {a b : World} {r : Option Nat} (h : a.grownBy b r) (hB : B ≤ a.heap.size) (hr : ∀ k, r = some k → B ≤ k) : Below B a b :=
  (Below.refl B a).grown h hB hr

section
variable {w w' : World} {g : Nat} {e : TypeId} {cap : Nat} {xs : List Value}

theorem Own.lt (h : Own w g e cap xs) : g < w.heap.size := by
  obtain ⟨cur, h1, _⟩ := h
  exact (Array.getElem?_eq_some_iff.1 h1).1

theorem Own.length (h : Own w g e cap xs) : xs.length ≤ cap := by
  obtain ⟨cur, _, h1, t, h2⟩ := h
  have := congrArg List.length h2
  simp at this; omega

theorem Own.cell (h : Own w g e cap xs) {j : Nat} {u : Value} (hj : xs[j]? = some u) : w.cell? ((⟨g, 0, none⟩ : Addr).add j) = some u := by
  obtain ⟨cur, h1, h2, t, h3⟩ := h
  rw [add_lit, World.cell?, h1]
  simp only [Option.isSome_none, Bool.false_eq_true, if_false]
  have : cur[j]? = cur.toList[j]? := by simp
  rw [this, h3, List.getElem?_append_left (List.getElem?_eq_some_iff.1 hj).1, hj]

theorem Own.row (h : Own w g e cap xs) : Row w (some ⟨g, 0, none⟩) xs := fun j u hj => ⟨_, rfl, h.cell hj⟩

theorem Own.notFrozen (h : Own w g e cap xs) {p : Addr} (hp : p.block = g) : w.frozen? p = false := by
  obtain ⟨cur, h1, _⟩ := h
  rw [World.frozen?, hp, h1]; simp

theorem Own.of_heap (h : Own w g e cap xs) (hh : w'.heap[g]? = w.heap[g]?) : Own w' g e cap xs := by
  obtain ⟨cur, h1, h2⟩ := h
  exact ⟨cur, hh.trans h1, h2⟩

theorem Own.drew (h : Own w g e cap xs) : Own w.drew g e cap xs := h.of_heap rfl

theorem Own.kept {r : Option Nat} (h : Own w g e cap xs) (hg : w.grownBy w' r) (hr : some g ≠ r) : Own w' g e cap xs := h.of_heap (hg.block g h.lt hr)

theorem Own.kept_none (h : Own w g e cap xs) (hg : w.grownBy w' none) : Own w' g e cap xs := h.kept hg (by simp)

theorem Own.set (h : Own w g e cap xs) {j : Nat} (hj : j < xs.length) (u : Value) : Own (w.setCell ((⟨g, 0, none⟩ : Addr).add j) u) g e cap (xs.set j u) := by
  obtain ⟨cur, h1, h2, t, h3⟩ := h
  refine ⟨cur.setIfInBounds j u, ?_, by simpa using h2, t, ?_⟩
  · rw [add_lit]
    simp [World.setCell, Array.getElem?_modify, h1]
  · rw [Array.toList_setIfInBounds, h3, List.set_append_left _ _ hj]

theorem Own.ownsRow {base : Nat} (h : Own w g e cap xs) (hb : base ≤ g) (hc : cap ≤ maxLen) : w.ownsRow base e 1 (.slice (some ⟨g, 0, none⟩) xs.length cap) xs.length xs := by
  have hl := h.length
  obtain ⟨cur, h1, h2, t, h3⟩ := h
  refine ⟨by simp, .inr ⟨g, cap, cur, rfl, hb, h1, hl, hc, by simpa using h2, ?_⟩⟩
  rw [h3]; simp

theorem Own.of_ownsRow {base n : Nat} (h : w.ownsRow base e 1 (.slice (some ⟨g, 0, none⟩) n cap) n xs) : Own w g e cap xs ∧ base ≤ g ∧ cap ≤ maxLen ∧ n = xs.length := by
  obtain ⟨h1, h2⟩ := h
  rcases h2 with ⟨h2, _⟩ | ⟨g', cap', cur, h2, hb, hh, hn, hc, hs, ht⟩
  · cases h2
  · cases h2
    refine ⟨⟨cur, hh, by simpa using hs, cur.toList.drop (n * 1), ?_⟩, hb, hc, by omega⟩
    rw [← ht, List.take_append_drop]

/-- The member between two parts of a row: read, written. -/
theorem Own.cell_mid (h : Own w g e cap xs) {C D : List Value} {u : Value} {j : Nat} (he : xs = C ++ u :: D) (hj : j = C.length) : w.cell? ((⟨g, 0, none⟩ : Addr).add j) = some u :=
  h.cell (by subst he; subst hj; simp)

theorem Own.set_mid (h : Own w g e cap xs) {C D ys : List Value} {u v : Value} {j : Nat} (he : xs = C ++ u :: D) (hj : j = C.length) (hy : ys = C ++ v :: D) : Own (w.setCell ((⟨g, 0, none⟩ : Addr).add j) v) g e cap ys := by
  subst he; subst hj; subst hy
  have := h.set (j := C.length) (by simp) v
  simpa using this

/-- What a slice value owns, in either way. -/
def Owned (w : World) (base : Nat) (e : TypeId) (A : Option Addr) (n c : Nat) (xs : List Value) : Prop := w.ownsRow base e 1 (.slice A n c) n xs

theorem Owned.cases {base n c : Nat} {A : Option Addr} (h : Owned w base e A n c xs) : n = xs.length ∧ ((A = none ∧ n = 0 ∧ c = 0 ∧ xs = []) ∨ ∃ g, A = some ⟨g, 0, none⟩ ∧ base ≤ g ∧ c ≤ maxLen ∧ n ≤ c ∧ Own w g e c xs) := by
  have h0 := h
  obtain ⟨h1, h2⟩ := h
  refine ⟨by omega, ?_⟩
  rcases h2 with ⟨h2, h3⟩ | ⟨g', cap', cur, h2, hb, hh, hn, hc, hs, ht⟩
  · cases h2
    exact .inl ⟨rfl, rfl, rfl, List.eq_nil_of_length_eq_zero (by omega)⟩
  · cases h2
    exact .inr ⟨g', rfl, hb, hc, hn, (Own.of_ownsRow h0).1⟩

theorem Owned.row {base n c : Nat} {A : Option Addr} (h : Owned w base e A n c xs) : Row w A xs := by
  obtain ⟨h1, h2⟩ := h.cases
  rcases h2 with ⟨rfl, _, _, rfl⟩ | ⟨g, rfl, _, _, _, h3⟩
  · intro j u hj; simp at hj
  · exact h3.row

theorem Owned.kept {base n c : Nat} {A : Option Addr} (h : Owned w base e A n c xs) (hg : w.grownBy w' none) : Owned w' base e A n c xs := World.ownsRow.kept h hg (by cases h : (Value.slice A n c).ownBlock <;> simp)

theorem Owned.mono {base base' n c : Nat} {A : Option Addr} (h : Owned w base e A n c xs) (hb : base' ≤ base) : Owned w base' e A n c xs := by
  obtain ⟨h1, h2⟩ := h
  refine ⟨h1, h2.imp id ?_⟩
  rintro ⟨g', cap', cur, h2, hb', r⟩
  exact ⟨g', cap', cur, h2, by omega, r⟩

/-- A block below 'base' that is written leaves the row. -/
theorem Owned.kept_low {base n c : Nat} {A : Option Addr} {r : Option Nat} (h : Owned w base e A n c xs) (hg : w.grownBy w' r) (hr : ∀ k, r = some k → k < base) : Owned w' base e A n c xs := by
  refine World.ownsRow.kept h hg ?_
  cases hv : (Value.slice A n c).ownBlock with
  | none => simp
  | some k =>
    right
    intro e
    have := (World.ownsRow.lt h k hv).1
    have := hr k e.symm
    omega

theorem Row.of_cells {A : Option Addr} (h : Row w A xs) (hc : ∀ a v, w.cell? a = some v → w'.cell? a = some v) : Row w' A xs := fun j u hj => by
  obtain ⟨a, h1, h2⟩ := h j u hj
  exact ⟨a, h1, hc _ _ h2⟩

theorem Row.drew {A : Option Addr} (h : Row w A xs) : Row w.drew A xs := h
theorem Row.nil (w : World) (A : Option Addr) : Row w A [] := fun j u hj => by simp at hj

theorem Row.kept {A : Option Addr} {r : Option Nat} (h : Row w A xs) (hg : w.grownBy w' r) (hr : ∀ a, A = some a → some a.block ≠ r) : Row w' A xs := fun j u hj => by
  obtain ⟨a, h1, h2⟩ := h j u hj
  refine ⟨a, h1, hg.cell h2 ?_⟩
  rw [add_block]
  exact hr a h1

theorem Row.kept_none {A : Option Addr} (h : Row w A xs) (hg : w.grownBy w' none) : Row w' A xs := h.kept hg (by simp)

theorem Row.below {A : Option Addr} {B : Nat} (h : Row w A xs) (hg : Below B w w') (hr : ∀ a, A = some a → a.block < B) : Row w' A xs := fun j u hj => by
  obtain ⟨a, h1, h2⟩ := h j u hj
  refine ⟨a, h1, ?_⟩
  rw [hg.cell (by rw [add_block]; exact hr a h1)]
  exact h2

/-- A reading of the VC: the cell at an index. -/
theorem Row.at_ {A : Option Addr} (h : Row w A xs) {i : Int} {u : Value} (h0 : 0 ≤ i) (hi : xs[i.toNat]? = some u) : ∃ a, A = some a ∧ 0 ≤ i ∧ i < (xs.length : Int) ∧ w.cell? (a.add i.toNat) = some u := by
  obtain ⟨a, h1, h2⟩ := h _ _ hi
  have := (List.getElem?_eq_some_iff.1 hi).1
  exact ⟨a, h1, h0, by omega, h2⟩

theorem add_add (a : Addr) (i j : Nat) : (a.add i).add j = a.add (i + j) := by
  unfold Addr.add
  by_cases hi : i = 0
  · simp [hi]
  · by_cases hj : j = 0
    · simp [hi, hj]
    · simp [hi, hj, Nat.add_assoc]

theorem Row.drop {A : Option Addr} (h : Row w A xs) (k : Nat) : Row w (A.map (·.add k)) (xs.drop k) := fun j u hj => by
  rw [List.getElem?_drop] at hj
  obtain ⟨a, h1, h2⟩ := h _ _ hj
  refine ⟨a.add k, by rw [h1]; rfl, ?_⟩
  rw [add_add]; exact h2

theorem Row.take {A : Option Addr} (h : Row w A xs) (k : Nat) : Row w A (xs.take k) := fun j u hj => by
  rw [List.getElem?_take] at hj
  split at hj
  · exact h j u hj
  · cases hj
end
end Go.V
