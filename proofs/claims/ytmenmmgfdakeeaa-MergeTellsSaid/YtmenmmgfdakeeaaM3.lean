/- Rows of elements of several cells: read, appended to. No program. -/
import Derived.Test.YtmenmmgfdakeeaaM2
import Derived.Maps.AppendAt
namespace Go.V
open Go Go.RowKit
set_option linter.unusedVariables false

/-- What a slice value owns: n elements of so many cells each, cell by cell. -/
def OwnedK (w : World) (base : Nat) (e : TypeId) (size : Nat) (A : Option Addr) (n c : Nat) (xs : List Value) : Prop := w.ownsRow base e size (.slice A n c) n xs

/-- What is asked of a slice type's element of several cells. -/
structure ElemK (P : Program) (t e : TypeId) (size bytes : Nat) : Prop where
  ex : ∃ (i : TypeInfo) (z : Value), P.underlying t = some (.slice e) ∧ P.info? e = some i ∧ i.zero = some z ∧ i.size = size ∧ i.bytes = bytes ∧ z.cells.size = size ∧ 0 < size

section
variable {P : Program} {w0 w w' : World} {base size : Nat} {e t ty : TypeId} {A : Option Addr} {n c : Nat} {xs : List Value} {bytes : Nat}

theorem OwnedK.nil (w : World) (base : Nat) (e : TypeId) (size : Nat) : OwnedK w base e size none 0 0 [] := World.ownsRow_nil _ _ _ _

theorem OwnedK.cases (h : OwnedK w base e size A n c xs) : xs.length = n * size ∧ ((A = none ∧ n = 0 ∧ c = 0 ∧ xs = []) ∨ ∃ (g : Nat) (cur : Array Value), A = some ⟨g, 0, none⟩ ∧ base ≤ g ∧ c ≤ maxLen ∧ n ≤ c ∧ w.heap[g]? = some (.cells cur e (0, 0)) ∧ cur.size = c * size ∧ cur.toList.take (n * size) = xs) := by
  obtain ⟨h1, h2⟩ := h
  refine ⟨h1, ?_⟩
  rcases h2 with ⟨h2, h3⟩ | ⟨g', cap', cur, h2, hb, hh, hn, hc, hs, ht⟩
  · cases h2
    exact .inl ⟨rfl, rfl, rfl, List.eq_nil_of_length_eq_zero (by simpa using h1)⟩
  · cases h2
    exact .inr ⟨g', cur, rfl, hb, hc, hn, hh, hs, ht⟩

theorem OwnedK.row (h : OwnedK w base e size A n c xs) : Row w A xs := by
  intro j u hj
  obtain ⟨h1, h2 | ⟨g, cur, rfl, _⟩⟩ := h.cases
  · obtain ⟨_, _, _, rfl⟩ := h2; simp at hj
  · exact ⟨_, rfl, World.ownsRow.cells h (g := g) rfl j u hj⟩

theorem OwnedK.kept (h : OwnedK w base e size A n c xs) (hg : w.grownBy w' none) : OwnedK w' base e size A n c xs := World.ownsRow.kept h hg (by cases h : (Value.slice A n c).ownBlock <;> simp)

theorem OwnedK.apart {r : Option Nat} (h : OwnedK w base e size A n c xs) (hg : w.grownBy w' r) (hr : (Value.slice A n c).ownBlock = none ∨ (Value.slice A n c).ownBlock ≠ r) : OwnedK w' base e size A n c xs := World.ownsRow.kept h hg hr

theorem OwnedK.mono {base' : Nat} (h : OwnedK w base e size A n c xs) (hb : base' ≤ base) : OwnedK w base' e size A n c xs := by
  obtain ⟨h1, h2⟩ := h
  refine ⟨h1, h2.imp id ?_⟩
  rintro ⟨g', cap', cur, h2, hb', r⟩
  exact ⟨g', cap', cur, h2, by omega, r⟩

theorem OwnedK.block_ge (h : OwnedK w base e size A n c xs) : ∀ k, (Value.slice A n c).ownBlock = some k → base ≤ k := fun k hk => (World.ownsRow.lt h k hk).1
theorem OwnedK.block_lt (h : OwnedK w base e size A n c xs) : ∀ k, (Value.slice A n c).ownBlock = some k → k < w.heap.size := fun k hk => (World.ownsRow.lt h k hk).2

/-- The row's block is of the elements' type. -/
theorem OwnedK.block_type (h : OwnedK w base e size A n c xs) : ∀ k, (Value.slice A n c).ownBlock = some k → ∃ cur, w.heap[k]? = some (.cells cur e (0, 0)) := by
  intro k hk
  obtain ⟨_, h2 | ⟨g, cur, rfl, _, _, _, hh, _⟩⟩ := h.cases
  · obtain ⟨rfl, _⟩ := h2; simp [Value.ownBlock] at hk
  · simp [Value.ownBlock] at hk; subst hk; exact ⟨cur, hh⟩

/-- Elements behind those that a row owns. -/
theorem OwnedK.appends (hE : ElemK P t e size bytes) (hb : bytes ≤ 64) (h : OwnedK w base e size A n c xs) {a : Addr} {m cc : Nat} {us : List Value} (hm : us.length = m * size) (ha : ∀ j u, us[j]? = some u → w.cell? (a.add j) = some u) (hu : ∀ u ∈ us, u.oneCell' = true) (hn : n + m ≤ 2 ^ 40) (hbase : base ≤ w.heap.size) :
    ∃ (A' : Option Addr) (n' c' : Nat) (w' : World), Sem.run P (Builtin.append_ #[t, t] ty #[.slice A n c, .slice (some a) m cc]) w = .ok (.slice A' n' c') w' ∧ OwnedK w' base e size A' n' c' (xs ++ us) ∧ n' = n + m ∧ w.grownBy w' (Value.slice A n c).ownBlock ∧
      ((Value.slice A' n' c').ownBlock = (Value.slice A n c).ownBlock ∨ (Value.slice A' n' c').ownBlock = some w.heap.size) := by
  obtain ⟨i, z, h1, h2, h3, h4, h5, h6, h7⟩ := hE.ex
  have hmul : (n + m) * bytes ≤ 2 ^ 40 * 64 := Nat.mul_le_mul hn hb
  obtain ⟨v', w', hr, ho, hg, _, hat⟩ := run_append_own_at (P := P) w base t ty e i z size bytes h1 h2 h3 h4 h5 h6 h7 _ n xs h a m cc us hm ha hu (by simp only [maxLen]; omega) (by omega) hbase
  rcases ho.2 with ⟨rfl, hz⟩ | ⟨g, cap, cur, rfl, r⟩
  · have ho' := ho
    rw [hz] at ho'
    exact ⟨_, _, _, w', hr, ho', hz.symm, hg, hat⟩
  · exact ⟨_, _, _, w', hr, ho, rfl, hg, hat⟩

theorem OwnedK.appends_nil (hE : ElemK P t e size bytes) (h : OwnedK w base e size A n c xs) : Sem.run P (Builtin.append_ #[t, t] ty #[.slice A n c, .slice none 0 0]) w = .ok (.slice A n c) w := by
  obtain ⟨i, z, h1, h2, h3, h4, h5, h6, h7⟩ := hE.ex
  exact run_append_owned_none (P := P) w base t ty e i size h1 h2 _ _ _ h
end
end Go.V
