/- Rows that a call builds: one member more; a row made. No program. -/
import Derived.Test.YtmenmmgfdakeeaaM1
import Derived.Laws.OwnMore
namespace Go.V
open Go Go.RowKit
set_option linter.unusedVariables false

/-- What is asked of a slice type's element, for append and make: one cell, so many bytes. -/
structure Elem (P : Program) (t e : TypeId) (z : Value) (bytes : Nat) : Prop where
  ex : ∃ i : TypeInfo, P.underlying t = some (.slice e) ∧ P.info? e = some i ∧ i.zero = some z ∧ i.size = 1 ∧ i.bytes = bytes ∧ z.cells = #[z]

section
variable {P : Program} {w0 w : World} {base : Nat} {e t ty : TypeId} {A : Option Addr} {n c : Nat} {xs : List Value} {z : Value} {bytes : Nat}

theorem grown_own {r : Option Nat} {w1 w2 : World} (h : w0.grownBy w1 none) (hg : w1.grownBy w2 r) (hr : ∀ k, r = some k → w0.heap.size ≤ k) : w0.grownBy w2 none :=
  ⟨hg.os.trans h.os, hg.tape.trans h.tape, hg.output.trans h.output, Nat.le_trans h.size hg.size, fun k hk _ =>
    (hg.block k (Nat.lt_of_lt_of_le hk h.size) (fun e => by have := hr k e.symm; omega)).trans (h.block k hk (by simp))⟩

theorem Owned.block_ge (h : Owned w base e A n c xs) : ∀ k, (Value.slice A n c).ownBlock = some k → base ≤ k := fun k hk => (World.ownsRow.lt h k hk).1

/-- Members behind those that a row owns. -/
theorem Owned.appends (hE : Elem P t e z bytes) (hb : bytes ≤ 64) (h : Owned w base e A n c xs) {a : Addr} {m cc : Nat} {us : List Value} (hm : us.length = m) (ha : ∀ j u, us[j]? = some u → w.cell? (a.add j) = some u) (hu : ∀ u ∈ us, u.oneCell' = true) (hn : n + m ≤ 2 ^ 40) (hbase : base ≤ w.heap.size) :
    ∃ (A' : Option Addr) (n' c' : Nat) (w' : World), Sem.run P (Builtin.append_ #[t, t] ty #[.slice A n c, .slice (some a) m cc]) w = .ok (.slice A' n' c') w' ∧ Owned w' base e A' n' c' (xs ++ us) ∧ w.grownBy w' (Value.slice A n c).ownBlock := by
  obtain ⟨i, h1, h2, h3, h4, h5, h6⟩ := hE.ex
  have hmul : (n + m) * bytes ≤ 2 ^ 40 * 64 := Nat.mul_le_mul hn hb
  obtain ⟨v', w', hr, ho, hg, _⟩ := run_append_own (P := P) w base t ty e i z 1 bytes h1 h2 h3 h4 h5 (by rw [h6]; rfl) (by omega) _ n xs h a m cc us (by omega) ha hu (by simp only [maxLen]; omega) (by omega) hbase
  rcases ho.2 with ⟨rfl, hz⟩ | ⟨g, cap, cur, rfl, r⟩
  · have ho' := ho
    rw [hz] at ho'
    exact ⟨_, _, _, w', hr, ho', hg⟩
  · exact ⟨_, _, _, w', hr, ho, hg⟩

theorem Owned.append1 (hE : Elem P t e z bytes) (hb : bytes ≤ 64) (h : Owned w base e A n c xs) {a : Addr} {cc : Nat} {u : Value} (ha : w.cell? a = some u) (hu : u.oneCell' = true) (hn : n + 1 ≤ 2 ^ 40) (hbase : base ≤ w.heap.size) :
    ∃ (A' : Option Addr) (n' c' : Nat) (w' : World), Sem.run P (Builtin.append_ #[t, t] ty #[.slice A n c, .slice (some a) 1 cc]) w = .ok (.slice A' n' c') w' ∧ Owned w' base e A' n' c' (xs ++ [u]) ∧ w.grownBy w' (Value.slice A n c).ownBlock := by
  refine h.appends hE hb rfl ?_ (by simpa using hu) hn hbase
  intro j v hj
  cases j with
  | zero =>
    have : a.add 0 = a := by simp [Addr.add]
    rw [this]
    simpa using hj ▸ ha
  | succ j => simp at hj

/-- A row of so many noughts. -/
theorem run_made (hE : Elem P t e z bytes) (hb : bytes ≤ 64) {m : Nat} (hm : m ≤ 2 ^ 40) :
    ∃ w', Sem.run P (Instr.makeSlice t (.int .i64 (m : Int)) (.int .i64 (m : Int))) w = .ok (.slice (some ⟨w.heap.size, 0, none⟩) m m) w' ∧ Own w' w.heap.size e m (List.replicate m z) ∧ w.grownBy w' none := by
  obtain ⟨i, h1, h2, h3, h4, h5, h6⟩ := hE.ex
  have hmul : bytes * m ≤ 64 * 2 ^ 40 := Nat.mul_le_mul hb hm
  obtain ⟨w', hr, ho, hg⟩ := run_make_full (P := P) w w.heap.size t e i z 1 h1 h2 h3 h4 .i64 .i64 m (by rw [h5]; omega) (by simp only [maxLen]; omega) (Nat.le_refl _)
  rw [h6, toList_madeCells_one, Nat.mul_one] at ho
  exact ⟨w', hr, (Own.of_ownsRow ho).1, hg⟩
end
end Go.V
