/- archipelagoref5: coins in memory; merged: what it computes. -/
import Derived.Test.YtmenmmgfdakeeaaD5
import Derived.Test.YtmenmmgfdakeeaaM3
import Derived.Test.YtmenmmgfdakeeaaXR
namespace Go.Proofs.Ytmenmmgfdakeeaa
open Go Go.V Go.RowKit
set_option linter.unusedVariables false
set_option linter.unusedSimpArgs false
set_option maxHeartbeats 2000000
set_option maxRecDepth 100000

theorem elemCoin : ElemK P 133 136 2 (P.bytesOf 136) := ⟨(P.info? 136).getD default, ((P.info? 136).getD default).zero.getD undef, by kernel_rfl, by kernel_rfl, by kernel_rfl, by kernel_rfl, by kernel_rfl, by kernel_rfl, by omega⟩
theorem bytesCoin : P.bytesOf 136 ≤ 64 := of_decide_eq_true (by kernel_rfl)

/-- A coin as it lies in a row: its count, the slice of its symbols. -/
structure RC where
  count : Int
  A : Option Addr
  n : Nat
  c : Nat
  syms : List Nat

def rcCells (r : RC) : List Value := [.int .i64 r.count, .slice r.A r.n r.c]
def rcs (L : List RC) : List Value := L.flatMap rcCells
def rcCoin (r : RC) : Coin := (r.count, r.syms)

theorem rcs_length (L : List RC) : (rcs L).length = L.length * 2 := by
  induction L with
  | nil => rfl
  | cons r L ih =>
    have : rcs (r :: L) = rcCells r ++ rcs L := rfl
    rw [this, List.length_append, ih]; simp [rcCells]; omega
theorem rcs_append (L M : List RC) : rcs (L ++ M) = rcs L ++ rcs M := by simp [rcs]
theorem rcs_get : ∀ {L : List RC} {i : Nat} (h : i < L.length), (rcs L)[i * 2]? = some (.int .i64 L[i].count) ∧ (rcs L)[i * 2 + 1]? = some (.slice L[i].A L[i].n L[i].c)
  | r :: L, 0, h => by simp [rcs, rcCells]
  | r :: L, i + 1, h => by
    have ih := rcs_get (L := L) (i := i) (by simpa using h)
    have e : rcs (r :: L) = .int .i64 r.count :: .slice r.A r.n r.c :: rcs L := rfl
    rw [e, show (i + 1) * 2 = (i * 2 + 1) + 1 by omega]
    simpa using ih
theorem rcs_drop (L : List RC) (k : Nat) : (rcs L).drop (k * 2) = rcs (L.drop k) := by
  induction L generalizing k with
  | nil => simp [rcs]
  | cons r L ih =>
    cases k with
    | zero => simp
    | succ k =>
      have e : rcs (r :: L) = .int .i64 r.count :: .slice r.A r.n r.c :: rcs L := rfl
      rw [e, show (k + 1) * 2 = (k * 2 + 1) + 1 by omega]
      simpa using ih k
theorem rcs_take (L : List RC) (k : Nat) : (rcs L).take (k * 2) = rcs (L.take k) := by
  induction L generalizing k with
  | nil => simp [rcs]
  | cons r L ih =>
    cases k with
    | zero => simp [rcs]
    | succ k =>
      have e : rcs (r :: L) = .int .i64 r.count :: .slice r.A r.n r.c :: rcs L := rfl
      have e2 : rcs (r :: L.take k) = .int .i64 r.count :: .slice r.A r.n r.c :: rcs (L.take k) := rfl
      rw [e, show (k + 1) * 2 = (k * 2 + 1) + 1 by omega, List.take_succ_cons, List.take_succ_cons, ih k, List.take_succ_cons, e2]

abbrev nats (s : List Nat) : List Value := s.map fun x : Nat => Value.int .i64 (x : Int)

/-- A coin's symbols stand in memory, in a block of numbers that is not G. -/
def SymOk (w : World) (G : Option Nat) (r : RC) : Prop :=
  Row w r.A (nats r.syms) ∧ r.n = r.syms.length ∧ 0 < r.n ∧ ∀ a, r.A = some a → some a.block ≠ G ∧ ∃ (cur : Array Value) (fr : Nat × Nat), w.heap[a.block]? = some (.cells cur 3 fr)

theorem SymOk.keep {w w' : World} {G : Option Nat} {r : RC} {q : Option Nat} (h : SymOk w G r) (hg : w.grownBy w' q) (hq : ∀ g, q = some g → some g = G ∨ ∃ (cur : Array Value) (e : TypeId) (fr : Nat × Nat), w.heap[g]? = some (.cells cur e fr) ∧ e ≠ 3) : SymOk w' G r := by
  obtain ⟨h1, h2, h3, h4⟩ := h
  have hne : ∀ a, r.A = some a → some a.block ≠ q := by
    intro a ha e
    obtain ⟨h5, cur, fr, h6⟩ := h4 a ha
    rcases hq a.block e.symm with h | ⟨cur', e', fr', h7, h8⟩
    · exact h5 h
    · rw [h6] at h7
      cases h7
      exact h8 rfl
  refine ⟨h1.kept hg hne, h2, h3, fun a ha => ?_⟩
  obtain ⟨h5, cur, fr, h6⟩ := h4 a ha
  exact ⟨h5, cur, fr, by rw [hg.block a.block (Array.getElem?_eq_some_iff.1 h6).1 (hne a ha)]; exact h6⟩
theorem SymOk.keep_none {w w' : World} {G : Option Nat} {r : RC} (h : SymOk w G r) (hg : w.grownBy w' none) : SymOk w' G r := h.keep hg (by simp)

/-- A fresh row of symbols. -/
theorem SymOk.fresh {w : World} {G : Option Nat} {base n c : Nat} {A : Option Addr} {s : List Nat} (ho : OwnedK w base 3 1 A n c (nats s)) (hs : 0 < s.length) (hG : ∀ g, G = some g → g < base) (k : Int) : SymOk w G ⟨k, A, n, c, s⟩ := by
  obtain ⟨h1, h2 | ⟨g, cur, rfl, hb, _, _, hh, _⟩⟩ := ho.cases
  · obtain ⟨rfl, rfl, _, h⟩ := h2
    have : s = [] := by simpa using h
    subst this; simp at hs
  · have hn : n = s.length := by simpa using h1.symm
    refine ⟨ho.row, hn, by show 0 < n; omega, fun a ha => ?_⟩
    cases ha
    refine ⟨fun e => ?_, cur, (0, 0), hh⟩
    have := hG g e.symm
    omega

theorem elemKInt : ElemK P 22 3 1 8 := ⟨(P.info? 3).getD default, .int .i64 0, by kernel_rfl, by kernel_rfl, by kernel_rfl, by kernel_rfl, by kernel_rfl, by kernel_rfl, by omega⟩

/-- Symbols behind symbols. -/
theorem syms_append {w : World} {base n c m d : Nat} {A B : Option Addr} {s t : List Nat} (ho : OwnedK w base 3 1 A n c (nats s)) (hB : Row w B (nats t)) (hm : m = t.length) (ht : 0 < m) (hn : n + m ≤ 2 ^ 40) (hb : base ≤ w.heap.size) :
    ∃ (A' : Option Addr) (n' c' : Nat) (w' : World), Sem.run P (Builtin.append_ #[22, 22] 22 #[.slice A n c, .slice B m d]) w = .ok (.slice A' n' c') w' ∧ OwnedK w' base 3 1 A' n' c' (nats (s ++ t)) ∧ n' = n + m ∧ w.grownBy w' (Value.slice A n c).ownBlock := by
  cases t with
  | nil => simp at hm; omega
  | cons x t =>
    obtain ⟨a, rfl, _⟩ := hB 0 (.int .i64 (x : Int)) (by simp [nats])
    obtain ⟨A', n', c', w', h1, h2, h3, h4, _⟩ := ho.appends (ty := 22) elemKInt (by omega) (a := a) (m := m) (cc := d) (us := nats (x :: t)) (by simp [nats, hm]) (fun j u hj => by obtain ⟨b, e1, e2⟩ := hB j u hj; cases e1; exact e2) (fun u hu => by obtain ⟨y, _, rfl⟩ := List.mem_map.1 hu; rfl) hn hb
    exact ⟨A', n', c', w', h1, by simpa [nats] using h2, h3, h4⟩

/-- One coin behind a row of coins. -/
theorem coin_append {w : World} {base n c : Nat} {A : Option Addr} {L : List RC} {r : RC} (ho : OwnedK w base 136 2 A n c (rcs L)) (hn : n ≤ 2 ^ 30) (hb : base ≤ w.heap.size) :
    ∃ (A' : Option Addr) (n' c' : Nat) (w' : World), Sem.run P (Builtin.append_ #[133, 133] 133 #[.slice A n c, .slice (some ⟨w.heap.size, 0, none⟩) 1 1]) (w.alloc (.cells #[.int .i64 r.count, .slice r.A r.n r.c] 136)) = .ok (.slice A' n' c') w' ∧
      OwnedK w' base 136 2 A' n' c' (rcs (L ++ [r])) ∧ n' = n + 1 ∧ w.grownBy w' (Value.slice A n c).ownBlock ∧
      ((Value.slice A' n' c').ownBlock = (Value.slice A n c).ownBlock ∨ ∃ g, (Value.slice A' n' c').ownBlock = some g ∧ w.heap.size ≤ g) := by
  have g := World.grownBy_alloc w (.cells #[.int .i64 r.count, .slice r.A r.n r.c] 136) none
  have hr := row_alloc w #[.int .i64 r.count, .slice r.A r.n r.c] 136
  obtain ⟨A', n', c', w', h1, h2, h3, h4, h5⟩ := (ho.kept g).appends (ty := 133) elemCoin bytesCoin (a := ⟨w.heap.size, 0, none⟩) (m := 1) (cc := 1) (us := rcCells r) rfl (fun j u hj => by obtain ⟨b, e1, e2⟩ := hr j u hj; cases e1; exact e2) (fun u hu => by simp [rcCells] at hu; rcases hu with rfl | rfl <;> rfl) (by omega) (Nat.le_trans hb g.size)
  exact ⟨A', n', c', w', h1, by rw [rcs_append]; simpa [rcs] using h2, h3, grown_trans (grown_none g) h4, h5.imp id fun h => ⟨_, h, g.size⟩⟩
end Go.Proofs.Ytmenmmgfdakeeaa
