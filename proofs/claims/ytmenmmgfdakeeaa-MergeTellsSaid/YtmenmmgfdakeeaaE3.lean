/- archipelagoref5.Lengths: what it computes. -/
import Derived.Test.YtmenmmgfdakeeaaE0
import Derived.Test.YtmenmmgfdakeeaaE2
namespace Go.Proofs.Ytmenmmgfdakeeaa
open Go Go.V Go.RowKit
set_option linter.unusedVariables false
set_option linter.unusedSimpArgs false
set_option maxHeartbeats 4000000
set_option maxRecDepth 100000

theorem ins_at {α : Type} {key : α → Int} {x : α} : ∀ {l : List α} {k : Nat}, k ≤ l.length → (∀ i (h : i < l.length), i < k → key l[i] ≤ key x) → (∀ i (h : i < l.length), k ≤ i → key x < key l[i]) → ins key x l = l.take k ++ x :: l.drop k
  | [], k, hk, _, _ => by simp [ins]
  | y :: l, 0, _, _, h2 => by
    have := h2 0 (by simp) (by omega)
    simp only [List.getElem_cons_zero] at this
    simp [ins, show ¬ key y ≤ key x by omega]
  | y :: l, k + 1, hk, h1, h2 => by
    have := h1 0 (by simp) (by omega)
    simp only [List.getElem_cons_zero] at this
    have ih := ins_at (key := key) (x := x) (l := l) (k := k) (by simpa using hk) (fun i h hi => h1 (i + 1) (by simp; omega) (by omega)) (fun i h hi => h2 (i + 1) (by simp; omega) (by omega))
    simp [ins, this, ih]

theorem coinsL_snoc {xs : List Int} {s : Nat} (hs : s < xs.length) : coinsL (xs.take (s + 1)) = if xs[s] > 0 then ins Prod.fst (manyL xs[s], [s]) (coinsL (xs.take s)) else coinsL (xs.take s) := by
  unfold coinsL
  rw [List.take_succ_eq_append_getElem hs, rawCoins_append]
  have hl : (xs.take s).length = s := by simp; omega
  rw [hl, Nat.zero_add]
  have e : rawCoins s [xs[s]] = if xs[s] > 0 then [(manyL xs[s], [s])] else [] := by simp [rawCoins]
  rw [e]
  split
  · simp [inOrder, List.foldl_append]
  · simp

theorem rc_appends {w : World} {base n c m d : Nat} {A B : Option Addr} {L M : List RC} (ho : OwnedK w base 136 2 A n c (rcs L)) (hB : Row w B (rcs M)) (hm : m = M.length) (hd : B = none → d = 0) (hnl : n = L.length) (hn : n + m ≤ 2 ^ 30) (hb : base ≤ w.heap.size) :
    ∃ (A' : Option Addr) (n' c' : Nat) (w' : World), Sem.run P (Builtin.append_ #[133, 133] 133 #[.slice A n c, .slice B m d]) w = .ok (.slice A' n' c') w' ∧
      OwnedK w' base 136 2 A' n' c' (rcs (L ++ M)) ∧ n' = (L ++ M).length ∧ w.grownBy w' (Value.slice A n c).ownBlock := by
  cases B with
  | none =>
    have : M = [] := by
      cases M with
      | nil => rfl
      | cons r M =>
        obtain ⟨a, h, _⟩ := hB 0 (.int .i64 r.count) (by simp [rcs, rcCells])
        cases h
    subst this
    have hd0 := hd rfl
    subst hd0
    have hm0 : m = 0 := by simpa using hm
    subst hm0
    exact ⟨A, n, c, w, ho.appends_nil elemCoin, by simpa using ho, by simpa using hnl, grown_refl _ _⟩
  | some a =>
    obtain ⟨A', n', c', w', h1, h2, h3, h4, _⟩ := ho.appends (ty := 133) elemCoin bytesCoin (a := a) (m := m) (cc := d) (us := rcs M) (by rw [rcs_length, hm]) (fun j u hj => by obtain ⟨b, e1, e2⟩ := hB j u hj; cases e1; exact e2) (fun u hu => by
      obtain ⟨x, _, hx⟩ := List.mem_flatMap.1 hu
      simp [rcCells] at hx
      rcases hx with rfl | rfl <;> rfl) (by omega) hb
    exact ⟨A', n', c', w', h1, by rw [rcs_append]; exact h2, by rw [h3, hnl, hm]; simp, h4⟩

theorem rc_keep {w w' : World} {base n c : Nat} {A : Option Addr} {L : List RC} {G : Option Nat} (ho : OwnedK w base 136 2 A n c (rcs L)) (hg : w.grownBy w' (Value.slice A n c).ownBlock) {r : RC} (h : SymOk w G r) : SymOk w' G r := by
  refine h.keep hg fun g hg3 => ?_
  obtain ⟨cur, h7⟩ := ho.block_type g hg3
  exact .inr ⟨cur, 136, _, h7, by decide⟩

theorem SymOk.away {w : World} {r : RC} (h : SymOk w none r) {g : Nat} (hg : w.heap.size ≤ g) : SymOk w (some g) r := by
  obtain ⟨h1, h2, h3, h4⟩ := h
  refine ⟨h1, h2, h3, fun a ha => ?_⟩
  obtain ⟨_, cur, fr, h6⟩ := h4 a ha
  refine ⟨fun e => ?_, cur, fr, h6⟩
  have := (Array.getElem?_eq_some_iff.1 h6).1
  cases e
  omega

theorem cut_row {w : World} {A : Option Addr} {n c k : Nat} {C : List RC} (h : Row w A (rcs C)) (hA : A = none → c = 0) (hc : C.length ≤ c) : Row w (cutA A c k 2) (rcs (C.drop k)) ∧ (cutA A c k 2 = none → c - k = 0) := by
  unfold cutA
  split
  · rename_i hck
    refine ⟨?_, fun _ => by omega⟩
    rw [List.drop_eq_nil_of_le (by omega)]
    intro j u hj; simp [rcs] at hj
  · have := h.drop (k * 2)
    rw [rcs_drop] at this
    refine ⟨this, fun e => ?_⟩
    cases A with
    | none => rw [hA rfl]; omega
    | some a => simp at e
end Go.Proofs.Ytmenmmgfdakeeaa
