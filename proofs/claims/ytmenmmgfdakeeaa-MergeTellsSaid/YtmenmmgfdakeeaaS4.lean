/- Lengths of codes by coins and packages are the best ones: lists alone. Plain Lean; no program. -/
import Derived.Test.YtmenmmgfdakeeaaS3
namespace Go.V
set_option linter.unusedVariables false
set_option linter.unusedSimpArgs false

/-- The sum of f over the numbers below n. -/
def sumTo : Nat → (Nat → Int) → Int
  | 0, _ => 0
  | n + 1, f => sumTo n f + f n

theorem sumTo_congr {f g : Nat → Int} : ∀ {n : Nat}, (∀ i, i < n → f i = g i) → sumTo n f = sumTo n g
  | 0, _ => rfl
  | n + 1, h => by
    have h1 := sumTo_congr (n := n) (fun i hi => h i (by omega))
    have h2 := h n (by omega)
    simp only [sumTo]; omega
theorem sumTo_add (f g : Nat → Int) : ∀ n, sumTo n (fun i => f i + g i) = sumTo n f + sumTo n g
  | 0 => rfl
  | n + 1 => by simp only [sumTo, sumTo_add f g n]; omega
theorem sumTo_zero : ∀ n, sumTo n (fun _ => 0) = 0
  | 0 => rfl
  | n + 1 => by simp only [sumTo, sumTo_zero n]; omega
theorem sumTo_le {f g : Nat → Int} : ∀ {n : Nat}, (∀ i, i < n → f i ≤ g i) → sumTo n f ≤ sumTo n g
  | 0, _ => Int.le_refl _
  | n + 1, h => by
    have := sumTo_le (n := n) (fun i hi => h i (by omega))
    have := h n (by omega)
    simp only [sumTo]; omega
theorem sumTo_const (c : Int) : ∀ n : Nat, sumTo n (fun _ => c) = n * c
  | 0 => by simp [sumTo]
  | n + 1 => by simp only [sumTo, sumTo_const c n]; rw [show ((n + 1 : Nat) : Int) = (n : Int) + 1 by omega, Int.add_mul, Int.one_mul]
theorem sumTo_cut (f : Nat → Int) {a : Nat} : ∀ {n : Nat}, a ≤ n → sumTo n (fun i => if i < a then f i else 0) = sumTo a f
  | 0, h => by
    have : a = 0 := by omega
    subst this; rfl
  | n + 1, h => by
    by_cases e : a = n + 1
    · subst e
      apply sumTo_congr
      intro i hi; simp [hi]
    · have := sumTo_cut f (a := a) (n := n) (by omega)
      simp only [sumTo, this]
      rw [if_neg (by omega)]; omega
theorem sumTo_mul (c : Int) (f : Nat → Int) : ∀ n, sumTo n (fun i => c * f i) = c * sumTo n f
  | 0 => by simp [sumTo]
  | n + 1 => by simp only [sumTo, sumTo_mul c f n, Int.mul_add]

def wt (l : List Coin) : Int := (l.map Prod.fst).sum
def cI (first : List Coin) (i : Nat) : Int := (first.getD i (0, [])).1

theorem wt_append (a b : List Coin) : wt (a ++ b) = wt a + wt b := by simp [wt]
theorem wt_cons (a : Coin) (b : List Coin) : wt (a :: b) = a.1 + wt b := by simp [wt]
theorem wt_nil : wt [] = 0 := rfl
theorem wt_perm {a b : List Coin} (h : a.Perm b) : wt a = wt b := by
  induction h with
  | nil => rfl
  | cons x _ ih => rw [wt_cons, wt_cons, ih]
  | swap x y l => rw [wt_cons, wt_cons, wt_cons, wt_cons]; omega
  | trans _ _ h1 h2 => exact h1.trans h2

theorem wt_take (first : List Coin) : ∀ {a : Nat}, a ≤ first.length → wt (first.take a) = sumTo a (cI first)
  | 0, _ => by simp [wt, sumTo]
  | a + 1, h => by
    have h' : a < first.length := by omega
    rw [List.take_succ_eq_append_getElem h', wt_append, wt_take first (by omega)]
    simp only [sumTo, wt_cons, wt_nil, cI]
    rw [List.getD_eq_getElem?_getD, List.getElem?_eq_getElem h']
    simp

abbrev SC (l : List Coin) : Prop := SortedK (Prod.fst : Coin → Int) l

theorem mergeC_nil_left : ∀ ps, mergeC [] ps = ps
  | [] => rfl
  | p :: ps => by rw [mergeC_none, mergeC_nil_left ps]

theorem mergeC_perm : ∀ (ps cs : List Coin), (mergeC cs ps).Perm (cs ++ ps)
  | [], cs => by simp [mergeC]
  | p :: ps, cs => by
    have ih := mergeC_perm ps (cs.dropWhile (fun c => decide (c.1 ≤ p.1)))
    have h := List.takeWhile_append_dropWhile (p := fun c : Coin => decide (c.1 ≤ p.1)) (l := cs)
    simp only [mergeC]
    refine (List.Perm.append_left _ (List.Perm.cons p ih)).trans ?_
    generalize cs.takeWhile (fun c => decide (c.1 ≤ p.1)) = t at *
    generalize cs.dropWhile (fun c => decide (c.1 ≤ p.1)) = d at *
    subst h
    rw [List.append_assoc]
    refine List.Perm.append_left _ ?_
    exact (List.perm_middle (a := p) (l₁ := d) (l₂ := ps)).symm

theorem mergeC_sorted : ∀ {N : Nat} {cs ps : List Coin}, cs.length + ps.length ≤ N → SC cs → SC ps → SC (mergeC cs ps)
  | N, [], ps, _, _, h2 => by rw [mergeC_nil_left]; exact h2
  | N, c :: cs, [], _, h1, _ => by simpa [mergeC] using h1
  | 0, c :: cs, p :: ps, h, _, _ => by simp at h
  | N + 1, c :: cs, p :: ps, h, h1, h2 => by
    simp only [List.length_cons] at h
    by_cases hle : c.1 ≤ p.1
    · rw [mergeC_le hle]
      refine List.pairwise_cons.2 ⟨fun z hz => ?_, mergeC_sorted (N := N) (by simp; omega) (List.pairwise_cons.1 h1).2 h2⟩
      rcases mergeC_mem hz with e | e
      · exact (List.pairwise_cons.1 h1).1 z e
      · have := SortedK.head_le h2 z e; omega
    · rw [mergeC_gt hle]
      refine List.pairwise_cons.2 ⟨fun z hz => ?_, mergeC_sorted (N := N) (by simp; omega) h1 (List.pairwise_cons.1 h2).2⟩
      rcases mergeC_mem hz with e | e
      · have := SortedK.head_le h1 z e; omega
      · exact (List.pairwise_cons.1 h2).1 z e

theorem packs_ge {m : Int} : ∀ {l : List Coin}, (∀ x ∈ l, m ≤ x.1) → ∀ x ∈ packs l, 2 * m ≤ x.1
  | [], _ => by simp [packs]
  | [_], _ => by simp [packs]
  | a :: b :: r, h => by
    intro x hx
    simp only [packs, List.mem_cons] at hx
    rcases hx with rfl | hx
    · have := h a (by simp); have := h b (by simp); show 2 * m ≤ a.1 + b.1; omega
    · exact packs_ge (fun y hy => h y (by simp [hy])) x hx

theorem packs_sorted : ∀ {l : List Coin}, SC l → SC (packs l)
  | [], _ => by simp [packs, SortedK]
  | [_], _ => by simp [packs, SortedK]
  | a :: b :: r, h => by
    have h1 := List.pairwise_cons.1 h
    have h2 := List.pairwise_cons.1 h1.2
    simp only [packs]
    refine List.pairwise_cons.2 ⟨fun z hz => ?_, packs_sorted h2.2⟩
    have := packs_ge (m := b.1) h2.1 z hz
    have := h1.1 b (by simp)
    show a.1 + b.1 ≤ z.1
    omega

theorem lev_sorted {first : List Coin} (h : SC first) : ∀ k, SC (lev first k)
  | 0 => h
  | k + 1 => mergeC_sorted (Nat.le_refl _) h (packs_sorted (lev_sorted h k))

/-- The first so many of the merged list are the least of all. -/
theorem merge_min : ∀ {N a b : Nat} {cs ps : List Coin}, a + b ≤ N → SC cs → SC ps → a ≤ cs.length → b ≤ ps.length → wt ((mergeC cs ps).take (a + b)) ≤ wt (cs.take a) + wt (ps.take b)
  | _, 0, 0, cs, ps, _, _, _, _, _ => by simp [wt]
  | 0, a + 1, b, _, _, h, _, _, _, _ => by omega
  | 0, 0, b + 1, _, _, h, _, _, _, _ => by omega
  | N + 1, a, b, [], ps, h, h1, h2, ha, hb => by
    have : a = 0 := by simpa using ha
    subst this
    rw [mergeC_nil_left]; simp [wt]
  | N + 1, a, b, c :: cs, [], h, h1, h2, ha, hb => by
    have : b = 0 := by simpa using hb
    subst this
    simp [mergeC, wt]
  | N + 1, a, b, c :: cs, p :: ps, h, h1, h2, ha, hb => by
    have k1 := List.pairwise_cons.1 h1
    have k2 := List.pairwise_cons.1 h2
    by_cases h0 : a + b = 0
    · have e1 : a = 0 := by omega
      have e2 : b = 0 := by omega
      subst e1; subst e2; simp [wt]
    by_cases hle : c.1 ≤ p.1
    · rw [mergeC_le hle]
      cases a with
      | succ a =>
        have ih := merge_min (N := N) (a := a) (b := b) (by omega) k1.2 h2 (by simpa using ha) hb
        rw [show a + 1 + b = (a + b) + 1 by omega, List.take_succ_cons, List.take_succ_cons, wt_cons, wt_cons]
        omega
      | zero =>
        cases b with
        | zero => omega
        | succ b =>
          have ih := merge_min (N := N) (a := 0) (b := b) (cs := cs) (ps := p :: ps) (by omega) k1.2 h2 (by omega) (by omega)
          have hb' : b < (p :: ps).length := by omega
          have hlast : p.1 ≤ ((p :: ps)[b]).1 := SortedK.head_le h2 _ (List.getElem_mem hb')
          rw [show 0 + (b + 1) = (0 + b) + 1 by omega, List.take_succ_cons, wt_cons, List.take_succ_eq_append_getElem hb', wt_append, wt_cons, wt_nil]
          simp only [List.take_zero, wt_nil] at ih ⊢
          omega
    · rw [mergeC_gt hle]
      cases b with
      | succ b =>
        have ih := merge_min (N := N) (a := a) (b := b) (by omega) h1 k2.2 ha (by simpa using hb)
        rw [show a + (b + 1) = (a + b) + 1 by omega, List.take_succ_cons, List.take_succ_cons, wt_cons, wt_cons]
        omega
      | zero =>
        cases a with
        | zero => omega
        | succ a =>
          have ih := merge_min (N := N) (a := a) (b := 0) (cs := c :: cs) (ps := ps) (by omega) h1 k2.2 (by omega) (by omega)
          have ha' : a < (c :: cs).length := by omega
          have hlast : c.1 ≤ ((c :: cs)[a]).1 := SortedK.head_le h1 _ (List.getElem_mem ha')
          rw [show a + 1 + 0 = a + 1 by omega, List.take_succ_cons, wt_cons, List.take_succ_eq_append_getElem ha', wt_append, wt_cons, wt_nil]
          simp only [List.take_zero, wt_nil, Nat.add_zero] at ih ⊢
          omega

/-- The first so many of the merged list: so many of the one list and so many of the other one; what is of the other one is ahead of the next of the one. -/
theorem merge_take : ∀ {N k : Nat} {cs ps : List Coin}, k ≤ N → k ≤ cs.length + ps.length → SC cs → ∃ a b, a + b = k ∧ a ≤ cs.length ∧ b ≤ ps.length ∧ ((mergeC cs ps).take k).Perm (cs.take a ++ ps.take b) ∧ (∀ p ∈ ps.take b, ∀ c ∈ cs.drop a, p.1 < c.1)
  | _, 0, cs, ps, _, _, _ => ⟨0, 0, rfl, by omega, by omega, by simp, by simp⟩
  | 0, k + 1, _, _, h, _, _ => by omega
  | N + 1, k + 1, [], ps, h, hk, _ => ⟨0, k + 1, by omega, by omega, by simpa using hk, by rw [mergeC_nil_left]; simp, by simp⟩
  | N + 1, k + 1, c :: cs, [], h, hk, _ => ⟨k + 1, 0, by omega, by simpa using hk, by omega, by simp [mergeC], by simp⟩
  | N + 1, k + 1, c :: cs, p :: ps, h, hk, h1 => by
    simp only [List.length_cons] at hk
    by_cases hle : c.1 ≤ p.1
    · obtain ⟨a, b, e1, e2, e3, e4, e5⟩ := merge_take (N := N) (k := k) (cs := cs) (ps := p :: ps) (by omega) (by simp; omega) (List.pairwise_cons.1 h1).2
      refine ⟨a + 1, b, by omega, by simp; omega, e3, ?_, by simpa using e5⟩
      rw [mergeC_le hle]
      simpa using e4
    · obtain ⟨a, b, e1, e2, e3, e4, e5⟩ := merge_take (N := N) (k := k) (cs := c :: cs) (ps := ps) (by omega) (by simp; omega) h1
      refine ⟨a, b + 1, by omega, e2, by simp; omega, ?_, ?_⟩
      · rw [mergeC_gt hle, List.take_succ_cons, List.take_succ_cons]
        exact (List.Perm.cons p e4).trans (List.perm_middle (a := p) (l₁ := (c :: cs).take a) (l₂ := ps.take b)).symm
      · intro q hq d hd
        rcases List.mem_cons.1 (by simpa using hq) with e | e
        · subst e
          have := SortedK.head_le h1 d (List.mem_of_mem_drop hd)
          omega
        · exact e5 q e d hd

theorem packs_take : ∀ {b : Nat} {l : List Coin}, 2 * b ≤ l.length → wt ((packs l).take b) = wt (l.take (2 * b)) ∧ ((packs l).take b).flatMap Prod.snd = (l.take (2 * b)).flatMap Prod.snd
  | 0, l, _ => by simp [wt]
  | b + 1, [], h => by simp at h
  | b + 1, [_], h => by simp at h; omega
  | b + 1, x :: y :: r, h => by
    have ih := packs_take (b := b) (l := r) (by simp at h; omega)
    rw [show 2 * (b + 1) = (2 * b + 1) + 1 by omega]
    simp only [packs, List.take_succ_cons, wt_cons, List.flatMap_cons, ih.1, ih.2]
    constructor
    · omega
    · simp

/-- What is in a list is in one of its packages, that counts no less. -/
theorem packs_has : ∀ {b : Nat} {l : List Coin} {x : Coin}, 2 * b ≤ l.length → (∀ y ∈ l, 0 ≤ y.1) → x ∈ l.take (2 * b) → ∃ p ∈ (packs l).take b, x.1 ≤ p.1
  | 0, l, x, _, _, h => by simp at h
  | b + 1, [], x, h, _, _ => by simp at h
  | b + 1, [_], x, h, _, _ => by simp at h; omega
  | b + 1, y :: z :: r, x, h, hp, hx => by
    rw [show 2 * (b + 1) = (2 * b + 1) + 1 by omega] at hx
    simp only [List.take_succ_cons, List.mem_cons] at hx
    have hy := hp y (by simp)
    have hz := hp z (by simp)
    rcases hx with rfl | rfl | hx
    · exact ⟨_, by simp only [packs, List.take_succ_cons]; exact List.mem_cons_self, by show _ ≤ _ + _; omega⟩
    · exact ⟨_, by simp only [packs, List.take_succ_cons]; exact List.mem_cons_self, by show _ ≤ _ + _; omega⟩
    · obtain ⟨p, h1, h2⟩ := packs_has (b := b) (l := r) (by simp at h; omega) (fun y hy => hp y (by simp [hy])) hx
      exact ⟨p, by simp only [packs, List.take_succ_cons]; exact List.mem_cons_of_mem _ h1, h2⟩
end Go.V
