/- Lengths of codes: all counts one; counts so many times as great. Plain Lean; no program. -/
import Derived.Test.YtgjkmakhomefkaaS7
namespace Go.V
set_option linter.unusedVariables false
set_option linter.unusedSimpArgs false

theorem sumTo_lt {f g : Nat → Int} : ∀ {n : Nat}, (∀ i, i < n → f i ≤ g i) → (∃ i, i < n ∧ f i < g i) → sumTo n f < sumTo n g
  | 0, _, ⟨i, hi, _⟩ => by omega
  | n + 1, h, ⟨i, hi, hlt⟩ => by
    have hn := h n (by omega)
    by_cases e : i = n
    · subst e
      have := sumTo_le (n := i) (fun j hj => h j (by omega))
      simp only [sumTo]; omega
    · have := sumTo_lt (n := n) (fun j hj => h j (by omega)) ⟨i, by omega, hlt⟩
      simp only [sumTo]; omega

theorem line_le (d : Nat) : (1 : Int) + d ≤ 2 ^ d := by
  induction d with
  | zero => simp
  | succ d ih => rw [pow_succ']; omega

theorem convex {m w c : Nat} (hw : w ≤ m) (hc : c ≤ m) : (2 : Int) ^ (m - w) * (1 + (w : Int) - c) ≤ 2 ^ (m - c) ∧ (w < c → (2 : Int) ^ (m - w) * (1 + (w : Int) - c) < 2 ^ (m - c)) := by
  by_cases h : w < c
  · have h1 : (2 : Int) ^ (m - w) * (1 + (w : Int) - c) ≤ 0 := by
      have := Int.mul_le_mul_of_nonneg_left (show 1 + (w : Int) - c ≤ 0 by omega) (Int.le_of_lt (pow_pos' (m - w)))
      rwa [Int.mul_zero] at this
    have h2 := pow_pos' (m - c)
    exact ⟨by omega, fun _ => by omega⟩
  · refine ⟨?_, fun h' => absurd h' h⟩
    have e : m - c = (m - w) + (w - c) := by omega
    rw [e, Int.pow_add]
    apply Int.mul_le_mul_of_nonneg_left _ (Int.le_of_lt (pow_pos' _))
    have := line_le (w - c)
    omega

theorem PS_ones {k : Nat} (f : Nat → Int) : PS (List.replicate k 1) f = sumTo k f := by
  unfold PS
  rw [List.length_replicate]
  apply sumTo_congr; intro s hs
  have : (List.replicate k (1 : Int)).getD s 0 = 1 := by simp [List.getD_eq_getElem?_getD, hs]
  rw [this]; simp

theorem coins_ones (k : Nat) : (coinsL (List.replicate k 1)).length = k := by
  have h := coins_count (List.replicate k 1)
  rw [PS_ones, sumTo_const] at h
  omega

/-- Of symbols that are all as often none is longer than it must be, and one is as long. -/
theorem law_many {k m w : Nat} (hk : 2 ≤ k) (hm : 1 ≤ m) (hkm : k ≤ 2 ^ m) (hw1 : k ≤ 2 ^ w) (hw2 : 2 ^ w < 2 * k) (hw : 1 ≤ w) :
    (∀ s, s < k → (chosen (List.replicate k 1) m).count s ≤ w) ∧ ∃ s, s < k ∧ w ≤ (chosen (List.replicate k 1) m).count s := by
  have hpres : ∀ s, s < k → 0 < (List.replicate k (1 : Int)).getD s 0 := fun s hs => by simp [List.getD_eq_getElem?_getD, hs]
  have habs : ∀ s, 0 < (List.replicate k (1 : Int)).getD s 0 → s < k := by
    intro s h
    rcases Nat.lt_or_ge s k with h' | h'
    · exact h'
    · simp [List.getD_eq_getElem?_getD, h'] at h
  have hN := coins_ones k
  obtain ⟨f1, f2, f3, f4⟩ := chosen_facts (xs := List.replicate k 1) hm (by omega) (by omega)
  generalize hcnt : (fun s => (chosen (List.replicate k 1) m).count s) = cnt at *
  have hc : ∀ s, (chosen (List.replicate k 1) m).count s = cnt s := fun s => by rw [← hcnt]
  simp only [hc] at *
  rw [PS_ones] at f3
  have hwm : w ≤ m := by
    rcases Nat.lt_or_ge m w with h | h
    · exfalso
      have := Nat.pow_le_pow_right (n := 2) (by omega) (show m + 1 ≤ w by omega)
      rw [Nat.pow_succ] at this; omega
    · exact h
  have ew : (2 : Int) ^ m = 2 ^ (m - w) * 2 ^ w := by rw [← Int.pow_add]; congr 1; omega
  have hz := pow_pos' (m - w)
  obtain ⟨q, hq⟩ : ∃ q : Nat, q = 2 ^ w := ⟨_, rfl⟩
  have eq : (2 : Int) ^ w = (q : Int) := by rw [hq]; simp
  rw [← hq] at hw1 hw2
  rw [eq] at ew
  constructor
  · intro s hs
    rcases Nat.lt_or_ge w (cnt s) with hlt | hge
    · exfalso
      -- the even choice
      have hy := f4 (fun s => if s < q - k then w - 1 else w) (fun s _ => by split <;> omega) ?_
      · rw [PS_ones, PS_ones] at hy
        have e1 : sumTo k (fun s => manyL ((List.replicate k (1 : Int)).getD s 0) * (cnt s : Int)) = sumTo k (fun s => (cnt s : Int)) := by
          apply sumTo_congr; intro s hs
          have : (List.replicate k (1 : Int)).getD s 0 = 1 := by simp [List.getD_eq_getElem?_getD, hs]
          rw [this, manyL_id (by omega) (by omega)]; simp
        have e2 : sumTo k (fun s => manyL ((List.replicate k (1 : Int)).getD s 0) * ((if s < q - k then w - 1 else w : Nat) : Int)) + sumTo k (fun s => if s < q - k then (1 : Int) else 0) = sumTo k (fun _ => (w : Int)) := by
          rw [← sumTo_add]
          apply sumTo_congr; intro s hs
          have : (List.replicate k (1 : Int)).getD s 0 = 1 := by simp [List.getD_eq_getElem?_getD, hs]
          rw [this, manyL_id (by omega) (by omega)]
          split <;> omega
        rw [sumTo_cut (fun _ => (1 : Int)) (by omega), sumTo_const, sumTo_const] at e2
        rw [e1] at hy
        have hlt2 := sumTo_lt (n := k) (f := fun s => (2 : Int) ^ (m - w) * (1 + (w : Int) - (cnt s : Int))) (g := fun s => 2 ^ (m - cnt s)) (fun i hi => (convex hwm (f2 i (hpres i hi)).2).1) ⟨s, hs, (convex hwm (f2 s (hpres s hs)).2).2 hlt⟩
        rw [f3, sumTo_mul, ew] at hlt2
        have hlt3 := Int.lt_of_mul_lt_mul_left hlt2 (Int.le_of_lt hz)
        have e3 : sumTo k (fun s => 1 + (w : Int) - (cnt s : Int)) + sumTo k (fun s => (cnt s : Int)) = sumTo k (fun _ => 1 + (w : Int)) := by
          rw [← sumTo_add]; apply sumTo_congr; intro s hs; omega
        rw [sumTo_const, Int.mul_add] at e3
        omega
      · rw [PS_ones]
        have e1 : sumTo k (fun s => (2 : Int) ^ (m - (if s < q - k then w - 1 else w))) = sumTo k (fun s => 2 ^ (m - w) + if s < q - k then (2 : Int) ^ (m - w) else 0) := by
          apply sumTo_congr; intro s hs
          by_cases e : s < q - k
          · simp only [e, if_true]
            rw [show m - (w - 1) = (m - w) + 1 by omega, pow_succ']; omega
          · simp only [e, if_false]; omega
        rw [e1, sumTo_add, sumTo_cut (fun _ => (2 : Int) ^ (m - w)) (by omega), sumTo_const, sumTo_const, ew, ← Int.add_mul, Int.mul_comm]
        apply Int.mul_le_mul_of_nonneg_left _ (Int.le_of_lt hz)
        omega
    · exact hge
  · apply Classical.byContradiction
    intro hno
    have hall : ∀ s, s < k → cnt s ≤ w - 1 := by
      intro s hs
      rcases Nat.lt_or_ge (cnt s) w with h | h
      · omega
      · exact absurd ⟨s, hs, h⟩ hno
    have h1 : sumTo k (fun _ => (2 : Int) ^ (m - w) * 2) ≤ sumTo k (fun s => 2 ^ (m - cnt s)) := by
      apply sumTo_le; intro s hs
      have h2 := hall s hs
      have h3 := Nat.pow_le_pow_right (n := 2) (by omega) (show m - w + 1 ≤ m - cnt s by omega)
      have e1 : ((2 ^ (m - w + 1) : Nat) : Int) = 2 ^ (m - w) * 2 := by rw [Nat.pow_succ]; simp
      have e2 : ((2 ^ (m - cnt s) : Nat) : Int) = 2 ^ (m - cnt s) := by simp
      rw [← e1, ← e2]; omega
    rw [f3, sumTo_const, ew, Int.mul_left_comm] at h1
    have := Int.le_of_mul_le_mul_left h1 hz
    omega

/-- A coin so many times as great. -/
def scale (t : Int) (c : Coin) : Coin := (c.1 * t, c.2)

theorem scale_le {t : Int} (ht : 0 < t) {a b : Coin} : (scale t a).1 ≤ (scale t b).1 ↔ a.1 ≤ b.1 :=
  ⟨fun h => Int.le_of_mul_le_mul_right h ht, fun h => Int.mul_le_mul_of_nonneg_right h (Int.le_of_lt ht)⟩

theorem packs_scale (t : Int) : ∀ l, packs (l.map (scale t)) = (packs l).map (scale t)
  | [] => rfl
  | [_] => by simp [packs]
  | a :: b :: r => by
    simp only [List.map_cons, packs, packs_scale t r, scale, Int.add_mul]

theorem mergeC_scale {t : Int} (ht : 0 < t) : ∀ {N : Nat} {cs ps : List Coin}, cs.length + ps.length ≤ N → mergeC (cs.map (scale t)) (ps.map (scale t)) = (mergeC cs ps).map (scale t)
  | _, [], ps, _ => by rw [List.map_nil, mergeC_nil_left, mergeC_nil_left]
  | _, c :: cs, [], _ => by simp [mergeC]
  | 0, c :: cs, p :: ps, h => by simp at h
  | N + 1, c :: cs, p :: ps, h => by
    simp only [List.length_cons] at h
    simp only [List.map_cons]
    by_cases hle : c.1 ≤ p.1
    · rw [mergeC_le hle, mergeC_le ((scale_le ht).2 hle)]
      have := mergeC_scale ht (N := N) (cs := cs) (ps := p :: ps) (by simp; omega)
      rw [List.map_cons] at this
      rw [this, List.map_cons]
    · rw [mergeC_gt hle, mergeC_gt (fun h => hle ((scale_le ht).1 h))]
      have := mergeC_scale ht (N := N) (cs := c :: cs) (ps := ps) (by simp; omega)
      rw [List.map_cons] at this
      rw [this, List.map_cons]

theorem lev_scale {t : Int} (ht : 0 < t) (first : List Coin) : ∀ k, lev (first.map (scale t)) k = (lev first k).map (scale t)
  | 0 => rfl
  | k + 1 => by
    simp only [lev, packedL, lev_scale ht first k, packs_scale]
    exact mergeC_scale ht (Nat.le_refl _)

theorem ins_scale {t : Int} (ht : 0 < t) (x : Coin) : ∀ l, ins Prod.fst (scale t x) (l.map (scale t)) = (ins Prod.fst x l).map (scale t)
  | [] => rfl
  | y :: ys => by
    simp only [List.map_cons, ins]
    by_cases h : y.1 ≤ x.1
    · rw [if_pos h, if_pos ((scale_le ht).2 h), ins_scale ht x ys, List.map_cons]
    · rw [if_neg h, if_neg (fun h' => h ((scale_le ht).1 h'))]; rfl

theorem inOrder_scale {t : Int} (ht : 0 < t) (xs : List Coin) : inOrder Prod.fst (xs.map (scale t)) = (inOrder Prod.fst xs).map (scale t) := by
  have : ∀ (xs l : List Coin), (xs.map (scale t)).foldl (fun l x => ins Prod.fst x l) (l.map (scale t)) = (xs.foldl (fun l x => ins Prod.fst x l) l).map (scale t) := by
    intro xs
    induction xs with
    | nil => intro l; rfl
    | cons x xs ih =>
      intro l
      simp only [List.map_cons, List.foldl_cons, ins_scale ht, ih]
  exact this xs []

theorem raw_scale {t : Int} (ht : 0 < t) : ∀ (xs : List Int) (i : Nat), (∀ x ∈ xs, 0 ≤ x ∧ x ≤ 1099511627776 ∧ x * t ≤ 1099511627776) → rawCoins i (xs.map (· * t)) = (rawCoins i xs).map (scale t)
  | [], i, _ => rfl
  | x :: xs, i, h => by
    have hx := h x (by simp)
    have ih := raw_scale ht xs (i + 1) (fun y hy => h y (by simp [hy]))
    simp only [List.map_cons, rawCoins, ih]
    by_cases e : x > 0
    · have e2 : x * t > 0 := Int.mul_pos e ht
      rw [if_pos e, if_pos e2, List.map_cons, manyL_id hx.1 hx.2.1, manyL_id (Int.le_of_lt e2) hx.2.2]
      rfl
    · have e1 : x = 0 := by omega
      subst e1
      simp

/-- Counts so many times as great have the same lengths. -/
theorem law_scales {t : Int} (ht : 0 < t) {xs : List Int} {most : Int} (h : ∀ x ∈ xs, 0 ≤ x ∧ x ≤ 1099511627776 ∧ x * t ≤ 1099511627776) : lensL (xs.map (· * t)) most = lensL xs most := by
  have hc : coinsL (xs.map (· * t)) = (coinsL xs).map (scale t) := by
    unfold coinsL; rw [raw_scale ht xs 0 h, inOrder_scale ht]
  have hf : ∀ l : List Coin, (l.map (scale t)).flatMap Prod.snd = l.flatMap Prod.snd := by
    intro l; induction l with
    | nil => rfl
    | cons c l ih => simp only [List.map_cons, List.flatMap_cons, ih, scale]
  unfold lensL chosen
  rw [hc, List.length_map, List.length_map, lev_scale ht, ← List.map_take, hf, hf]
end Go.V
