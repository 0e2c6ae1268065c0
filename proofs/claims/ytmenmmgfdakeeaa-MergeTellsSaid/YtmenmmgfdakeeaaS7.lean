/- The laws of lengths of codes, of lists: all is used, the best, a greatest length more, all alike, so many times as great. Plain Lean; no program. -/
import Derived.Test.YtmenmmgfdakeeaaS6
namespace Go.V
set_option linter.unusedVariables false
set_option linter.unusedSimpArgs false

theorem bump_get (xs : List Int) (t s : Nat) (hs : s < xs.length) : (bump xs t).getD s 0 = xs.getD s 0 + (if t = s then 1 else 0) := by
  unfold bump
  simp only [List.getD_eq_getElem?_getD, List.getElem?_set]
  by_cases e : t = s
  · subst e; simp [hs]
  · simp [e]

theorem addL_get : ∀ (ss : List Nat) (xs : List Int) (s : Nat), s < xs.length → (addL ss xs).getD s 0 = xs.getD s 0 + (ss.count s : Int)
  | [], xs, s, _ => by simp [addL]
  | t :: ss, xs, s, h => by
    have := addL_get ss (bump xs t) s (by rw [bump_length]; exact h)
    show (addL ss (bump xs t)).getD s 0 = _
    rw [this, bump_get xs t s h, List.count_cons]
    by_cases e : t = s
    · simp [e]; omega
    · simp [e]

theorem lensL_eq {xs : List Int} {most : Int} (h : xs.length ≤ 256) (hn : (coinsL xs).length ≤ 2 ^ mostL most) : lensL xs most = addL (chosen xs (mostL most)) (List.replicate xs.length 0) := by
  unfold lensL; rw [if_neg (by omega), if_neg (by omega)]

theorem lensL_length {xs : List Int} {most : Int} (h : xs.length ≤ 256) (hn : (coinsL xs).length ≤ 2 ^ mostL most) : (lensL xs most).length = xs.length := by
  rw [lensL_eq h hn, addL_length]; simp

theorem lensL_get {xs : List Int} {most : Int} (h : xs.length ≤ 256) (hn : (coinsL xs).length ≤ 2 ^ mostL most) {s : Nat} (hs : s < xs.length) : (lensL xs most).getD s 0 = ((chosen xs (mostL most)).count s : Int) := by
  rw [lensL_eq h hn, addL_get _ _ _ (by simpa using hs)]
  simp [List.getD_eq_getElem?_getD, hs]

theorem lev_nil : ∀ k, lev [] k = []
  | 0 => rfl
  | k + 1 => by simp [lev, packedL, lev_nil k, packs, mergeC]

theorem coins_count (xs : List Int) : ((coinsL xs).length : Int) = PS xs (fun _ => 1) := by
  rw [← sum_coins (fun _ => 1) xs]
  have : sumTo (coinsL xs).length (gI (fun _ => 1) (coinsL xs)) = sumTo (coinsL xs).length (fun _ => 1) := rfl
  rw [this, sumTo_const]; omega

theorem PS_congr {xs : List Int} {f g : Nat → Int} (h : ∀ s, s < xs.length → 0 < xs.getD s 0 → f s = g s) : PS xs f = PS xs g := by
  apply sumTo_congr; intro s hs
  by_cases e : 0 < xs.getD s 0
  · simp only [e, if_true]; exact h s hs e
  · simp only [e, if_false]
theorem PS_add (xs : List Int) (f g : Nat → Int) : PS xs (fun s => f s + g s) = PS xs f + PS xs g := by
  unfold PS; rw [← sumTo_add]; apply sumTo_congr; intro s hs; dsimp only; split <;> omega
theorem PS_mul (xs : List Int) (c : Int) (f : Nat → Int) : PS xs (fun s => c * f s) = c * PS xs f := by
  unfold PS; rw [← sumTo_mul]; apply sumTo_congr; intro s hs; split <;> simp
theorem PS_le {xs : List Int} {f g : Nat → Int} (h : ∀ s, s < xs.length → 0 < xs.getD s 0 → f s ≤ g s) : PS xs f ≤ PS xs g := by
  apply sumTo_le; intro s hs
  by_cases e : 0 < xs.getD s 0
  · simp only [e, if_true]; exact h s hs e
  · simp only [e, if_false]; exact Int.le_refl _
theorem PS_const (xs : List Int) (c : Int) : PS xs (fun _ => c) = c * ((coinsL xs).length : Int) := by
  rw [coins_count, ← PS_mul]; simp

/-- Of however many symbols. -/
theorem count_facts {xs : List Int} {m : Nat} (hm : 1 ≤ m) (hn : (coinsL xs).length ≤ 2 ^ m) :
    (∀ s, s < xs.length → ¬ 0 < xs.getD s 0 → (chosen xs m).count s = 0) ∧ (∀ s, s < xs.length → 0 < xs.getD s 0 → 1 ≤ (chosen xs m).count s ∧ (chosen xs m).count s ≤ m) := by
  by_cases h2 : 2 ≤ (coinsL xs).length
  · obtain ⟨h3, h4, _⟩ := chosen_facts hm h2 hn
    exact ⟨fun s _ => h3 s, fun s _ => h4 s⟩
  by_cases h1 : (coinsL xs).length = 1
  · obtain ⟨c, hc⟩ := List.length_eq_one_iff.1 h1
    have hch : chosen xs m = [sy c] := by
      unfold chosen
      rw [if_pos h1, hc]
      have := (coin_sym (xs := xs) (c := c) (by rw [hc]; simp)).1
      simpa using this
    have hpres := coin_present (xs := xs) (c := c) (by rw [hc]; simp)
    have honly : ∀ s, s < xs.length → 0 < xs.getD s 0 → s = sy c := by
      intro s hs hp
      by_cases e : s = sy c
      · exact e
      · exfalso
        have hcc := coins_count xs
        rw [h1] at hcc
        have hlt : sy c < xs.length := (coin_sym (xs := xs) (c := c) (by rw [hc]; simp)).2
        have h3 := sumTo_delta (fun _ => (1 : Int)) hs
        have h4 := sumTo_delta (fun _ => (1 : Int)) hlt
        have h5 : sumTo xs.length (fun j => if j = s then (1 : Int) else 0) + sumTo xs.length (fun j => if j = sy c then (1 : Int) else 0) ≤ PS xs (fun _ => 1) := by
          rw [← sumTo_add]
          apply sumTo_le; intro i hi
          by_cases e1 : i = s
          · subst e1; simp only [hp, e, if_true, if_false]; omega
          · by_cases e2 : i = sy c
            · subst e2
              have := hpres.1
              simp only [e1, if_false, this, if_true]; omega
            · simp only [e1, e2, if_false]; split <;> omega
        rw [h3, h4] at h5
        omega
    rw [hch]
    refine ⟨fun s hs h0 => ?_, fun s hs h0 => ?_⟩
    · rw [List.count_singleton]
      have : ¬ sy c = s := fun e => h0 (by rw [← e]; exact hpres.1)
      simp [this]
    · have := honly s hs h0
      subst this
      simp; omega
  · have h0 : (coinsL xs) = [] := List.eq_nil_of_length_eq_zero (by omega)
    have hch : chosen xs m = [] := by unfold chosen; rw [h0]; simp [lev_nil]
    have hcc := coins_count xs
    rw [h0] at hcc
    rw [hch]
    refine ⟨fun s _ _ => by simp, fun s hs hp => ?_⟩
    exfalso
    have h3 := sumTo_delta (fun _ => (1 : Int)) hs
    have h5 : sumTo xs.length (fun j => if j = s then (1 : Int) else 0) ≤ PS xs (fun _ => 1) := by
      apply sumTo_le; intro i hi
      by_cases e1 : i = s
      · subst e1; simp only [hp, if_true]; omega
      · simp only [e1, if_false]; split <;> omega
    rw [h3] at h5
    simp at hcc; omega

theorem lens_le {xs : List Int} {most : Int} (h : xs.length ≤ 256) (hn : (coinsL xs).length ≤ 2 ^ mostL most) (hm : 1 ≤ mostL most) {s : Nat} (hs : s < xs.length) :
    0 ≤ (lensL xs most).getD s 0 ∧ (lensL xs most).getD s 0 ≤ mostL most ∧ (0 < (lensL xs most).getD s 0 ↔ 0 < xs.getD s 0) := by
  rw [lensL_get h hn hs]
  obtain ⟨h1, h2⟩ := count_facts hm hn
  by_cases e : 0 < xs.getD s 0
  · have := h2 s hs e
    exact ⟨by omega, by omega, by constructor <;> intro _ <;> omega⟩
  · have := h1 s hs e
    exact ⟨by omega, by omega, by constructor <;> intro _ <;> omega⟩

/-- How much of all codes there is. -/
def kraft1 (x : Int) : Int := if 1 ≤ x ∧ x ≤ 15 then 2 ^ (15 - x).toNat else 0
def kraftL (xs : List Int) : Int := (xs.map kraft1).sum
/-- How many bits all are. -/
def costL : List Int → List Int → Int
  | c :: cs, l :: ls => manyL c * l + costL cs ls
  | _, _ => 0

theorem sum_eq_sumTo (f : Int → Int) : ∀ xs : List Int, (xs.map f).sum = sumTo xs.length (fun s => f (xs.getD s 0))
  | xs => by
    have : ∀ k, k ≤ xs.length → ((xs.take k).map f).sum = sumTo k (fun s => f (xs.getD s 0)) := by
      intro k
      induction k with
      | zero => intro _; simp [sumTo]
      | succ k ih =>
        intro h
        have h' : k < xs.length := by omega
        rw [List.take_succ_eq_append_getElem h', List.map_append, List.sum_append, ih (by omega)]
        simp [sumTo, List.getD_eq_getElem?_getD, h']
    have := this xs.length (Nat.le_refl _)
    rwa [List.take_length] at this

theorem costL_snoc : ∀ (cs ls : List Int) (k : Nat) (h1 : k < cs.length) (h2 : k < ls.length), costL (cs.take (k + 1)) (ls.take (k + 1)) = costL (cs.take k) (ls.take k) + manyL cs[k] * ls[k]
  | c :: cs, l :: ls, 0, _, _ => by simp [costL]
  | c :: cs, l :: ls, k + 1, h1, h2 => by
    have := costL_snoc cs ls k (by simpa using h1) (by simpa using h2)
    simp only [List.take_succ_cons, costL, List.getElem_cons_succ] at *
    omega

theorem costL_take : ∀ (cs ls : List Int) (k : Nat), min cs.length ls.length ≤ k → costL (cs.take k) (ls.take k) = costL cs ls
  | [], ls, k, _ => by cases ls <;> simp [costL]
  | c :: cs, [], k, _ => by cases k <;> simp [costL]
  | c :: cs, l :: ls, 0, h => by simp at h
  | c :: cs, l :: ls, k + 1, h => by
    have := costL_take cs ls k (by simp at h; omega)
    simp only [List.take_succ_cons, costL, this]

theorem manyL_none {x : Int} (h : ¬ 0 < x) : manyL x = 0 := by unfold manyL mx mn; split <;> split <;> omega
theorem manyL_id {x : Int} (h : 0 ≤ x) (h' : x ≤ 1099511627776) : manyL x = x := by unfold manyL mx mn; split <;> split <;> omega

theorem cost_PS {xs ys : List Int} (h : ys.length = xs.length) : costL xs ys = PS xs (fun s => manyL (xs.getD s 0) * ys.getD s 0) := by
  have : ∀ k, k ≤ xs.length → costL (xs.take k) (ys.take k) = sumTo k (fun s => if 0 < xs.getD s 0 then manyL (xs.getD s 0) * ys.getD s 0 else 0) := by
    intro k
    induction k with
    | zero => intro _; simp [costL, sumTo]
    | succ k ih =>
      intro hk
      have h1 : k < xs.length := by omega
      have h2 : k < ys.length := by omega
      rw [costL_snoc xs ys k h1 h2, ih (by omega)]
      simp only [sumTo, List.getD_eq_getElem?_getD, List.getElem?_eq_getElem h1, List.getElem?_eq_getElem h2, Option.getD_some]
      split
      · rfl
      · rename_i hn
        rw [manyL_none hn]; simp
  have h1 := this xs.length (Nat.le_refl _)
  rw [costL_take _ _ _ (by omega)] at h1
  exact h1

/-- All codes are used. -/
theorem law_full {xs : List Int} {most : Int} (h : xs.length ≤ 256) (h2 : 2 ≤ (coinsL xs).length) (hn : (coinsL xs).length ≤ 2 ^ mostL most) (hm : 1 ≤ mostL most) (hm' : mostL most ≤ 15) : kraftL (lensL xs most) = 32768 := by
  obtain ⟨f1, f2, f3, _⟩ := chosen_facts hm h2 hn
  rw [kraftL, sum_eq_sumTo, lensL_length h hn]
  have e : sumTo xs.length (fun s => kraft1 ((lensL xs most).getD s 0)) = PS xs (fun s => 2 ^ (15 - mostL most) * 2 ^ (mostL most - (chosen xs (mostL most)).count s)) := by
    apply sumTo_congr; intro s hs
    rw [lensL_get h hn hs]
    by_cases e : 0 < xs.getD s 0
    · have := f2 s e
      simp only [e, if_true, kraft1]
      rw [if_pos (by omega), ← Int.pow_add]
      congr 1; omega
    · simp only [e, if_false, f1 s e, kraft1]
      rw [if_neg (by omega)]
  rw [e, PS_mul, f3, ← Int.pow_add, show 15 - mostL most + mostL most = 15 by omega]
  rfl

theorem cost_lens {xs : List Int} {most : Int} (h : xs.length ≤ 256) (hn : (coinsL xs).length ≤ 2 ^ mostL most) : costL xs (lensL xs most) = PS xs (fun s => manyL (xs.getD s 0) * ((chosen xs (mostL most)).count s : Int)) := by
  rw [cost_PS (lensL_length h hn)]
  apply PS_congr; intro s hs _
  rw [lensL_get h hn hs]

/-- No lengths that may be are better: told of whatever lengths by symbol. -/
theorem law_best {xs : List Int} {most : Int} (h : xs.length ≤ 256) (hn : (coinsL xs).length ≤ 2 ^ mostL most) (hm : 1 ≤ mostL most) (y : Nat → Nat) (hy : ∀ s, s < xs.length → 0 < xs.getD s 0 → 1 ≤ y s ∧ y s ≤ mostL most)
    (hk : PS xs (fun s => 2 ^ (mostL most - y s)) ≤ 2 ^ mostL most) : costL xs (lensL xs most) ≤ PS xs (fun s => manyL (xs.getD s 0) * (y s : Int)) := by
  rw [cost_lens h hn]
  by_cases h2 : 2 ≤ (coinsL xs).length
  · obtain ⟨_, _, _, f4⟩ := chosen_facts hm h2 hn
    refine f4 y (fun s hs => ?_) hk
    rcases Nat.lt_or_ge s xs.length with h | h
    · exact (hy s h hs).2
    · simp [List.getD_eq_getElem?_getD, h] at hs
  · have hone : ∀ s, s < xs.length → 0 < xs.getD s 0 → (chosen xs (mostL most)).count s ≤ 1 := by
      intro s hs hp
      have hl : (chosen xs (mostL most)).length ≤ 1 := by
        unfold chosen
        split
        · rename_i h1
          obtain ⟨c, hc⟩ := List.length_eq_one_iff.1 h1
          rw [hc]
          have := (coin_sym (xs := xs) (c := c) (by rw [hc]; simp)).1
          simp [this]
        · have h0 : (coinsL xs) = [] := List.eq_nil_of_length_eq_zero (by omega)
          rw [h0]; simp [lev_nil]
      exact Nat.le_trans List.count_le_length hl
    apply PS_le; intro s hs hp
    have h1 := hone s hs hp
    have h3 := hy s hs hp
    exact Int.mul_le_mul_of_nonneg_left (by omega) (manyL_bound _).1

/-- A greatest length more costs no more. -/
theorem law_tight {xs : List Int} {most most' : Int} (h : xs.length ≤ 256) (hn : (coinsL xs).length ≤ 2 ^ mostL most) (hm : 1 ≤ mostL most) (hm' : mostL most' = mostL most + 1) : costL xs (lensL xs most') ≤ costL xs (lensL xs most) := by
  have hn' : (coinsL xs).length ≤ 2 ^ mostL most' := by rw [hm', Nat.pow_succ]; omega
  obtain ⟨c1, c2⟩ := count_facts hm hn
  rw [cost_lens h hn]
  by_cases h2 : 2 ≤ (coinsL xs).length
  · obtain ⟨_, _, f3, _⟩ := chosen_facts hm h2 hn
    refine law_best h hn' (by omega) _ (fun s hs hp => by have := c2 s hs hp; omega) ?_
    have : PS xs (fun s => (2 : Int) ^ (mostL most' - (chosen xs (mostL most)).count s)) = PS xs (fun s => 2 * 2 ^ (mostL most - (chosen xs (mostL most)).count s)) := by
      apply PS_congr; intro s hs hp
      have := c2 s hs hp
      rw [← pow_succ', hm']
      congr 1; omega
    rw [this, PS_mul, f3, hm', pow_succ']; omega
  · refine law_best h hn' (by omega) _ (fun s hs hp => by have := c2 s hs hp; omega) ?_
    have e : PS xs (fun s => (2 : Int) ^ (mostL most' - (chosen xs (mostL most)).count s)) ≤ PS xs (fun s => 2 ^ mostL most') := by
      apply PS_le; intro s hs hp
      have h1 : 2 ^ (mostL most' - (chosen xs (mostL most)).count s) ≤ 2 ^ mostL most' := Nat.pow_le_pow_right (n := 2) (by omega) (by omega)
      have e1 : ((2 ^ (mostL most' - (chosen xs (mostL most)).count s) : Nat) : Int) = 2 ^ (mostL most' - (chosen xs (mostL most)).count s) := by simp
      have e2 : ((2 ^ mostL most' : Nat) : Int) = 2 ^ mostL most' := by simp
      rw [← e1, ← e2]; omega
    rw [PS_const] at e
    have hp := pow_pos' (mostL most')
    have : ((coinsL xs).length : Int) ≤ 1 := by omega
    have := Int.mul_le_mul_of_nonneg_left this (Int.le_of_lt hp)
    rw [Int.mul_one] at this
    exact Int.le_trans e this
end Go.V
