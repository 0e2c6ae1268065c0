/- Lengths of codes: two that change places; all of one length. Plain Lean; no program. -/
import Derived.Test.YtgjkmakhomefkaaS8
namespace Go.V
set_option linter.unusedVariables false
set_option linter.unusedSimpArgs false

theorem PS_delta {xs : List Int} {a : Nat} (ha : a < xs.length) (hp : 0 < xs.getD a 0) (v : Int) : PS xs (fun s => if s = a then v else 0) = v := by
  refine Eq.trans ?_ (sumTo_delta (fun _ => v) ha)
  apply sumTo_congr; intro s hs
  by_cases e : s = a
  · subst e; simp only [hp, if_true]
  · simp only [e, if_false]; split <;> rfl

/-- Of two symbols the more frequent one is no longer. -/
theorem law_swap {xs : List Int} {most : Int} (h : xs.length ≤ 256) (hn : (coinsL xs).length ≤ 2 ^ mostL most) (hm : 1 ≤ mostL most) (hx : ∀ x ∈ xs, x ≤ 1099511627776) {a b : Nat} (ha : a < xs.length) (hb : b < xs.length)
    (hab : xs.getD b 0 < xs.getD a 0) (hpos : 0 < xs.getD b 0) : (lensL xs most).getD a 0 ≤ (lensL xs most).getD b 0 := by
  rw [lensL_get h hn ha, lensL_get h hn hb]
  obtain ⟨_, c2⟩ := count_facts hm hn
  have hne : a ≠ b := fun e => by subst e; omega
  have hpa : 0 < xs.getD a 0 := by omega
  have h2 : 2 ≤ (coinsL xs).length := by
    have h1 := coins_count xs
    have h3 := PS_delta ha hpa 1
    have h4 := PS_delta hb hpos 1
    have h5 : PS xs (fun s => (if s = a then (1 : Int) else 0) + (if s = b then 1 else 0)) ≤ PS xs (fun _ => 1) := by
      apply PS_le; intro s _ _
      by_cases e1 : s = a
      · subst e1; simp [hne]
      · by_cases e2 : s = b
        · simp [e1, e2]; omega
        · simp [e1, e2]
    rw [PS_add, h3, h4] at h5
    omega
  obtain ⟨_, _, f3, f4⟩ := chosen_facts hm h2 hn
  generalize hcnt : (fun s => (chosen xs (mostL most)).count s) = cnt at *
  have hc : ∀ s, (chosen xs (mostL most)).count s = cnt s := fun s => by rw [← hcnt]
  simp only [hc] at *
  rcases Nat.lt_or_ge (cnt b) (cnt a) with hlt | hge
  · exfalso
    have hsw : ∀ g : Nat → Int, ∀ c : Nat → Int, PS xs (fun s => c s * g (if s = a then cnt b else if s = b then cnt a else cnt s)) = PS xs (fun s => c s * g (cnt s)) + c a * (g (cnt b) - g (cnt a)) + c b * (g (cnt a) - g (cnt b)) := by
      intro g c
      rw [← PS_delta ha hpa (c a * (g (cnt b) - g (cnt a))), ← PS_delta hb hpos (c b * (g (cnt a) - g (cnt b))), ← PS_add, ← PS_add]
      apply PS_congr; intro s _ _
      by_cases e1 : s = a
      · subst e1; simp only [if_true, hne, if_false]; rw [Int.mul_sub]; omega
      · by_cases e2 : s = b
        · subst e2; simp only [e1, if_false, if_true]; rw [Int.mul_sub]; omega
        · simp only [e1, e2, if_false]; omega
    have hle := f4 (fun s => if s = a then cnt b else if s = b then cnt a else cnt s) (fun s hs => ?_) ?_
    · have h6 := hsw (fun n => (n : Int)) (fun s => manyL (xs.getD s 0))
      rw [h6] at hle
      have hxm : ∀ s, s < xs.length → xs.getD s 0 ≤ 1099511627776 := fun s hs => by
        have := hx _ (List.getElem_mem hs)
        simpa [List.getD_eq_getElem?_getD, hs] using this
      rw [manyL_id (Int.le_of_lt hpa) (hxm a ha), manyL_id (Int.le_of_lt hpos) (hxm b hb)] at hle
      have h7 : 0 < (xs.getD a 0 - xs.getD b 0) * ((cnt a : Int) - (cnt b : Int)) := Int.mul_pos (by omega) (by omega)
      rw [Int.sub_mul, Int.mul_sub, Int.mul_sub] at h7
      rw [Int.mul_sub, Int.mul_sub] at hle
      omega
    · have := c2 a ha hpa
      have := c2 b hb hpos
      split
      · omega
      · split
        · omega
        · rcases Nat.lt_or_ge s xs.length with h' | h'
          · exact (c2 s h' hs).2
          · simp [List.getD_eq_getElem?_getD, h'] at hs
    · have h6 := hsw (fun n => (2 : Int) ^ (mostL most - n)) (fun _ => 1)
      have e1 : PS xs (fun s => (1 : Int) * 2 ^ (mostL most - (if s = a then cnt b else if s = b then cnt a else cnt s))) = PS xs (fun s => (2 : Int) ^ (mostL most - (if s = a then cnt b else if s = b then cnt a else cnt s))) := by
        apply PS_congr; intro s _ _; omega
      have e2 : PS xs (fun s => (1 : Int) * 2 ^ (mostL most - cnt s)) = PS xs (fun s => (2 : Int) ^ (mostL most - cnt s)) := by
        apply PS_congr; intro s _ _; omega
      rw [e1, e2, f3] at h6
      rw [h6]; omega
  · omega

/-- All of one length cost no less. -/
theorem law_flat {xs : List Int} {most : Int} (h : xs.length ≤ 256) (hn : (coinsL xs).length ≤ 2 ^ mostL most) (hm : 1 ≤ mostL most) {f : Nat} (hf : 1 ≤ f ∧ f ≤ mostL most) (hfn : (coinsL xs).length ≤ 2 ^ f)
    {ys : List Int} (hy : ys.length = xs.length) (hyf : ∀ s, s < xs.length → 0 < xs.getD s 0 → ys.getD s 0 = (f : Int)) : costL xs (lensL xs most) ≤ costL xs ys := by
  have e : costL xs ys = PS xs (fun s => manyL (xs.getD s 0) * (f : Int)) := by
    rw [cost_PS hy]
    apply PS_congr; intro s hs hp; rw [hyf s hs hp]
  rw [e]
  refine law_best h hn hm (fun _ => f) (fun _ _ _ => hf) ?_
  rw [PS_const]
  have e2 : (2 : Int) ^ mostL most = 2 ^ (mostL most - f) * 2 ^ f := by rw [← Int.pow_add]; congr 1; omega
  rw [e2]
  apply Int.mul_le_mul_of_nonneg_left _ (Int.le_of_lt (pow_pos' _))
  obtain ⟨q, hq⟩ : ∃ q : Nat, q = 2 ^ f := ⟨_, rfl⟩
  have e3 : (2 : Int) ^ f = (q : Int) := by rw [hq]; simp
  rw [e3]; omega
end Go.V
