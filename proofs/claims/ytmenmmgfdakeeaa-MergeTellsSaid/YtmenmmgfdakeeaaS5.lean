/- Lengths of codes by coins and packages: what is chosen fills all codes, and no choice counts less. Plain Lean; no program. -/
import Derived.Test.YtmenmmgfdakeeaaS4
namespace Go.V
set_option linter.unusedVariables false
set_option linter.unusedSimpArgs false

def tot (g : Coin → Int) (l : List Coin) : Int := (l.map g).sum
theorem tot_append (g : Coin → Int) (a b : List Coin) : tot g (a ++ b) = tot g a + tot g b := by simp [tot]
theorem tot_cons (g : Coin → Int) (a : Coin) (b : List Coin) : tot g (a :: b) = g a + tot g b := by simp [tot]
theorem tot_nil (g : Coin → Int) : tot g [] = 0 := rfl
theorem tot_perm (g : Coin → Int) {a b : List Coin} (h : a.Perm b) : tot g a = tot g b := by
  induction h with
  | nil => rfl
  | cons x _ ih => rw [tot_cons, tot_cons, ih]
  | swap x y l => rw [tot_cons, tot_cons, tot_cons, tot_cons]; omega
  | trans _ _ h1 h2 => exact h1.trans h2
def gI (g : Coin → Int) (first : List Coin) (i : Nat) : Int := g (first.getD i (0, []))
theorem tot_take (g : Coin → Int) (first : List Coin) : ∀ {a : Nat}, a ≤ first.length → tot g (first.take a) = sumTo a (gI g first)
  | 0, _ => by simp [tot, sumTo]
  | a + 1, h => by
    have h' : a < first.length := by omega
    rw [List.take_succ_eq_append_getElem h', tot_append, tot_take g first (by omega)]
    simp only [sumTo, tot_cons, tot_nil, gI]
    rw [List.getD_eq_getElem?_getD, List.getElem?_eq_getElem h']
    simp

def Adds (g : Coin → Int) : Prop := ∀ a b : Coin, g (a.1 + b.1, a.2 ++ b.2) = g a + g b

theorem packs_tot {g : Coin → Int} (hg : Adds g) : ∀ {b : Nat} {l : List Coin}, 2 * b ≤ l.length → tot g ((packs l).take b) = tot g (l.take (2 * b))
  | 0, l, _ => by simp [tot]
  | b + 1, [], h => by simp at h
  | b + 1, [_], h => by simp at h; omega
  | b + 1, x :: y :: r, h => by
    have ih := packs_tot hg (b := b) (l := r) (by simp at h; omega)
    rw [show 2 * (b + 1) = (2 * b + 1) + 1 by omega]
    simp only [packs, List.take_succ_cons, tot_cons, ih, hg x y]
    omega

theorem pow_pos' (k : Nat) : (0 : Int) < 2 ^ k := by
  have h := Nat.two_pow_pos k
  obtain ⟨q, hq⟩ : ∃ q : Nat, q = 2 ^ k := ⟨_, rfl⟩
  have e : (2 : Int) ^ k = (q : Int) := by rw [hq]; simp
  rw [e]; omega
theorem pow_succ' (k : Nat) : (2 : Int) ^ (k + 1) = 2 * 2 ^ k := by rw [Int.pow_succ]; omega

theorem lev_pos {first : List Coin} (hp : ∀ x ∈ first, 0 < x.1) : ∀ k, ∀ x ∈ lev first k, 0 < x.1 :=
  lev_mem (Q := fun _ x => 0 < x.1) (fun k a b ha hb => by show 0 < a.1 + b.1; omega) (fun k x hx => hp x hx)

theorem choice {first : List Coin} (hs : SC first) (hp : ∀ x ∈ first, 0 < x.1) : ∀ (j k : Nat), k ≤ (lev first j).length →
    ∃ (x : Nat → Nat) (a : Nat), (∀ i, x i ≤ j + 1) ∧ (∀ i, a ≤ i → x i = 0) ∧ (∀ i, i < a → 1 ≤ x i) ∧ a ≤ first.length ∧
      (∀ c ∈ first.take a, c ∈ (lev first j).take k) ∧ (∀ i i', i ≤ i' → x i' ≤ x i) ∧
      sumTo first.length (fun i => 2 ^ (j + 1) - 2 ^ (j + 1 - x i)) = 2 ^ j * (k : Int) ∧
      ∀ g, Adds g → tot g ((lev first j).take k) = sumTo first.length (fun i => gI g first i * (x i : Int))
  | 0, k, hk => by
    refine ⟨fun i => if i < k then 1 else 0, k, ?_, ?_, ?_, hk, fun c hc => hc, ?_, ?_, ?_⟩
    · intro i; dsimp only; split <;> omega
    · intro i hi; dsimp only; rw [if_neg (by omega)]
    · intro i hi; dsimp only; rw [if_pos hi]; omega
    · intro i i' h; dsimp only; split <;> split <;> omega
    · have : sumTo first.length (fun i => (2 : Int) ^ (0 + 1) - 2 ^ (0 + 1 - (if i < k then 1 else 0))) = sumTo first.length (fun i => if i < k then 1 else 0) := by
        apply sumTo_congr; intro i hi; by_cases e : i < k <;> simp [e]
      have hk' : k ≤ first.length := hk
      rw [this, sumTo_cut (fun _ => 1) hk', sumTo_const]; simp
    · intro g hg
      show tot g (first.take k) = _
      have hk' : k ≤ first.length := hk
      rw [tot_take g first hk', ← sumTo_cut (gI g first) hk']
      apply sumTo_congr; intro i hi; by_cases e : i < k <;> simp [e]
  | j + 1, k, hk => by
    have hpl := lev_pos hp j
    have hk' : k ≤ first.length + (packs (lev first j)).length := by
      have := hk
      simp only [lev, packedL, mergeC_length] at this
      exact this
    obtain ⟨a, b, e1, e2, e3, e4, e5⟩ := merge_take (N := k) (k := k) (cs := first) (ps := packs (lev first j)) (Nat.le_refl _) hk' hs
    have h2b : 2 * b ≤ (lev first j).length := by rw [packs_length] at e3; omega
    obtain ⟨x', a', x1, x2, x3, x4, x5, x6, x7, x8⟩ := choice hs hp j (2 * b) h2b
    have haa : a' ≤ a := by
      rcases Nat.lt_or_ge a a' with hlt | hge
      · exfalso
        have hi : a < first.length := by omega
        have hm : first[a] ∈ first.take a' := List.mem_take_iff_getElem.2 ⟨a, by omega, rfl⟩
        obtain ⟨p, q1, q2⟩ := packs_has h2b (fun y hy => Int.le_of_lt (hpl y hy)) (x5 _ hm)
        have hd : first[a] ∈ first.drop a := by rw [List.drop_eq_getElem_cons hi]; exact List.mem_cons_self
        have := e5 p q1 _ hd
        omega
      · exact hge
    refine ⟨fun i => (if i < a then 1 else 0) + x' i, a, ?_, ?_, ?_, e2, ?_, ?_, ?_, ?_⟩
    · intro i; have := x1 i; dsimp only; split <;> omega
    · intro i hi; have := x2 i (by omega); dsimp only; rw [if_neg (by omega)]; omega
    · intro i hi; dsimp only; rw [if_pos hi]; omega
    · intro c hc
      exact e4.symm.subset (List.mem_append_left _ hc)
    · intro i i' h
      have := x6 i i' h
      dsimp only; split <;> split <;> omega
    · have : sumTo first.length (fun i => (2 : Int) ^ (j + 1 + 1) - 2 ^ (j + 1 + 1 - ((if i < a then 1 else 0) + x' i))) =
          sumTo first.length (fun i => (if i < a then (2 : Int) ^ (j + 1) else 0) + (2 ^ (j + 1) - 2 ^ (j + 1 - x' i))) := by
        apply sumTo_congr
        intro i hi
        have h1 := x1 i
        split
        · rw [show j + 1 + 1 - (1 + x' i) = j + 1 - x' i by omega, pow_succ' (j + 1)]; omega
        · have := x2 i (by omega)
          rw [this]; simp
      rw [this, sumTo_add, sumTo_cut (fun _ => (2 : Int) ^ (j + 1)) e2, sumTo_const, x7, pow_succ' j, ← e1]
      rw [Int.natCast_add, Int.natCast_mul, Int.mul_add, Int.mul_comm (a : Int), Int.mul_left_comm, Int.mul_assoc 2 (2 ^ j) (b : Int)]
      rfl
    · intro g hg
      show tot g ((mergeC first (packs (lev first j))).take k) = _
      rw [tot_perm g e4, tot_append, packs_tot hg h2b, x8 g hg, tot_take g first e2, ← sumTo_cut (gI g first) e2, ← sumTo_add]
      apply sumTo_congr
      intro i hi
      by_cases e : i < a
      · simp [e, Int.mul_add]
      · simp [e]

/-- The least of so many. -/
theorem least_sum {N : Nat} {c : Nat → Int} (hc : ∀ i i', i ≤ i' → i' < N → c i ≤ c i') (p : Nat → Bool) : ∀ n, n ≤ N → ∃ b, b ≤ n ∧ sumTo n (fun i => if p i then 1 else 0) = (b : Int) ∧ sumTo b c ≤ sumTo n (fun i => if p i then c i else 0)
  | 0, _ => ⟨0, by omega, rfl, Int.le_refl _⟩
  | n + 1, hn => by
    obtain ⟨b, h1, h2, h3⟩ := least_sum hc p n (by omega)
    by_cases hp : p n = true
    · refine ⟨b + 1, by omega, ?_, ?_⟩
      · simp only [sumTo, h2, hp, if_true]; omega
      · have := hc b n h1 (by omega)
        simp only [sumTo, hp, if_true]; omega
    · refine ⟨b, by omega, ?_, ?_⟩
      · simp only [sumTo, h2, hp]; simp
      · simp only [sumTo, hp]; simpa using h3

theorem sumTo_mono {N : Nat} {c : Nat → Int} (hc : ∀ i, i < N → 0 ≤ c i) {a b : Nat} (h : a ≤ b) (hb : b ≤ N) : sumTo a c ≤ sumTo b c := by
  induction b with
  | zero => have : a = 0 := by omega
            subst this; exact Int.le_refl _
  | succ b ih =>
    by_cases e : a = b + 1
    · subst e; exact Int.le_refl _
    · have := ih (by omega) (by omega)
      have := hc b (by omega)
      simp only [sumTo]; omega

theorem cI_mono {first : List Coin} (hs : SC first) : ∀ i i', i ≤ i' → i' < first.length → cI first i ≤ cI first i' := by
  intro i i' h h'
  have hi : i < first.length := by omega
  have := SortedK.get hs h (List.getElem?_eq_getElem hi) (List.getElem?_eq_getElem h')
  simpa [cI, List.getD_eq_getElem?_getD, hi, h'] using this

theorem cI_pos {first : List Coin} (hp : ∀ x ∈ first, 0 < x.1) : ∀ i, i < first.length → 0 < cI first i := by
  intro i hi
  have := hp _ (List.getElem_mem hi)
  simpa [cI, List.getD_eq_getElem?_getD, hi] using this

/-- No choice of as many counts less. -/
theorem best {first : List Coin} (hs : SC first) (hp : ∀ x ∈ first, 0 < x.1) : ∀ (j k : Nat) (y : Nat → Nat), (∀ i, i < first.length → y i ≤ j + 1) → k ≤ (lev first j).length →
    2 ^ j * (k : Int) ≤ sumTo first.length (fun i => 2 ^ (j + 1) - 2 ^ (j + 1 - y i)) → wt ((lev first j).take k) ≤ sumTo first.length (fun i => cI first i * (y i : Int))
  | 0, k, y, hy, hk, h => by
    obtain ⟨b, b1, b2, b3⟩ := least_sum (cI_mono hs) (fun i => decide (1 ≤ y i)) first.length (Nat.le_refl _)
    have h1 : sumTo first.length (fun i => (2 : Int) ^ (0 + 1) - 2 ^ (0 + 1 - y i)) = sumTo first.length (fun i => if decide (1 ≤ y i) then 1 else 0) := by
      apply sumTo_congr; intro i hi
      have := hy i hi
      by_cases e : 1 ≤ y i
      · have : y i = 1 := by omega
        simp [this]
      · have : y i = 0 := by omega
        simp [this]
    have h2 : sumTo first.length (fun i => if decide (1 ≤ y i) then cI first i else 0) = sumTo first.length (fun i => cI first i * (y i : Int)) := by
      apply sumTo_congr; intro i hi
      have := hy i hi
      by_cases e : 1 ≤ y i
      · have : y i = 1 := by omega
        simp [this]
      · have : y i = 0 := by omega
        simp [this]
    rw [h1, b2] at h
    have hkb : k ≤ b := by simp at h; omega
    show wt (first.take k) ≤ _
    rw [wt_take first hk, ← h2]
    exact Int.le_trans (sumTo_mono (fun i hi => Int.le_of_lt (cI_pos hp i hi)) hkb b1) b3
  | j + 1, k, y, hy, hk, h => by
    obtain ⟨b, b1, b2, b3⟩ := least_sum (cI_mono hs) (fun i => decide (1 ≤ y i)) first.length (Nat.le_refl _)
    have hS := lev_sorted hs j
    have hPS := packs_sorted hS
    have hk' : k ≤ first.length + (packs (lev first j)).length := by
      have := hk
      simp only [lev, packedL, mergeC_length] at this
      exact this
    have key : sumTo first.length (fun i => cI first i * (y i : Int)) = sumTo first.length (fun i => if decide (1 ≤ y i) then cI first i else 0) + sumTo first.length (fun i => cI first i * ((y i - 1 : Nat) : Int)) := by
      rw [← sumTo_add]
      apply sumTo_congr; intro i hi
      by_cases e : 1 ≤ y i
      · have e2 : (y i : Int) = 1 + ((y i - 1 : Nat) : Int) := by omega
        simp only [e, decide_true, if_true]
        rw [e2, Int.mul_add]; simp
      · have : y i = 0 := by omega
        simp [this]
    have hw : sumTo first.length (fun i => (2 : Int) ^ (j + 1 + 1) - 2 ^ (j + 1 + 1 - y i)) = 2 ^ (j + 1) * (b : Int) + sumTo first.length (fun i => 2 ^ (j + 1) - 2 ^ (j + 1 - (y i - 1))) := by
      rw [← b2, ← sumTo_mul, ← sumTo_add]
      apply sumTo_congr; intro i hi
      have := hy i hi
      by_cases e : 1 ≤ y i
      · simp only [e, decide_true, if_true]
        rw [show j + 1 + 1 - y i = j + 1 - (y i - 1) by omega, pow_succ' (j + 1)]; omega
      · have : y i = 0 := by omega
        simp [this]
    have hwpos : 0 ≤ sumTo first.length (fun i => (2 : Int) ^ (j + 1) - 2 ^ (j + 1 - (y i - 1))) := by
      have := sumTo_le (n := first.length) (f := fun _ => (0 : Int)) (g := fun i => (2 : Int) ^ (j + 1) - 2 ^ (j + 1 - (y i - 1))) (fun i hi => by
        have h1 : 2 ^ (j + 1 - (y i - 1)) ≤ 2 ^ (j + 1) := Nat.pow_le_pow_right (n := 2) (by omega) (by omega)
        have e1 : ((2 ^ (j + 1 - (y i - 1)) : Nat) : Int) = 2 ^ (j + 1 - (y i - 1)) := by simp
        have e2 : ((2 ^ (j + 1) : Nat) : Int) = 2 ^ (j + 1) := by simp
        rw [← e1, ← e2]; omega)
      rw [sumTo_zero] at this; exact this
    show wt ((mergeC first (packs (lev first j))).take k) ≤ _
    rw [key]
    have hdeep : 0 ≤ sumTo first.length (fun i => cI first i * ((y i - 1 : Nat) : Int)) := by
      have := sumTo_le (n := first.length) (f := fun _ => (0 : Int)) (g := fun i => cI first i * ((y i - 1 : Nat) : Int)) (fun i hi => Int.mul_nonneg (Int.le_of_lt (cI_pos hp i hi)) (by omega))
      rw [sumTo_zero] at this; exact this
    by_cases hkb : k ≤ b
    · have hm := merge_min (N := k) (a := k) (b := 0) (cs := first) (ps := packs (lev first j)) (by omega) hs hPS (by omega) (by omega)
      rw [Nat.add_zero, List.take_zero, wt_nil, wt_take first (by omega)] at hm
      have := sumTo_mono (c := cI first) (fun i hi => Int.le_of_lt (cI_pos hp i hi)) hkb b1
      omega
    · obtain ⟨q, hq⟩ : ∃ q, k = b + q := ⟨k - b, by omega⟩
      subst hq
      have h2 : 2 ^ j * ((2 * q : Nat) : Int) ≤ sumTo first.length (fun i => 2 ^ (j + 1) - 2 ^ (j + 1 - (y i - 1))) := by
        rw [hw] at h
        have e1 : (2 : Int) ^ (j + 1) * ((b + q : Nat) : Int) = 2 ^ (j + 1) * (b : Int) + 2 ^ (j + 1) * (q : Int) := by rw [Int.natCast_add, Int.mul_add]
        have e2 : (2 : Int) ^ j * ((2 * q : Nat) : Int) = 2 ^ (j + 1) * (q : Int) := by
          rw [pow_succ' j, Int.natCast_mul, Int.mul_comm 2 ((2 : Int) ^ j), Int.mul_assoc]; rfl
        omega
      have hqb : q ≤ (packs (lev first j)).length := by
        have := hk
        simp only [lev, packedL, mergeC_length] at this
        -- as wide as all that there is
        have hall : sumTo first.length (fun i => (2 : Int) ^ (j + 1) - 2 ^ (j + 1 - (y i - 1))) ≤ (first.length : Int) * (2 ^ (j + 1) - 1) := by
          rw [← sumTo_const]
          apply sumTo_le; intro i hi
          have := pow_pos' (j + 1 - (y i - 1)); omega
        have hl := lev_length first j
        rw [packs_length]
        rcases Nat.lt_or_ge ((lev first j).length / 2) q with hlt | hge
        · exfalso
          have h3 : (lev first j).length + 1 ≤ 2 * q := by omega
          -- 2q ≤ 2n - n/2^j
          have h4 : (2 : Int) ^ j * ((2 * q : Nat) : Int) ≤ (first.length : Int) * (2 ^ (j + 1) - 1) := Int.le_trans h2 hall
          have h5 : 2 ^ j * (2 * q) + first.length ≤ first.length * (2 * 2 ^ j) := by
            have e1 : ((2 ^ j : Nat) : Int) = 2 ^ j := by simp
            have e2 : (first.length : Int) * (2 ^ (j + 1) - 1) = (first.length : Int) * (2 * 2 ^ j) - first.length := by rw [pow_succ', Int.mul_sub]; simp
            rw [e2] at h4
            have e3 : ((2 ^ j * (2 * q) : Nat) : Int) = 2 ^ j * ((2 * q : Nat) : Int) := by rw [Int.natCast_mul]; simp
            have e4 : ((first.length * (2 * 2 ^ j) : Nat) : Int) = (first.length : Int) * (2 * 2 ^ j) := by rw [Int.natCast_mul]; simp
            apply Int.ofNat_le.1
            rw [Int.natCast_add, e3, e4]
            generalize (2 : Int) ^ j * ((2 * q : Nat) : Int) = z1 at *
            generalize (first.length : Int) * (2 * 2 ^ j) = z2 at *
            omega
          have hpp := Nat.two_pow_pos j
          have e : first.length * (2 * 2 ^ j) = 2 ^ j * (2 * first.length) := by rw [Nat.mul_comm 2 (2 ^ j), Nat.mul_left_comm, Nat.mul_comm first.length 2]
          have hqn : 2 * q ≤ 2 * first.length := by
            rcases Nat.lt_or_ge (2 * first.length) (2 * q) with hl | hg
            · exfalso
              have := Nat.mul_le_mul_left (2 ^ j) (Nat.le_of_lt hl)
              have h8 := Nat.mul_lt_mul_of_pos_left hl hpp
              rw [e] at h5
              generalize 2 ^ j * (2 * q) = z1 at *
              generalize 2 ^ j * (2 * first.length) = z2 at *
              omega
            · exact hg
          have h6 : first.length + 2 ^ j - 1 < 2 ^ j * (2 * first.length - 2 * q + 1) := by
            obtain ⟨d, hd⟩ : ∃ d, 2 * first.length = 2 * q + d := ⟨2 * first.length - 2 * q, by omega⟩
            rw [e, hd, Nat.mul_add] at h5
            rw [show 2 * first.length - 2 * q + 1 = d + 1 by omega, Nat.mul_add, Nat.mul_one]
            omega
          have h7 : (first.length + 2 ^ j - 1) / 2 ^ j < 2 * first.length - 2 * q + 1 := (Nat.div_lt_iff_lt_mul hpp).2 (by rw [Nat.mul_comm]; exact h6)
          omega
        · exact hge
      have h2q : 2 * q ≤ (lev first j).length := by rw [packs_length] at hqb; omega
      have ih := best hs hp j (2 * q) (fun i => y i - 1) (fun i hi => by have := hy i hi; omega) h2q h2
      have hm := merge_min (N := b + q) (a := b) (b := q) (cs := first) (ps := packs (lev first j)) (by omega) hs hPS b1 hqb
      rw [(packs_take h2q).1, wt_take first b1] at hm
      omega
end Go.V
