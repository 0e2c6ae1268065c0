/- Lengths of codes, symbol by symbol: all codes are used, none is too long, none is better. Plain Lean; no program. -/
import Derived.Test.YtmenmmgfdakeeaaS5
namespace Go.V
set_option linter.unusedVariables false
set_option linter.unusedSimpArgs false

theorem ins_perm {α : Type} (key : α → Int) (x : α) : ∀ l : List α, (ins key x l).Perm (x :: l)
  | [] => by simp [ins]
  | y :: ys => by
    unfold ins
    split
    · exact ((ins_perm key x ys).cons y).trans (List.Perm.swap x y ys)
    · exact List.Perm.refl _
theorem inOrder_perm {α : Type} (key : α → Int) (xs : List α) : (inOrder key xs).Perm xs := by
  have : ∀ (xs l : List α), (xs.foldl (fun l x => ins key x l) l).Perm (l ++ xs) := by
    intro xs
    induction xs with
    | nil => intro l; simp
    | cons x xs ih =>
      intro l
      refine (ih _).trans ?_
      have h1 : (ins key x l ++ xs).Perm ((x :: l) ++ xs) := (ins_perm key x l).append_right xs
      exact h1.trans (List.perm_middle (a := x) (l₁ := l) (l₂ := xs)).symm
  simpa [inOrder] using this xs []

def sy (c : Coin) : Nat := c.2.headD 0

/-- The sum over the symbols that there are. -/
def PS (xs : List Int) (f : Nat → Int) : Int := sumTo xs.length (fun s => if 0 < xs.getD s 0 then f s else 0)

theorem tot_raw (g : Coin → Int) (xs : List Int) : ∀ k, k ≤ xs.length → tot g (rawCoins 0 (xs.take k)) = sumTo k (fun s => if 0 < xs.getD s 0 then g (manyL (xs.getD s 0), [s]) else 0)
  | 0, _ => by simp [rawCoins, tot, sumTo]
  | k + 1, h => by
    have h' : k < xs.length := by omega
    have hd : xs.getD k 0 = xs[k] := by simp [List.getD_eq_getElem?_getD, h']
    rw [List.take_succ_eq_append_getElem h', rawCoins_append, tot_append, tot_raw g xs k (by omega)]
    have hl : (xs.take k).length = k := by simp; omega
    simp only [sumTo, hd, hl, Nat.zero_add, rawCoins]
    split <;> simp [tot]

theorem tot_coins (g : Coin → Int) (xs : List Int) : tot g (coinsL xs) = PS xs (fun s => g (manyL (xs.getD s 0), [s])) := by
  have h := tot_raw g xs xs.length (Nat.le_refl _)
  rw [List.take_length] at h
  rw [PS, ← h]
  exact tot_perm g (inOrder_perm _ _)

theorem sum_coins (g : Coin → Int) (xs : List Int) : sumTo (coinsL xs).length (gI g (coinsL xs)) = PS xs (fun s => g (manyL (xs.getD s 0), [s])) := by
  rw [← tot_coins, ← tot_take g _ (Nat.le_refl _), List.take_length]

theorem rawCoins_lt : ∀ (xs : List Int) (i : Nat), (rawCoins i xs).Pairwise (fun a b => sy a < sy b)
  | [], i => by simp [rawCoins]
  | n :: ns, i => by
    unfold rawCoins
    split
    · refine List.pairwise_cons.2 ⟨fun z hz => ?_, rawCoins_lt ns (i + 1)⟩
      obtain ⟨_, _, s, h3, h4, _⟩ := rawCoins_mem ns (i + 1) z hz
      simp [sy, h3]; omega
    · exact rawCoins_lt ns (i + 1)

theorem coins_nodup (xs : List Int) : ((coinsL xs).map sy).Nodup := by
  have h1 : ((rawCoins 0 xs).map sy).Nodup := by
    rw [List.Nodup, List.pairwise_map]
    exact (rawCoins_lt xs 0).imp (fun h => by omega)
  exact ((inOrder_perm Prod.fst (rawCoins 0 xs)).map sy).nodup_iff.2 h1

theorem coins_inj {xs : List Int} {i j : Nat} (hi : i < (coinsL xs).length) (hj : j < (coinsL xs).length) (h : sy (coinsL xs)[i] = sy (coinsL xs)[j]) : i = j := by
  have := coins_nodup xs
  rw [List.Nodup, List.pairwise_iff_getElem] at this
  rcases Nat.lt_trichotomy i j with hlt | he | hgt
  · exact absurd (by rw [List.getElem_map, List.getElem_map]; exact h) (this i j (by simpa using hi) (by simpa using hj) hlt)
  · exact he
  · exact absurd (by rw [List.getElem_map, List.getElem_map]; exact h.symm) (this j i (by simpa using hj) (by simpa using hi) hgt)

theorem coin_sym {xs : List Int} {c : Coin} (h : c ∈ coinsL xs) : c.2 = [sy c] ∧ sy c < xs.length := by
  obtain ⟨_, _, s, h3, h4⟩ := coinsL_mem h
  simp [sy, h3, h4]

/-- The symbols of the coins are those that there are. -/
theorem coin_present {xs : List Int} {c : Coin} (h : c ∈ coinsL xs) : 0 < xs.getD (sy c) 0 ∧ c.1 = manyL (xs.getD (sy c) 0) := by
  have h0 : c ∈ rawCoins 0 xs := (inOrder_perm Prod.fst (rawCoins 0 xs)).subset h
  have : ∀ (ys : List Int) (i : Nat), c ∈ rawCoins i ys → 0 < ys.getD (sy c - i) 0 ∧ c.1 = manyL (ys.getD (sy c - i) 0) := by
    intro ys
    induction ys with
    | nil => intro i h; simp [rawCoins] at h
    | cons n ns ih =>
      intro i h
      have more : c ∈ rawCoins (i + 1) ns → 0 < (n :: ns).getD (sy c - i) 0 ∧ c.1 = manyL ((n :: ns).getD (sy c - i) 0) := by
        intro h
        obtain ⟨_, _, s, h3, h4, _⟩ := rawCoins_mem ns (i + 1) c h
        have hs : sy c = s := by simp [sy, h3]
        have := ih (i + 1) h
        have e : sy c - i = (sy c - (i + 1)) + 1 := by omega
        rw [e]; simpa using this
      unfold rawCoins at h
      split at h
      · rename_i hn
        rcases List.mem_cons.1 h with e | e
        · subst e; simp [sy]; exact hn
        · exact more e
      · exact more h
  simpa using this xs 0 h0

theorem sumTo_delta (f : Nat → Int) {i : Nat} : ∀ {n : Nat}, i < n → sumTo n (fun j => if j = i then f j else 0) = f i
  | 0, h => by omega
  | n + 1, h => by
    by_cases e : i = n
    · subst e
      have : sumTo i (fun j => if j = i then f j else 0) = sumTo i (fun _ => 0) := sumTo_congr (fun j hj => by rw [if_neg (by omega)])
      simp only [sumTo, this, sumTo_zero]; simp
    · have := sumTo_delta f (i := i) (n := n) (by omega)
      simp only [sumTo, this]; rw [if_neg (by omega)]; omega

theorem count_flat (s : Nat) : ∀ l : List Coin, ((l.flatMap Prod.snd).count s : Int) = tot (fun c => (c.2.count s : Int)) l
  | [] => by simp [tot]
  | c :: l => by
    have := count_flat s l
    simp only [List.flatMap_cons, List.count_append, tot_cons]; omega

theorem sumTo_part_lt {f : Nat → Int} : ∀ {n : Nat}, (∀ i, i < n → 0 < f i) → ∀ i, i < n → f i ≤ sumTo n f ∧ (2 ≤ n → f i < sumTo n f)
  | 0, _, i, hi => by omega
  | n + 1, h, i, hi => by
    have hn := h n (by omega)
    have hnn : 0 ≤ sumTo n f := by
      have := sumTo_le (n := n) (f := fun _ => (0 : Int)) (g := f) (fun i hi => Int.le_of_lt (h i (by omega)))
      rw [sumTo_zero] at this; exact this
    by_cases e : i = n
    · subst e
      refine ⟨by simp only [sumTo]; omega, fun h2 => ?_⟩
      have := (sumTo_part_lt (f := f) (n := i) (fun j hj => h j (by omega)) 0 (by omega)).1
      have := h 0 (by omega)
      simp only [sumTo]; omega
    · have ih := sumTo_part_lt (f := f) (n := n) (fun j hj => h j (by omega)) i (by omega)
      refine ⟨by simp only [sumTo]; omega, fun _ => by simp only [sumTo]; omega⟩

/-- What the lengths are, symbol by symbol. -/
theorem chosen_facts {xs : List Int} {m : Nat} (hm : 1 ≤ m) (h2 : 2 ≤ (coinsL xs).length) (hn : (coinsL xs).length ≤ 2 ^ m) :
    (∀ s, ¬ 0 < xs.getD s 0 → (chosen xs m).count s = 0) ∧ (∀ s, 0 < xs.getD s 0 → 1 ≤ (chosen xs m).count s ∧ (chosen xs m).count s ≤ m) ∧
    PS xs (fun s => 2 ^ (m - (chosen xs m).count s)) = 2 ^ m ∧
    (∀ y : Nat → Nat, (∀ s, 0 < xs.getD s 0 → y s ≤ m) → PS xs (fun s => 2 ^ (m - y s)) ≤ 2 ^ m → PS xs (fun s => manyL (xs.getD s 0) * ((chosen xs m).count s : Int)) ≤ PS xs (fun s => manyL (xs.getD s 0) * (y s : Int))) := by
  have hs : SC (coinsL xs) := inOrder_sorted _
  have hp : ∀ x ∈ coinsL xs, 0 < x.1 := fun x hx => (coinsL_mem hx).1
  have hk := lev_long hm hn
  have hch : chosen xs m = ((lev (coinsL xs) (m - 1)).take (2 * (coinsL xs).length - 2)).flatMap Prod.snd := by unfold chosen; rw [if_neg (by omega)]
  obtain ⟨x, a, x1, x2, x3, x4, x5, x6, x7, x8⟩ := choice hs hp (m - 1) _ hk
  have em : m - 1 + 1 = m := by omega
  rw [em] at x1 x7
  generalize hN : (coinsL xs).length = N at *
  -- how often each symbol is chosen
  have hadd : ∀ s, Adds (fun c => (c.2.count s : Int)) := fun s a b => by simp
  have hcount : ∀ s, ((chosen xs m).count s : Int) = sumTo N (fun i => gI (fun c => (c.2.count s : Int)) (coinsL xs) i * (x i : Int)) := by
    intro s
    rw [hch, count_flat, x8 _ (hadd s)]
  have hget : ∀ i, (h : i < N) → (coinsL xs).getD i (0, []) = (coinsL xs)[i]'(by omega) := by
    intro i h
    have h' : i < (coinsL xs).length := by omega
    simp [List.getD_eq_getElem?_getD, h']
  have hx : ∀ i, i < N → ((chosen xs m).count (sy ((coinsL xs).getD i (0, []))) : Int) = (x i : Int) := by
    intro i hi
    rw [hcount]
    rw [← sumTo_delta (fun j => (x j : Int)) hi]
    apply sumTo_congr
    intro j hj
    have hj' : j < (coinsL xs).length := by omega
    have hi' : i < (coinsL xs).length := by omega
    have c1 := coin_sym (List.getElem_mem hj')
    simp only [gI]
    rw [hget i hi, hget j hj, c1.1]
    by_cases e : j = i
    · subst e; simp
    · have : sy (coinsL xs)[j] ≠ sy (coinsL xs)[i] := fun h => e (coins_inj hj' hi' h)
      simp [e, this]
  have hkr : sumTo N (fun i => (2 : Int) ^ (m - x i)) = 2 ^ m := by
    have e1 : sumTo N (fun i => (2 : Int) ^ m - 2 ^ (m - x i)) + sumTo N (fun i => (2 : Int) ^ (m - x i)) = sumTo N (fun _ => (2 : Int) ^ m) := by
      rw [← sumTo_add]; apply sumTo_congr; intro i hi; omega
    rw [x7, sumTo_const] at e1
    have e2 : (2 : Int) ^ m = 2 * 2 ^ (m - 1) := by rw [← pow_succ', em]
    have e3 : (2 : Int) ^ (m - 1) * ((2 * N - 2 : Nat) : Int) + 2 ^ m = N * 2 ^ m := by
      obtain ⟨d, hd⟩ : ∃ d : Nat, N = d + 1 := ⟨N - 1, by omega⟩
      subst hd
      rw [e2, show 2 * (d + 1) - 2 = 2 * d by omega]
      generalize (2 : Int) ^ (m - 1) = z
      rw [Int.natCast_mul, Int.natCast_add, Int.add_mul]
      rw [Int.mul_left_comm, Int.mul_left_comm (d : Int) 2 z, Int.mul_comm z (d : Int)]
      simp
    omega
  have hx1 : ∀ i, i < N → 1 ≤ x i := by
    intro i hi
    rcases Nat.eq_zero_or_pos (x i) with h0 | h0
    · exfalso
      have := (sumTo_part_lt (f := fun i => (2 : Int) ^ (m - x i)) (n := N) (fun j hj => pow_pos' _) i hi).2 h2
      rw [hkr, h0] at this
      simp at this
    · exact h0
  have hfind : ∀ s, 0 < xs.getD s 0 → ∃ i, i < N ∧ sy ((coinsL xs).getD i (0, [])) = s := by
    intro s hs0
    have hsN : s < xs.length := by
      rcases Nat.lt_or_ge s xs.length with h | h
      · exact h
      · simp [List.getD_eq_getElem?_getD, h] at hs0
    have hmem : (manyL (xs.getD s 0), [s]) ∈ rawCoins 0 xs := by
      have : ∀ (ys : List Int) (i j : Nat), 0 < ys.getD j 0 → (manyL (ys.getD j 0), [i + j]) ∈ rawCoins i ys := by
        intro ys
        induction ys with
        | nil => intro i j h; simp at h
        | cons n ns ih =>
          intro i j h
          cases j with
          | zero => simp at h; simp [rawCoins, h]
          | succ j =>
            have := ih (i + 1) j (by simpa using h)
            unfold rawCoins
            have e : i + 1 + j = i + (j + 1) := by omega
            rw [e] at this
            split
            · exact List.mem_cons_of_mem _ (by simpa using this)
            · simpa using this
      simpa using this xs 0 s hs0
    have hmem' : (manyL (xs.getD s 0), [s]) ∈ coinsL xs := (inOrder_perm Prod.fst (rawCoins 0 xs)).symm.subset hmem
    obtain ⟨i, hi, he⟩ := List.mem_iff_getElem.1 hmem'
    refine ⟨i, by omega, ?_⟩
    rw [hget i (by omega), he]; rfl
  have hlen : ∀ s, 0 < xs.getD s 0 → 1 ≤ (chosen xs m).count s ∧ (chosen xs m).count s ≤ m := by
    intro s hs0
    obtain ⟨i, hi, rfl⟩ := hfind s hs0
    have := hx i hi
    have := hx1 i hi
    have := x1 i
    omega
  refine ⟨?_, hlen, ?_, ?_⟩
  · intro s hs0
    have h : ((chosen xs m).count s : Int) = 0 := by
      rw [hcount]
      rw [show (0 : Int) = sumTo N (fun _ => 0) from (sumTo_zero N).symm]
      apply sumTo_congr
      intro j hj
      have hj' : j < (coinsL xs).length := by omega
      have c1 := coin_sym (List.getElem_mem hj')
      have c2 := coin_present (List.getElem_mem hj')
      simp only [gI]
      rw [hget j hj, c1.1]
      have : sy (coinsL xs)[j] ≠ s := fun e => hs0 (by rw [← e]; exact c2.1)
      simp [this]
    omega
  · have h := sum_coins (fun c => (2 : Int) ^ (m - (chosen xs m).count (sy c))) xs
    rw [hN] at h
    have e : PS xs (fun s => (2 : Int) ^ (m - (chosen xs m).count s)) = PS xs (fun s => (2 : Int) ^ (m - (chosen xs m).count (sy (manyL (xs.getD s 0), [s])))) := rfl
    rw [e, ← h, ← hkr]
    apply sumTo_congr
    intro i hi
    have := hx i hi
    have : (chosen xs m).count (sy ((coinsL xs).getD i (0, []))) = x i := by omega
    simp only [gI, this]
  · intro y hy hk2
    have h1 := sum_coins (fun c => c.1 * ((chosen xs m).count (sy c) : Int)) xs
    have h2' := sum_coins (fun c => c.1 * (y (sy c) : Int)) xs
    have h3 := sum_coins (fun c => (2 : Int) ^ (m - y (sy c))) xs
    rw [hN] at h1 h2' h3
    have e1 : PS xs (fun s => manyL (xs.getD s 0) * ((chosen xs m).count s : Int)) = PS xs (fun s => (manyL (xs.getD s 0), [s]).1 * ((chosen xs m).count (sy (manyL (xs.getD s 0), [s])) : Int)) := rfl
    have e2 : PS xs (fun s => manyL (xs.getD s 0) * (y s : Int)) = PS xs (fun s => (manyL (xs.getD s 0), [s]).1 * (y (sy (manyL (xs.getD s 0), [s])) : Int)) := rfl
    have e3 : PS xs (fun s => (2 : Int) ^ (m - y s)) = PS xs (fun s => (2 : Int) ^ (m - y (sy (manyL (xs.getD s 0), [s])))) := rfl
    rw [e3, ← h3] at hk2
    rw [e1, ← h1, e2, ← h2']
    -- the choice that y is
    have hyi : ∀ i, i < (coinsL xs).length → y (sy ((coinsL xs).getD i (0, []))) ≤ m - 1 + 1 := by
      intro i hi
      rw [em]
      apply hy
      rw [hget i (by omega)]
      exact (coin_present (List.getElem_mem hi)).1
    have hb := best hs hp (m - 1) _ (fun i => y (sy ((coinsL xs).getD i (0, [])))) hyi hk ?_
    · rw [hN] at hb
      have hw : wt ((lev (coinsL xs) (m - 1)).take (2 * N - 2)) = tot Prod.fst ((lev (coinsL xs) (m - 1)).take (2 * N - 2)) := rfl
      rw [hw, x8 Prod.fst (fun a b => rfl)] at hb
      have e4 : sumTo N (gI (fun c => c.1 * ((chosen xs m).count (sy c) : Int)) (coinsL xs)) = sumTo N (fun i => gI Prod.fst (coinsL xs) i * (x i : Int)) := by
        apply sumTo_congr; intro i hi
        simp only [gI]; rw [hx i hi]
      rw [e4]
      exact hb
    · rw [em, hN]
      have e5 : sumTo N (fun i => (2 : Int) ^ m - 2 ^ (m - y (sy ((coinsL xs).getD i (0, []))))) + sumTo N (gI (fun c => (2 : Int) ^ (m - y (sy c))) (coinsL xs)) = sumTo N (fun _ => (2 : Int) ^ m) := by
        rw [← sumTo_add]; apply sumTo_congr; intro i hi; simp only [gI]; omega
      have e6 : sumTo N (fun i => (2 : Int) ^ m - 2 ^ (m - x i)) + sumTo N (fun i => (2 : Int) ^ (m - x i)) = sumTo N (fun _ => (2 : Int) ^ m) := by
        rw [← sumTo_add]; apply sumTo_congr; intro i hi; omega
      rw [hkr, x7] at e6
      omega
end Go.V
