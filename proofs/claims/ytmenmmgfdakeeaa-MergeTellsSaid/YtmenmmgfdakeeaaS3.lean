/- Lengths of codes by coins and packages: lists alone. Plain Lean; no program. -/
import Derived.Test.YtmenmmgfdakeeaaV3
import Derived.Test.YtmenmmgfdakeeaaS2
namespace Go.V
set_option linter.unusedVariables false

/-- A count, and the symbols counted in it. -/
abbrev Coin := Int × List Nat

/-- A count as it counts. -/
def manyL (n : Int) : Int := mn (mx n 0) 1099511627776

theorem manyL_pos {n : Int} (h : n > 0) : 0 < manyL n ∧ manyL n ≤ 1099511627776 := by
  unfold manyL mx mn; split <;> split <;> omega
theorem manyL_bound (n : Int) : 0 ≤ manyL n ∧ manyL n ≤ 1099511627776 := by
  unfold manyL mx mn; split <;> split <;> omega

/-- The coins: symbols that there are, by count, then by symbol. -/
def rawCoins (i : Nat) : List Int → List Coin
  | [] => []
  | n :: ns => if n > 0 then (manyL n, [i]) :: rawCoins (i + 1) ns else rawCoins (i + 1) ns
def coinsL (xs : List Int) : List Coin := inOrder Prod.fst (rawCoins 0 xs)

theorem rawCoins_append (ys : List Int) : ∀ (xs : List Int) (i : Nat), rawCoins i (xs ++ ys) = rawCoins i xs ++ rawCoins (i + xs.length) ys
  | [], i => by simp [rawCoins]
  | x :: xs, i => by
    have ih := rawCoins_append ys xs (i + 1)
    simp only [List.cons_append, rawCoins, ih, List.length_cons, show i + 1 + xs.length = i + (xs.length + 1) by omega]
    split <;> simp

theorem rawCoins_mem : ∀ (xs : List Int) (i : Nat) (x : Coin), x ∈ rawCoins i xs → 0 < x.1 ∧ x.1 ≤ 1099511627776 ∧ ∃ s, x.2 = [s] ∧ i ≤ s ∧ s < i + xs.length
  | [], i, x, h => by simp [rawCoins] at h
  | n :: ns, i, x, h => by
    have ih := rawCoins_mem ns (i + 1) x
    have more : (x ∈ rawCoins (i + 1) ns) → 0 < x.1 ∧ x.1 ≤ 1099511627776 ∧ ∃ s, x.2 = [s] ∧ i ≤ s ∧ s < i + (n :: ns).length := by
      intro h
      obtain ⟨h1, h2, s, h3, h4, h5⟩ := ih h
      exact ⟨h1, h2, s, h3, by omega, by simp; omega⟩
    unfold rawCoins at h
    split at h
    · rename_i hn
      rcases List.mem_cons.1 h with e | e
      · subst e
        exact ⟨(manyL_pos hn).1, (manyL_pos hn).2, i, rfl, by omega, by simp⟩
      · exact more e
    · exact more h

theorem coinsL_mem {xs : List Int} {x : Coin} (h : x ∈ coinsL xs) : 0 < x.1 ∧ x.1 ≤ 1099511627776 ∧ ∃ s, x.2 = [s] ∧ s < xs.length := by
  obtain ⟨h1, h2, s, h3, _, h5⟩ := rawCoins_mem xs 0 x ((inOrder_same (rawCoins 0 xs)).mem h)
  exact ⟨h1, h2, s, h3, by omega⟩

theorem rawCoins_length : ∀ (xs : List Int) (i : Nat), (rawCoins i xs).length ≤ xs.length
  | [], i => by simp [rawCoins]
  | n :: ns, i => by
    have ih := rawCoins_length ns (i + 1)
    unfold rawCoins
    split <;> simp <;> omega

theorem coinsL_length (xs : List Int) : (coinsL xs).length ≤ xs.length := by
  have h := (inOrder_same (key := Prod.fst) (rawCoins 0 xs)).length
  have := rawCoins_length xs 0
  show (inOrder _ _).length ≤ _
  omega

/-- Packages of two and two. -/
def packs : List Coin → List Coin
  | a :: b :: r => (a.1 + b.1, a.2 ++ b.2) :: packs r
  | _ => []

/-- Coins among packages: each ahead of the first package that counts no less. -/
def mergeC : List Coin → List Coin → List Coin
  | cs, [] => cs
  | cs, p :: ps => cs.takeWhile (fun c => decide (c.1 ≤ p.1)) ++ p :: mergeC (cs.dropWhile (fun c => decide (c.1 ≤ p.1))) ps

def packedL (cs l : List Coin) : List Coin := mergeC cs (packs l)

theorem mergeC_le {c p : Coin} {cs ps : List Coin} (h : c.1 ≤ p.1) : mergeC (c :: cs) (p :: ps) = c :: mergeC cs (p :: ps) := by
  simp [mergeC, h]
theorem mergeC_gt {c p : Coin} {cs ps : List Coin} (h : ¬ c.1 ≤ p.1) : mergeC (c :: cs) (p :: ps) = p :: mergeC (c :: cs) ps := by
  simp [mergeC, h]
theorem mergeC_none {p : Coin} {ps : List Coin} : mergeC [] (p :: ps) = p :: mergeC [] ps := by simp [mergeC]

theorem packs_length : ∀ (l : List Coin), (packs l).length = l.length / 2
  | [] => rfl
  | [_] => by simp [packs]
  | a :: b :: r => by
    have := packs_length r
    simp only [packs, List.length_cons, this]; omega

theorem mergeC_length : ∀ (ps cs : List Coin), (mergeC cs ps).length = cs.length + ps.length
  | [], cs => by simp [mergeC]
  | p :: ps, cs => by
    have ih := mergeC_length ps (cs.dropWhile (fun c => decide (c.1 ≤ p.1)))
    have h := congrArg List.length (List.takeWhile_append_dropWhile (p := fun c : Coin => decide (c.1 ≤ p.1)) (l := cs))
    simp only [List.length_append] at h
    simp only [mergeC, List.length_append, List.length_cons, ih]
    omega

theorem mergeC_mem : ∀ {ps cs : List Coin} {x : Coin}, x ∈ mergeC cs ps → x ∈ cs ∨ x ∈ ps
  | [], cs, x, h => .inl h
  | p :: ps, cs, x, h => by
    simp only [mergeC, List.mem_append, List.mem_cons] at h
    rcases h with h | h | h
    · exact .inl (List.takeWhile_sublist _ |>.subset h)
    · exact .inr (by simp [h])
    · rcases mergeC_mem h with e | e
      · exact .inl (List.dropWhile_sublist _ |>.subset e)
      · exact .inr (by simp [e])

/-- The lists, one of another. -/
def lev (first : List Coin) : Nat → List Coin
  | 0 => first
  | k + 1 => packedL first (lev first k)

theorem packs_mem {Q : Nat → Coin → Prop} (hQ : ∀ k a b, Q k a → Q k b → Q (k + 1) (a.1 + b.1, a.2 ++ b.2)) {k : Nat} : ∀ {l : List Coin}, (∀ x ∈ l, Q k x) → ∀ x ∈ packs l, Q (k + 1) x
  | [], _ => by simp [packs]
  | [_], _ => by simp [packs]
  | a :: b :: r, h => by
    intro x hx
    simp only [packs, List.mem_cons] at hx
    rcases hx with rfl | hx
    · exact hQ k a b (h a (by simp)) (h b (by simp))
    · exact packs_mem hQ (fun y hy => h y (by simp [hy])) x hx

theorem lev_mem {Q : Nat → Coin → Prop} (hQ : ∀ k a b, Q k a → Q k b → Q (k + 1) (a.1 + b.1, a.2 ++ b.2)) {first : List Coin} (h0 : ∀ k, ∀ x ∈ first, Q k x) : ∀ k, ∀ x ∈ lev first k, Q k x
  | 0 => h0 0
  | k + 1 => by
    intro x hx
    rcases mergeC_mem hx with e | e
    · exact h0 _ x e
    · exact packs_mem hQ (lev_mem hQ h0 k) x e

theorem lev_length (first : List Coin) : ∀ k, 2 * first.length ≤ (lev first k).length + (first.length + 2 ^ k - 1) / 2 ^ k
  | 0 => by simp [lev]; omega
  | k + 1 => by
    have ih := lev_length first k
    simp only [lev, packedL, mergeC_length, packs_length]
    have h1 : (first.length + 2 ^ (k + 1) - 1) / 2 ^ (k + 1) = ((first.length + 2 ^ (k + 1) - 1) / 2 ^ k) / 2 := by
      rw [Nat.pow_succ, Nat.div_div_eq_div_mul]
    have h2 : (first.length + 2 ^ (k + 1) - 1) = (first.length + 2 ^ k - 1) + 2 ^ k := by
      have : 0 < 2 ^ k := Nat.two_pow_pos k
      rw [Nat.pow_succ]; omega
    have h3 : (first.length + 2 ^ (k + 1) - 1) / 2 ^ k = (first.length + 2 ^ k - 1) / 2 ^ k + 1 := by
      rw [h2, Nat.add_div_right _ (Nat.two_pow_pos k)]
    rw [h1, h3]
    omega

theorem lev_long {first : List Coin} {m : Nat} (hm : 1 ≤ m) (h : first.length ≤ 2 ^ m) : 2 * first.length - 2 ≤ (lev first (m - 1)).length := by
  have h1 := lev_length first (m - 1)
  have h2 : (first.length + 2 ^ (m - 1) - 1) / 2 ^ (m - 1) ≤ 2 := by
    have hp : 0 < 2 ^ (m - 1) := Nat.two_pow_pos _
    have h3 : 2 ^ m = 2 * 2 ^ (m - 1) := by
      have : m = (m - 1) + 1 := by omega
      rw [this, Nat.pow_succ]; simp; omega
    rw [← Nat.lt_succ_iff, Nat.div_lt_iff_lt_mul hp]
    omega
  omega

/-- One more of a symbol, of each of some symbols. -/
def bump (xs : List Int) (s : Nat) : List Int := xs.set s (xs.getD s 0 + 1)
def addL (ss : List Nat) (xs : List Int) : List Int := ss.foldl bump xs

theorem bump_length (xs : List Int) (s : Nat) : (bump xs s).length = xs.length := by simp [bump]
theorem addL_length : ∀ (ss : List Nat) (xs : List Int), (addL ss xs).length = xs.length
  | [], xs => rfl
  | s :: ss, xs => by
    show (addL ss (bump xs s)).length = _
    rw [addL_length, bump_length]
theorem addL_append (s t : List Nat) (xs : List Int) : addL (s ++ t) xs = addL t (addL s xs) := by simp [addL]

theorem bump_bound {xs : List Int} {s : Nat} {B : Int} (h : ∀ v ∈ xs, 0 ≤ v ∧ v ≤ B) (hB : 0 ≤ B) : ∀ v ∈ bump xs s, 0 ≤ v ∧ v ≤ B + 1 := by
  intro v hv
  have hd : 0 ≤ xs.getD s 0 ∧ xs.getD s 0 ≤ B := by
    rw [List.getD_eq_getElem?_getD]
    cases he : xs[s]? with
    | none => simp; exact hB
    | some u => simpa using h u (List.mem_of_getElem? he)
  rcases List.mem_or_eq_of_mem_set hv with e | e
  · have := h v e; omega
  · omega

theorem addL_bound : ∀ (ss : List Nat) {xs : List Int} {B : Int}, (∀ v ∈ xs, 0 ≤ v ∧ v ≤ B) → 0 ≤ B → ∀ v ∈ addL ss xs, 0 ≤ v ∧ v ≤ B + ss.length
  | [], xs, B, h, hB => by simpa [addL] using h
  | s :: ss, xs, B, h, hB => by
    have := addL_bound ss (bump_bound (s := s) h hB) (by omega)
    intro v hv
    have := this v hv
    simp only [List.length_cons]
    omega

/-- The lengths of codes. -/
def mostL (most : Int) : Nat := (mn (mx most 1) 15).toNat
def chosen (xs : List Int) (m : Nat) : List Nat :=
  if (coinsL xs).length = 1 then ((coinsL xs).flatMap Prod.snd) else ((lev (coinsL xs) (m - 1)).take (2 * (coinsL xs).length - 2)).flatMap Prod.snd
def lensL (xs : List Int) (most : Int) : List Int :=
  if xs.length > 256 then [] else if (coinsL xs).length > 2 ^ mostL most then [] else addL (chosen xs (mostL most)) (List.replicate xs.length 0)
end Go.V
