/- Own texts, packed: S1, S2, S3, S4, S5, S6, S7, S8, S9, K1, K2, K3, K4. -/
import Derived.Test.YtpfkpmapimonbaaGAg

/-! Lists that are told apart by a number of each member: sorted, and alike member by member of one number (what a stable sort keeps). Plain Lean; no program. -/
namespace Go.V
set_option linter.unusedVariables false

section
variable {α : Type} (key : α → Int)

/-- Members of each one number come in the same order in both. -/
def SameK (xs ys : List α) : Prop := ∀ k : Int, xs.filter (fun x => key x == k) = ys.filter (fun x => key x == k)

def SortedK (xs : List α) : Prop := xs.Pairwise (fun x y => key x ≤ key y)

variable {key}

theorem SameK.refl (xs : List α) : SameK key xs xs := fun _ => rfl
theorem SameK.symm {xs ys : List α} (h : SameK key xs ys) : SameK key ys xs := fun k => (h k).symm
theorem SameK.trans {xs ys zs : List α} (h : SameK key xs ys) (h' : SameK key ys zs) : SameK key xs zs := fun k => (h k).trans (h' k)
theorem SameK.append {xs ys xs' ys' : List α} (h : SameK key xs ys) (h' : SameK key xs' ys') : SameK key (xs ++ xs') (ys ++ ys') := fun k => by
  rw [List.filter_append, List.filter_append, h k, h' k]

theorem SameK.mem {xs ys : List α} (h : SameK key xs ys) {x : α} (hx : x ∈ xs) : x ∈ ys := by
  have : x ∈ xs.filter (fun y => key y == key x) := by simp [hx]
  rw [h] at this
  exact (List.mem_filter.1 this).1

theorem SameK.mem_iff {xs ys : List α} (h : SameK key xs ys) (x : α) : x ∈ xs ↔ x ∈ ys := ⟨h.mem, h.symm.mem⟩

theorem SameK.nil {ys : List α} (h : SameK key [] ys) : ys = [] := by
  cases ys with
  | nil => rfl
  | cons y ys => exact absurd (h.symm.mem (x := y) (by simp)) (by simp)

theorem SameK.length : ∀ {xs ys : List α}, SameK key xs ys → xs.length = ys.length := by
  intro xs
  induction xs with
  | nil => intro ys h; rw [h.nil]
  | cons x xs ih =>
    intro ys h
    have hx : x ∈ ys.filter (fun y => key y == key x) := by rw [← h]; simp
    have h1 := h (key x)
    simp only [List.filter_cons, beq_self_eq_true, if_true] at h1
    obtain ⟨A, B, e1, e2, e3⟩ := List.filter_eq_cons_iff.1 h1.symm
    have hA : A.filter (fun y => key y == key x) = [] := by
      rw [List.filter_eq_nil_iff]; exact e2
    have h2 : SameK key xs (A ++ B) := by
      intro k
      have h3 := h k
      rw [e1] at h3
      simp only [List.filter_cons, List.filter_append] at h3 ⊢
      by_cases hk : key x == k
      · have hk' : key x = k := by simpa using hk
        subst hk'
        simp only [beq_self_eq_true, if_true] at h3
        rw [hA] at h3 ⊢
        simpa using h3
      · simp only [hk] at h3
        simpa using h3
    rw [e1]
    have := ih h2
    simp only [List.length_cons, List.length_append] at this ⊢
    omega

/-- Two neighbouring parts of which no member of the one has the number of a member of the other one may change places. -/
theorem SameK.swap {xs ys : List α} (h : ∀ x ∈ xs, ∀ y ∈ ys, key x ≠ key y) : SameK key (xs ++ ys) (ys ++ xs) := by
  intro k
  rw [List.filter_append, List.filter_append]
  by_cases hx : ∃ x ∈ xs, key x = k
  · obtain ⟨x, hx, rfl⟩ := hx
    have : ys.filter (fun y => key y == key x) = [] := by
      rw [List.filter_eq_nil_iff]; intro y hy; have := h x hx y hy; simp; omega
    rw [this]; simp
  · have : xs.filter (fun y => key y == k) = [] := by
      rw [List.filter_eq_nil_iff]; intro y hy; simp; intro e; exact hx ⟨y, hy, e⟩
    rw [this]; simp

theorem SortedK.unique : ∀ {xs ys : List α}, SortedK key xs → SortedK key ys → SameK key xs ys → xs = ys := by
  intro xs
  induction xs with
  | nil => intro ys _ _ h; exact h.nil.symm
  | cons x xs ih =>
    intro ys h1 h2 h
    cases ys with
    | nil => exact absurd h.symm.nil (by simp)
    | cons y ys =>
      have hx : key y ≤ key x := by
        rcases List.mem_cons.1 (h.mem (x := x) (by simp)) with e | e
        · rw [e]; omega
        · exact (List.pairwise_cons.1 h2).1 x e
      have hy : key x ≤ key y := by
        rcases List.mem_cons.1 (h.symm.mem (x := y) (by simp)) with e | e
        · rw [e]; omega
        · exact (List.pairwise_cons.1 h1).1 y e
      have e : key x = key y := by omega
      have hk := h (key x)
      simp only [List.filter_cons, beq_self_eq_true, if_true, ← e] at hk
      have hxy : x = y := (List.cons.inj hk).1
      subst hxy
      rw [ih (List.pairwise_cons.1 h1).2 (List.pairwise_cons.1 h2).2]
      intro k
      have hk := h k
      simp only [List.filter_cons] at hk
      split at hk
      · exact (List.cons.inj hk).2
      · exact hk

theorem SortedK.append {xs ys : List α} (h1 : SortedK key xs) (h2 : SortedK key ys) (h : ∀ x ∈ xs, ∀ y ∈ ys, key x ≤ key y) : SortedK key (xs ++ ys) :=
  List.pairwise_append.2 ⟨h1, h2, h⟩
theorem SortedK.left {xs ys : List α} (h : SortedK key (xs ++ ys)) : SortedK key xs := (List.pairwise_append.1 h).1
theorem SortedK.right {xs ys : List α} (h : SortedK key (xs ++ ys)) : SortedK key ys := (List.pairwise_append.1 h).2.1
/-- A list put in order, one member by one; a member stands behind those of its own number. -/
def ins (key : α → Int) (x : α) : List α → List α
  | [] => [x]
  | y :: ys => if key y ≤ key x then y :: ins key x ys else x :: y :: ys
def inOrder (key : α → Int) (xs : List α) : List α := xs.foldl (fun l x => ins key x l) []

end
end Go.V

/-! What the steps of a stable sort by merging in place do to lists. Plain Lean; no program. -/
namespace Go.V
set_option linter.unusedVariables false

section
variable {α : Type} {key : α → Int}

theorem SortedK.head_le {S : List α} {y : α} (h : SortedK key (y :: S)) : ∀ x ∈ y :: S, key y ≤ key x := by
  intro x hx
  rcases List.mem_cons.1 hx with e | e
  · rw [e]; omega
  · exact (List.pairwise_cons.1 h).1 x e

theorem SortedK.get {L : List α} (h : SortedK key L) {i j : Nat} {x y : α} (hij : i ≤ j) (hx : L[i]? = some x) (hy : L[j]? = some y) : key x ≤ key y := by
  obtain ⟨hi, rfl⟩ := List.getElem?_eq_some_iff.1 hx
  obtain ⟨hj, rfl⟩ := List.getElem?_eq_some_iff.1 hy
  rcases Nat.lt_or_ge i j with hlt | hge
  · exact (List.pairwise_iff_getElem.1 h) i j hi hj hlt
  · have : i = j := by omega
    subst this; omega

/-- Parts of s members each in order, and one that may be shorter. -/
inductive Blk (key : α → Int) (s : Nat) : List α → Prop
  | last {Z} : Z.length ≤ s → SortedK key Z → Blk key s Z
  | cons {Z1 Z2} : Z1.length = s → SortedK key Z1 → Blk key s Z2 → Blk key s (Z1 ++ Z2)

inductive Full (key : α → Int) (s : Nat) : List α → Prop
  | nil : Full key s []
  | snoc {U Z} : Full key s U → Z.length = s → SortedK key Z → Full key s (U ++ Z)

theorem Full.blk {s : Nat} {U V : List α} (h : Full key s U) (hv : Blk key s V) : Blk key s (U ++ V) := by
  induction h generalizing V with
  | nil => exact hv
  | snoc h1 h2 h3 ih =>
    rw [List.append_assoc]
    exact ih (.cons h2 h3 hv)

theorem Blk.cut {s : Nat} {Z : List α} (h : Blk key s Z) (hl : s < Z.length) : ∃ Z1 Z2, Z = Z1 ++ Z2 ∧ Z1.length = s ∧ SortedK key Z1 ∧ Blk key s Z2 := by
  cases h with
  | last h1 h2 => omega
  | cons h1 h2 h3 => exact ⟨_, _, rfl, h1, h2, h3⟩

end
end Go.V

/-! Lengths of codes by coins and packages: lists alone. Plain Lean; no program. -/
namespace Go.V
set_option linter.unusedVariables false

/-- A count, and the symbols counted in it. -/
abbrev Coin := Int × List Nat

/-- A count as it counts. -/
def manyL (n : Int) : Int := mn (mx n 0) 1099511627776

/-- The coins: symbols that there are, by count, then by symbol. -/
def rawCoins (i : Nat) : List Int → List Coin
  | [] => []
  | n :: ns => if n > 0 then (manyL n, [i]) :: rawCoins (i + 1) ns else rawCoins (i + 1) ns
def coinsL (xs : List Int) : List Coin := inOrder Prod.fst (rawCoins 0 xs)

/-- Packages of two and two. -/
def packs : List Coin → List Coin
  | a :: b :: r => (a.1 + b.1, a.2 ++ b.2) :: packs r
  | _ => []

/-- Coins among packages: each ahead of the first package that counts no less. -/
def mergeC : List Coin → List Coin → List Coin
  | cs, [] => cs
  | cs, p :: ps => cs.takeWhile (fun c => decide (c.1 ≤ p.1)) ++ p :: mergeC (cs.dropWhile (fun c => decide (c.1 ≤ p.1))) ps

def packedL (cs l : List Coin) : List Coin := mergeC cs (packs l)

theorem mergeC_le {c p : Coin} {cs ps : List Coin} (h : c.1 ≤ p.1) : mergeC (c :: cs) (p :: ps) = c :: mergeC cs (p :: ps) := by
  simp [mergeC, h]
theorem mergeC_gt {c p : Coin} {cs ps : List Coin} (h : ¬ c.1 ≤ p.1) : mergeC (c :: cs) (p :: ps) = p :: mergeC (c :: cs) ps := by
  simp [mergeC, h]
theorem mergeC_none {p : Coin} {ps : List Coin} : mergeC [] (p :: ps) = p :: mergeC [] ps := by simp [mergeC]

theorem packs_length : ∀ (l : List Coin), (packs l).length = l.length / 2
  | [] => rfl
  | [_] => by simp [packs]
  | a :: b :: r => by
    have := packs_length r
    simp only [packs, List.length_cons, this]; omega

theorem mergeC_length : ∀ (ps cs : List Coin), (mergeC cs ps).length = cs.length + ps.length
  | [], cs => by simp [mergeC]
  | p :: ps, cs => by
    have ih := mergeC_length ps (cs.dropWhile (fun c => decide (c.1 ≤ p.1)))
    have h := congrArg List.length (List.takeWhile_append_dropWhile (p := fun c : Coin => decide (c.1 ≤ p.1)) (l := cs))
    simp only [List.length_append] at h
    simp only [mergeC, List.length_append, List.length_cons, ih]
    omega

theorem mergeC_mem : ∀ {ps cs : List Coin} {x : Coin}, x ∈ mergeC cs ps → x ∈ cs ∨ x ∈ ps
  | [], cs, x, h => .inl h
  | p :: ps, cs, x, h => by
    simp only [mergeC, List.mem_append, List.mem_cons] at h
    rcases h with h | h | h
    · exact .inl (List.takeWhile_sublist _ |>.subset h)
    · exact .inr (by simp [h])
    · rcases mergeC_mem h with e | e
      · exact .inl (List.dropWhile_sublist _ |>.subset e)
      · exact .inr (by simp [e])

/-- The lists, one of another. -/
def lev (first : List Coin) : Nat → List Coin
  | 0 => first
  | k + 1 => packedL first (lev first k)

theorem packs_mem {Q : Nat → Coin → Prop} (hQ : ∀ k a b, Q k a → Q k b → Q (k + 1) (a.1 + b.1, a.2 ++ b.2)) {k : Nat} : ∀ {l : List Coin}, (∀ x ∈ l, Q k x) → ∀ x ∈ packs l, Q (k + 1) x
  | [], _ => by simp [packs]
  | [_], _ => by simp [packs]
  | a :: b :: r, h => by
    intro x hx
    simp only [packs, List.mem_cons] at hx
    rcases hx with rfl | hx
    · exact hQ k a b (h a (by simp)) (h b (by simp))
    · exact packs_mem hQ (fun y hy => h y (by simp [hy])) x hx

theorem lev_mem {Q : Nat → Coin → Prop} (hQ : ∀ k a b, Q k a → Q k b → Q (k + 1) (a.1 + b.1, a.2 ++ b.2)) {first : List Coin} (h0 : ∀ k, ∀ x ∈ first, Q k x) : ∀ k, ∀ x ∈ lev first k, Q k x
  | 0 => h0 0
  | k + 1 => by
    intro x hx
    rcases mergeC_mem hx with e | e
    · exact h0 _ x e
    · exact packs_mem hQ (lev_mem hQ h0 k) x e

theorem lev_length (first : List Coin) : ∀ k, 2 * first.length ≤ (lev first k).length + (first.length + 2 ^ k - 1) / 2 ^ k
  | 0 => by simp [lev]; omega
  | k + 1 => by
    have ih := lev_length first k
    simp only [lev, packedL, mergeC_length, packs_length]
    have h1 : (first.length + 2 ^ (k + 1) - 1) / 2 ^ (k + 1) = ((first.length + 2 ^ (k + 1) - 1) / 2 ^ k) / 2 := by
      rw [Nat.pow_succ, Nat.div_div_eq_div_mul]
    have h2 : (first.length + 2 ^ (k + 1) - 1) = (first.length + 2 ^ k - 1) + 2 ^ k := by
      have : 0 < 2 ^ k := Nat.two_pow_pos k
      rw [Nat.pow_succ]; omega
    have h3 : (first.length + 2 ^ (k + 1) - 1) / 2 ^ k = (first.length + 2 ^ k - 1) / 2 ^ k + 1 := by
      rw [h2, Nat.add_div_right _ (Nat.two_pow_pos k)]
    rw [h1, h3]
    omega

def chosen (xs : List Int) (m : Nat) : List Nat :=
  if (coinsL xs).length = 1 then ((coinsL xs).flatMap Prod.snd) else ((lev (coinsL xs) (m - 1)).take (2 * (coinsL xs).length - 2)).flatMap Prod.snd
end Go.V

/-! Lengths of codes by coins and packages are the best ones: lists alone. Plain Lean; no program. -/
namespace Go.V
set_option linter.unusedVariables false
set_option linter.unusedSimpArgs false

/-- The sum of f over the numbers below n. -/
def sumTo : Nat → (Nat → Int) → Int
  | 0, _ => 0
  | n + 1, f => sumTo n f + f n

theorem sumTo_congr {f g : Nat → Int} : ∀ {n : Nat}, (∀ i, i < n → f i = g i) → sumTo n f = sumTo n g
  | 0, _ => rfl
  | n + 1, h => by
    have h1 := sumTo_congr (n := n) (fun i hi => h i (by omega))
    have h2 := h n (by omega)
    simp only [sumTo]; omega
theorem sumTo_add (f g : Nat → Int) : ∀ n, sumTo n (fun i => f i + g i) = sumTo n f + sumTo n g
  | 0 => rfl
  | n + 1 => by simp only [sumTo, sumTo_add f g n]; omega
theorem sumTo_zero : ∀ n, sumTo n (fun _ => 0) = 0
  | 0 => rfl
  | n + 1 => by simp only [sumTo, sumTo_zero n]; omega
theorem sumTo_le {f g : Nat → Int} : ∀ {n : Nat}, (∀ i, i < n → f i ≤ g i) → sumTo n f ≤ sumTo n g
  | 0, _ => Int.le_refl _
  | n + 1, h => by
    have := sumTo_le (n := n) (fun i hi => h i (by omega))
    have := h n (by omega)
    simp only [sumTo]; omega
theorem sumTo_const (c : Int) : ∀ n : Nat, sumTo n (fun _ => c) = n * c
  | 0 => by simp [sumTo]
  | n + 1 => by simp only [sumTo, sumTo_const c n]; rw [show ((n + 1 : Nat) : Int) = (n : Int) + 1 by omega, Int.add_mul, Int.one_mul]
theorem sumTo_cut (f : Nat → Int) {a : Nat} : ∀ {n : Nat}, a ≤ n → sumTo n (fun i => if i < a then f i else 0) = sumTo a f
  | 0, h => by
    have : a = 0 := by omega
    subst this; rfl
  | n + 1, h => by
    by_cases e : a = n + 1
    · subst e
      apply sumTo_congr
      intro i hi; simp [hi]
    · have := sumTo_cut f (a := a) (n := n) (by omega)
      simp only [sumTo, this]
      rw [if_neg (by omega)]; omega
theorem sumTo_mul (c : Int) (f : Nat → Int) : ∀ n, sumTo n (fun i => c * f i) = c * sumTo n f
  | 0 => by simp [sumTo]
  | n + 1 => by simp only [sumTo, sumTo_mul c f n, Int.mul_add]

def wt (l : List Coin) : Int := (l.map Prod.fst).sum
def cI (first : List Coin) (i : Nat) : Int := (first.getD i (0, [])).1

theorem wt_append (a b : List Coin) : wt (a ++ b) = wt a + wt b := by simp [wt]
theorem wt_cons (a : Coin) (b : List Coin) : wt (a :: b) = a.1 + wt b := by simp [wt]
theorem wt_nil : wt [] = 0 := rfl
theorem wt_take (first : List Coin) : ∀ {a : Nat}, a ≤ first.length → wt (first.take a) = sumTo a (cI first)
  | 0, _ => by simp [wt, sumTo]
  | a + 1, h => by
    have h' : a < first.length := by omega
    rw [List.take_succ_eq_append_getElem h', wt_append, wt_take first (by omega)]
    simp only [sumTo, wt_cons, wt_nil, cI]
    rw [List.getD_eq_getElem?_getD, List.getElem?_eq_getElem h']
    simp

abbrev SC (l : List Coin) : Prop := SortedK (Prod.fst : Coin → Int) l

theorem mergeC_nil_left : ∀ ps, mergeC [] ps = ps
  | [] => rfl
  | p :: ps => by rw [mergeC_none, mergeC_nil_left ps]

theorem mergeC_sorted : ∀ {N : Nat} {cs ps : List Coin}, cs.length + ps.length ≤ N → SC cs → SC ps → SC (mergeC cs ps)
  | N, [], ps, _, _, h2 => by rw [mergeC_nil_left]; exact h2
  | N, c :: cs, [], _, h1, _ => by simpa [mergeC] using h1
  | 0, c :: cs, p :: ps, h, _, _ => by simp at h
  | N + 1, c :: cs, p :: ps, h, h1, h2 => by
    simp only [List.length_cons] at h
    by_cases hle : c.1 ≤ p.1
    · rw [mergeC_le hle]
      refine List.pairwise_cons.2 ⟨fun z hz => ?_, mergeC_sorted (N := N) (by simp; omega) (List.pairwise_cons.1 h1).2 h2⟩
      rcases mergeC_mem hz with e | e
      · exact (List.pairwise_cons.1 h1).1 z e
      · have := SortedK.head_le h2 z e; omega
    · rw [mergeC_gt hle]
      refine List.pairwise_cons.2 ⟨fun z hz => ?_, mergeC_sorted (N := N) (by simp; omega) h1 (List.pairwise_cons.1 h2).2⟩
      rcases mergeC_mem hz with e | e
      · have := SortedK.head_le h1 z e; omega
      · exact (List.pairwise_cons.1 h2).1 z e

theorem packs_ge {m : Int} : ∀ {l : List Coin}, (∀ x ∈ l, m ≤ x.1) → ∀ x ∈ packs l, 2 * m ≤ x.1
  | [], _ => by simp [packs]
  | [_], _ => by simp [packs]
  | a :: b :: r, h => by
    intro x hx
    simp only [packs, List.mem_cons] at hx
    rcases hx with rfl | hx
    · have := h a (by simp); have := h b (by simp); show 2 * m ≤ a.1 + b.1; omega
    · exact packs_ge (fun y hy => h y (by simp [hy])) x hx

theorem packs_sorted : ∀ {l : List Coin}, SC l → SC (packs l)
  | [], _ => by simp [packs, SortedK]
  | [_], _ => by simp [packs, SortedK]
  | a :: b :: r, h => by
    have h1 := List.pairwise_cons.1 h
    have h2 := List.pairwise_cons.1 h1.2
    simp only [packs]
    refine List.pairwise_cons.2 ⟨fun z hz => ?_, packs_sorted h2.2⟩
    have := packs_ge (m := b.1) h2.1 z hz
    have := h1.1 b (by simp)
    show a.1 + b.1 ≤ z.1
    omega

theorem lev_sorted {first : List Coin} (h : SC first) : ∀ k, SC (lev first k)
  | 0 => h
  | k + 1 => mergeC_sorted (Nat.le_refl _) h (packs_sorted (lev_sorted h k))

/-- The first so many of the merged list are the least of all. -/
theorem merge_min : ∀ {N a b : Nat} {cs ps : List Coin}, a + b ≤ N → SC cs → SC ps → a ≤ cs.length → b ≤ ps.length → wt ((mergeC cs ps).take (a + b)) ≤ wt (cs.take a) + wt (ps.take b)
  | _, 0, 0, cs, ps, _, _, _, _, _ => by simp [wt]
  | 0, a + 1, b, _, _, h, _, _, _, _ => by omega
  | 0, 0, b + 1, _, _, h, _, _, _, _ => by omega
  | N + 1, a, b, [], ps, h, h1, h2, ha, hb => by
    have : a = 0 := by simpa using ha
    subst this
    rw [mergeC_nil_left]; simp [wt]
  | N + 1, a, b, c :: cs, [], h, h1, h2, ha, hb => by
    have : b = 0 := by simpa using hb
    subst this
    simp [mergeC, wt]
  | N + 1, a, b, c :: cs, p :: ps, h, h1, h2, ha, hb => by
    have k1 := List.pairwise_cons.1 h1
    have k2 := List.pairwise_cons.1 h2
    by_cases h0 : a + b = 0
    · have e1 : a = 0 := by omega
      have e2 : b = 0 := by omega
      subst e1; subst e2; simp [wt]
    by_cases hle : c.1 ≤ p.1
    · rw [mergeC_le hle]
      cases a with
      | succ a =>
        have ih := merge_min (N := N) (a := a) (b := b) (by omega) k1.2 h2 (by simpa using ha) hb
        rw [show a + 1 + b = (a + b) + 1 by omega, List.take_succ_cons, List.take_succ_cons, wt_cons, wt_cons]
        omega
      | zero =>
        cases b with
        | zero => omega
        | succ b =>
          have ih := merge_min (N := N) (a := 0) (b := b) (cs := cs) (ps := p :: ps) (by omega) k1.2 h2 (by omega) (by omega)
          have hb' : b < (p :: ps).length := by omega
          have hlast : p.1 ≤ ((p :: ps)[b]).1 := SortedK.head_le h2 _ (List.getElem_mem hb')
          rw [show 0 + (b + 1) = (0 + b) + 1 by omega, List.take_succ_cons, wt_cons, List.take_succ_eq_append_getElem hb', wt_append, wt_cons, wt_nil]
          simp only [List.take_zero, wt_nil] at ih ⊢
          omega
    · rw [mergeC_gt hle]
      cases b with
      | succ b =>
        have ih := merge_min (N := N) (a := a) (b := b) (by omega) h1 k2.2 ha (by simpa using hb)
        rw [show a + (b + 1) = (a + b) + 1 by omega, List.take_succ_cons, List.take_succ_cons, wt_cons, wt_cons]
        omega
      | zero =>
        cases a with
        | zero => omega
        | succ a =>
          have ih := merge_min (N := N) (a := a) (b := 0) (cs := c :: cs) (ps := ps) (by omega) h1 k2.2 (by omega) (by omega)
          have ha' : a < (c :: cs).length := by omega
          have hlast : c.1 ≤ ((c :: cs)[a]).1 := SortedK.head_le h1 _ (List.getElem_mem ha')
          rw [show a + 1 + 0 = a + 1 by omega, List.take_succ_cons, wt_cons, List.take_succ_eq_append_getElem ha', wt_append, wt_cons, wt_nil]
          simp only [List.take_zero, wt_nil, Nat.add_zero] at ih ⊢
          omega

/-- The first so many of the merged list: so many of the one list and so many of the other one; what is of the other one is ahead of the next of the one. -/
theorem merge_take : ∀ {N k : Nat} {cs ps : List Coin}, k ≤ N → k ≤ cs.length + ps.length → SC cs → ∃ a b, a + b = k ∧ a ≤ cs.length ∧ b ≤ ps.length ∧ ((mergeC cs ps).take k).Perm (cs.take a ++ ps.take b) ∧ (∀ p ∈ ps.take b, ∀ c ∈ cs.drop a, p.1 < c.1)
  | _, 0, cs, ps, _, _, _ => ⟨0, 0, rfl, by omega, by omega, by simp, by simp⟩
  | 0, k + 1, _, _, h, _, _ => by omega
  | N + 1, k + 1, [], ps, h, hk, _ => ⟨0, k + 1, by omega, by omega, by simpa using hk, by rw [mergeC_nil_left]; simp, by simp⟩
  | N + 1, k + 1, c :: cs, [], h, hk, _ => ⟨k + 1, 0, by omega, by simpa using hk, by omega, by simp [mergeC], by simp⟩
  | N + 1, k + 1, c :: cs, p :: ps, h, hk, h1 => by
    simp only [List.length_cons] at hk
    by_cases hle : c.1 ≤ p.1
    · obtain ⟨a, b, e1, e2, e3, e4, e5⟩ := merge_take (N := N) (k := k) (cs := cs) (ps := p :: ps) (by omega) (by simp; omega) (List.pairwise_cons.1 h1).2
      refine ⟨a + 1, b, by omega, by simp; omega, e3, ?_, by simpa using e5⟩
      rw [mergeC_le hle]
      simpa using e4
    · obtain ⟨a, b, e1, e2, e3, e4, e5⟩ := merge_take (N := N) (k := k) (cs := c :: cs) (ps := ps) (by omega) (by simp; omega) h1
      refine ⟨a, b + 1, by omega, e2, by simp; omega, ?_, ?_⟩
      · rw [mergeC_gt hle, List.take_succ_cons, List.take_succ_cons]
        exact (List.Perm.cons p e4).trans (List.perm_middle (a := p) (l₁ := (c :: cs).take a) (l₂ := ps.take b)).symm
      · intro q hq d hd
        rcases List.mem_cons.1 (by simpa using hq) with e | e
        · subst e
          have := SortedK.head_le h1 d (List.mem_of_mem_drop hd)
          omega
        · exact e5 q e d hd

theorem packs_take : ∀ {b : Nat} {l : List Coin}, 2 * b ≤ l.length → wt ((packs l).take b) = wt (l.take (2 * b)) ∧ ((packs l).take b).flatMap Prod.snd = (l.take (2 * b)).flatMap Prod.snd
  | 0, l, _ => by simp [wt]
  | b + 1, [], h => by simp at h
  | b + 1, [_], h => by simp at h; omega
  | b + 1, x :: y :: r, h => by
    have ih := packs_take (b := b) (l := r) (by simp at h; omega)
    rw [show 2 * (b + 1) = (2 * b + 1) + 1 by omega]
    simp only [packs, List.take_succ_cons, wt_cons, List.flatMap_cons, ih.1, ih.2]
    constructor
    · omega
    · simp

/-- What is in a list is in one of its packages, that counts no less. -/
theorem packs_has : ∀ {b : Nat} {l : List Coin} {x : Coin}, 2 * b ≤ l.length → (∀ y ∈ l, 0 ≤ y.1) → x ∈ l.take (2 * b) → ∃ p ∈ (packs l).take b, x.1 ≤ p.1
  | 0, l, x, _, _, h => by simp at h
  | b + 1, [], x, h, _, _ => by simp at h
  | b + 1, [_], x, h, _, _ => by simp at h; omega
  | b + 1, y :: z :: r, x, h, hp, hx => by
    rw [show 2 * (b + 1) = (2 * b + 1) + 1 by omega] at hx
    simp only [List.take_succ_cons, List.mem_cons] at hx
    have hy := hp y (by simp)
    have hz := hp z (by simp)
    rcases hx with rfl | rfl | hx
    · exact ⟨_, by simp only [packs, List.take_succ_cons]; exact List.mem_cons_self, by show _ ≤ _ + _; omega⟩
    · exact ⟨_, by simp only [packs, List.take_succ_cons]; exact List.mem_cons_self, by show _ ≤ _ + _; omega⟩
    · obtain ⟨p, h1, h2⟩ := packs_has (b := b) (l := r) (by simp at h; omega) (fun y hy => hp y (by simp [hy])) hx
      exact ⟨p, by simp only [packs, List.take_succ_cons]; exact List.mem_cons_of_mem _ h1, h2⟩
end Go.V

/-! Lengths of codes by coins and packages: what is chosen fills all codes, and no choice counts less. Plain Lean; no program. -/
namespace Go.V
set_option linter.unusedVariables false
set_option linter.unusedSimpArgs false

def tot (g : Coin → Int) (l : List Coin) : Int := (l.map g).sum
theorem tot_append (g : Coin → Int) (a b : List Coin) : tot g (a ++ b) = tot g a + tot g b := by simp [tot]
theorem tot_cons (g : Coin → Int) (a : Coin) (b : List Coin) : tot g (a :: b) = g a + tot g b := by simp [tot]
theorem tot_nil (g : Coin → Int) : tot g [] = 0 := rfl
theorem tot_perm (g : Coin → Int) {a b : List Coin} (h : a.Perm b) : tot g a = tot g b := by
  induction h with
  | nil => rfl
  | cons x _ ih => rw [tot_cons, tot_cons, ih]
  | swap x y l => rw [tot_cons, tot_cons, tot_cons, tot_cons]; omega
  | trans _ _ h1 h2 => exact h1.trans h2
def gI (g : Coin → Int) (first : List Coin) (i : Nat) : Int := g (first.getD i (0, []))
theorem tot_take (g : Coin → Int) (first : List Coin) : ∀ {a : Nat}, a ≤ first.length → tot g (first.take a) = sumTo a (gI g first)
  | 0, _ => by simp [tot, sumTo]
  | a + 1, h => by
    have h' : a < first.length := by omega
    rw [List.take_succ_eq_append_getElem h', tot_append, tot_take g first (by omega)]
    simp only [sumTo, tot_cons, tot_nil, gI]
    rw [List.getD_eq_getElem?_getD, List.getElem?_eq_getElem h']
    simp

def Adds (g : Coin → Int) : Prop := ∀ a b : Coin, g (a.1 + b.1, a.2 ++ b.2) = g a + g b

theorem packs_tot {g : Coin → Int} (hg : Adds g) : ∀ {b : Nat} {l : List Coin}, 2 * b ≤ l.length → tot g ((packs l).take b) = tot g (l.take (2 * b))
  | 0, l, _ => by simp [tot]
  | b + 1, [], h => by simp at h
  | b + 1, [_], h => by simp at h; omega
  | b + 1, x :: y :: r, h => by
    have ih := packs_tot hg (b := b) (l := r) (by simp at h; omega)
    rw [show 2 * (b + 1) = (2 * b + 1) + 1 by omega]
    simp only [packs, List.take_succ_cons, tot_cons, ih, hg x y]
    omega

theorem pow_pos' (k : Nat) : (0 : Int) < 2 ^ k := by
  have h := Nat.two_pow_pos k
  obtain ⟨q, hq⟩ : ∃ q : Nat, q = 2 ^ k := ⟨_, rfl⟩
  have e : (2 : Int) ^ k = (q : Int) := by rw [hq]; simp
  rw [e]; omega
theorem pow_succ' (k : Nat) : (2 : Int) ^ (k + 1) = 2 * 2 ^ k := by rw [Int.pow_succ]; omega

theorem lev_pos {first : List Coin} (hp : ∀ x ∈ first, 0 < x.1) : ∀ k, ∀ x ∈ lev first k, 0 < x.1 :=
  lev_mem (Q := fun _ x => 0 < x.1) (fun k a b ha hb => by show 0 < a.1 + b.1; omega) (fun k x hx => hp x hx)

theorem choice {first : List Coin} (hs : SC first) (hp : ∀ x ∈ first, 0 < x.1) : ∀ (j k : Nat), k ≤ (lev first j).length →
    ∃ (x : Nat → Nat) (a : Nat), (∀ i, x i ≤ j + 1) ∧ (∀ i, a ≤ i → x i = 0) ∧ (∀ i, i < a → 1 ≤ x i) ∧ a ≤ first.length ∧
      (∀ c ∈ first.take a, c ∈ (lev first j).take k) ∧ (∀ i i', i ≤ i' → x i' ≤ x i) ∧
      sumTo first.length (fun i => 2 ^ (j + 1) - 2 ^ (j + 1 - x i)) = 2 ^ j * (k : Int) ∧
      ∀ g, Adds g → tot g ((lev first j).take k) = sumTo first.length (fun i => gI g first i * (x i : Int))
  | 0, k, hk => by
    refine ⟨fun i => if i < k then 1 else 0, k, ?_, ?_, ?_, hk, fun c hc => hc, ?_, ?_, ?_⟩
    · intro i; dsimp only; split <;> omega
    · intro i hi; dsimp only; rw [if_neg (by omega)]
    · intro i hi; dsimp only; rw [if_pos hi]; omega
    · intro i i' h; dsimp only; split <;> split <;> omega
    · have : sumTo first.length (fun i => (2 : Int) ^ (0 + 1) - 2 ^ (0 + 1 - (if i < k then 1 else 0))) = sumTo first.length (fun i => if i < k then 1 else 0) := by
        apply sumTo_congr; intro i hi; by_cases e : i < k <;> simp [e]
      have hk' : k ≤ first.length := hk
      rw [this, sumTo_cut (fun _ => 1) hk', sumTo_const]; simp
    · intro g hg
      show tot g (first.take k) = _
      have hk' : k ≤ first.length := hk
      rw [tot_take g first hk', ← sumTo_cut (gI g first) hk']
      apply sumTo_congr; intro i hi; by_cases e : i < k <;> simp [e]
  | j + 1, k, hk => by
    have hpl := lev_pos hp j
    have hk' : k ≤ first.length + (packs (lev first j)).length := by
      have := hk
      simp only [lev, packedL, mergeC_length] at this
      exact this
    obtain ⟨a, b, e1, e2, e3, e4, e5⟩ := merge_take (N := k) (k := k) (cs := first) (ps := packs (lev first j)) (Nat.le_refl _) hk' hs
    have h2b : 2 * b ≤ (lev first j).length := by rw [packs_length] at e3; omega
    obtain ⟨x', a', x1, x2, x3, x4, x5, x6, x7, x8⟩ := choice hs hp j (2 * b) h2b
    have haa : a' ≤ a := by
      rcases Nat.lt_or_ge a a' with hlt | hge
      · exfalso
        have hi : a < first.length := by omega
        have hm : first[a] ∈ first.take a' := List.mem_take_iff_getElem.2 ⟨a, by omega, rfl⟩
        obtain ⟨p, q1, q2⟩ := packs_has h2b (fun y hy => Int.le_of_lt (hpl y hy)) (x5 _ hm)
        have hd : first[a] ∈ first.drop a := by rw [List.drop_eq_getElem_cons hi]; exact List.mem_cons_self
        have := e5 p q1 _ hd
        omega
      · exact hge
    refine ⟨fun i => (if i < a then 1 else 0) + x' i, a, ?_, ?_, ?_, e2, ?_, ?_, ?_, ?_⟩
    · intro i; have := x1 i; dsimp only; split <;> omega
    · intro i hi; have := x2 i (by omega); dsimp only; rw [if_neg (by omega)]; omega
    · intro i hi; dsimp only; rw [if_pos hi]; omega
    · intro c hc
      exact e4.symm.subset (List.mem_append_left _ hc)
    · intro i i' h
      have := x6 i i' h
      dsimp only; split <;> split <;> omega
    · have : sumTo first.length (fun i => (2 : Int) ^ (j + 1 + 1) - 2 ^ (j + 1 + 1 - ((if i < a then 1 else 0) + x' i))) =
          sumTo first.length (fun i => (if i < a then (2 : Int) ^ (j + 1) else 0) + (2 ^ (j + 1) - 2 ^ (j + 1 - x' i))) := by
        apply sumTo_congr
        intro i hi
        have h1 := x1 i
        split
        · rw [show j + 1 + 1 - (1 + x' i) = j + 1 - x' i by omega, pow_succ' (j + 1)]; omega
        · have := x2 i (by omega)
          rw [this]; simp
      rw [this, sumTo_add, sumTo_cut (fun _ => (2 : Int) ^ (j + 1)) e2, sumTo_const, x7, pow_succ' j, ← e1]
      rw [Int.natCast_add, Int.natCast_mul, Int.mul_add, Int.mul_comm (a : Int), Int.mul_left_comm, Int.mul_assoc 2 (2 ^ j) (b : Int)]
      rfl
    · intro g hg
      show tot g ((mergeC first (packs (lev first j))).take k) = _
      rw [tot_perm g e4, tot_append, packs_tot hg h2b, x8 g hg, tot_take g first e2, ← sumTo_cut (gI g first) e2, ← sumTo_add]
      apply sumTo_congr
      intro i hi
      by_cases e : i < a
      · simp [e, Int.mul_add]
      · simp [e]

/-- The least of so many. -/
theorem least_sum {N : Nat} {c : Nat → Int} (hc : ∀ i i', i ≤ i' → i' < N → c i ≤ c i') (p : Nat → Bool) : ∀ n, n ≤ N → ∃ b, b ≤ n ∧ sumTo n (fun i => if p i then 1 else 0) = (b : Int) ∧ sumTo b c ≤ sumTo n (fun i => if p i then c i else 0)
  | 0, _ => ⟨0, by omega, rfl, Int.le_refl _⟩
  | n + 1, hn => by
    obtain ⟨b, h1, h2, h3⟩ := least_sum hc p n (by omega)
    by_cases hp : p n = true
    · refine ⟨b + 1, by omega, ?_, ?_⟩
      · simp only [sumTo, h2, hp, if_true]; omega
      · have := hc b n h1 (by omega)
        simp only [sumTo, hp, if_true]; omega
    · refine ⟨b, by omega, ?_, ?_⟩
      · simp only [sumTo, h2, hp]; simp
      · simp only [sumTo, hp]; simpa using h3

theorem sumTo_mono {N : Nat} {c : Nat → Int} (hc : ∀ i, i < N → 0 ≤ c i) {a b : Nat} (h : a ≤ b) (hb : b ≤ N) : sumTo a c ≤ sumTo b c := by
  induction b with
  | zero => have : a = 0 := by omega
            subst this; exact Int.le_refl _
  | succ b ih =>
    by_cases e : a = b + 1
    · subst e; exact Int.le_refl _
    · have := ih (by omega) (by omega)
      have := hc b (by omega)
      simp only [sumTo]; omega

theorem cI_mono {first : List Coin} (hs : SC first) : ∀ i i', i ≤ i' → i' < first.length → cI first i ≤ cI first i' := by
  intro i i' h h'
  have hi : i < first.length := by omega
  have := SortedK.get hs h (List.getElem?_eq_getElem hi) (List.getElem?_eq_getElem h')
  simpa [cI, List.getD_eq_getElem?_getD, hi, h'] using this

theorem cI_pos {first : List Coin} (hp : ∀ x ∈ first, 0 < x.1) : ∀ i, i < first.length → 0 < cI first i := by
  intro i hi
  have := hp _ (List.getElem_mem hi)
  simpa [cI, List.getD_eq_getElem?_getD, hi] using this

/-- No choice of as many counts less. -/
theorem best {first : List Coin} (hs : SC first) (hp : ∀ x ∈ first, 0 < x.1) : ∀ (j k : Nat) (y : Nat → Nat), (∀ i, i < first.length → y i ≤ j + 1) → k ≤ (lev first j).length →
    2 ^ j * (k : Int) ≤ sumTo first.length (fun i => 2 ^ (j + 1) - 2 ^ (j + 1 - y i)) → wt ((lev first j).take k) ≤ sumTo first.length (fun i => cI first i * (y i : Int))
  | 0, k, y, hy, hk, h => by
    obtain ⟨b, b1, b2, b3⟩ := least_sum (cI_mono hs) (fun i => decide (1 ≤ y i)) first.length (Nat.le_refl _)
    have h1 : sumTo first.length (fun i => (2 : Int) ^ (0 + 1) - 2 ^ (0 + 1 - y i)) = sumTo first.length (fun i => if decide (1 ≤ y i) then 1 else 0) := by
      apply sumTo_congr; intro i hi
      have := hy i hi
      by_cases e : 1 ≤ y i
      · have : y i = 1 := by omega
        simp [this]
      · have : y i = 0 := by omega
        simp [this]
    have h2 : sumTo first.length (fun i => if decide (1 ≤ y i) then cI first i else 0) = sumTo first.length (fun i => cI first i * (y i : Int)) := by
      apply sumTo_congr; intro i hi
      have := hy i hi
      by_cases e : 1 ≤ y i
      · have : y i = 1 := by omega
        simp [this]
      · have : y i = 0 := by omega
        simp [this]
    rw [h1, b2] at h
    have hkb : k ≤ b := by simp at h; omega
    show wt (first.take k) ≤ _
    rw [wt_take first hk, ← h2]
    exact Int.le_trans (sumTo_mono (fun i hi => Int.le_of_lt (cI_pos hp i hi)) hkb b1) b3
  | j + 1, k, y, hy, hk, h => by
    obtain ⟨b, b1, b2, b3⟩ := least_sum (cI_mono hs) (fun i => decide (1 ≤ y i)) first.length (Nat.le_refl _)
    have hS := lev_sorted hs j
    have hPS := packs_sorted hS
    have hk' : k ≤ first.length + (packs (lev first j)).length := by
      have := hk
      simp only [lev, packedL, mergeC_length] at this
      exact this
    have key : sumTo first.length (fun i => cI first i * (y i : Int)) = sumTo first.length (fun i => if decide (1 ≤ y i) then cI first i else 0) + sumTo first.length (fun i => cI first i * ((y i - 1 : Nat) : Int)) := by
      rw [← sumTo_add]
      apply sumTo_congr; intro i hi
      by_cases e : 1 ≤ y i
      · have e2 : (y i : Int) = 1 + ((y i - 1 : Nat) : Int) := by omega
        simp only [e, decide_true, if_true]
        rw [e2, Int.mul_add]; simp
      · have : y i = 0 := by omega
        simp [this]
    have hw : sumTo first.length (fun i => (2 : Int) ^ (j + 1 + 1) - 2 ^ (j + 1 + 1 - y i)) = 2 ^ (j + 1) * (b : Int) + sumTo first.length (fun i => 2 ^ (j + 1) - 2 ^ (j + 1 - (y i - 1))) := by
      rw [← b2, ← sumTo_mul, ← sumTo_add]
      apply sumTo_congr; intro i hi
      have := hy i hi
      by_cases e : 1 ≤ y i
      · simp only [e, decide_true, if_true]
        rw [show j + 1 + 1 - y i = j + 1 - (y i - 1) by omega, pow_succ' (j + 1)]; omega
      · have : y i = 0 := by omega
        simp [this]
    have hwpos : 0 ≤ sumTo first.length (fun i => (2 : Int) ^ (j + 1) - 2 ^ (j + 1 - (y i - 1))) := by
      have := sumTo_le (n := first.length) (f := fun _ => (0 : Int)) (g := fun i => (2 : Int) ^ (j + 1) - 2 ^ (j + 1 - (y i - 1))) (fun i hi => by
        have h1 : 2 ^ (j + 1 - (y i - 1)) ≤ 2 ^ (j + 1) := Nat.pow_le_pow_right (n := 2) (by omega) (by omega)
        have e1 : ((2 ^ (j + 1 - (y i - 1)) : Nat) : Int) = 2 ^ (j + 1 - (y i - 1)) := by simp
        have e2 : ((2 ^ (j + 1) : Nat) : Int) = 2 ^ (j + 1) := by simp
        rw [← e1, ← e2]; omega)
      rw [sumTo_zero] at this; exact this
    show wt ((mergeC first (packs (lev first j))).take k) ≤ _
    rw [key]
    have hdeep : 0 ≤ sumTo first.length (fun i => cI first i * ((y i - 1 : Nat) : Int)) := by
      have := sumTo_le (n := first.length) (f := fun _ => (0 : Int)) (g := fun i => cI first i * ((y i - 1 : Nat) : Int)) (fun i hi => Int.mul_nonneg (Int.le_of_lt (cI_pos hp i hi)) (by omega))
      rw [sumTo_zero] at this; exact this
    by_cases hkb : k ≤ b
    · have hm := merge_min (N := k) (a := k) (b := 0) (cs := first) (ps := packs (lev first j)) (by omega) hs hPS (by omega) (by omega)
      rw [Nat.add_zero, List.take_zero, wt_nil, wt_take first (by omega)] at hm
      have := sumTo_mono (c := cI first) (fun i hi => Int.le_of_lt (cI_pos hp i hi)) hkb b1
      omega
    · obtain ⟨q, hq⟩ : ∃ q, k = b + q := ⟨k - b, by omega⟩
      subst hq
      have h2 : 2 ^ j * ((2 * q : Nat) : Int) ≤ sumTo first.length (fun i => 2 ^ (j + 1) - 2 ^ (j + 1 - (y i - 1))) := by
        rw [hw] at h
        have e1 : (2 : Int) ^ (j + 1) * ((b + q : Nat) : Int) = 2 ^ (j + 1) * (b : Int) + 2 ^ (j + 1) * (q : Int) := by rw [Int.natCast_add, Int.mul_add]
        have e2 : (2 : Int) ^ j * ((2 * q : Nat) : Int) = 2 ^ (j + 1) * (q : Int) := by
          rw [pow_succ' j, Int.natCast_mul, Int.mul_comm 2 ((2 : Int) ^ j), Int.mul_assoc]; rfl
        omega
      have hqb : q ≤ (packs (lev first j)).length := by
        have := hk
        simp only [lev, packedL, mergeC_length] at this
        -- as wide as all that there is
        have hall : sumTo first.length (fun i => (2 : Int) ^ (j + 1) - 2 ^ (j + 1 - (y i - 1))) ≤ (first.length : Int) * (2 ^ (j + 1) - 1) := by
          rw [← sumTo_const]
          apply sumTo_le; intro i hi
          have := pow_pos' (j + 1 - (y i - 1)); omega
        have hl := lev_length first j
        rw [packs_length]
        rcases Nat.lt_or_ge ((lev first j).length / 2) q with hlt | hge
        · exfalso
          have h3 : (lev first j).length + 1 ≤ 2 * q := by omega
          -- 2q ≤ 2n - n/2^j
          have h4 : (2 : Int) ^ j * ((2 * q : Nat) : Int) ≤ (first.length : Int) * (2 ^ (j + 1) - 1) := Int.le_trans h2 hall
          have h5 : 2 ^ j * (2 * q) + first.length ≤ first.length * (2 * 2 ^ j) := by
            have e1 : ((2 ^ j : Nat) : Int) = 2 ^ j := by simp
            have e2 : (first.length : Int) * (2 ^ (j + 1) - 1) = (first.length : Int) * (2 * 2 ^ j) - first.length := by rw [pow_succ', Int.mul_sub]; simp
            rw [e2] at h4
            have e3 : ((2 ^ j * (2 * q) : Nat) : Int) = 2 ^ j * ((2 * q : Nat) : Int) := by rw [Int.natCast_mul]; simp
            have e4 : ((first.length * (2 * 2 ^ j) : Nat) : Int) = (first.length : Int) * (2 * 2 ^ j) := by rw [Int.natCast_mul]; simp
            apply Int.ofNat_le.1
            rw [Int.natCast_add, e3, e4]
            generalize (2 : Int) ^ j * ((2 * q : Nat) : Int) = z1 at *
            generalize (first.length : Int) * (2 * 2 ^ j) = z2 at *
            omega
          have hpp := Nat.two_pow_pos j
          have e : first.length * (2 * 2 ^ j) = 2 ^ j * (2 * first.length) := by rw [Nat.mul_comm 2 (2 ^ j), Nat.mul_left_comm, Nat.mul_comm first.length 2]
          have hqn : 2 * q ≤ 2 * first.length := by
            rcases Nat.lt_or_ge (2 * first.length) (2 * q) with hl | hg
            · exfalso
              have := Nat.mul_le_mul_left (2 ^ j) (Nat.le_of_lt hl)
              have h8 := Nat.mul_lt_mul_of_pos_left hl hpp
              rw [e] at h5
              generalize 2 ^ j * (2 * q) = z1 at *
              generalize 2 ^ j * (2 * first.length) = z2 at *
              omega
            · exact hg
          have h6 : first.length + 2 ^ j - 1 < 2 ^ j * (2 * first.length - 2 * q + 1) := by
            obtain ⟨d, hd⟩ : ∃ d, 2 * first.length = 2 * q + d := ⟨2 * first.length - 2 * q, by omega⟩
            rw [e, hd, Nat.mul_add] at h5
            rw [show 2 * first.length - 2 * q + 1 = d + 1 by omega, Nat.mul_add, Nat.mul_one]
            omega
          have h7 : (first.length + 2 ^ j - 1) / 2 ^ j < 2 * first.length - 2 * q + 1 := (Nat.div_lt_iff_lt_mul hpp).2 (by rw [Nat.mul_comm]; exact h6)
          omega
        · exact hge
      have h2q : 2 * q ≤ (lev first j).length := by rw [packs_length] at hqb; omega
      have ih := best hs hp j (2 * q) (fun i => y i - 1) (fun i hi => by have := hy i hi; omega) h2q h2
      have hm := merge_min (N := b + q) (a := b) (b := q) (cs := first) (ps := packs (lev first j)) (by omega) hs hPS b1 hqb
      rw [(packs_take h2q).1, wt_take first b1] at hm
      omega
end Go.V

/-! Lengths of codes, symbol by symbol: all codes are used, none is too long, none is better. Plain Lean; no program. -/
namespace Go.V
set_option linter.unusedVariables false
set_option linter.unusedSimpArgs false

end Go.V

/-! The laws of lengths of codes, of lists: all is used, the best, a greatest length more, all alike, so many times as great. Plain Lean; no program. -/
namespace Go.V
set_option linter.unusedVariables false
set_option linter.unusedSimpArgs false

end Go.V

/-! Lengths of codes: all counts one; counts so many times as great. Plain Lean; no program. -/
namespace Go.V
set_option linter.unusedVariables false
set_option linter.unusedSimpArgs false

end Go.V

/-! Lengths of codes: two that change places; all of one length. Plain Lean; no program. -/
namespace Go.V
set_option linter.unusedVariables false
set_option linter.unusedSimpArgs false

end Go.V

/-! Codes of symbols out of lengths: lists alone. Plain Lean; no program. -/
namespace Go.V
set_option linter.unusedVariables false
set_option linter.unusedSimpArgs false

/-- A symbol's length. -/
def ln (ls : List Int) (s : Nat) : Int := ls.getD s 0
end Go.V

/-! Bits in bytes: lists alone. Plain Lean; no program. -/
namespace Go.V
set_option linter.unusedVariables false
set_option linter.unusedSimpArgs false

end Go.V

/-! Codes of symbols: how both texts come to them. Plain Lean; no program. -/
namespace Go.V
set_option linter.unusedVariables false
set_option linter.unusedSimpArgs false

end Go.V

/-! Symbols out of bits. Plain Lean; no program. -/
namespace Go.V
set_option linter.unusedVariables false
set_option linter.unusedSimpArgs false

end Go.V
