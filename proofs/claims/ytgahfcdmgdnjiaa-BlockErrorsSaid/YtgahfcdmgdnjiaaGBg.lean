/- Own texts, packed: S1, S2, S3, S4, S5, S6, S7, S8, S9, K1, K2, K3, K4. -/
import Derived.Test.YtgahfcdmgdnjiaaGAg

/-! Lists that are told apart by a number of each member: sorted, and alike member by member of one number (what a stable sort keeps). Plain Lean; no program. -/
namespace Go.V
set_option linter.unusedVariables false

section
variable {α : Type} (key : α → Int)

/-- Members of each one number come in the same order in both. -/
def SameK (xs ys : List α) : Prop := ∀ k : Int, xs.filter (fun x => key x == k) = ys.filter (fun x => key x == k)

def SortedK (xs : List α) : Prop := xs.Pairwise (fun x y => key x ≤ key y)

variable {key}

theorem SameK.refl (xs : List α) : SameK key xs xs := fun _ => rfl
theorem SameK.symm {xs ys : List α} (h : SameK key xs ys) : SameK key ys xs := fun k => (h k).symm
theorem SameK.trans {xs ys zs : List α} (h : SameK key xs ys) (h' : SameK key ys zs) : SameK key xs zs := fun k => (h k).trans (h' k)
theorem SameK.append {xs ys xs' ys' : List α} (h : SameK key xs ys) (h' : SameK key xs' ys') : SameK key (xs ++ xs') (ys ++ ys') := fun k => by
  rw [List.filter_append, List.filter_append, h k, h' k]

theorem SameK.mem {xs ys : List α} (h : SameK key xs ys) {x : α} (hx : x ∈ xs) : x ∈ ys := by
  have : x ∈ xs.filter (fun y => key y == key x) := by simp [hx]
  rw [h] at this
  exact (List.mem_filter.1 this).1

theorem SameK.nil {ys : List α} (h : SameK key [] ys) : ys = [] := by
  cases ys with
  | nil => rfl
  | cons y ys => exact absurd (h.symm.mem (x := y) (by simp)) (by simp)

theorem SameK.length : ∀ {xs ys : List α}, SameK key xs ys → xs.length = ys.length := by
  intro xs
  induction xs with
  | nil => intro ys h; rw [h.nil]
  | cons x xs ih =>
    intro ys h
    have hx : x ∈ ys.filter (fun y => key y == key x) := by rw [← h]; simp
    have h1 := h (key x)
    simp only [List.filter_cons, beq_self_eq_true, if_true] at h1
    obtain ⟨A, B, e1, e2, e3⟩ := List.filter_eq_cons_iff.1 h1.symm
    have hA : A.filter (fun y => key y == key x) = [] := by
      rw [List.filter_eq_nil_iff]; exact e2
    have h2 : SameK key xs (A ++ B) := by
      intro k
      have h3 := h k
      rw [e1] at h3
      simp only [List.filter_cons, List.filter_append] at h3 ⊢
      by_cases hk : key x == k
      · have hk' : key x = k := by simpa using hk
        subst hk'
        simp only [beq_self_eq_true, if_true] at h3
        rw [hA] at h3 ⊢
        simpa using h3
      · simp only [hk] at h3
        simpa using h3
    rw [e1]
    have := ih h2
    simp only [List.length_cons, List.length_append] at this ⊢
    omega

/-- Two neighbouring parts of which no member of the one has the number of a member of the other one may change places. -/
theorem SameK.swap {xs ys : List α} (h : ∀ x ∈ xs, ∀ y ∈ ys, key x ≠ key y) : SameK key (xs ++ ys) (ys ++ xs) := by
  intro k
  rw [List.filter_append, List.filter_append]
  by_cases hx : ∃ x ∈ xs, key x = k
  · obtain ⟨x, hx, rfl⟩ := hx
    have : ys.filter (fun y => key y == key x) = [] := by
      rw [List.filter_eq_nil_iff]; intro y hy; have := h x hx y hy; simp; omega
    rw [this]; simp
  · have : xs.filter (fun y => key y == k) = [] := by
      rw [List.filter_eq_nil_iff]; intro y hy; simp; intro e; exact hx ⟨y, hy, e⟩
    rw [this]; simp

theorem SortedK.unique : ∀ {xs ys : List α}, SortedK key xs → SortedK key ys → SameK key xs ys → xs = ys := by
  intro xs
  induction xs with
  | nil => intro ys _ _ h; exact h.nil.symm
  | cons x xs ih =>
    intro ys h1 h2 h
    cases ys with
    | nil => exact absurd h.symm.nil (by simp)
    | cons y ys =>
      have hx : key y ≤ key x := by
        rcases List.mem_cons.1 (h.mem (x := x) (by simp)) with e | e
        · rw [e]; omega
        · exact (List.pairwise_cons.1 h2).1 x e
      have hy : key x ≤ key y := by
        rcases List.mem_cons.1 (h.symm.mem (x := y) (by simp)) with e | e
        · rw [e]; omega
        · exact (List.pairwise_cons.1 h1).1 y e
      have e : key x = key y := by omega
      have hk := h (key x)
      simp only [List.filter_cons, beq_self_eq_true, if_true, ← e] at hk
      have hxy : x = y := (List.cons.inj hk).1
      subst hxy
      rw [ih (List.pairwise_cons.1 h1).2 (List.pairwise_cons.1 h2).2]
      intro k
      have hk := h k
      simp only [List.filter_cons] at hk
      split at hk
      · exact (List.cons.inj hk).2
      · exact hk

theorem SortedK.append {xs ys : List α} (h1 : SortedK key xs) (h2 : SortedK key ys) (h : ∀ x ∈ xs, ∀ y ∈ ys, key x ≤ key y) : SortedK key (xs ++ ys) :=
  List.pairwise_append.2 ⟨h1, h2, h⟩
theorem SortedK.left {xs ys : List α} (h : SortedK key (xs ++ ys)) : SortedK key xs := (List.pairwise_append.1 h).1
theorem SortedK.right {xs ys : List α} (h : SortedK key (xs ++ ys)) : SortedK key ys := (List.pairwise_append.1 h).2.1
theorem SortedK.across {xs ys : List α} (h : SortedK key (xs ++ ys)) : ∀ x ∈ xs, ∀ y ∈ ys, key x ≤ key y := (List.pairwise_append.1 h).2.2

/-- A list put in order, one member by one; a member stands behind those of its own number. -/
def ins (key : α → Int) (x : α) : List α → List α
  | [] => [x]
  | y :: ys => if key y ≤ key x then y :: ins key x ys else x :: y :: ys
def inOrder (key : α → Int) (xs : List α) : List α := xs.foldl (fun l x => ins key x l) []

theorem ins_same (x : α) : ∀ {l : List α}, SortedK key l → SameK key (ins key x l) (l ++ [x])
  | [], _ => SameK.refl _
  | y :: ys, h => by
    unfold ins
    split
    · exact (SameK.refl [y]).append (ins_same x (List.pairwise_cons.1 h).2)
    · rename_i hlt
      have hlt : key x < key y := by omega
      show SameK key ([x] ++ (y :: ys)) (y :: ys ++ [x])
      apply SameK.swap
      intro a ha b hb
      have ha : a = x := by simpa using ha
      subst ha
      rcases List.mem_cons.1 hb with e | e
      · rw [e]; omega
      · have := (List.pairwise_cons.1 h).1 b e; omega

theorem ins_sorted (x : α) : ∀ {l : List α}, SortedK key l → SortedK key (ins key x l)
  | [], _ => by simp [ins, SortedK]
  | y :: ys, h => by
    unfold ins
    have h' := List.pairwise_cons.1 h
    split
    · rename_i hle
      refine List.pairwise_cons.2 ⟨fun z hz => ?_, ins_sorted x h'.2⟩
      rcases List.mem_append.1 ((ins_same x h'.2).mem hz) with e | e
      · exact h'.1 z e
      · have : z = x := by simpa using e
        rw [this]; exact hle
    · rename_i hlt
      refine List.pairwise_cons.2 ⟨fun z hz => ?_, h⟩
      rcases List.mem_cons.1 hz with e | e
      · rw [e]; omega
      · have := h'.1 z e; omega

theorem inOrder_aux : ∀ (xs l : List α), SortedK key l → SortedK key (xs.foldl (fun l x => ins key x l) l) ∧ SameK key (xs.foldl (fun l x => ins key x l) l) (l ++ xs)
  | [], l, h => by simpa using ⟨h, SameK.refl l⟩
  | x :: xs, l, h => by
    have ih := inOrder_aux xs (ins key x l) (ins_sorted x h)
    refine ⟨ih.1, ih.2.trans ?_⟩
    have := (ins_same x h).append (SameK.refl xs)
    simpa using this

theorem inOrder_sorted (xs : List α) : SortedK key (inOrder key xs) := (inOrder_aux xs [] (by simp [SortedK])).1
theorem inOrder_same (xs : List α) : SameK key (inOrder key xs) xs := by simpa [inOrder] using (inOrder_aux (key := key) xs [] (by simp [SortedK])).2
theorem inOrder_of {xs ys : List α} (h1 : SortedK key ys) (h2 : SameK key ys xs) : ys = inOrder key xs := SortedK.unique h1 (inOrder_sorted xs) (h2.trans (inOrder_same xs).symm)
end
end Go.V

/-! What the steps of a stable sort by merging in place do to lists. Plain Lean; no program. -/
namespace Go.V
set_option linter.unusedVariables false

section
variable {α : Type} {key : α → Int}

theorem fin_ins {S1 S2 : List α} {x : α} (h : SortedK key (S1 ++ S2)) (h2 : ∀ z ∈ S2, key x < key z) (h1 : S1 = [] ∨ ∃ S y, S1 = S ++ [y] ∧ key y ≤ key x) :
    SortedK key (S1 ++ x :: S2) ∧ SameK key (S1 ++ x :: S2) (S1 ++ S2 ++ [x]) := by
  refine ⟨h.left.append (List.pairwise_cons.2 ⟨fun z hz => by have := h2 z hz; omega, h.right⟩) ?_, ?_⟩
  · intro z hz u hu
    rcases h1 with rfl | ⟨S, y, rfl, hy⟩
    · simp at hz
    · have hzy : key z ≤ key y := by
        rcases List.mem_append.1 hz with e | e
        · exact h.left.across z e y (by simp)
        · have : z = y := by simpa using e
          rw [this]; omega
      rcases List.mem_cons.1 hu with e | e
      · rw [e]; omega
      · have := h2 u e; omega
  · rw [List.append_assoc]
    refine (SameK.refl S1).append ?_
    show SameK key ([x] ++ S2) (S2 ++ [x])
    apply SameK.swap
    intro a ha b hb
    have : a = x := by simpa using ha
    subst this
    have := h2 b hb
    omega

/-- One member put in among sorted ones, by a search. -/
theorem put_front {Y1 Y3 : List α} {x : α} (h : SortedK key (Y1 ++ Y3)) (h1 : ∀ y ∈ Y1, key y < key x) (h3 : ∀ y ∈ Y3, key x ≤ key y) :
    SortedK key (Y1 ++ [x] ++ Y3) ∧ SameK key (Y1 ++ [x] ++ Y3) ([x] ++ (Y1 ++ Y3)) := by
  refine ⟨(h.left.append (by simp [SortedK]) ?_).append h.right ?_, ?_⟩
  · intro a ha b hb
    have : b = x := by simpa using hb
    subst this
    have := h1 a ha; omega
  · intro a ha b hb
    rcases List.mem_append.1 ha with e | e
    · exact h.across a e b hb
    · have : a = x := by simpa using e
      subst this
      exact h3 b hb
  · rw [← List.append_assoc]
    refine SameK.append ?_ (SameK.refl _)
    apply SameK.swap
    intro a ha b hb
    have : b = x := by simpa using hb
    subst this
    have := h1 a ha; omega

theorem put_back {X1 X3 : List α} {y : α} (h : SortedK key (X1 ++ X3)) (h1 : ∀ x ∈ X1, key x ≤ key y) (h3 : ∀ x ∈ X3, key y < key x) :
    SortedK key (X1 ++ [y] ++ X3) ∧ SameK key (X1 ++ [y] ++ X3) (X1 ++ X3 ++ [y]) := by
  refine ⟨(h.left.append (by simp [SortedK]) ?_).append h.right ?_, ?_⟩
  · intro a ha b hb
    have : b = y := by simpa using hb
    subst this
    exact h1 a ha
  · intro a ha b hb
    rcases List.mem_append.1 ha with e | e
    · exact h.across a e b hb
    · have : a = y := by simpa using e
      subst this
      have := h3 b hb; omega
  · rw [List.append_assoc, List.append_assoc]
    refine (SameK.refl _).append ?_
    apply SameK.swap
    intro a ha b hb
    have : a = y := by simpa using ha
    subst this
    have := h3 b hb; omega

theorem SortedK.head_le {S : List α} {y : α} (h : SortedK key (y :: S)) : ∀ x ∈ y :: S, key y ≤ key x := by
  intro x hx
  rcases List.mem_cons.1 hx with e | e
  · rw [e]; omega
  · exact (List.pairwise_cons.1 h).1 x e

/-- Two sorted lists, each cut in two, the inner parts changed about: both halves put in order are all in order. -/
theorem sym_join {X1 X2 Y1 Y2 Z1 Z2 : List α} (hX : SortedK key (X1 ++ X2)) (hY : SortedK key (Y1 ++ Y2)) (h1 : ∀ x ∈ X1, ∀ y ∈ Y2, key x ≤ key y) (h2 : ∀ y ∈ Y1, ∀ x ∈ X2, key y < key x)
    (hZ1 : SortedK key Z1) (hZ2 : SortedK key Z2) (s1 : SameK key Z1 (X1 ++ Y1)) (s2 : SameK key Z2 (X2 ++ Y2)) :
    SortedK key (Z1 ++ Z2) ∧ SameK key (Z1 ++ Z2) (X1 ++ X2 ++ (Y1 ++ Y2)) := by
  refine ⟨hZ1.append hZ2 ?_, (s1.append s2).trans ?_⟩
  · intro a ha b hb
    rcases List.mem_append.1 (s1.mem ha) with e | e <;> rcases List.mem_append.1 (s2.mem hb) with f | f
    · exact hX.across a e b f
    · exact h1 a e b f
    · have := h2 a e b f; omega
    · exact hY.across a e b f
  · have : SameK key (X1 ++ ((Y1 ++ X2) ++ Y2)) (X1 ++ ((X2 ++ Y1) ++ Y2)) := by
      refine (SameK.refl _).append (SameK.append ?_ (SameK.refl _))
      apply SameK.swap
      intro a ha b hb
      have := h2 a ha b hb; omega
    simpa using this

theorem cut_at {L : List α} {k : Nat} (h : k < L.length) : ∃ P y Q, L = P ++ y :: Q ∧ P.length = k ∧ L[k]? = some y := by
  refine ⟨L.take k, L[k], L.drop (k + 1), ?_, by simp; omega, by simp⟩
  simp

theorem SortedK.get {L : List α} (h : SortedK key L) {i j : Nat} {x y : α} (hij : i ≤ j) (hx : L[i]? = some x) (hy : L[j]? = some y) : key x ≤ key y := by
  obtain ⟨hi, rfl⟩ := List.getElem?_eq_some_iff.1 hx
  obtain ⟨hj, rfl⟩ := List.getElem?_eq_some_iff.1 hy
  rcases Nat.lt_or_ge i j with hlt | hge
  · exact (List.pairwise_iff_getElem.1 h) i j hi hj hlt
  · have : i = j := by omega
    subst this; omega

theorem in_take {L : List α} {k : Nat} {x : α} (h : x ∈ L.take k) : ∃ i, i < k ∧ L[i]? = some x := by
  obtain ⟨i, hi, rfl⟩ := List.mem_iff_getElem.1 h
  have hi' := hi
  rw [List.length_take] at hi'
  refine ⟨i, by omega, ?_⟩
  rw [List.getElem_take]
  exact List.getElem?_eq_getElem _

theorem in_drop {L : List α} {k : Nat} {x : α} (h : x ∈ L.drop k) : ∃ i, k ≤ i ∧ L[i]? = some x := by
  obtain ⟨i, hi, rfl⟩ := List.mem_iff_getElem.1 h
  rw [List.getElem_drop]
  exact ⟨k + i, by omega, List.getElem?_eq_getElem _⟩

/-- Parts of s members each in order, and one that may be shorter. -/
inductive Blk (key : α → Int) (s : Nat) : List α → Prop
  | last {Z} : Z.length ≤ s → SortedK key Z → Blk key s Z
  | cons {Z1 Z2} : Z1.length = s → SortedK key Z1 → Blk key s Z2 → Blk key s (Z1 ++ Z2)

inductive Full (key : α → Int) (s : Nat) : List α → Prop
  | nil : Full key s []
  | snoc {U Z} : Full key s U → Z.length = s → SortedK key Z → Full key s (U ++ Z)

theorem Full.blk {s : Nat} {U V : List α} (h : Full key s U) (hv : Blk key s V) : Blk key s (U ++ V) := by
  induction h generalizing V with
  | nil => exact hv
  | snoc h1 h2 h3 ih =>
    rw [List.append_assoc]
    exact ih (.cons h2 h3 hv)

theorem Blk.small {s : Nat} {Z : List α} (h : Blk key s Z) (hs : 0 < s) (hl : Z.length ≤ s) : SortedK key Z := by
  cases h with
  | last h1 h2 => exact h2
  | cons h1 h2 h3 =>
    rename_i Z1 Z2
    have : Z2 = [] := List.eq_nil_of_length_eq_zero (by simp at hl; omega)
    subst this
    simpa using h2

theorem Blk.cut {s : Nat} {Z : List α} (h : Blk key s Z) (hl : s < Z.length) : ∃ Z1 Z2, Z = Z1 ++ Z2 ∧ Z1.length = s ∧ SortedK key Z1 ∧ Blk key s Z2 := by
  cases h with
  | last h1 h2 => omega
  | cons h1 h2 h3 => exact ⟨_, _, rfl, h1, h2, h3⟩

theorem Blk.cut2 {s : Nat} {Z : List α} (h : Blk key s Z) (hs : 0 < s) (hl : s + s ≤ Z.length) : ∃ Z1 Z2 Z3, Z = Z1 ++ Z2 ++ Z3 ∧ Z1.length = s ∧ Z2.length = s ∧ SortedK key Z1 ∧ SortedK key Z2 ∧ Blk key s Z3 := by
  obtain ⟨Z1, Z', rfl, h1, h2, h3⟩ := h.cut (by omega)
  cases h3 with
  | last h4 h5 =>
    refine ⟨Z1, Z', [], by simp, h1, by simp at hl; omega, h2, h5, .last (by simp) (by simp [SortedK])⟩
  | cons h4 h5 h6 =>
    rename_i Z2 Z3
    exact ⟨Z1, Z2, Z3, by simp, h1, h4, h2, h5, h6⟩
end
end Go.V

/-! Lengths of codes by coins and packages: lists alone. Plain Lean; no program. -/
namespace Go.V
set_option linter.unusedVariables false

/-- A count, and the symbols counted in it. -/
abbrev Coin := Int × List Nat

/-- A count as it counts. -/
def manyL (n : Int) : Int := mn (mx n 0) 1099511627776

theorem manyL_pos {n : Int} (h : n > 0) : 0 < manyL n ∧ manyL n ≤ 1099511627776 := by
  unfold manyL mx mn; split <;> split <;> omega
/-- The coins: symbols that there are, by count, then by symbol. -/
def rawCoins (i : Nat) : List Int → List Coin
  | [] => []
  | n :: ns => if n > 0 then (manyL n, [i]) :: rawCoins (i + 1) ns else rawCoins (i + 1) ns
def coinsL (xs : List Int) : List Coin := inOrder Prod.fst (rawCoins 0 xs)

theorem rawCoins_append (ys : List Int) : ∀ (xs : List Int) (i : Nat), rawCoins i (xs ++ ys) = rawCoins i xs ++ rawCoins (i + xs.length) ys
  | [], i => by simp [rawCoins]
  | x :: xs, i => by
    have ih := rawCoins_append ys xs (i + 1)
    simp only [List.cons_append, rawCoins, ih, List.length_cons, show i + 1 + xs.length = i + (xs.length + 1) by omega]
    split <;> simp

theorem rawCoins_mem : ∀ (xs : List Int) (i : Nat) (x : Coin), x ∈ rawCoins i xs → 0 < x.1 ∧ x.1 ≤ 1099511627776 ∧ ∃ s, x.2 = [s] ∧ i ≤ s ∧ s < i + xs.length
  | [], i, x, h => by simp [rawCoins] at h
  | n :: ns, i, x, h => by
    have ih := rawCoins_mem ns (i + 1) x
    have more : (x ∈ rawCoins (i + 1) ns) → 0 < x.1 ∧ x.1 ≤ 1099511627776 ∧ ∃ s, x.2 = [s] ∧ i ≤ s ∧ s < i + (n :: ns).length := by
      intro h
      obtain ⟨h1, h2, s, h3, h4, h5⟩ := ih h
      exact ⟨h1, h2, s, h3, by omega, by simp; omega⟩
    unfold rawCoins at h
    split at h
    · rename_i hn
      rcases List.mem_cons.1 h with e | e
      · subst e
        exact ⟨(manyL_pos hn).1, (manyL_pos hn).2, i, rfl, by omega, by simp⟩
      · exact more e
    · exact more h

theorem coinsL_mem {xs : List Int} {x : Coin} (h : x ∈ coinsL xs) : 0 < x.1 ∧ x.1 ≤ 1099511627776 ∧ ∃ s, x.2 = [s] ∧ s < xs.length := by
  obtain ⟨h1, h2, s, h3, _, h5⟩ := rawCoins_mem xs 0 x ((inOrder_same (rawCoins 0 xs)).mem h)
  exact ⟨h1, h2, s, h3, by omega⟩

theorem rawCoins_length : ∀ (xs : List Int) (i : Nat), (rawCoins i xs).length ≤ xs.length
  | [], i => by simp [rawCoins]
  | n :: ns, i => by
    have ih := rawCoins_length ns (i + 1)
    unfold rawCoins
    split <;> simp <;> omega

theorem coinsL_length (xs : List Int) : (coinsL xs).length ≤ xs.length := by
  have h := (inOrder_same (key := Prod.fst) (rawCoins 0 xs)).length
  have := rawCoins_length xs 0
  show (inOrder _ _).length ≤ _
  omega

/-- Packages of two and two. -/
def packs : List Coin → List Coin
  | a :: b :: r => (a.1 + b.1, a.2 ++ b.2) :: packs r
  | _ => []

/-- Coins among packages: each ahead of the first package that counts no less. -/
def mergeC : List Coin → List Coin → List Coin
  | cs, [] => cs
  | cs, p :: ps => cs.takeWhile (fun c => decide (c.1 ≤ p.1)) ++ p :: mergeC (cs.dropWhile (fun c => decide (c.1 ≤ p.1))) ps

def packedL (cs l : List Coin) : List Coin := mergeC cs (packs l)

theorem mergeC_le {c p : Coin} {cs ps : List Coin} (h : c.1 ≤ p.1) : mergeC (c :: cs) (p :: ps) = c :: mergeC cs (p :: ps) := by
  simp [mergeC, h]
theorem mergeC_gt {c p : Coin} {cs ps : List Coin} (h : ¬ c.1 ≤ p.1) : mergeC (c :: cs) (p :: ps) = p :: mergeC (c :: cs) ps := by
  simp [mergeC, h]
theorem mergeC_none {p : Coin} {ps : List Coin} : mergeC [] (p :: ps) = p :: mergeC [] ps := by simp [mergeC]

theorem packs_length : ∀ (l : List Coin), (packs l).length = l.length / 2
  | [] => rfl
  | [_] => by simp [packs]
  | a :: b :: r => by
    have := packs_length r
    simp only [packs, List.length_cons, this]; omega

theorem mergeC_length : ∀ (ps cs : List Coin), (mergeC cs ps).length = cs.length + ps.length
  | [], cs => by simp [mergeC]
  | p :: ps, cs => by
    have ih := mergeC_length ps (cs.dropWhile (fun c => decide (c.1 ≤ p.1)))
    have h := congrArg List.length (List.takeWhile_append_dropWhile (p := fun c : Coin => decide (c.1 ≤ p.1)) (l := cs))
    simp only [List.length_append] at h
    simp only [mergeC, List.length_append, List.length_cons, ih]
    omega

theorem mergeC_mem : ∀ {ps cs : List Coin} {x : Coin}, x ∈ mergeC cs ps → x ∈ cs ∨ x ∈ ps
  | [], cs, x, h => .inl h
  | p :: ps, cs, x, h => by
    simp only [mergeC, List.mem_append, List.mem_cons] at h
    rcases h with h | h | h
    · exact .inl (List.takeWhile_sublist _ |>.subset h)
    · exact .inr (by simp [h])
    · rcases mergeC_mem h with e | e
      · exact .inl (List.dropWhile_sublist _ |>.subset e)
      · exact .inr (by simp [e])

/-- The lists, one of another. -/
def lev (first : List Coin) : Nat → List Coin
  | 0 => first
  | k + 1 => packedL first (lev first k)

theorem packs_mem {Q : Nat → Coin → Prop} (hQ : ∀ k a b, Q k a → Q k b → Q (k + 1) (a.1 + b.1, a.2 ++ b.2)) {k : Nat} : ∀ {l : List Coin}, (∀ x ∈ l, Q k x) → ∀ x ∈ packs l, Q (k + 1) x
  | [], _ => by simp [packs]
  | [_], _ => by simp [packs]
  | a :: b :: r, h => by
    intro x hx
    simp only [packs, List.mem_cons] at hx
    rcases hx with rfl | hx
    · exact hQ k a b (h a (by simp)) (h b (by simp))
    · exact packs_mem hQ (fun y hy => h y (by simp [hy])) x hx

theorem lev_mem {Q : Nat → Coin → Prop} (hQ : ∀ k a b, Q k a → Q k b → Q (k + 1) (a.1 + b.1, a.2 ++ b.2)) {first : List Coin} (h0 : ∀ k, ∀ x ∈ first, Q k x) : ∀ k, ∀ x ∈ lev first k, Q k x
  | 0 => h0 0
  | k + 1 => by
    intro x hx
    rcases mergeC_mem hx with e | e
    · exact h0 _ x e
    · exact packs_mem hQ (lev_mem hQ h0 k) x e

theorem lev_length (first : List Coin) : ∀ k, 2 * first.length ≤ (lev first k).length + (first.length + 2 ^ k - 1) / 2 ^ k
  | 0 => by simp [lev]; omega
  | k + 1 => by
    have ih := lev_length first k
    simp only [lev, packedL, mergeC_length, packs_length]
    have h1 : (first.length + 2 ^ (k + 1) - 1) / 2 ^ (k + 1) = ((first.length + 2 ^ (k + 1) - 1) / 2 ^ k) / 2 := by
      rw [Nat.pow_succ, Nat.div_div_eq_div_mul]
    have h2 : (first.length + 2 ^ (k + 1) - 1) = (first.length + 2 ^ k - 1) + 2 ^ k := by
      have : 0 < 2 ^ k := Nat.two_pow_pos k
      rw [Nat.pow_succ]; omega
    have h3 : (first.length + 2 ^ (k + 1) - 1) / 2 ^ k = (first.length + 2 ^ k - 1) / 2 ^ k + 1 := by
      rw [h2, Nat.add_div_right _ (Nat.two_pow_pos k)]
    rw [h1, h3]
    omega

theorem lev_long {first : List Coin} {m : Nat} (hm : 1 ≤ m) (h : first.length ≤ 2 ^ m) : 2 * first.length - 2 ≤ (lev first (m - 1)).length := by
  have h1 := lev_length first (m - 1)
  have h2 : (first.length + 2 ^ (m - 1) - 1) / 2 ^ (m - 1) ≤ 2 := by
    have hp : 0 < 2 ^ (m - 1) := Nat.two_pow_pos _
    have h3 : 2 ^ m = 2 * 2 ^ (m - 1) := by
      have : m = (m - 1) + 1 := by omega
      rw [this, Nat.pow_succ]; simp; omega
    rw [← Nat.lt_succ_iff, Nat.div_lt_iff_lt_mul hp]
    omega
  omega

/-- One more of a symbol, of each of some symbols. -/
def bump (xs : List Int) (s : Nat) : List Int := xs.set s (xs.getD s 0 + 1)
def addL (ss : List Nat) (xs : List Int) : List Int := ss.foldl bump xs

theorem bump_length (xs : List Int) (s : Nat) : (bump xs s).length = xs.length := by simp [bump]
theorem addL_length : ∀ (ss : List Nat) (xs : List Int), (addL ss xs).length = xs.length
  | [], xs => rfl
  | s :: ss, xs => by
    show (addL ss (bump xs s)).length = _
    rw [addL_length, bump_length]
theorem addL_append (s t : List Nat) (xs : List Int) : addL (s ++ t) xs = addL t (addL s xs) := by simp [addL]

theorem bump_bound {xs : List Int} {s : Nat} {B : Int} (h : ∀ v ∈ xs, 0 ≤ v ∧ v ≤ B) (hB : 0 ≤ B) : ∀ v ∈ bump xs s, 0 ≤ v ∧ v ≤ B + 1 := by
  intro v hv
  have hd : 0 ≤ xs.getD s 0 ∧ xs.getD s 0 ≤ B := by
    rw [List.getD_eq_getElem?_getD]
    cases he : xs[s]? with
    | none => simp; exact hB
    | some u => simpa using h u (List.mem_of_getElem? he)
  rcases List.mem_or_eq_of_mem_set hv with e | e
  · have := h v e; omega
  · omega

theorem addL_bound : ∀ (ss : List Nat) {xs : List Int} {B : Int}, (∀ v ∈ xs, 0 ≤ v ∧ v ≤ B) → 0 ≤ B → ∀ v ∈ addL ss xs, 0 ≤ v ∧ v ≤ B + ss.length
  | [], xs, B, h, hB => by simpa [addL] using h
  | s :: ss, xs, B, h, hB => by
    have := addL_bound ss (bump_bound (s := s) h hB) (by omega)
    intro v hv
    have := this v hv
    simp only [List.length_cons]
    omega

/-- The lengths of codes. -/
def mostL (most : Int) : Nat := (mn (mx most 1) 15).toNat
def chosen (xs : List Int) (m : Nat) : List Nat :=
  if (coinsL xs).length = 1 then ((coinsL xs).flatMap Prod.snd) else ((lev (coinsL xs) (m - 1)).take (2 * (coinsL xs).length - 2)).flatMap Prod.snd
def lensL (xs : List Int) (most : Int) : List Int :=
  if xs.length > 256 then [] else if (coinsL xs).length > 2 ^ mostL most then [] else addL (chosen xs (mostL most)) (List.replicate xs.length 0)
end Go.V

/-! Lengths of codes by coins and packages are the best ones: lists alone. Plain Lean; no program. -/
namespace Go.V
set_option linter.unusedVariables false
set_option linter.unusedSimpArgs false

/-- The sum of f over the numbers below n. -/
def sumTo : Nat → (Nat → Int) → Int
  | 0, _ => 0
  | n + 1, f => sumTo n f + f n

theorem sumTo_congr {f g : Nat → Int} : ∀ {n : Nat}, (∀ i, i < n → f i = g i) → sumTo n f = sumTo n g
  | 0, _ => rfl
  | n + 1, h => by
    have h1 := sumTo_congr (n := n) (fun i hi => h i (by omega))
    have h2 := h n (by omega)
    simp only [sumTo]; omega
theorem sumTo_add (f g : Nat → Int) : ∀ n, sumTo n (fun i => f i + g i) = sumTo n f + sumTo n g
  | 0 => rfl
  | n + 1 => by simp only [sumTo, sumTo_add f g n]; omega
theorem sumTo_zero : ∀ n, sumTo n (fun _ => 0) = 0
  | 0 => rfl
  | n + 1 => by simp only [sumTo, sumTo_zero n]; omega
theorem sumTo_le {f g : Nat → Int} : ∀ {n : Nat}, (∀ i, i < n → f i ≤ g i) → sumTo n f ≤ sumTo n g
  | 0, _ => Int.le_refl _
  | n + 1, h => by
    have := sumTo_le (n := n) (fun i hi => h i (by omega))
    have := h n (by omega)
    simp only [sumTo]; omega
theorem sumTo_const (c : Int) : ∀ n : Nat, sumTo n (fun _ => c) = n * c
  | 0 => by simp [sumTo]
  | n + 1 => by simp only [sumTo, sumTo_const c n]; rw [show ((n + 1 : Nat) : Int) = (n : Int) + 1 by omega, Int.add_mul, Int.one_mul]
theorem sumTo_cut (f : Nat → Int) {a : Nat} : ∀ {n : Nat}, a ≤ n → sumTo n (fun i => if i < a then f i else 0) = sumTo a f
  | 0, h => by
    have : a = 0 := by omega
    subst this; rfl
  | n + 1, h => by
    by_cases e : a = n + 1
    · subst e
      apply sumTo_congr
      intro i hi; simp [hi]
    · have := sumTo_cut f (a := a) (n := n) (by omega)
      simp only [sumTo, this]
      rw [if_neg (by omega)]; omega
theorem sumTo_mul (c : Int) (f : Nat → Int) : ∀ n, sumTo n (fun i => c * f i) = c * sumTo n f
  | 0 => by simp [sumTo]
  | n + 1 => by simp only [sumTo, sumTo_mul c f n, Int.mul_add]

def wt (l : List Coin) : Int := (l.map Prod.fst).sum
def cI (first : List Coin) (i : Nat) : Int := (first.getD i (0, [])).1

theorem wt_append (a b : List Coin) : wt (a ++ b) = wt a + wt b := by simp [wt]
theorem wt_cons (a : Coin) (b : List Coin) : wt (a :: b) = a.1 + wt b := by simp [wt]
theorem wt_nil : wt [] = 0 := rfl
theorem wt_take (first : List Coin) : ∀ {a : Nat}, a ≤ first.length → wt (first.take a) = sumTo a (cI first)
  | 0, _ => by simp [wt, sumTo]
  | a + 1, h => by
    have h' : a < first.length := by omega
    rw [List.take_succ_eq_append_getElem h', wt_append, wt_take first (by omega)]
    simp only [sumTo, wt_cons, wt_nil, cI]
    rw [List.getD_eq_getElem?_getD, List.getElem?_eq_getElem h']
    simp

abbrev SC (l : List Coin) : Prop := SortedK (Prod.fst : Coin → Int) l

theorem mergeC_nil_left : ∀ ps, mergeC [] ps = ps
  | [] => rfl
  | p :: ps => by rw [mergeC_none, mergeC_nil_left ps]

theorem mergeC_sorted : ∀ {N : Nat} {cs ps : List Coin}, cs.length + ps.length ≤ N → SC cs → SC ps → SC (mergeC cs ps)
  | N, [], ps, _, _, h2 => by rw [mergeC_nil_left]; exact h2
  | N, c :: cs, [], _, h1, _ => by simpa [mergeC] using h1
  | 0, c :: cs, p :: ps, h, _, _ => by simp at h
  | N + 1, c :: cs, p :: ps, h, h1, h2 => by
    simp only [List.length_cons] at h
    by_cases hle : c.1 ≤ p.1
    · rw [mergeC_le hle]
      refine List.pairwise_cons.2 ⟨fun z hz => ?_, mergeC_sorted (N := N) (by simp; omega) (List.pairwise_cons.1 h1).2 h2⟩
      rcases mergeC_mem hz with e | e
      · exact (List.pairwise_cons.1 h1).1 z e
      · have := SortedK.head_le h2 z e; omega
    · rw [mergeC_gt hle]
      refine List.pairwise_cons.2 ⟨fun z hz => ?_, mergeC_sorted (N := N) (by simp; omega) h1 (List.pairwise_cons.1 h2).2⟩
      rcases mergeC_mem hz with e | e
      · have := SortedK.head_le h1 z e; omega
      · exact (List.pairwise_cons.1 h2).1 z e

theorem packs_ge {m : Int} : ∀ {l : List Coin}, (∀ x ∈ l, m ≤ x.1) → ∀ x ∈ packs l, 2 * m ≤ x.1
  | [], _ => by simp [packs]
  | [_], _ => by simp [packs]
  | a :: b :: r, h => by
    intro x hx
    simp only [packs, List.mem_cons] at hx
    rcases hx with rfl | hx
    · have := h a (by simp); have := h b (by simp); show 2 * m ≤ a.1 + b.1; omega
    · exact packs_ge (fun y hy => h y (by simp [hy])) x hx

theorem packs_sorted : ∀ {l : List Coin}, SC l → SC (packs l)
  | [], _ => by simp [packs, SortedK]
  | [_], _ => by simp [packs, SortedK]
  | a :: b :: r, h => by
    have h1 := List.pairwise_cons.1 h
    have h2 := List.pairwise_cons.1 h1.2
    simp only [packs]
    refine List.pairwise_cons.2 ⟨fun z hz => ?_, packs_sorted h2.2⟩
    have := packs_ge (m := b.1) h2.1 z hz
    have := h1.1 b (by simp)
    show a.1 + b.1 ≤ z.1
    omega

theorem lev_sorted {first : List Coin} (h : SC first) : ∀ k, SC (lev first k)
  | 0 => h
  | k + 1 => mergeC_sorted (Nat.le_refl _) h (packs_sorted (lev_sorted h k))

/-- The first so many of the merged list are the least of all. -/
theorem merge_min : ∀ {N a b : Nat} {cs ps : List Coin}, a + b ≤ N → SC cs → SC ps → a ≤ cs.length → b ≤ ps.length → wt ((mergeC cs ps).take (a + b)) ≤ wt (cs.take a) + wt (ps.take b)
  | _, 0, 0, cs, ps, _, _, _, _, _ => by simp [wt]
  | 0, a + 1, b, _, _, h, _, _, _, _ => by omega
  | 0, 0, b + 1, _, _, h, _, _, _, _ => by omega
  | N + 1, a, b, [], ps, h, h1, h2, ha, hb => by
    have : a = 0 := by simpa using ha
    subst this
    rw [mergeC_nil_left]; simp [wt]
  | N + 1, a, b, c :: cs, [], h, h1, h2, ha, hb => by
    have : b = 0 := by simpa using hb
    subst this
    simp [mergeC, wt]
  | N + 1, a, b, c :: cs, p :: ps, h, h1, h2, ha, hb => by
    have k1 := List.pairwise_cons.1 h1
    have k2 := List.pairwise_cons.1 h2
    by_cases h0 : a + b = 0
    · have e1 : a = 0 := by omega
      have e2 : b = 0 := by omega
      subst e1; subst e2; simp [wt]
    by_cases hle : c.1 ≤ p.1
    · rw [mergeC_le hle]
      cases a with
      | succ a =>
        have ih := merge_min (N := N) (a := a) (b := b) (by omega) k1.2 h2 (by simpa using ha) hb
        rw [show a + 1 + b = (a + b) + 1 by omega, List.take_succ_cons, List.take_succ_cons, wt_cons, wt_cons]
        omega
      | zero =>
        cases b with
        | zero => omega
        | succ b =>
          have ih := merge_min (N := N) (a := 0) (b := b) (cs := cs) (ps := p :: ps) (by omega) k1.2 h2 (by omega) (by omega)
          have hb' : b < (p :: ps).length := by omega
          have hlast : p.1 ≤ ((p :: ps)[b]).1 := SortedK.head_le h2 _ (List.getElem_mem hb')
          rw [show 0 + (b + 1) = (0 + b) + 1 by omega, List.take_succ_cons, wt_cons, List.take_succ_eq_append_getElem hb', wt_append, wt_cons, wt_nil]
          simp only [List.take_zero, wt_nil] at ih ⊢
          omega
    · rw [mergeC_gt hle]
      cases b with
      | succ b =>
        have ih := merge_min (N := N) (a := a) (b := b) (by omega) h1 k2.2 ha (by simpa using hb)
        rw [show a + (b + 1) = (a + b) + 1 by omega, List.take_succ_cons, List.take_succ_cons, wt_cons, wt_cons]
        omega
      | zero =>
        cases a with
        | zero => omega
        | succ a =>
          have ih := merge_min (N := N) (a := a) (b := 0) (cs := c :: cs) (ps := ps) (by omega) h1 k2.2 (by omega) (by omega)
          have ha' : a < (c :: cs).length := by omega
          have hlast : c.1 ≤ ((c :: cs)[a]).1 := SortedK.head_le h1 _ (List.getElem_mem ha')
          rw [show a + 1 + 0 = a + 1 by omega, List.take_succ_cons, wt_cons, List.take_succ_eq_append_getElem ha', wt_append, wt_cons, wt_nil]
          simp only [List.take_zero, wt_nil, Nat.add_zero] at ih ⊢
          omega

/-- The first so many of the merged list: so many of the one list and so many of the other one; what is of the other one is ahead of the next of the one. -/
theorem merge_take : ∀ {N k : Nat} {cs ps : List Coin}, k ≤ N → k ≤ cs.length + ps.length → SC cs → ∃ a b, a + b = k ∧ a ≤ cs.length ∧ b ≤ ps.length ∧ ((mergeC cs ps).take k).Perm (cs.take a ++ ps.take b) ∧ (∀ p ∈ ps.take b, ∀ c ∈ cs.drop a, p.1 < c.1)
  | _, 0, cs, ps, _, _, _ => ⟨0, 0, rfl, by omega, by omega, by simp, by simp⟩
  | 0, k + 1, _, _, h, _, _ => by omega
  | N + 1, k + 1, [], ps, h, hk, _ => ⟨0, k + 1, by omega, by omega, by simpa using hk, by rw [mergeC_nil_left]; simp, by simp⟩
  | N + 1, k + 1, c :: cs, [], h, hk, _ => ⟨k + 1, 0, by omega, by simpa using hk, by omega, by simp [mergeC], by simp⟩
  | N + 1, k + 1, c :: cs, p :: ps, h, hk, h1 => by
    simp only [List.length_cons] at hk
    by_cases hle : c.1 ≤ p.1
    · obtain ⟨a, b, e1, e2, e3, e4, e5⟩ := merge_take (N := N) (k := k) (cs := cs) (ps := p :: ps) (by omega) (by simp; omega) (List.pairwise_cons.1 h1).2
      refine ⟨a + 1, b, by omega, by simp; omega, e3, ?_, by simpa using e5⟩
      rw [mergeC_le hle]
      simpa using e4
    · obtain ⟨a, b, e1, e2, e3, e4, e5⟩ := merge_take (N := N) (k := k) (cs := c :: cs) (ps := ps) (by omega) (by simp; omega) h1
      refine ⟨a, b + 1, by omega, e2, by simp; omega, ?_, ?_⟩
      · rw [mergeC_gt hle, List.take_succ_cons, List.take_succ_cons]
        exact (List.Perm.cons p e4).trans (List.perm_middle (a := p) (l₁ := (c :: cs).take a) (l₂ := ps.take b)).symm
      · intro q hq d hd
        rcases List.mem_cons.1 (by simpa using hq) with e | e
        · subst e
          have := SortedK.head_le h1 d (List.mem_of_mem_drop hd)
          omega
        · exact e5 q e d hd

theorem packs_take : ∀ {b : Nat} {l : List Coin}, 2 * b ≤ l.length → wt ((packs l).take b) = wt (l.take (2 * b)) ∧ ((packs l).take b).flatMap Prod.snd = (l.take (2 * b)).flatMap Prod.snd
  | 0, l, _ => by simp [wt]
  | b + 1, [], h => by simp at h
  | b + 1, [_], h => by simp at h; omega
  | b + 1, x :: y :: r, h => by
    have ih := packs_take (b := b) (l := r) (by simp at h; omega)
    rw [show 2 * (b + 1) = (2 * b + 1) + 1 by omega]
    simp only [packs, List.take_succ_cons, wt_cons, List.flatMap_cons, ih.1, ih.2]
    constructor
    · omega
    · simp

/-- What is in a list is in one of its packages, that counts no less. -/
theorem packs_has : ∀ {b : Nat} {l : List Coin} {x : Coin}, 2 * b ≤ l.length → (∀ y ∈ l, 0 ≤ y.1) → x ∈ l.take (2 * b) → ∃ p ∈ (packs l).take b, x.1 ≤ p.1
  | 0, l, x, _, _, h => by simp at h
  | b + 1, [], x, h, _, _ => by simp at h
  | b + 1, [_], x, h, _, _ => by simp at h; omega
  | b + 1, y :: z :: r, x, h, hp, hx => by
    rw [show 2 * (b + 1) = (2 * b + 1) + 1 by omega] at hx
    simp only [List.take_succ_cons, List.mem_cons] at hx
    have hy := hp y (by simp)
    have hz := hp z (by simp)
    rcases hx with rfl | rfl | hx
    · exact ⟨_, by simp only [packs, List.take_succ_cons]; exact List.mem_cons_self, by show _ ≤ _ + _; omega⟩
    · exact ⟨_, by simp only [packs, List.take_succ_cons]; exact List.mem_cons_self, by show _ ≤ _ + _; omega⟩
    · obtain ⟨p, h1, h2⟩ := packs_has (b := b) (l := r) (by simp at h; omega) (fun y hy => hp y (by simp [hy])) hx
      exact ⟨p, by simp only [packs, List.take_succ_cons]; exact List.mem_cons_of_mem _ h1, h2⟩
end Go.V

/-! Lengths of codes by coins and packages: what is chosen fills all codes, and no choice counts less. Plain Lean; no program. -/
namespace Go.V
set_option linter.unusedVariables false
set_option linter.unusedSimpArgs false

def tot (g : Coin → Int) (l : List Coin) : Int := (l.map g).sum
theorem tot_append (g : Coin → Int) (a b : List Coin) : tot g (a ++ b) = tot g a + tot g b := by simp [tot]
theorem tot_cons (g : Coin → Int) (a : Coin) (b : List Coin) : tot g (a :: b) = g a + tot g b := by simp [tot]
theorem tot_nil (g : Coin → Int) : tot g [] = 0 := rfl
theorem tot_perm (g : Coin → Int) {a b : List Coin} (h : a.Perm b) : tot g a = tot g b := by
  induction h with
  | nil => rfl
  | cons x _ ih => rw [tot_cons, tot_cons, ih]
  | swap x y l => rw [tot_cons, tot_cons, tot_cons, tot_cons]; omega
  | trans _ _ h1 h2 => exact h1.trans h2
def gI (g : Coin → Int) (first : List Coin) (i : Nat) : Int := g (first.getD i (0, []))
theorem tot_take (g : Coin → Int) (first : List Coin) : ∀ {a : Nat}, a ≤ first.length → tot g (first.take a) = sumTo a (gI g first)
  | 0, _ => by simp [tot, sumTo]
  | a + 1, h => by
    have h' : a < first.length := by omega
    rw [List.take_succ_eq_append_getElem h', tot_append, tot_take g first (by omega)]
    simp only [sumTo, tot_cons, tot_nil, gI]
    rw [List.getD_eq_getElem?_getD, List.getElem?_eq_getElem h']
    simp

def Adds (g : Coin → Int) : Prop := ∀ a b : Coin, g (a.1 + b.1, a.2 ++ b.2) = g a + g b

theorem packs_tot {g : Coin → Int} (hg : Adds g) : ∀ {b : Nat} {l : List Coin}, 2 * b ≤ l.length → tot g ((packs l).take b) = tot g (l.take (2 * b))
  | 0, l, _ => by simp [tot]
  | b + 1, [], h => by simp at h
  | b + 1, [_], h => by simp at h; omega
  | b + 1, x :: y :: r, h => by
    have ih := packs_tot hg (b := b) (l := r) (by simp at h; omega)
    rw [show 2 * (b + 1) = (2 * b + 1) + 1 by omega]
    simp only [packs, List.take_succ_cons, tot_cons, ih, hg x y]
    omega

theorem pow_pos' (k : Nat) : (0 : Int) < 2 ^ k := by
  have h := Nat.two_pow_pos k
  obtain ⟨q, hq⟩ : ∃ q : Nat, q = 2 ^ k := ⟨_, rfl⟩
  have e : (2 : Int) ^ k = (q : Int) := by rw [hq]; simp
  rw [e]; omega
theorem pow_succ' (k : Nat) : (2 : Int) ^ (k + 1) = 2 * 2 ^ k := by rw [Int.pow_succ]; omega

theorem lev_pos {first : List Coin} (hp : ∀ x ∈ first, 0 < x.1) : ∀ k, ∀ x ∈ lev first k, 0 < x.1 :=
  lev_mem (Q := fun _ x => 0 < x.1) (fun k a b ha hb => by show 0 < a.1 + b.1; omega) (fun k x hx => hp x hx)

theorem choice {first : List Coin} (hs : SC first) (hp : ∀ x ∈ first, 0 < x.1) : ∀ (j k : Nat), k ≤ (lev first j).length →
    ∃ (x : Nat → Nat) (a : Nat), (∀ i, x i ≤ j + 1) ∧ (∀ i, a ≤ i → x i = 0) ∧ (∀ i, i < a → 1 ≤ x i) ∧ a ≤ first.length ∧
      (∀ c ∈ first.take a, c ∈ (lev first j).take k) ∧ (∀ i i', i ≤ i' → x i' ≤ x i) ∧
      sumTo first.length (fun i => 2 ^ (j + 1) - 2 ^ (j + 1 - x i)) = 2 ^ j * (k : Int) ∧
      ∀ g, Adds g → tot g ((lev first j).take k) = sumTo first.length (fun i => gI g first i * (x i : Int))
  | 0, k, hk => by
    refine ⟨fun i => if i < k then 1 else 0, k, ?_, ?_, ?_, hk, fun c hc => hc, ?_, ?_, ?_⟩
    · intro i; dsimp only; split <;> omega
    · intro i hi; dsimp only; rw [if_neg (by omega)]
    · intro i hi; dsimp only; rw [if_pos hi]; omega
    · intro i i' h; dsimp only; split <;> split <;> omega
    · have : sumTo first.length (fun i => (2 : Int) ^ (0 + 1) - 2 ^ (0 + 1 - (if i < k then 1 else 0))) = sumTo first.length (fun i => if i < k then 1 else 0) := by
        apply sumTo_congr; intro i hi; by_cases e : i < k <;> simp [e]
      have hk' : k ≤ first.length := hk
      rw [this, sumTo_cut (fun _ => 1) hk', sumTo_const]; simp
    · intro g hg
      show tot g (first.take k) = _
      have hk' : k ≤ first.length := hk
      rw [tot_take g first hk', ← sumTo_cut (gI g first) hk']
      apply sumTo_congr; intro i hi; by_cases e : i < k <;> simp [e]
  | j + 1, k, hk => by
    have hpl := lev_pos hp j
    have hk' : k ≤ first.length + (packs (lev first j)).length := by
      have := hk
      simp only [lev, packedL, mergeC_length] at this
      exact this
    obtain ⟨a, b, e1, e2, e3, e4, e5⟩ := merge_take (N := k) (k := k) (cs := first) (ps := packs (lev first j)) (Nat.le_refl _) hk' hs
    have h2b : 2 * b ≤ (lev first j).length := by rw [packs_length] at e3; omega
    obtain ⟨x', a', x1, x2, x3, x4, x5, x6, x7, x8⟩ := choice hs hp j (2 * b) h2b
    have haa : a' ≤ a := by
      rcases Nat.lt_or_ge a a' with hlt | hge
      · exfalso
        have hi : a < first.length := by omega
        have hm : first[a] ∈ first.take a' := List.mem_take_iff_getElem.2 ⟨a, by omega, rfl⟩
        obtain ⟨p, q1, q2⟩ := packs_has h2b (fun y hy => Int.le_of_lt (hpl y hy)) (x5 _ hm)
        have hd : first[a] ∈ first.drop a := by rw [List.drop_eq_getElem_cons hi]; exact List.mem_cons_self
        have := e5 p q1 _ hd
        omega
      · exact hge
    refine ⟨fun i => (if i < a then 1 else 0) + x' i, a, ?_, ?_, ?_, e2, ?_, ?_, ?_, ?_⟩
    · intro i; have := x1 i; dsimp only; split <;> omega
    · intro i hi; have := x2 i (by omega); dsimp only; rw [if_neg (by omega)]; omega
    · intro i hi; dsimp only; rw [if_pos hi]; omega
    · intro c hc
      exact e4.symm.subset (List.mem_append_left _ hc)
    · intro i i' h
      have := x6 i i' h
      dsimp only; split <;> split <;> omega
    · have : sumTo first.length (fun i => (2 : Int) ^ (j + 1 + 1) - 2 ^ (j + 1 + 1 - ((if i < a then 1 else 0) + x' i))) =
          sumTo first.length (fun i => (if i < a then (2 : Int) ^ (j + 1) else 0) + (2 ^ (j + 1) - 2 ^ (j + 1 - x' i))) := by
        apply sumTo_congr
        intro i hi
        have h1 := x1 i
        split
        · rw [show j + 1 + 1 - (1 + x' i) = j + 1 - x' i by omega, pow_succ' (j + 1)]; omega
        · have := x2 i (by omega)
          rw [this]; simp
      rw [this, sumTo_add, sumTo_cut (fun _ => (2 : Int) ^ (j + 1)) e2, sumTo_const, x7, pow_succ' j, ← e1]
      rw [Int.natCast_add, Int.natCast_mul, Int.mul_add, Int.mul_comm (a : Int), Int.mul_left_comm, Int.mul_assoc 2 (2 ^ j) (b : Int)]
      rfl
    · intro g hg
      show tot g ((mergeC first (packs (lev first j))).take k) = _
      rw [tot_perm g e4, tot_append, packs_tot hg h2b, x8 g hg, tot_take g first e2, ← sumTo_cut (gI g first) e2, ← sumTo_add]
      apply sumTo_congr
      intro i hi
      by_cases e : i < a
      · simp [e, Int.mul_add]
      · simp [e]

/-- The least of so many. -/
theorem least_sum {N : Nat} {c : Nat → Int} (hc : ∀ i i', i ≤ i' → i' < N → c i ≤ c i') (p : Nat → Bool) : ∀ n, n ≤ N → ∃ b, b ≤ n ∧ sumTo n (fun i => if p i then 1 else 0) = (b : Int) ∧ sumTo b c ≤ sumTo n (fun i => if p i then c i else 0)
  | 0, _ => ⟨0, by omega, rfl, Int.le_refl _⟩
  | n + 1, hn => by
    obtain ⟨b, h1, h2, h3⟩ := least_sum hc p n (by omega)
    by_cases hp : p n = true
    · refine ⟨b + 1, by omega, ?_, ?_⟩
      · simp only [sumTo, h2, hp, if_true]; omega
      · have := hc b n h1 (by omega)
        simp only [sumTo, hp, if_true]; omega
    · refine ⟨b, by omega, ?_, ?_⟩
      · simp only [sumTo, h2, hp]; simp
      · simp only [sumTo, hp]; simpa using h3

theorem sumTo_mono {N : Nat} {c : Nat → Int} (hc : ∀ i, i < N → 0 ≤ c i) {a b : Nat} (h : a ≤ b) (hb : b ≤ N) : sumTo a c ≤ sumTo b c := by
  induction b with
  | zero => have : a = 0 := by omega
            subst this; exact Int.le_refl _
  | succ b ih =>
    by_cases e : a = b + 1
    · subst e; exact Int.le_refl _
    · have := ih (by omega) (by omega)
      have := hc b (by omega)
      simp only [sumTo]; omega

theorem cI_mono {first : List Coin} (hs : SC first) : ∀ i i', i ≤ i' → i' < first.length → cI first i ≤ cI first i' := by
  intro i i' h h'
  have hi : i < first.length := by omega
  have := SortedK.get hs h (List.getElem?_eq_getElem hi) (List.getElem?_eq_getElem h')
  simpa [cI, List.getD_eq_getElem?_getD, hi, h'] using this

theorem cI_pos {first : List Coin} (hp : ∀ x ∈ first, 0 < x.1) : ∀ i, i < first.length → 0 < cI first i := by
  intro i hi
  have := hp _ (List.getElem_mem hi)
  simpa [cI, List.getD_eq_getElem?_getD, hi] using this

/-- No choice of as many counts less. -/
theorem best {first : List Coin} (hs : SC first) (hp : ∀ x ∈ first, 0 < x.1) : ∀ (j k : Nat) (y : Nat → Nat), (∀ i, i < first.length → y i ≤ j + 1) → k ≤ (lev first j).length →
    2 ^ j * (k : Int) ≤ sumTo first.length (fun i => 2 ^ (j + 1) - 2 ^ (j + 1 - y i)) → wt ((lev first j).take k) ≤ sumTo first.length (fun i => cI first i * (y i : Int))
  | 0, k, y, hy, hk, h => by
    obtain ⟨b, b1, b2, b3⟩ := least_sum (cI_mono hs) (fun i => decide (1 ≤ y i)) first.length (Nat.le_refl _)
    have h1 : sumTo first.length (fun i => (2 : Int) ^ (0 + 1) - 2 ^ (0 + 1 - y i)) = sumTo first.length (fun i => if decide (1 ≤ y i) then 1 else 0) := by
      apply sumTo_congr; intro i hi
      have := hy i hi
      by_cases e : 1 ≤ y i
      · have : y i = 1 := by omega
        simp [this]
      · have : y i = 0 := by omega
        simp [this]
    have h2 : sumTo first.length (fun i => if decide (1 ≤ y i) then cI first i else 0) = sumTo first.length (fun i => cI first i * (y i : Int)) := by
      apply sumTo_congr; intro i hi
      have := hy i hi
      by_cases e : 1 ≤ y i
      · have : y i = 1 := by omega
        simp [this]
      · have : y i = 0 := by omega
        simp [this]
    rw [h1, b2] at h
    have hkb : k ≤ b := by simp at h; omega
    show wt (first.take k) ≤ _
    rw [wt_take first hk, ← h2]
    exact Int.le_trans (sumTo_mono (fun i hi => Int.le_of_lt (cI_pos hp i hi)) hkb b1) b3
  | j + 1, k, y, hy, hk, h => by
    obtain ⟨b, b1, b2, b3⟩ := least_sum (cI_mono hs) (fun i => decide (1 ≤ y i)) first.length (Nat.le_refl _)
    have hS := lev_sorted hs j
    have hPS := packs_sorted hS
    have hk' : k ≤ first.length + (packs (lev first j)).length := by
      have := hk
      simp only [lev, packedL, mergeC_length] at this
      exact this
    have key : sumTo first.length (fun i => cI first i * (y i : Int)) = sumTo first.length (fun i => if decide (1 ≤ y i) then cI first i else 0) + sumTo first.length (fun i => cI first i * ((y i - 1 : Nat) : Int)) := by
      rw [← sumTo_add]
      apply sumTo_congr; intro i hi
      by_cases e : 1 ≤ y i
      · have e2 : (y i : Int) = 1 + ((y i - 1 : Nat) : Int) := by omega
        simp only [e, decide_true, if_true]
        rw [e2, Int.mul_add]; simp
      · have : y i = 0 := by omega
        simp [this]
    have hw : sumTo first.length (fun i => (2 : Int) ^ (j + 1 + 1) - 2 ^ (j + 1 + 1 - y i)) = 2 ^ (j + 1) * (b : Int) + sumTo first.length (fun i => 2 ^ (j + 1) - 2 ^ (j + 1 - (y i - 1))) := by
      rw [← b2, ← sumTo_mul, ← sumTo_add]
      apply sumTo_congr; intro i hi
      have := hy i hi
      by_cases e : 1 ≤ y i
      · simp only [e, decide_true, if_true]
        rw [show j + 1 + 1 - y i = j + 1 - (y i - 1) by omega, pow_succ' (j + 1)]; omega
      · have : y i = 0 := by omega
        simp [this]
    have hwpos : 0 ≤ sumTo first.length (fun i => (2 : Int) ^ (j + 1) - 2 ^ (j + 1 - (y i - 1))) := by
      have := sumTo_le (n := first.length) (f := fun _ => (0 : Int)) (g := fun i => (2 : Int) ^ (j + 1) - 2 ^ (j + 1 - (y i - 1))) (fun i hi => by
        have h1 : 2 ^ (j + 1 - (y i - 1)) ≤ 2 ^ (j + 1) := Nat.pow_le_pow_right (n := 2) (by omega) (by omega)
        have e1 : ((2 ^ (j + 1 - (y i - 1)) : Nat) : Int) = 2 ^ (j + 1 - (y i - 1)) := by simp
        have e2 : ((2 ^ (j + 1) : Nat) : Int) = 2 ^ (j + 1) := by simp
        rw [← e1, ← e2]; omega)
      rw [sumTo_zero] at this; exact this
    show wt ((mergeC first (packs (lev first j))).take k) ≤ _
    rw [key]
    have hdeep : 0 ≤ sumTo first.length (fun i => cI first i * ((y i - 1 : Nat) : Int)) := by
      have := sumTo_le (n := first.length) (f := fun _ => (0 : Int)) (g := fun i => cI first i * ((y i - 1 : Nat) : Int)) (fun i hi => Int.mul_nonneg (Int.le_of_lt (cI_pos hp i hi)) (by omega))
      rw [sumTo_zero] at this; exact this
    by_cases hkb : k ≤ b
    · have hm := merge_min (N := k) (a := k) (b := 0) (cs := first) (ps := packs (lev first j)) (by omega) hs hPS (by omega) (by omega)
      rw [Nat.add_zero, List.take_zero, wt_nil, wt_take first (by omega)] at hm
      have := sumTo_mono (c := cI first) (fun i hi => Int.le_of_lt (cI_pos hp i hi)) hkb b1
      omega
    · obtain ⟨q, hq⟩ : ∃ q, k = b + q := ⟨k - b, by omega⟩
      subst hq
      have h2 : 2 ^ j * ((2 * q : Nat) : Int) ≤ sumTo first.length (fun i => 2 ^ (j + 1) - 2 ^ (j + 1 - (y i - 1))) := by
        rw [hw] at h
        have e1 : (2 : Int) ^ (j + 1) * ((b + q : Nat) : Int) = 2 ^ (j + 1) * (b : Int) + 2 ^ (j + 1) * (q : Int) := by rw [Int.natCast_add, Int.mul_add]
        have e2 : (2 : Int) ^ j * ((2 * q : Nat) : Int) = 2 ^ (j + 1) * (q : Int) := by
          rw [pow_succ' j, Int.natCast_mul, Int.mul_comm 2 ((2 : Int) ^ j), Int.mul_assoc]; rfl
        omega
      have hqb : q ≤ (packs (lev first j)).length := by
        have := hk
        simp only [lev, packedL, mergeC_length] at this
        -- as wide as all that there is
        have hall : sumTo first.length (fun i => (2 : Int) ^ (j + 1) - 2 ^ (j + 1 - (y i - 1))) ≤ (first.length : Int) * (2 ^ (j + 1) - 1) := by
          rw [← sumTo_const]
          apply sumTo_le; intro i hi
          have := pow_pos' (j + 1 - (y i - 1)); omega
        have hl := lev_length first j
        rw [packs_length]
        rcases Nat.lt_or_ge ((lev first j).length / 2) q with hlt | hge
        · exfalso
          have h3 : (lev first j).length + 1 ≤ 2 * q := by omega
          -- 2q ≤ 2n - n/2^j
          have h4 : (2 : Int) ^ j * ((2 * q : Nat) : Int) ≤ (first.length : Int) * (2 ^ (j + 1) - 1) := Int.le_trans h2 hall
          have h5 : 2 ^ j * (2 * q) + first.length ≤ first.length * (2 * 2 ^ j) := by
            have e1 : ((2 ^ j : Nat) : Int) = 2 ^ j := by simp
            have e2 : (first.length : Int) * (2 ^ (j + 1) - 1) = (first.length : Int) * (2 * 2 ^ j) - first.length := by rw [pow_succ', Int.mul_sub]; simp
            rw [e2] at h4
            have e3 : ((2 ^ j * (2 * q) : Nat) : Int) = 2 ^ j * ((2 * q : Nat) : Int) := by rw [Int.natCast_mul]; simp
            have e4 : ((first.length * (2 * 2 ^ j) : Nat) : Int) = (first.length : Int) * (2 * 2 ^ j) := by rw [Int.natCast_mul]; simp
            apply Int.ofNat_le.1
            rw [Int.natCast_add, e3, e4]
            generalize (2 : Int) ^ j * ((2 * q : Nat) : Int) = z1 at *
            generalize (first.length : Int) * (2 * 2 ^ j) = z2 at *
            omega
          have hpp := Nat.two_pow_pos j
          have e : first.length * (2 * 2 ^ j) = 2 ^ j * (2 * first.length) := by rw [Nat.mul_comm 2 (2 ^ j), Nat.mul_left_comm, Nat.mul_comm first.length 2]
          have hqn : 2 * q ≤ 2 * first.length := by
            rcases Nat.lt_or_ge (2 * first.length) (2 * q) with hl | hg
            · exfalso
              have := Nat.mul_le_mul_left (2 ^ j) (Nat.le_of_lt hl)
              have h8 := Nat.mul_lt_mul_of_pos_left hl hpp
              rw [e] at h5
              generalize 2 ^ j * (2 * q) = z1 at *
              generalize 2 ^ j * (2 * first.length) = z2 at *
              omega
            · exact hg
          have h6 : first.length + 2 ^ j - 1 < 2 ^ j * (2 * first.length - 2 * q + 1) := by
            obtain ⟨d, hd⟩ : ∃ d, 2 * first.length = 2 * q + d := ⟨2 * first.length - 2 * q, by omega⟩
            rw [e, hd, Nat.mul_add] at h5
            rw [show 2 * first.length - 2 * q + 1 = d + 1 by omega, Nat.mul_add, Nat.mul_one]
            omega
          have h7 : (first.length + 2 ^ j - 1) / 2 ^ j < 2 * first.length - 2 * q + 1 := (Nat.div_lt_iff_lt_mul hpp).2 (by rw [Nat.mul_comm]; exact h6)
          omega
        · exact hge
      have h2q : 2 * q ≤ (lev first j).length := by rw [packs_length] at hqb; omega
      have ih := best hs hp j (2 * q) (fun i => y i - 1) (fun i hi => by have := hy i hi; omega) h2q h2
      have hm := merge_min (N := b + q) (a := b) (b := q) (cs := first) (ps := packs (lev first j)) (by omega) hs hPS b1 hqb
      rw [(packs_take h2q).1, wt_take first b1] at hm
      omega
end Go.V

/-! Lengths of codes, symbol by symbol: all codes are used, none is too long, none is better. Plain Lean; no program. -/
namespace Go.V
set_option linter.unusedVariables false
set_option linter.unusedSimpArgs false

theorem ins_perm {α : Type} (key : α → Int) (x : α) : ∀ l : List α, (ins key x l).Perm (x :: l)
  | [] => by simp [ins]
  | y :: ys => by
    unfold ins
    split
    · exact ((ins_perm key x ys).cons y).trans (List.Perm.swap x y ys)
    · exact List.Perm.refl _
theorem inOrder_perm {α : Type} (key : α → Int) (xs : List α) : (inOrder key xs).Perm xs := by
  have : ∀ (xs l : List α), (xs.foldl (fun l x => ins key x l) l).Perm (l ++ xs) := by
    intro xs
    induction xs with
    | nil => intro l; simp
    | cons x xs ih =>
      intro l
      refine (ih _).trans ?_
      have h1 : (ins key x l ++ xs).Perm ((x :: l) ++ xs) := (ins_perm key x l).append_right xs
      exact h1.trans (List.perm_middle (a := x) (l₁ := l) (l₂ := xs)).symm
  simpa [inOrder] using this xs []

def sy (c : Coin) : Nat := c.2.headD 0

/-- The sum over the symbols that there are. -/
def PS (xs : List Int) (f : Nat → Int) : Int := sumTo xs.length (fun s => if 0 < xs.getD s 0 then f s else 0)

theorem tot_raw (g : Coin → Int) (xs : List Int) : ∀ k, k ≤ xs.length → tot g (rawCoins 0 (xs.take k)) = sumTo k (fun s => if 0 < xs.getD s 0 then g (manyL (xs.getD s 0), [s]) else 0)
  | 0, _ => by simp [rawCoins, tot, sumTo]
  | k + 1, h => by
    have h' : k < xs.length := by omega
    have hd : xs.getD k 0 = xs[k] := by simp [List.getD_eq_getElem?_getD, h']
    rw [List.take_succ_eq_append_getElem h', rawCoins_append, tot_append, tot_raw g xs k (by omega)]
    have hl : (xs.take k).length = k := by simp; omega
    simp only [sumTo, hd, hl, Nat.zero_add, rawCoins]
    split <;> simp [tot]

theorem tot_coins (g : Coin → Int) (xs : List Int) : tot g (coinsL xs) = PS xs (fun s => g (manyL (xs.getD s 0), [s])) := by
  have h := tot_raw g xs xs.length (Nat.le_refl _)
  rw [List.take_length] at h
  rw [PS, ← h]
  exact tot_perm g (inOrder_perm _ _)

theorem sum_coins (g : Coin → Int) (xs : List Int) : sumTo (coinsL xs).length (gI g (coinsL xs)) = PS xs (fun s => g (manyL (xs.getD s 0), [s])) := by
  rw [← tot_coins, ← tot_take g _ (Nat.le_refl _), List.take_length]

theorem rawCoins_lt : ∀ (xs : List Int) (i : Nat), (rawCoins i xs).Pairwise (fun a b => sy a < sy b)
  | [], i => by simp [rawCoins]
  | n :: ns, i => by
    unfold rawCoins
    split
    · refine List.pairwise_cons.2 ⟨fun z hz => ?_, rawCoins_lt ns (i + 1)⟩
      obtain ⟨_, _, s, h3, h4, _⟩ := rawCoins_mem ns (i + 1) z hz
      simp [sy, h3]; omega
    · exact rawCoins_lt ns (i + 1)

theorem coins_nodup (xs : List Int) : ((coinsL xs).map sy).Nodup := by
  have h1 : ((rawCoins 0 xs).map sy).Nodup := by
    rw [List.Nodup, List.pairwise_map]
    exact (rawCoins_lt xs 0).imp (fun h => by omega)
  exact ((inOrder_perm Prod.fst (rawCoins 0 xs)).map sy).nodup_iff.2 h1

theorem coins_inj {xs : List Int} {i j : Nat} (hi : i < (coinsL xs).length) (hj : j < (coinsL xs).length) (h : sy (coinsL xs)[i] = sy (coinsL xs)[j]) : i = j := by
  have := coins_nodup xs
  rw [List.Nodup, List.pairwise_iff_getElem] at this
  rcases Nat.lt_trichotomy i j with hlt | he | hgt
  · exact absurd (by rw [List.getElem_map, List.getElem_map]; exact h) (this i j (by simpa using hi) (by simpa using hj) hlt)
  · exact he
  · exact absurd (by rw [List.getElem_map, List.getElem_map]; exact h.symm) (this j i (by simpa using hj) (by simpa using hi) hgt)

theorem coin_sym {xs : List Int} {c : Coin} (h : c ∈ coinsL xs) : c.2 = [sy c] ∧ sy c < xs.length := by
  obtain ⟨_, _, s, h3, h4⟩ := coinsL_mem h
  simp [sy, h3, h4]

/-- The symbols of the coins are those that there are. -/
theorem coin_present {xs : List Int} {c : Coin} (h : c ∈ coinsL xs) : 0 < xs.getD (sy c) 0 ∧ c.1 = manyL (xs.getD (sy c) 0) := by
  have h0 : c ∈ rawCoins 0 xs := (inOrder_perm Prod.fst (rawCoins 0 xs)).subset h
  have : ∀ (ys : List Int) (i : Nat), c ∈ rawCoins i ys → 0 < ys.getD (sy c - i) 0 ∧ c.1 = manyL (ys.getD (sy c - i) 0) := by
    intro ys
    induction ys with
    | nil => intro i h; simp [rawCoins] at h
    | cons n ns ih =>
      intro i h
      have more : c ∈ rawCoins (i + 1) ns → 0 < (n :: ns).getD (sy c - i) 0 ∧ c.1 = manyL ((n :: ns).getD (sy c - i) 0) := by
        intro h
        obtain ⟨_, _, s, h3, h4, _⟩ := rawCoins_mem ns (i + 1) c h
        have hs : sy c = s := by simp [sy, h3]
        have := ih (i + 1) h
        have e : sy c - i = (sy c - (i + 1)) + 1 := by omega
        rw [e]; simpa using this
      unfold rawCoins at h
      split at h
      · rename_i hn
        rcases List.mem_cons.1 h with e | e
        · subst e; simp [sy]; exact hn
        · exact more e
      · exact more h
  simpa using this xs 0 h0

theorem sumTo_delta (f : Nat → Int) {i : Nat} : ∀ {n : Nat}, i < n → sumTo n (fun j => if j = i then f j else 0) = f i
  | 0, h => by omega
  | n + 1, h => by
    by_cases e : i = n
    · subst e
      have : sumTo i (fun j => if j = i then f j else 0) = sumTo i (fun _ => 0) := sumTo_congr (fun j hj => by rw [if_neg (by omega)])
      simp only [sumTo, this, sumTo_zero]; simp
    · have := sumTo_delta f (i := i) (n := n) (by omega)
      simp only [sumTo, this]; rw [if_neg (by omega)]; omega

theorem count_flat (s : Nat) : ∀ l : List Coin, ((l.flatMap Prod.snd).count s : Int) = tot (fun c => (c.2.count s : Int)) l
  | [] => by simp [tot]
  | c :: l => by
    have := count_flat s l
    simp only [List.flatMap_cons, List.count_append, tot_cons]; omega

theorem sumTo_part_lt {f : Nat → Int} : ∀ {n : Nat}, (∀ i, i < n → 0 < f i) → ∀ i, i < n → f i ≤ sumTo n f ∧ (2 ≤ n → f i < sumTo n f)
  | 0, _, i, hi => by omega
  | n + 1, h, i, hi => by
    have hn := h n (by omega)
    have hnn : 0 ≤ sumTo n f := by
      have := sumTo_le (n := n) (f := fun _ => (0 : Int)) (g := f) (fun i hi => Int.le_of_lt (h i (by omega)))
      rw [sumTo_zero] at this; exact this
    by_cases e : i = n
    · subst e
      refine ⟨by simp only [sumTo]; omega, fun h2 => ?_⟩
      have := (sumTo_part_lt (f := f) (n := i) (fun j hj => h j (by omega)) 0 (by omega)).1
      have := h 0 (by omega)
      simp only [sumTo]; omega
    · have ih := sumTo_part_lt (f := f) (n := n) (fun j hj => h j (by omega)) i (by omega)
      refine ⟨by simp only [sumTo]; omega, fun _ => by simp only [sumTo]; omega⟩

/-- What the lengths are, symbol by symbol. -/
theorem chosen_facts {xs : List Int} {m : Nat} (hm : 1 ≤ m) (h2 : 2 ≤ (coinsL xs).length) (hn : (coinsL xs).length ≤ 2 ^ m) :
    (∀ s, ¬ 0 < xs.getD s 0 → (chosen xs m).count s = 0) ∧ (∀ s, 0 < xs.getD s 0 → 1 ≤ (chosen xs m).count s ∧ (chosen xs m).count s ≤ m) ∧
    PS xs (fun s => 2 ^ (m - (chosen xs m).count s)) = 2 ^ m ∧
    (∀ y : Nat → Nat, (∀ s, 0 < xs.getD s 0 → y s ≤ m) → PS xs (fun s => 2 ^ (m - y s)) ≤ 2 ^ m → PS xs (fun s => manyL (xs.getD s 0) * ((chosen xs m).count s : Int)) ≤ PS xs (fun s => manyL (xs.getD s 0) * (y s : Int))) := by
  have hs : SC (coinsL xs) := inOrder_sorted _
  have hp : ∀ x ∈ coinsL xs, 0 < x.1 := fun x hx => (coinsL_mem hx).1
  have hk := lev_long hm hn
  have hch : chosen xs m = ((lev (coinsL xs) (m - 1)).take (2 * (coinsL xs).length - 2)).flatMap Prod.snd := by unfold chosen; rw [if_neg (by omega)]
  obtain ⟨x, a, x1, x2, x3, x4, x5, x6, x7, x8⟩ := choice hs hp (m - 1) _ hk
  have em : m - 1 + 1 = m := by omega
  rw [em] at x1 x7
  generalize hN : (coinsL xs).length = N at *
  -- how often each symbol is chosen
  have hadd : ∀ s, Adds (fun c => (c.2.count s : Int)) := fun s a b => by simp
  have hcount : ∀ s, ((chosen xs m).count s : Int) = sumTo N (fun i => gI (fun c => (c.2.count s : Int)) (coinsL xs) i * (x i : Int)) := by
    intro s
    rw [hch, count_flat, x8 _ (hadd s)]
  have hget : ∀ i, (h : i < N) → (coinsL xs).getD i (0, []) = (coinsL xs)[i]'(by omega) := by
    intro i h
    have h' : i < (coinsL xs).length := by omega
    simp [List.getD_eq_getElem?_getD, h']
  have hx : ∀ i, i < N → ((chosen xs m).count (sy ((coinsL xs).getD i (0, []))) : Int) = (x i : Int) := by
    intro i hi
    rw [hcount]
    rw [← sumTo_delta (fun j => (x j : Int)) hi]
    apply sumTo_congr
    intro j hj
    have hj' : j < (coinsL xs).length := by omega
    have hi' : i < (coinsL xs).length := by omega
    have c1 := coin_sym (List.getElem_mem hj')
    simp only [gI]
    rw [hget i hi, hget j hj, c1.1]
    by_cases e : j = i
    · subst e; simp
    · have : sy (coinsL xs)[j] ≠ sy (coinsL xs)[i] := fun h => e (coins_inj hj' hi' h)
      simp [e, this]
  have hkr : sumTo N (fun i => (2 : Int) ^ (m - x i)) = 2 ^ m := by
    have e1 : sumTo N (fun i => (2 : Int) ^ m - 2 ^ (m - x i)) + sumTo N (fun i => (2 : Int) ^ (m - x i)) = sumTo N (fun _ => (2 : Int) ^ m) := by
      rw [← sumTo_add]; apply sumTo_congr; intro i hi; omega
    rw [x7, sumTo_const] at e1
    have e2 : (2 : Int) ^ m = 2 * 2 ^ (m - 1) := by rw [← pow_succ', em]
    have e3 : (2 : Int) ^ (m - 1) * ((2 * N - 2 : Nat) : Int) + 2 ^ m = N * 2 ^ m := by
      obtain ⟨d, hd⟩ : ∃ d : Nat, N = d + 1 := ⟨N - 1, by omega⟩
      subst hd
      rw [e2, show 2 * (d + 1) - 2 = 2 * d by omega]
      generalize (2 : Int) ^ (m - 1) = z
      rw [Int.natCast_mul, Int.natCast_add, Int.add_mul]
      rw [Int.mul_left_comm, Int.mul_left_comm (d : Int) 2 z, Int.mul_comm z (d : Int)]
      simp
    omega
  have hx1 : ∀ i, i < N → 1 ≤ x i := by
    intro i hi
    rcases Nat.eq_zero_or_pos (x i) with h0 | h0
    · exfalso
      have := (sumTo_part_lt (f := fun i => (2 : Int) ^ (m - x i)) (n := N) (fun j hj => pow_pos' _) i hi).2 h2
      rw [hkr, h0] at this
      simp at this
    · exact h0
  have hfind : ∀ s, 0 < xs.getD s 0 → ∃ i, i < N ∧ sy ((coinsL xs).getD i (0, [])) = s := by
    intro s hs0
    have hsN : s < xs.length := by
      rcases Nat.lt_or_ge s xs.length with h | h
      · exact h
      · simp [List.getD_eq_getElem?_getD, h] at hs0
    have hmem : (manyL (xs.getD s 0), [s]) ∈ rawCoins 0 xs := by
      have : ∀ (ys : List Int) (i j : Nat), 0 < ys.getD j 0 → (manyL (ys.getD j 0), [i + j]) ∈ rawCoins i ys := by
        intro ys
        induction ys with
        | nil => intro i j h; simp at h
        | cons n ns ih =>
          intro i j h
          cases j with
          | zero => simp at h; simp [rawCoins, h]
          | succ j =>
            have := ih (i + 1) j (by simpa using h)
            unfold rawCoins
            have e : i + 1 + j = i + (j + 1) := by omega
            rw [e] at this
            split
            · exact List.mem_cons_of_mem _ (by simpa using this)
            · simpa using this
      simpa using this xs 0 s hs0
    have hmem' : (manyL (xs.getD s 0), [s]) ∈ coinsL xs := (inOrder_perm Prod.fst (rawCoins 0 xs)).symm.subset hmem
    obtain ⟨i, hi, he⟩ := List.mem_iff_getElem.1 hmem'
    refine ⟨i, by omega, ?_⟩
    rw [hget i (by omega), he]; rfl
  have hlen : ∀ s, 0 < xs.getD s 0 → 1 ≤ (chosen xs m).count s ∧ (chosen xs m).count s ≤ m := by
    intro s hs0
    obtain ⟨i, hi, rfl⟩ := hfind s hs0
    have := hx i hi
    have := hx1 i hi
    have := x1 i
    omega
  refine ⟨?_, hlen, ?_, ?_⟩
  · intro s hs0
    have h : ((chosen xs m).count s : Int) = 0 := by
      rw [hcount]
      rw [show (0 : Int) = sumTo N (fun _ => 0) from (sumTo_zero N).symm]
      apply sumTo_congr
      intro j hj
      have hj' : j < (coinsL xs).length := by omega
      have c1 := coin_sym (List.getElem_mem hj')
      have c2 := coin_present (List.getElem_mem hj')
      simp only [gI]
      rw [hget j hj, c1.1]
      have : sy (coinsL xs)[j] ≠ s := fun e => hs0 (by rw [← e]; exact c2.1)
      simp [this]
    omega
  · have h := sum_coins (fun c => (2 : Int) ^ (m - (chosen xs m).count (sy c))) xs
    rw [hN] at h
    have e : PS xs (fun s => (2 : Int) ^ (m - (chosen xs m).count s)) = PS xs (fun s => (2 : Int) ^ (m - (chosen xs m).count (sy (manyL (xs.getD s 0), [s])))) := rfl
    rw [e, ← h, ← hkr]
    apply sumTo_congr
    intro i hi
    have := hx i hi
    have : (chosen xs m).count (sy ((coinsL xs).getD i (0, []))) = x i := by omega
    simp only [gI, this]
  · intro y hy hk2
    have h1 := sum_coins (fun c => c.1 * ((chosen xs m).count (sy c) : Int)) xs
    have h2' := sum_coins (fun c => c.1 * (y (sy c) : Int)) xs
    have h3 := sum_coins (fun c => (2 : Int) ^ (m - y (sy c))) xs
    rw [hN] at h1 h2' h3
    have e1 : PS xs (fun s => manyL (xs.getD s 0) * ((chosen xs m).count s : Int)) = PS xs (fun s => (manyL (xs.getD s 0), [s]).1 * ((chosen xs m).count (sy (manyL (xs.getD s 0), [s])) : Int)) := rfl
    have e2 : PS xs (fun s => manyL (xs.getD s 0) * (y s : Int)) = PS xs (fun s => (manyL (xs.getD s 0), [s]).1 * (y (sy (manyL (xs.getD s 0), [s])) : Int)) := rfl
    have e3 : PS xs (fun s => (2 : Int) ^ (m - y s)) = PS xs (fun s => (2 : Int) ^ (m - y (sy (manyL (xs.getD s 0), [s])))) := rfl
    rw [e3, ← h3] at hk2
    rw [e1, ← h1, e2, ← h2']
    -- the choice that y is
    have hyi : ∀ i, i < (coinsL xs).length → y (sy ((coinsL xs).getD i (0, []))) ≤ m - 1 + 1 := by
      intro i hi
      rw [em]
      apply hy
      rw [hget i (by omega)]
      exact (coin_present (List.getElem_mem hi)).1
    have hb := best hs hp (m - 1) _ (fun i => y (sy ((coinsL xs).getD i (0, [])))) hyi hk ?_
    · rw [hN] at hb
      have hw : wt ((lev (coinsL xs) (m - 1)).take (2 * N - 2)) = tot Prod.fst ((lev (coinsL xs) (m - 1)).take (2 * N - 2)) := rfl
      rw [hw, x8 Prod.fst (fun a b => rfl)] at hb
      have e4 : sumTo N (gI (fun c => c.1 * ((chosen xs m).count (sy c) : Int)) (coinsL xs)) = sumTo N (fun i => gI Prod.fst (coinsL xs) i * (x i : Int)) := by
        apply sumTo_congr; intro i hi
        simp only [gI]; rw [hx i hi]
      rw [e4]
      exact hb
    · rw [em, hN]
      have e5 : sumTo N (fun i => (2 : Int) ^ m - 2 ^ (m - y (sy ((coinsL xs).getD i (0, []))))) + sumTo N (gI (fun c => (2 : Int) ^ (m - y (sy c))) (coinsL xs)) = sumTo N (fun _ => (2 : Int) ^ m) := by
        rw [← sumTo_add]; apply sumTo_congr; intro i hi; simp only [gI]; omega
      have e6 : sumTo N (fun i => (2 : Int) ^ m - 2 ^ (m - x i)) + sumTo N (fun i => (2 : Int) ^ (m - x i)) = sumTo N (fun _ => (2 : Int) ^ m) := by
        rw [← sumTo_add]; apply sumTo_congr; intro i hi; omega
      rw [hkr, x7] at e6
      omega
end Go.V

/-! The laws of lengths of codes, of lists: all is used, the best, a greatest length more, all alike, so many times as great. Plain Lean; no program. -/
namespace Go.V
set_option linter.unusedVariables false
set_option linter.unusedSimpArgs false

theorem bump_get (xs : List Int) (t s : Nat) (hs : s < xs.length) : (bump xs t).getD s 0 = xs.getD s 0 + (if t = s then 1 else 0) := by
  unfold bump
  simp only [List.getD_eq_getElem?_getD, List.getElem?_set]
  by_cases e : t = s
  · subst e; simp [hs]
  · simp [e]

theorem addL_get : ∀ (ss : List Nat) (xs : List Int) (s : Nat), s < xs.length → (addL ss xs).getD s 0 = xs.getD s 0 + (ss.count s : Int)
  | [], xs, s, _ => by simp [addL]
  | t :: ss, xs, s, h => by
    have := addL_get ss (bump xs t) s (by rw [bump_length]; exact h)
    show (addL ss (bump xs t)).getD s 0 = _
    rw [this, bump_get xs t s h, List.count_cons]
    by_cases e : t = s
    · simp [e]; omega
    · simp [e]

theorem lensL_eq {xs : List Int} {most : Int} (h : xs.length ≤ 256) (hn : (coinsL xs).length ≤ 2 ^ mostL most) : lensL xs most = addL (chosen xs (mostL most)) (List.replicate xs.length 0) := by
  unfold lensL; rw [if_neg (by omega), if_neg (by omega)]

theorem lensL_length {xs : List Int} {most : Int} (h : xs.length ≤ 256) (hn : (coinsL xs).length ≤ 2 ^ mostL most) : (lensL xs most).length = xs.length := by
  rw [lensL_eq h hn, addL_length]; simp

theorem lensL_get {xs : List Int} {most : Int} (h : xs.length ≤ 256) (hn : (coinsL xs).length ≤ 2 ^ mostL most) {s : Nat} (hs : s < xs.length) : (lensL xs most).getD s 0 = ((chosen xs (mostL most)).count s : Int) := by
  rw [lensL_eq h hn, addL_get _ _ _ (by simpa using hs)]
  simp [List.getD_eq_getElem?_getD, hs]

theorem lev_nil : ∀ k, lev [] k = []
  | 0 => rfl
  | k + 1 => by simp [lev, packedL, lev_nil k, packs, mergeC]

theorem coins_count (xs : List Int) : ((coinsL xs).length : Int) = PS xs (fun _ => 1) := by
  rw [← sum_coins (fun _ => 1) xs]
  have : sumTo (coinsL xs).length (gI (fun _ => 1) (coinsL xs)) = sumTo (coinsL xs).length (fun _ => 1) := rfl
  rw [this, sumTo_const]; omega

theorem PS_mul (xs : List Int) (c : Int) (f : Nat → Int) : PS xs (fun s => c * f s) = c * PS xs f := by
  unfold PS; rw [← sumTo_mul]; apply sumTo_congr; intro s hs; split <;> simp
/-- Of however many symbols. -/
theorem count_facts {xs : List Int} {m : Nat} (hm : 1 ≤ m) (hn : (coinsL xs).length ≤ 2 ^ m) :
    (∀ s, s < xs.length → ¬ 0 < xs.getD s 0 → (chosen xs m).count s = 0) ∧ (∀ s, s < xs.length → 0 < xs.getD s 0 → 1 ≤ (chosen xs m).count s ∧ (chosen xs m).count s ≤ m) := by
  by_cases h2 : 2 ≤ (coinsL xs).length
  · obtain ⟨h3, h4, _⟩ := chosen_facts hm h2 hn
    exact ⟨fun s _ => h3 s, fun s _ => h4 s⟩
  by_cases h1 : (coinsL xs).length = 1
  · obtain ⟨c, hc⟩ := List.length_eq_one_iff.1 h1
    have hch : chosen xs m = [sy c] := by
      unfold chosen
      rw [if_pos h1, hc]
      have := (coin_sym (xs := xs) (c := c) (by rw [hc]; simp)).1
      simpa using this
    have hpres := coin_present (xs := xs) (c := c) (by rw [hc]; simp)
    have honly : ∀ s, s < xs.length → 0 < xs.getD s 0 → s = sy c := by
      intro s hs hp
      by_cases e : s = sy c
      · exact e
      · exfalso
        have hcc := coins_count xs
        rw [h1] at hcc
        have hlt : sy c < xs.length := (coin_sym (xs := xs) (c := c) (by rw [hc]; simp)).2
        have h3 := sumTo_delta (fun _ => (1 : Int)) hs
        have h4 := sumTo_delta (fun _ => (1 : Int)) hlt
        have h5 : sumTo xs.length (fun j => if j = s then (1 : Int) else 0) + sumTo xs.length (fun j => if j = sy c then (1 : Int) else 0) ≤ PS xs (fun _ => 1) := by
          rw [← sumTo_add]
          apply sumTo_le; intro i hi
          by_cases e1 : i = s
          · subst e1; simp only [hp, e, if_true, if_false]; omega
          · by_cases e2 : i = sy c
            · subst e2
              have := hpres.1
              simp only [e1, if_false, this, if_true]; omega
            · simp only [e1, e2, if_false]; split <;> omega
        rw [h3, h4] at h5
        omega
    rw [hch]
    refine ⟨fun s hs h0 => ?_, fun s hs h0 => ?_⟩
    · rw [List.count_singleton]
      have : ¬ sy c = s := fun e => h0 (by rw [← e]; exact hpres.1)
      simp [this]
    · have := honly s hs h0
      subst this
      simp; omega
  · have h0 : (coinsL xs) = [] := List.eq_nil_of_length_eq_zero (by omega)
    have hch : chosen xs m = [] := by unfold chosen; rw [h0]; simp [lev_nil]
    have hcc := coins_count xs
    rw [h0] at hcc
    rw [hch]
    refine ⟨fun s _ _ => by simp, fun s hs hp => ?_⟩
    exfalso
    have h3 := sumTo_delta (fun _ => (1 : Int)) hs
    have h5 : sumTo xs.length (fun j => if j = s then (1 : Int) else 0) ≤ PS xs (fun _ => 1) := by
      apply sumTo_le; intro i hi
      by_cases e1 : i = s
      · subst e1; simp only [hp, if_true]; omega
      · simp only [e1, if_false]; split <;> omega
    rw [h3] at h5
    simp at hcc; omega

theorem lens_le {xs : List Int} {most : Int} (h : xs.length ≤ 256) (hn : (coinsL xs).length ≤ 2 ^ mostL most) (hm : 1 ≤ mostL most) {s : Nat} (hs : s < xs.length) :
    0 ≤ (lensL xs most).getD s 0 ∧ (lensL xs most).getD s 0 ≤ mostL most ∧ (0 < (lensL xs most).getD s 0 ↔ 0 < xs.getD s 0) := by
  rw [lensL_get h hn hs]
  obtain ⟨h1, h2⟩ := count_facts hm hn
  by_cases e : 0 < xs.getD s 0
  · have := h2 s hs e
    exact ⟨by omega, by omega, by constructor <;> intro _ <;> omega⟩
  · have := h1 s hs e
    exact ⟨by omega, by omega, by constructor <;> intro _ <;> omega⟩

/-- How much of all codes there is. -/
def kraft1 (x : Int) : Int := if 1 ≤ x ∧ x ≤ 15 then 2 ^ (15 - x).toNat else 0
def kraftL (xs : List Int) : Int := (xs.map kraft1).sum
theorem sum_eq_sumTo (f : Int → Int) : ∀ xs : List Int, (xs.map f).sum = sumTo xs.length (fun s => f (xs.getD s 0))
  | xs => by
    have : ∀ k, k ≤ xs.length → ((xs.take k).map f).sum = sumTo k (fun s => f (xs.getD s 0)) := by
      intro k
      induction k with
      | zero => intro _; simp [sumTo]
      | succ k ih =>
        intro h
        have h' : k < xs.length := by omega
        rw [List.take_succ_eq_append_getElem h', List.map_append, List.sum_append, ih (by omega)]
        simp [sumTo, List.getD_eq_getElem?_getD, h']
    have := this xs.length (Nat.le_refl _)
    rwa [List.take_length] at this

/-- All codes are used. -/
theorem law_full {xs : List Int} {most : Int} (h : xs.length ≤ 256) (h2 : 2 ≤ (coinsL xs).length) (hn : (coinsL xs).length ≤ 2 ^ mostL most) (hm : 1 ≤ mostL most) (hm' : mostL most ≤ 15) : kraftL (lensL xs most) = 32768 := by
  obtain ⟨f1, f2, f3, _⟩ := chosen_facts hm h2 hn
  rw [kraftL, sum_eq_sumTo, lensL_length h hn]
  have e : sumTo xs.length (fun s => kraft1 ((lensL xs most).getD s 0)) = PS xs (fun s => 2 ^ (15 - mostL most) * 2 ^ (mostL most - (chosen xs (mostL most)).count s)) := by
    apply sumTo_congr; intro s hs
    rw [lensL_get h hn hs]
    by_cases e : 0 < xs.getD s 0
    · have := f2 s e
      simp only [e, if_true, kraft1]
      rw [if_pos (by omega), ← Int.pow_add]
      congr 1; omega
    · simp only [e, if_false, f1 s e, kraft1]
      rw [if_neg (by omega)]
  rw [e, PS_mul, f3, ← Int.pow_add, show 15 - mostL most + mostL most = 15 by omega]
  rfl

end Go.V

/-! Lengths of codes: all counts one; counts so many times as great. Plain Lean; no program. -/
namespace Go.V
set_option linter.unusedVariables false
set_option linter.unusedSimpArgs false

end Go.V

/-! Lengths of codes: two that change places; all of one length. Plain Lean; no program. -/
namespace Go.V
set_option linter.unusedVariables false
set_option linter.unusedSimpArgs false

end Go.V

/-! Codes of symbols out of lengths: lists alone. Plain Lean; no program. -/
namespace Go.V
set_option linter.unusedVariables false
set_option linter.unusedSimpArgs false

theorem snoc_rec {α : Type} {P : List α → Prop} (h0 : P []) (h1 : ∀ l x, P l → P (l ++ [x])) (l : List α) : P l := by
  have h : ∀ r : List α, P r.reverse := by
    intro r
    induction r with
    | nil => exact h0
    | cons x r ih => rw [List.reverse_cons]; exact h1 _ _ ih
  have := h l.reverse
  rwa [List.reverse_reverse] at this

/-- A symbol's length. -/
def ln (ls : List Int) (s : Nat) : Int := ls.getD s 0
/-- The symbols that are there. -/
def posL (ls : List Int) : List Nat := (List.range ls.length).filter (fun s => decide (0 < ln ls s))
/-- May lengths be? -/
def rightL (ls : List Int) : Bool := decide (ls.length ≤ 256) && (ls.all (fun x => decide (0 ≤ x ∧ x ≤ 15)) && ((decide ((posL ls).length = 1) && ls.all (fun x => decide (x ≤ 1))) || decide (kraftL ls = 32768)))
/-- .. in the order of their codes. -/
def ordL (ls : List Int) : List Nat := inOrder (ln ls) (posL ls)
/-- One code more: the next one, the last length, the codes. -/
def stepC (ls : List Int) (st : Int × Int × List Int) (s : Nat) : Int × Int × List Int :=
  let nx := st.1 * 2 ^ (ln ls s - st.2.1).toNat
  (nx + 1, ln ls s, st.2.2.set s nx)
def foldC (ls : List Int) (l : List Nat) : Int × Int × List Int := l.foldl (stepC ls) (0, 0, List.replicate ls.length 0)
/-- The codes. -/
def codesL (ls : List Int) : List Int := if rightL ls then (foldC ls (ordL ls)).2.2 else []
/-- How much of all codes some symbols have. -/
def wS (ls : List Int) (l : List Nat) : Int := (l.map fun s => (2 : Int) ^ (15 - ln ls s).toNat).sum

theorem wS_nil (ls : List Int) : wS ls [] = 0 := rfl
theorem wS_append (ls : List Int) (a b : List Nat) : wS ls (a ++ b) = wS ls a + wS ls b := by simp [wS]
theorem wS_cons (ls : List Int) (a : Nat) (b : List Nat) : wS ls (a :: b) = 2 ^ (15 - ln ls a).toNat + wS ls b := by simp [wS]
theorem wS_nonneg (ls : List Int) (l : List Nat) : 0 ≤ wS ls l := by
  induction l with
  | nil => simp [wS]
  | cons a l ih => rw [wS_cons]; have := pow_pos' (15 - ln ls a).toNat; omega
theorem wS_perm (ls : List Int) {a b : List Nat} (h : a.Perm b) : wS ls a = wS ls b := by
  induction h with
  | nil => rfl
  | cons x _ ih => rw [wS_cons, wS_cons, ih]
  | swap x y l => rw [wS_cons, wS_cons, wS_cons, wS_cons]; omega
  | trans _ _ h1 h2 => exact h1.trans h2

theorem posL_mem {ls : List Int} {s : Nat} : s ∈ posL ls ↔ s < ls.length ∧ 0 < ln ls s := by simp [posL]
theorem posL_nodup (ls : List Int) : (posL ls).Nodup := List.nodup_range.sublist List.filter_sublist
theorem ordL_perm (ls : List Int) : (ordL ls).Perm (posL ls) := inOrder_perm _ _
theorem ordL_mem {ls : List Int} {s : Nat} : s ∈ ordL ls ↔ s < ls.length ∧ 0 < ln ls s := by rw [(ordL_perm ls).mem_iff, posL_mem]
theorem ordL_nodup (ls : List Int) : (ordL ls).Nodup := (ordL_perm ls).nodup_iff.2 (posL_nodup ls)
theorem ordL_sorted (ls : List Int) : SortedK (ln ls) (ordL ls) := inOrder_sorted _
theorem ln_none {ls : List Int} {s : Nat} (h : ls.length ≤ s) : ln ls s = 0 := by simp [ln, List.getD_eq_getElem?_getD, List.getElem?_eq_none h]
theorem ln_mem {ls : List Int} {s : Nat} (h : s < ls.length) : ln ls s = ls[s] := by simp [ln, List.getD_eq_getElem?_getD, h]

/-- What the codes come to. -/
structure Coded (ls : List Int) (l : List Nat) (st : Int × Int × List Int) : Prop where
  next : st.1 * 2 ^ (15 - st.2.1).toNat = wS ls l
  low : 0 ≤ st.1
  last : 0 ≤ st.2.1 ∧ st.2.1 ≤ 15
  ge : ∀ s ∈ l, ln ls s ≤ st.2.1
  len : st.2.2.length = ls.length
  out : ∀ A s B, l = A ++ s :: B → st.2.2.getD s 0 * 2 ^ (15 - ln ls s).toNat = wS ls A
  none : ∀ s, s ∉ l → st.2.2.getD s 0 = 0
  end_ : l = [] ∨ ∃ A s, l = A ++ [s] ∧ st.2.1 = ln ls s

theorem step_next {n l x : Int} (hl : 0 ≤ l ∧ l ≤ 15) (hx : l ≤ x ∧ x ≤ 15) : n * 2 ^ (x - l).toNat * 2 ^ (15 - x).toNat = n * 2 ^ (15 - l).toNat := by
  rw [Int.mul_assoc, ← Int.pow_add]; congr 2; omega

theorem foldC_snoc (ls : List Int) (l : List Nat) (s : Nat) : foldC ls (l ++ [s]) = stepC ls (foldC ls l) s := by simp [foldC]

theorem coded (ls : List Int) : ∀ l : List Nat, SortedK (ln ls) l → l.Nodup → (∀ s ∈ l, s < ls.length ∧ 0 < ln ls s ∧ ln ls s ≤ 15) → Coded ls l (foldC ls l) := by
  refine snoc_rec ?_ ?_
  · intro _ _ _
    refine ⟨by simp [foldC, wS], by simp [foldC], by simp [foldC], by simp, by simp [foldC], ?_, ?_, .inl rfl⟩
    · intro A s B h; simp at h
    · intro s _; simp only [foldC, List.foldl_nil, List.getD_eq_getElem?_getD, List.getElem?_replicate]; split <;> rfl
  · intro l s ih hs hn hb
    have hc := ih hs.left (List.nodup_append.1 hn).1 (fun t ht => hb t (List.mem_append_left _ ht))
    obtain ⟨b1, b2, b3⟩ := hb s (by simp)
    have hle : (foldC ls l).2.1 ≤ ln ls s := by
      rcases hc.end_ with rfl | ⟨A, t, rfl, e⟩
      · show (0 : Int) ≤ _; omega
      · rw [e]; exact hs.across t (by simp) s (by simp)
    have hx := step_next (n := (foldC ls l).1) hc.last ⟨hle, b3⟩
    have hnx : 0 ≤ (foldC ls l).1 * 2 ^ (ln ls s - (foldC ls l).2.1).toNat := Int.mul_nonneg hc.low (Int.le_of_lt (pow_pos' _))
    have hsl : s ∉ l := by
      intro h
      have := (List.nodup_append.1 hn).2.2 s h s (by simp)
      exact this rfl
    rw [foldC_snoc]
    refine ⟨?_, ?_, ?_, ?_, ?_, ?_, ?_, .inr ⟨l, s, rfl, rfl⟩⟩
    · show (_ + 1) * _ = _
      rw [Int.add_mul, wS_append, ← hc.next, ← hx]
      simp [stepC, wS]
    · show 0 ≤ _ + 1
      omega
    · show 0 ≤ ln ls s ∧ ln ls s ≤ 15
      omega
    · intro t ht
      show ln ls t ≤ ln ls s
      rcases List.mem_append.1 ht with h | h
      · exact hs.across t h s (by simp)
      · have : t = s := by simpa using h
        rw [this]; omega
    · simp [stepC, hc.len]
    · intro A t B h
      show ((foldC ls l).2.2.set s _).getD t 0 * _ = _
      rcases List.eq_nil_or_concat B with rfl | ⟨B', u, rfl⟩
      · obtain ⟨rfl, h2⟩ := List.append_inj' h rfl
        have : s = t := by simpa using h2
        subst this
        rw [List.getD_eq_getElem?_getD, List.getElem?_set_self (by rw [hc.len]; exact b1)]
        simp only [Option.getD_some]
        rw [hx, hc.next]
      · rw [List.concat_eq_append, ← List.cons_append, ← List.append_assoc] at h
        obtain ⟨h1, h2⟩ := List.append_inj' h rfl
        have hne : s ≠ t := by
          rintro rfl
          exact hsl (by rw [h1]; simp)
        rw [List.getD_eq_getElem?_getD, List.getElem?_set_ne hne, ← List.getD_eq_getElem?_getD]
        exact hc.out A t B' h1
    · intro t ht
      simp only [List.mem_append, List.mem_singleton, not_or] at ht
      show ((foldC ls l).2.2.set s _).getD t 0 = 0
      rw [List.getD_eq_getElem?_getD, List.getElem?_set_ne (fun e => ht.2 e.symm), ← List.getD_eq_getElem?_getD]
      exact hc.none t ht.1

/-- What right lengths are. -/
theorem right_is {ls : List Int} (h : rightL ls = true) : ls.length ≤ 256 ∧ (∀ s, 0 ≤ ln ls s ∧ ln ls s ≤ 15) ∧ (((posL ls).length = 1 ∧ ∀ s, ln ls s ≤ 1) ∨ kraftL ls = 32768) := by
  simp only [rightL, Bool.and_eq_true, Bool.or_eq_true, decide_eq_true_eq, List.all_eq_true] at h
  obtain ⟨h1, h2, h3⟩ := h
  have get : ∀ {Q : Int → Prop}, Q 0 → (∀ x ∈ ls, Q x) → ∀ s, Q (ln ls s) := by
    intro Q h0 hQ s
    by_cases hs : s < ls.length
    · rw [ln_mem hs]; exact hQ _ (List.getElem_mem hs)
    · rw [ln_none (by omega)]; exact h0
  refine ⟨h1, get (Q := fun x => 0 ≤ x ∧ x ≤ 15) (by omega) h2, h3.imp (fun ⟨a, b⟩ => ⟨a, get (Q := fun x => x ≤ 1) (by omega) b⟩) id⟩

theorem wS_filter (ls : List Int) (l : List Nat) : wS ls (l.filter (fun s => decide (0 < ln ls s))) = (l.map fun s => if 0 < ln ls s then (2 : Int) ^ (15 - ln ls s).toNat else 0).sum := by
  induction l with
  | nil => rfl
  | cons a l ih =>
    by_cases h : 0 < ln ls a
    · simp [List.filter_cons, h, wS_cons, ih]
    · simp [List.filter_cons, h, ih]

theorem sum_range_getD (f : Int → Int) (ls : List Int) : ((List.range ls.length).map fun s => f (ln ls s)) = ls.map f := by
  apply List.ext_getElem
  · simp
  · intro i h1 h2
    have : i < ls.length := by simpa using h2
    simp [ln_mem this]

theorem wS_ord {ls : List Int} (hb : ∀ s, 0 ≤ ln ls s ∧ ln ls s ≤ 15) : wS ls (ordL ls) = kraftL ls := by
  rw [wS_perm ls (ordL_perm ls), posL, wS_filter, kraftL, ← sum_range_getD kraft1 ls]
  congr 1
  apply List.map_congr_left
  intro s _
  have := hb s
  unfold kraft1
  by_cases h : 0 < ln ls s
  · rw [if_pos h, if_pos ⟨by omega, this.2⟩]
  · rw [if_neg h, if_neg (by omega)]

theorem codesL_right {ls : List Int} (h : rightL ls = true) : Coded ls (ordL ls) (foldC ls (ordL ls)) ∧ codesL ls = (foldC ls (ordL ls)).2.2 := by
  obtain ⟨h1, h2, h3⟩ := right_is h
  exact ⟨coded ls _ (ordL_sorted ls) (ordL_nodup ls) (fun s hs => ⟨(ordL_mem.1 hs).1, (ordL_mem.1 hs).2, (h2 s).2⟩), by simp [codesL, h]⟩

theorem codesL_length {ls : List Int} (h : rightL ls = true) : (codesL ls).length = ls.length := by
  rw [(codesL_right h).2]; exact (codesL_right h).1.len

/-- A symbol's code. -/
def cd (ls : List Int) (s : Nat) : Int := (codesL ls).getD s 0

theorem cd_zero {ls : List Int} (h : rightL ls = true) {s : Nat} (hs : ¬ 0 < ln ls s) : cd ls s = 0 := by
  rw [cd, (codesL_right h).2]
  exact (codesL_right h).1.none s (fun e => hs (ordL_mem.1 e).2)

theorem cd_at {ls : List Int} (h : rightL ls = true) {A B : List Nat} {s : Nat} (he : ordL ls = A ++ s :: B) : cd ls s * 2 ^ (15 - ln ls s).toNat = wS ls A := by
  rw [cd, (codesL_right h).2]
  exact (codesL_right h).1.out A s B he

theorem cd_nonneg {ls : List Int} (h : rightL ls = true) (s : Nat) : 0 ≤ cd ls s := by
  by_cases hs : s < ls.length ∧ 0 < ln ls s
  · obtain ⟨A, B, he⟩ := List.append_of_mem (ordL_mem.2 hs)
    have h1 := cd_at h he
    have h2 := wS_nonneg ls A
    have h3 := pow_pos' (15 - ln ls s).toNat
    rw [← h1] at h2
    exact Int.le_of_mul_le_mul_right (by simpa using h2) h3
  · rw [cd_zero h]
    · omega
    · intro h0
      apply hs
      refine ⟨?_, h0⟩
      by_cases hl : s < ls.length
      · exact hl
      · rw [ln_none (by omega)] at h0; omega

theorem kraft_right {ls : List Int} (h : rightL ls = true) : kraftL ls ≤ 32768 := by
  obtain ⟨h1, h2, h3 | h3⟩ := right_is h
  · rw [← wS_ord h2, wS_perm ls (ordL_perm ls)]
    obtain ⟨a, ha⟩ := List.length_eq_one_iff.1 h3.1
    rw [ha, wS_cons, wS_nil]
    have hp : a ∈ posL ls := by rw [ha]; simp
    have := (posL_mem.1 hp).2
    have := h3.2 a
    have e : ln ls a = 1 := by omega
    rw [e]; decide
  · omega

/-- A code has as many bits as it has. -/
theorem cd_lt {ls : List Int} (h : rightL ls = true) {s : Nat} (hs : s < ls.length ∧ 0 < ln ls s) : cd ls s + 1 ≤ 2 ^ (ln ls s).toNat := by
  obtain ⟨h1, h2, _⟩ := right_is h
  obtain ⟨A, B, he⟩ := List.append_of_mem (ordL_mem.2 hs)
  have e1 := cd_at h he
  have e2 := kraft_right h
  rw [← wS_ord h2, he, wS_append, wS_cons] at e2
  have e3 := wS_nonneg ls B
  have hp := pow_pos' (15 - ln ls s).toNat
  have hx := h2 s
  have e4 : (cd ls s + 1) * 2 ^ (15 - ln ls s).toNat ≤ 2 ^ (ln ls s).toNat * 2 ^ (15 - ln ls s).toNat := by
    rw [Int.add_mul, e1, ← Int.pow_add, show (ln ls s).toNat + (15 - ln ls s).toNat = 15 by omega]
    have : (2 : Int) ^ 15 = 32768 := by decide
    omega
  exact Int.le_of_mul_le_mul_right e4 hp

/-- The codes ahead and behind. -/
theorem cd_order {ls : List Int} (h : rightL ls = true) {A B : List Nat} {s t : Nat} (he : ordL ls = A ++ s :: B) (ht : t ∈ B) : (cd ls s + 1) * 2 ^ (ln ls t - ln ls s).toNat ≤ cd ls t := by
  obtain ⟨h1, h2, _⟩ := right_is h
  obtain ⟨C, D, hB⟩ := List.append_of_mem ht
  have e1 := cd_at h he
  have e2 := cd_at (A := A ++ s :: C) (B := D) (s := t) h (by rw [he, hB]; simp)
  have hle : ln ls s ≤ ln ls t := by
    have := ordL_sorted ls
    rw [he] at this
    exact (List.pairwise_cons.1 (List.pairwise_append.1 this).2.1).1 t ht
  rw [wS_append, wS_cons] at e2
  have e3 := wS_nonneg ls C
  have hs := h2 s
  have ht := h2 t
  have e4 : (cd ls s + 1) * 2 ^ (ln ls t - ln ls s).toNat * 2 ^ (15 - ln ls t).toNat ≤ cd ls t * 2 ^ (15 - ln ls t).toNat := by
    rw [step_next hs ⟨hle, ht.2⟩, Int.add_mul, e1, e2]; omega
  exact Int.le_of_mul_le_mul_right e4 (pow_pos' _)

theorem two_in {l : List Nat} (hn : l.Nodup) {s t : Nat} (hs : s ∈ l) (ht : t ∈ l) (hne : s ≠ t) : (∃ A B, l = A ++ s :: B ∧ t ∈ B) ∨ (∃ A B, l = A ++ t :: B ∧ s ∈ B) := by
  obtain ⟨A, B, rfl⟩ := List.append_of_mem hs
  rcases List.mem_append.1 ht with h | h
  · obtain ⟨C, D, rfl⟩ := List.append_of_mem h
    exact .inr ⟨C, D ++ s :: B, by simp, by simp⟩
  · rcases List.mem_cons.1 h with e | e
    · exact absurd e.symm hne
    · exact .inl ⟨A, B, rfl, e⟩

/-- Shorter ones, and among those as long the ones ahead, come first. -/
theorem ord_before {ls : List Int} {s t : Nat} (hs : s < ls.length ∧ 0 < ln ls s) (ht : t < ls.length ∧ 0 < ln ls t) (h : ln ls s < ln ls t ∨ (ln ls s = ln ls t ∧ s < t)) : ∃ A B, ordL ls = A ++ s :: B ∧ t ∈ B := by
  have hne : s ≠ t := by rintro rfl; omega
  rcases two_in (ordL_nodup ls) (ordL_mem.2 hs) (ordL_mem.2 ht) hne with h1 | ⟨A, B, he, hB⟩
  · exact h1
  · exfalso
    have hso := ordL_sorted ls
    rw [he] at hso
    have hle : ln ls t ≤ ln ls s := (List.pairwise_cons.1 (List.pairwise_append.1 hso).2.1).1 s hB
    have heq : ln ls s = ln ls t := by omega
    have hk := inOrder_same (key := ln ls) (posL ls) (ln ls s)
    have hlt : ((posL ls).filter (fun x => ln ls x == ln ls s)).Pairwise (· < ·) := (List.pairwise_lt_range.sublist List.filter_sublist).sublist List.filter_sublist
    rw [← hk] at hlt
    have e : (inOrder (ln ls) (posL ls)) = A ++ t :: B := he
    rw [e, List.filter_append, List.filter_cons] at hlt
    rw [if_pos (by simp [heq])] at hlt
    have := (List.pairwise_cons.1 (List.pairwise_append.1 hlt).2.1).1 s (List.mem_filter.2 ⟨hB, by simp⟩)
    omega

/-- No code begins another one. -/
theorem cd_free {ls : List Int} (h : rightL ls = true) {s t : Nat} (hs : s < ls.length ∧ 0 < ln ls s) (ht : t < ls.length ∧ 0 < ln ls t) (hlt : ln ls s < ln ls t ∨ (ln ls s = ln ls t ∧ s < t)) : cd ls s + 1 ≤ cd ls t / 2 ^ (ln ls t - ln ls s).toNat := by
  obtain ⟨A, B, he, hB⟩ := ord_before hs ht hlt
  exact (Int.le_ediv_iff_mul_le (pow_pos' _)).2 (cd_order h he hB)

theorem cd_inj {ls : List Int} (h : rightL ls = true) {s t : Nat} (hs : s < ls.length ∧ 0 < ln ls s) (ht : t < ls.length ∧ 0 < ln ls t) (hl : ln ls s = ln ls t) (hc : cd ls s = cd ls t) : s = t := by
  rcases Nat.lt_trichotomy s t with e | e | e
  · have := cd_free h hs ht (.inr ⟨hl, e⟩)
    rw [hl] at this; simp at this; omega
  · exact e
  · have := cd_free h ht hs (.inr ⟨hl.symm, e⟩)
    rw [hl] at this; simp at this; omega

end Go.V

/-! Bits in bytes: lists alone. Plain Lean; no program. -/
namespace Go.V
set_option linter.unusedVariables false
set_option linter.unusedSimpArgs false

/-- A bit as a number. -/
def b2i (b : Bool) : Int := if b then 1 else 0
theorem b2i_bound (b : Bool) : 0 ≤ b2i b ∧ b2i b ≤ 1 := by cases b <;> decide
/-- Bit i of a number. -/
def bitV (v : Int) (i : Nat) : Bool := decide (v / 2 ^ i % 2 = 1)
/-- The lowest n bits of a number, the highest first. -/
def bitsOf (v : Int) : Nat → List Bool
  | 0 => []
  | n + 1 => bitV v n :: bitsOf v n
theorem bitsOf_length (v : Int) : ∀ n, (bitsOf v n).length = n
  | 0 => rfl
  | n + 1 => by simp [bitsOf, bitsOf_length v n]

/-- Byte j of some bits. -/
def byteAt (bs : List Bool) (j : Nat) : Int :=
  b2i (bs.getD (8 * j) false) + 2 * b2i (bs.getD (8 * j + 1) false) + 4 * b2i (bs.getD (8 * j + 2) false) + 8 * b2i (bs.getD (8 * j + 3) false) + 16 * b2i (bs.getD (8 * j + 4) false) + 32 * b2i (bs.getD (8 * j + 5) false) + 64 * b2i (bs.getD (8 * j + 6) false) + 128 * b2i (bs.getD (8 * j + 7) false)
/-- Bits in bytes. -/
def packB (bs : List Bool) : List Int := (List.range ((bs.length + 7) / 8)).map (byteAt bs)
/-- Bit i of some bytes. -/
def bitAt (l : List Int) (i : Nat) : Bool := bitV (l.getD (i / 8) 0) (i % 8)
/-- The bits of bytes. -/
def unpackB (l : List Int) : List Bool := (List.range (8 * l.length)).map (bitAt l)

theorem packB_length (bs : List Bool) : (packB bs).length = (bs.length + 7) / 8 := by simp [packB]
theorem unpackB_length (l : List Int) : (unpackB l).length = 8 * l.length := by simp [unpackB]
theorem byteAt_bound (bs : List Bool) (j : Nat) : 0 ≤ byteAt bs j ∧ byteAt bs j ≤ 255 := by
  have := fun i => b2i_bound (bs.getD i false)
  have h0 := this (8 * j); have h1 := this (8 * j + 1); have h2 := this (8 * j + 2); have h3 := this (8 * j + 3)
  have h4 := this (8 * j + 4); have h5 := this (8 * j + 5); have h6 := this (8 * j + 6); have h7 := this (8 * j + 7)
  unfold byteAt
  omega
theorem packB_bytes (bs : List Bool) : ∀ x ∈ packB bs, 0 ≤ x ∧ x ≤ 255 := by
  intro x hx
  obtain ⟨j, _, rfl⟩ := List.mem_map.1 hx
  exact byteAt_bound bs j

theorem getD_snoc (bs : List Bool) (b : Bool) (i : Nat) : (bs ++ [b]).getD i false = if i = bs.length then b else bs.getD i false := by
  simp only [List.getD_eq_getElem?_getD]
  split
  · subst_vars; simp
  · rename_i h
    by_cases h2 : i < bs.length
    · rw [List.getElem?_append_left h2]
    · rw [List.getElem?_eq_none (by simp; omega), List.getElem?_eq_none (by omega)]

theorem getD_beyond (bs : List Bool) {i : Nat} (h : bs.length ≤ i) : bs.getD i false = false := by
  simp [List.getD_eq_getElem?_getD, List.getElem?_eq_none h]

/-- One bit more. -/
theorem byteAt_snoc (bs : List Bool) (b : Bool) (j : Nat) : byteAt (bs ++ [b]) j = if j = bs.length / 8 then byteAt bs j + b2i b * 2 ^ (bs.length % 8) else byteAt bs j := by
  split
  · rename_i h
    have hb : ∀ k, bs.length % 8 ≤ k → bs.getD (8 * j + k) false = false := fun k hk => getD_beyond bs (by omega)
    have hs : ∀ k, (bs ++ [b]).getD (8 * j + k) false = if k = bs.length % 8 then b else bs.getD (8 * j + k) false := by
      intro k
      rw [getD_snoc]
      congr 1
      apply propext
      constructor <;> intro h <;> omega
    have h0 := hs 0; have h1 := hs 1; have h2 := hs 2; have h3 := hs 3; have h4 := hs 4; have h5 := hs 5; have h6 := hs 6; have h7 := hs 7
    have hm : bs.length % 8 < 8 := Nat.mod_lt _ (by decide)
    generalize bs.length % 8 = m at *
    unfold byteAt
    rw [Nat.add_zero] at h0
    rw [h0, h1, h2, h3, h4, h5, h6, h7]
    have z := hb m (Nat.le_refl _)
    have zero : b2i false = 0 := rfl
    match m, hm, z with
    | 0, _, z => rw [Nat.add_zero] at z; rw [z]; simp [zero]; omega
    | 1, _, z => rw [z]; simp [zero]; omega
    | 2, _, z => rw [z]; simp [zero]; omega
    | 3, _, z => rw [z]; simp [zero]; omega
    | 4, _, z => rw [z]; simp [zero]; omega
    | 5, _, z => rw [z]; simp [zero]; omega
    | 6, _, z => rw [z]; simp [zero]; omega
    | 7, _, z => rw [z]; simp [zero]; omega
  · rename_i h
    have hs : ∀ k, k < 8 → (bs ++ [b]).getD (8 * j + k) false = bs.getD (8 * j + k) false := by
      intro k hk
      rw [getD_snoc, if_neg (by omega)]
    unfold byteAt
    have h0 := hs 0 (by decide)
    rw [Nat.add_zero] at h0
    rw [h0, hs 1 (by decide), hs 2 (by decide), hs 3 (by decide), hs 4 (by decide), hs 5 (by decide), hs 6 (by decide), hs 7 (by decide)]

theorem byteAt_none {bs : List Bool} {j : Nat} (h : bs.length ≤ 8 * j) : byteAt bs j = 0 := by
  unfold byteAt
  rw [getD_beyond bs (by omega), getD_beyond bs (by omega), getD_beyond bs (by omega), getD_beyond bs (by omega), getD_beyond bs (by omega), getD_beyond bs (by omega), getD_beyond bs (by omega), getD_beyond bs (by omega)]
  rfl

theorem packB_get {bs : List Bool} {j : Nat} (h : j < (bs.length + 7) / 8) : (packB bs)[j]? = some (byteAt bs j) := by
  simp [packB, h]
theorem packB_getD (bs : List Bool) (j : Nat) : (packB bs).getD j 0 = byteAt bs j := by
  rw [List.getD_eq_getElem?_getD]
  by_cases h : j < (bs.length + 7) / 8
  · rw [packB_get h]; rfl
  · rw [List.getElem?_eq_none (by rw [packB_length]; omega), byteAt_none (by omega)]; rfl

/-- How a bit is put: a byte more if there is no room, then into the last byte. -/
theorem packB_snoc (bs : List Bool) (b : Bool) : packB (bs ++ [b]) = (if bs.length % 8 = 0 then packB bs ++ [0] else packB bs).set (bs.length / 8) (byteAt bs (bs.length / 8) + b2i b * 2 ^ (bs.length % 8)) := by
  apply List.ext_getElem?
  intro j
  by_cases hj : j < (bs.length + 1 + 7) / 8
  · rw [packB_get (by simpa using hj), byteAt_snoc, List.getElem?_set]
    have hl : (if bs.length % 8 = 0 then packB bs ++ [0] else packB bs).length = (bs.length + 1 + 7) / 8 := by
      split <;> simp [packB_length] <;> omega
    rw [hl]
    by_cases he : bs.length / 8 = j
    · rw [if_pos he.symm, if_pos he, if_pos (by omega), he]
    · rw [if_neg he, if_neg (by omega)]
      have hlt : j < (bs.length + 7) / 8 := by omega
      split
      · rw [List.getElem?_append_left (by rw [packB_length]; exact hlt), packB_get hlt]
      · rw [packB_get hlt]
  · rw [List.getElem?_eq_none (by rw [packB_length]; simp; omega), List.getElem?_eq_none]
    rw [List.length_set]
    split <;> simp [packB_length] <;> omega

theorem bitV_byte (v0 v1 v2 v3 v4 v5 v6 v7 : Bool) (k : Nat) (hk : k < 8) : bitV (b2i v0 + 2 * b2i v1 + 4 * b2i v2 + 8 * b2i v3 + 16 * b2i v4 + 32 * b2i v5 + 64 * b2i v6 + 128 * b2i v7) k = [v0, v1, v2, v3, v4, v5, v6, v7].getD k false := by
  match k, hk with
  | 0, _ => cases v0 <;> cases v1 <;> cases v2 <;> cases v3 <;> cases v4 <;> cases v5 <;> cases v6 <;> cases v7 <;> decide
  | 1, _ => cases v0 <;> cases v1 <;> cases v2 <;> cases v3 <;> cases v4 <;> cases v5 <;> cases v6 <;> cases v7 <;> decide
  | 2, _ => cases v0 <;> cases v1 <;> cases v2 <;> cases v3 <;> cases v4 <;> cases v5 <;> cases v6 <;> cases v7 <;> decide
  | 3, _ => cases v0 <;> cases v1 <;> cases v2 <;> cases v3 <;> cases v4 <;> cases v5 <;> cases v6 <;> cases v7 <;> decide
  | 4, _ => cases v0 <;> cases v1 <;> cases v2 <;> cases v3 <;> cases v4 <;> cases v5 <;> cases v6 <;> cases v7 <;> decide
  | 5, _ => cases v0 <;> cases v1 <;> cases v2 <;> cases v3 <;> cases v4 <;> cases v5 <;> cases v6 <;> cases v7 <;> decide
  | 6, _ => cases v0 <;> cases v1 <;> cases v2 <;> cases v3 <;> cases v4 <;> cases v5 <;> cases v6 <;> cases v7 <;> decide
  | 7, _ => cases v0 <;> cases v1 <;> cases v2 <;> cases v3 <;> cases v4 <;> cases v5 <;> cases v6 <;> cases v7 <;> decide

theorem bitAt_pack (bs : List Bool) (i : Nat) : bitAt (packB bs) i = bs.getD i false := by
  have hm : i % 8 < 8 := Nat.mod_lt _ (by decide)
  rw [bitAt, packB_getD, byteAt, bitV_byte _ _ _ _ _ _ _ _ _ hm]
  have hi : i = 8 * (i / 8) + i % 8 := by omega
  generalize i % 8 = k at *
  generalize i / 8 = j at *
  subst hi
  match k, hm with
  | 0, _ => rfl
  | 1, _ => rfl
  | 2, _ => rfl
  | 3, _ => rfl
  | 4, _ => rfl
  | 5, _ => rfl
  | 6, _ => rfl
  | 7, _ => rfl

/-- What is packed is there again, and fewer than eight bits behind it. -/
theorem unpack_pack (bs : List Bool) : unpackB (packB bs) = bs ++ List.replicate (8 * ((bs.length + 7) / 8) - bs.length) false := by
  apply List.ext_getElem?
  intro i
  by_cases hi : i < 8 * ((bs.length + 7) / 8)
  · have h1 : (unpackB (packB bs))[i]? = some (bs.getD i false) := by
      simp [unpackB, packB_length, hi, bitAt_pack]
    rw [h1]
    by_cases h2 : i < bs.length
    · rw [List.getElem?_append_left h2, List.getD_eq_getElem?_getD, List.getElem?_eq_getElem h2]; rfl
    · rw [List.getElem?_append_right (by omega), getD_beyond bs (by omega), List.getElem?_replicate, if_pos (by omega)]
  · rw [List.getElem?_eq_none (by rw [unpackB_length, packB_length]; omega), List.getElem?_eq_none (by simp; omega)]

end Go.V

/-! Codes of symbols: how both texts come to them. Plain Lean; no program. -/
namespace Go.V
set_option linter.unusedVariables false
set_option linter.unusedSimpArgs false

def posN (ls : List Int) : Nat := (ls.filter fun x => decide (0 < x)).length

theorem range_ln (ls : List Int) : (List.range ls.length).map (ln ls) = ls := by
  have := sum_range_getD id ls
  simpa using this

theorem posL_len (ls : List Int) : (posL ls).length = posN ls := by
  unfold posN
  conv => rhs; rw [← range_ln ls]
  rw [List.filter_map, List.length_map]
  rfl

theorem rightL_bad {ls : List Int} {x : Int} (hx : x ∈ ls) (h : x < 0 ∨ 15 < x) : rightL ls = false := by
  unfold rightL
  have : ls.all (fun x => decide (0 ≤ x ∧ x ≤ 15)) = false := by
    rw [List.all_eq_false]
    exact ⟨x, hx, by simp; omega⟩
  rw [this]
  simp
theorem rightL_all {ls : List Int} (h : ∀ x ∈ ls, 0 ≤ x ∧ x ≤ 15) : rightL ls = (decide (ls.length ≤ 256) && ((decide (posN ls = 1) && ls.all (fun x => decide (x ≤ 1))) || decide (kraftL ls = 32768))) := by
  unfold rightL
  have : ls.all (fun x => decide (0 ≤ x ∧ x ≤ 15)) = true := by
    rw [List.all_eq_true]
    intro x hx; simpa using h x hx
  rw [this, posL_len]
  simp
/-- One symbol: its length is one just where there is a one. -/
theorem one_iff {ls : List Int} (hn : posN ls = 1) : ls.contains 1 = ls.all (fun x => decide (x ≤ 1)) := by
  unfold posN at hn
  obtain ⟨y, hy⟩ := List.length_eq_one_iff.1 hn
  have hm : ∀ x, x ∈ ls → 0 < x → x = y := by
    intro x hx h0
    have : x ∈ ls.filter (fun x => decide (0 < x)) := List.mem_filter.2 ⟨hx, by simpa using h0⟩
    rw [hy] at this
    simpa using this
  have hyin : y ∈ ls ∧ 0 < y := by
    have : y ∈ ls.filter (fun x => decide (0 < x)) := by rw [hy]; simp
    simpa using List.mem_filter.1 this
  rw [Bool.eq_iff_iff, List.contains_iff_mem, List.all_eq_true]
  constructor
  · intro h x hx
    have h1 := hm 1 h (by omega)
    by_cases h0 : 0 < x
    · have := hm x hx h0
      simp; omega
    · simp; omega
  · intro h
    have := h y hyin.1
    have e : y = 1 := by simp at this; omega
    rw [← e]; exact hyin.1

theorem posN_snoc (ls : List Int) (x : Int) : posN (ls ++ [x]) = posN ls + (if 0 < x then 1 else 0) := by
  unfold posN
  rw [List.filter_append, List.length_append]
  congr 1
  split <;> simp_all
theorem posN_le (ls : List Int) : posN ls ≤ ls.length := List.length_filter_le _ _

/-- One code more, in the order. -/
theorem code_step {ls : List Int} (h : rightL ls = true) {A B : List Nat} {s : Nat} (he : ordL ls = A ++ s :: B) :
    0 ≤ (foldC ls A).2.1 ∧ (foldC ls A).2.1 ≤ ln ls s ∧ ((foldC ls A).2.1 = 0 → (foldC ls A).1 = 0) ∧ (foldC ls A).1 * 2 ^ (ln ls s - (foldC ls A).2.1).toNat = cd ls s ∧ 0 ≤ cd ls s ∧ cd ls s ≤ 32767 ∧ s < ls.length ∧ 0 < ln ls s ∧ ln ls s ≤ 15 ∧
    (foldC ls A).2.2.length = ls.length ∧ foldC ls (A ++ [s]) = (cd ls s + 1, ln ls s, (foldC ls A).2.2.set s (cd ls s)) := by
  obtain ⟨h1, h2, h3⟩ := right_is h
  have hs := ordL_sorted ls
  have hn := ordL_nodup ls
  rw [he] at hs hn
  have hb : ∀ t ∈ A ++ s :: B, t < ls.length ∧ 0 < ln ls t ∧ ln ls t ≤ 15 := by
    intro t ht
    rw [← he] at ht
    exact ⟨(ordL_mem.1 ht).1, (ordL_mem.1 ht).2, (h2 t).2⟩
  have hA := coded ls A hs.left (List.nodup_append.1 hn).1 (fun t ht => hb t (List.mem_append_left _ ht))
  obtain ⟨b1, b2, b3⟩ := hb s (by simp)
  have hle : (foldC ls A).2.1 ≤ ln ls s := by
    rcases hA.end_ with rfl | ⟨A', t, rfl, e⟩
    · show (0 : Int) ≤ _; omega
    · rw [e]; exact hs.across t (by simp) s (by simp)
  have hx := step_next (n := (foldC ls A).1) hA.last ⟨hle, b3⟩
  have hcd := cd_at h he
  have hv : (foldC ls A).1 * 2 ^ (ln ls s - (foldC ls A).2.1).toNat = cd ls s := by
    have : (foldC ls A).1 * 2 ^ (ln ls s - (foldC ls A).2.1).toNat * 2 ^ (15 - ln ls s).toNat = cd ls s * 2 ^ (15 - ln ls s).toNat := by
      rw [hx, hA.next, hcd]
    exact Int.eq_of_mul_eq_mul_right (Int.ne_of_gt (pow_pos' _)) this
  have hlt := cd_lt h ⟨b1, b2⟩
  have hp : (2 : Int) ^ (ln ls s).toNat ≤ 2 ^ 15 := by
    have e1 : ((2 ^ (ln ls s).toNat : Nat) : Int) = 2 ^ (ln ls s).toNat := by simp
    have := Nat.pow_le_pow_right (n := 2) (by omega) (show (ln ls s).toNat ≤ 15 by omega)
    omega
  refine ⟨hA.last.1, hle, ?_, hv, cd_nonneg h s, by omega, b1, b2, b3, hA.len, ?_⟩
  · intro e
    rcases hA.end_ with rfl | ⟨A', t, rfl, e'⟩
    · rfl
    · have := hb t (by simp)
      omega
  · rw [foldC_snoc]
    show (_ + 1, ln ls s, _) = _
    rw [hv]

end Go.V

/-! Symbols out of bits. Plain Lean; no program. -/
namespace Go.V
set_option linter.unusedVariables false
set_option linter.unusedSimpArgs false

/-- May a symbol be written? -/
def validS (ls : List Int) (s : Int) : Bool := decide (0 ≤ s ∧ s < (ls.length : Int) ∧ ln ls s.toNat ≠ 0)
/-- .. and what is written then. -/
def bitsFor (ls : List Int) (s : Int) : List Bool := if validS ls s then bitsOf (cd ls s.toNat) (ln ls s.toNat).toNat else []

/-- Whose are so many bits, of a value? -/
def findSym (ls : List Int) (n : Nat) (v : Int) : Option Nat := (List.range ls.length).find? fun s => decide (ln ls s = (n : Int) ∧ cd ls s = v)
/-- The first symbol of bits, and how many bits it has. -/
def takeC (ls : List Int) : Nat → Nat → Int → List Bool → Option (Nat × Nat)
  | 0, _, _, _ => none
  | _ + 1, _, _, [] => none
  | k + 1, n, v, b :: bs => match findSym ls (n + 1) (2 * v + b2i b) with
    | some s => some (s, n + 1)
    | none => takeC ls k (n + 1) (2 * v + b2i b) bs

theorem findSym_some {ls : List Int} (h : rightL ls = true) {n s : Nat} {v : Int} (hn : 0 < n) : findSym ls n v = some s ↔ s < ls.length ∧ ln ls s = (n : Int) ∧ cd ls s = v := by
  constructor
  · intro e
    have h1 := List.find?_some e
    have h2 := List.mem_of_find?_eq_some e
    simp only [decide_eq_true_eq] at h1
    exact ⟨by simpa using h2, h1⟩
  · rintro ⟨h1, h2, h3⟩
    cases e : findSym ls n v with
    | none =>
      have := List.find?_eq_none.1 e s (by simpa using h1)
      simp [h2, h3] at this
    | some t =>
      have h4 := List.find?_some e
      have h5 := List.mem_of_find?_eq_some e
      simp only [decide_eq_true_eq] at h4
      have : t = s := cd_inj h ⟨by simpa using h5, by omega⟩ ⟨h1, by omega⟩ (by omega) (by omega)
      rw [this]

/-- The value of the highest bits. -/
theorem bitV_split (v : Int) (n : Nat) (h : 0 ≤ v) : v / 2 ^ n = 2 * (v / 2 ^ (n + 1)) + b2i (bitV v n) := by
  have hp := pow_pos' n
  have h1 : v / 2 ^ (n + 1) = v / 2 ^ n / 2 := by
    rw [pow_succ', Int.mul_comm, Int.ediv_ediv_of_nonneg (Int.le_of_lt hp)]
  rw [h1]
  unfold bitV b2i
  have := Int.emod_nonneg (v / 2 ^ n) (show (2 : Int) ≠ 0 by omega)
  have := Int.emod_lt_of_pos (v / 2 ^ n) (show (0 : Int) < 2 by omega)
  have := Int.mul_ediv_add_emod (v / 2 ^ n) 2
  by_cases e : v / 2 ^ n % 2 = 1
  · simp [e]; omega
  · have e2 : v / 2 ^ n % 2 = 0 := by omega
    simp [e2]; omega

/-- What was written for a symbol is read as that symbol, whatever comes behind it. -/
theorem takeC_put {ls : List Int} (h : rightL ls = true) {s : Nat} (hs : s < ls.length ∧ 0 < ln ls s) (rest : List Bool) : takeC ls 15 0 0 (bitsOf (cd ls s) (ln ls s).toNat ++ rest) = some (s, (ln ls s).toNat) := by
  obtain ⟨_, hrng, _⟩ := right_is h
  have hb := hrng s
  have hc := cd_lt h hs
  have hc0 := cd_nonneg h s
  -- with r bits left, the value so far
  have step : ∀ (r n : Nat), r + n = (ln ls s).toNat → 0 < r → takeC ls (15 - n) n (cd ls s / 2 ^ r) (bitsOf (cd ls s) r ++ rest) = some (s, (ln ls s).toNat) := by
    intro r
    induction r with
    | zero => intro n _ h0; omega
    | succ r ih =>
      intro n hn _
      obtain ⟨k, hk⟩ : ∃ k, 15 - n = k + 1 := ⟨15 - n - 1, by omega⟩
      rw [hk]
      show (match findSym ls (n + 1) (2 * (cd ls s / 2 ^ (r + 1)) + b2i (bitV (cd ls s) r)) with
        | some s => some (s, n + 1)
        | none => takeC ls k (n + 1) (2 * (cd ls s / 2 ^ (r + 1)) + b2i (bitV (cd ls s) r)) (bitsOf (cd ls s) r ++ rest)) = _
      rw [← bitV_split _ _ hc0]
      by_cases hr : r = 0
      · subst hr
        have e : findSym ls (n + 1) (cd ls s / 2 ^ 0) = some s := (findSym_some h (by omega)).2 ⟨hs.1, by omega, by simp⟩
        rw [e]
        show some (s, n + 1) = _
        rw [show n + 1 = (ln ls s).toNat by omega]
      · have e : findSym ls (n + 1) (cd ls s / 2 ^ r) = none := by
          cases e : findSym ls (n + 1) (cd ls s / 2 ^ r) with
          | none => rfl
          | some t =>
            exfalso
            obtain ⟨t1, t2, t3⟩ := (findSym_some h (by omega)).1 e
            have := cd_free h (s := t) (t := s) ⟨t1, by omega⟩ hs (.inl (by omega))
            have e2 : (ln ls s - ln ls t).toNat = r := by omega
            rw [e2] at this
            omega
        rw [e]
        show takeC ls k (n + 1) _ _ = _
        have := ih (n + 1) (by omega) (by omega)
        rwa [show 15 - (n + 1) = k by omega] at this
  have h0 := step (ln ls s).toNat 0 (by omega) (by omega)
  have hz : cd ls s / 2 ^ (ln ls s).toNat = 0 := Int.ediv_eq_zero_of_lt hc0 (by omega)
  rw [hz] at h0
  exact h0

/-- What a taking takes. -/
theorem takeC_len (ls : List Int) : ∀ (k n : Nat) (v : Int) (bs : List Bool) (s m : Nat), takeC ls k n v bs = some (s, m) → n < m ∧ m ≤ n + bs.length ∧ m ≤ n + k ∧ s < ls.length
  | 0, n, v, bs, s, m, h => by simp [takeC] at h
  | k + 1, n, v, [], s, m, h => by simp [takeC] at h
  | k + 1, n, v, b :: bs, s, m, h => by
    unfold takeC at h
    split at h
    · rename_i t ht
      cases h
      have := List.mem_of_find?_eq_some ht
      simp at this
      simp; omega
    · have := takeC_len ls k (n + 1) _ bs s m h
      simp; omega
end Go.V
