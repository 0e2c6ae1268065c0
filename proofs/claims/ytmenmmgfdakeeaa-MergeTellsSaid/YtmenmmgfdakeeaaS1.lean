/- Lists that are told apart by a number of each member: sorted, and alike member by member of one number (what a stable sort keeps). Plain Lean; no program. -/
namespace Go.V
set_option linter.unusedVariables false

section
variable {α : Type} (key : α → Int)

/-- Members of each one number come in the same order in both. -/
def SameK (xs ys : List α) : Prop := ∀ k : Int, xs.filter (fun x => key x == k) = ys.filter (fun x => key x == k)

def SortedK (xs : List α) : Prop := xs.Pairwise (fun x y => key x ≤ key y)

variable {key}

theorem SameK.refl (xs : List α) : SameK key xs xs := fun _ => rfl
theorem SameK.symm {xs ys : List α} (h : SameK key xs ys) : SameK key ys xs := fun k => (h k).symm
theorem SameK.trans {xs ys zs : List α} (h : SameK key xs ys) (h' : SameK key ys zs) : SameK key xs zs := fun k => (h k).trans (h' k)
theorem SameK.append {xs ys xs' ys' : List α} (h : SameK key xs ys) (h' : SameK key xs' ys') : SameK key (xs ++ xs') (ys ++ ys') := fun k => by
  rw [List.filter_append, List.filter_append, h k, h' k]

theorem SameK.mem {xs ys : List α} (h : SameK key xs ys) {x : α} (hx : x ∈ xs) : x ∈ ys := by
  have : x ∈ xs.filter (fun y => key y == key x) := by simp [hx]
  rw [h] at this
  exact (List.mem_filter.1 this).1

theorem SameK.mem_iff {xs ys : List α} (h : SameK key xs ys) (x : α) : x ∈ xs ↔ x ∈ ys := ⟨h.mem, h.symm.mem⟩

theorem SameK.nil {ys : List α} (h : SameK key [] ys) : ys = [] := by
  cases ys with
  | nil => rfl
  | cons y ys => exact absurd (h.symm.mem (x := y) (by simp)) (by simp)

theorem SameK.length : ∀ {xs ys : List α}, SameK key xs ys → xs.length = ys.length := by
  intro xs
  induction xs with
  | nil => intro ys h; rw [h.nil]
  | cons x xs ih =>
    intro ys h
    have hx : x ∈ ys.filter (fun y => key y == key x) := by rw [← h]; simp
    have h1 := h (key x)
    simp only [List.filter_cons, beq_self_eq_true, if_true] at h1
    obtain ⟨A, B, e1, e2, e3⟩ := List.filter_eq_cons_iff.1 h1.symm
    have hA : A.filter (fun y => key y == key x) = [] := by
      rw [List.filter_eq_nil_iff]; exact e2
    have h2 : SameK key xs (A ++ B) := by
      intro k
      have h3 := h k
      rw [e1] at h3
      simp only [List.filter_cons, List.filter_append] at h3 ⊢
      by_cases hk : key x == k
      · have hk' : key x = k := by simpa using hk
        subst hk'
        simp only [beq_self_eq_true, if_true] at h3
        rw [hA] at h3 ⊢
        simpa using h3
      · simp only [hk] at h3
        simpa using h3
    rw [e1]
    have := ih h2
    simp only [List.length_cons, List.length_append] at this ⊢
    omega

/-- Two neighbouring parts of which no member of the one has the number of a member of the other one may change places. -/
theorem SameK.swap {xs ys : List α} (h : ∀ x ∈ xs, ∀ y ∈ ys, key x ≠ key y) : SameK key (xs ++ ys) (ys ++ xs) := by
  intro k
  rw [List.filter_append, List.filter_append]
  by_cases hx : ∃ x ∈ xs, key x = k
  · obtain ⟨x, hx, rfl⟩ := hx
    have : ys.filter (fun y => key y == key x) = [] := by
      rw [List.filter_eq_nil_iff]; intro y hy; have := h x hx y hy; simp; omega
    rw [this]; simp
  · have : xs.filter (fun y => key y == k) = [] := by
      rw [List.filter_eq_nil_iff]; intro y hy; simp; intro e; exact hx ⟨y, hy, e⟩
    rw [this]; simp

theorem SameK.in_part {A B xs ys : List α} (h : SameK key xs ys) : SameK key (A ++ xs ++ B) (A ++ ys ++ B) :=
  ((SameK.refl A).append h).append (SameK.refl B)

theorem SortedK.unique : ∀ {xs ys : List α}, SortedK key xs → SortedK key ys → SameK key xs ys → xs = ys := by
  intro xs
  induction xs with
  | nil => intro ys _ _ h; exact h.nil.symm
  | cons x xs ih =>
    intro ys h1 h2 h
    cases ys with
    | nil => exact absurd h.symm.nil (by simp)
    | cons y ys =>
      have hx : key y ≤ key x := by
        rcases List.mem_cons.1 (h.mem (x := x) (by simp)) with e | e
        · rw [e]; omega
        · exact (List.pairwise_cons.1 h2).1 x e
      have hy : key x ≤ key y := by
        rcases List.mem_cons.1 (h.symm.mem (x := y) (by simp)) with e | e
        · rw [e]; omega
        · exact (List.pairwise_cons.1 h1).1 y e
      have e : key x = key y := by omega
      have hk := h (key x)
      simp only [List.filter_cons, beq_self_eq_true, if_true, ← e] at hk
      have hxy : x = y := (List.cons.inj hk).1
      subst hxy
      rw [ih (List.pairwise_cons.1 h1).2 (List.pairwise_cons.1 h2).2]
      intro k
      have hk := h k
      simp only [List.filter_cons] at hk
      split at hk
      · exact (List.cons.inj hk).2
      · exact hk

theorem SortedK.append {xs ys : List α} (h1 : SortedK key xs) (h2 : SortedK key ys) (h : ∀ x ∈ xs, ∀ y ∈ ys, key x ≤ key y) : SortedK key (xs ++ ys) :=
  List.pairwise_append.2 ⟨h1, h2, h⟩
theorem SortedK.left {xs ys : List α} (h : SortedK key (xs ++ ys)) : SortedK key xs := (List.pairwise_append.1 h).1
theorem SortedK.right {xs ys : List α} (h : SortedK key (xs ++ ys)) : SortedK key ys := (List.pairwise_append.1 h).2.1
theorem SortedK.across {xs ys : List α} (h : SortedK key (xs ++ ys)) : ∀ x ∈ xs, ∀ y ∈ ys, key x ≤ key y := (List.pairwise_append.1 h).2.2

/-- A list put in order, one member by one; a member stands behind those of its own number. -/
def ins (key : α → Int) (x : α) : List α → List α
  | [] => [x]
  | y :: ys => if key y ≤ key x then y :: ins key x ys else x :: y :: ys
def inOrder (key : α → Int) (xs : List α) : List α := xs.foldl (fun l x => ins key x l) []

theorem ins_same (x : α) : ∀ {l : List α}, SortedK key l → SameK key (ins key x l) (l ++ [x])
  | [], _ => SameK.refl _
  | y :: ys, h => by
    unfold ins
    split
    · exact (SameK.refl [y]).append (ins_same x (List.pairwise_cons.1 h).2)
    · rename_i hlt
      have hlt : key x < key y := by omega
      show SameK key ([x] ++ (y :: ys)) (y :: ys ++ [x])
      apply SameK.swap
      intro a ha b hb
      have ha : a = x := by simpa using ha
      subst ha
      rcases List.mem_cons.1 hb with e | e
      · rw [e]; omega
      · have := (List.pairwise_cons.1 h).1 b e; omega

theorem ins_sorted (x : α) : ∀ {l : List α}, SortedK key l → SortedK key (ins key x l)
  | [], _ => by simp [ins, SortedK]
  | y :: ys, h => by
    unfold ins
    have h' := List.pairwise_cons.1 h
    split
    · rename_i hle
      refine List.pairwise_cons.2 ⟨fun z hz => ?_, ins_sorted x h'.2⟩
      rcases List.mem_append.1 ((ins_same x h'.2).mem hz) with e | e
      · exact h'.1 z e
      · have : z = x := by simpa using e
        rw [this]; exact hle
    · rename_i hlt
      refine List.pairwise_cons.2 ⟨fun z hz => ?_, h⟩
      rcases List.mem_cons.1 hz with e | e
      · rw [e]; omega
      · have := h'.1 z e; omega

theorem inOrder_aux : ∀ (xs l : List α), SortedK key l → SortedK key (xs.foldl (fun l x => ins key x l) l) ∧ SameK key (xs.foldl (fun l x => ins key x l) l) (l ++ xs)
  | [], l, h => by simpa using ⟨h, SameK.refl l⟩
  | x :: xs, l, h => by
    have ih := inOrder_aux xs (ins key x l) (ins_sorted x h)
    refine ⟨ih.1, ih.2.trans ?_⟩
    have := (ins_same x h).append (SameK.refl xs)
    simpa using this

theorem inOrder_sorted (xs : List α) : SortedK key (inOrder key xs) := (inOrder_aux xs [] (by simp [SortedK])).1
theorem inOrder_same (xs : List α) : SameK key (inOrder key xs) xs := by simpa [inOrder] using (inOrder_aux (key := key) xs [] (by simp [SortedK])).2
theorem inOrder_of {xs ys : List α} (h1 : SortedK key ys) (h2 : SameK key ys xs) : ys = inOrder key xs := SortedK.unique h1 (inOrder_sorted xs) (h2.trans (inOrder_same xs).symm)
end
end Go.V
