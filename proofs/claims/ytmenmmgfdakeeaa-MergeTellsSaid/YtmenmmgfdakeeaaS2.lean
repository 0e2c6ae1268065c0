/- What the steps of a stable sort by merging in place do to lists. Plain Lean; no program. -/
import Derived.Test.YtmenmmgfdakeeaaS1
namespace Go.V
set_option linter.unusedVariables false

section
variable {α : Type} {key : α → Int}

theorem fin_ins {S1 S2 : List α} {x : α} (h : SortedK key (S1 ++ S2)) (h2 : ∀ z ∈ S2, key x < key z) (h1 : S1 = [] ∨ ∃ S y, S1 = S ++ [y] ∧ key y ≤ key x) :
    SortedK key (S1 ++ x :: S2) ∧ SameK key (S1 ++ x :: S2) (S1 ++ S2 ++ [x]) := by
  refine ⟨h.left.append (List.pairwise_cons.2 ⟨fun z hz => by have := h2 z hz; omega, h.right⟩) ?_, ?_⟩
  · intro z hz u hu
    rcases h1 with rfl | ⟨S, y, rfl, hy⟩
    · simp at hz
    · have hzy : key z ≤ key y := by
        rcases List.mem_append.1 hz with e | e
        · exact h.left.across z e y (by simp)
        · have : z = y := by simpa using e
          rw [this]; omega
      rcases List.mem_cons.1 hu with e | e
      · rw [e]; omega
      · have := h2 u e; omega
  · rw [List.append_assoc]
    refine (SameK.refl S1).append ?_
    show SameK key ([x] ++ S2) (S2 ++ [x])
    apply SameK.swap
    intro a ha b hb
    have : a = x := by simpa using ha
    subst this
    have := h2 b hb
    omega

/-- One member put in among sorted ones, by a search. -/
theorem put_front {Y1 Y3 : List α} {x : α} (h : SortedK key (Y1 ++ Y3)) (h1 : ∀ y ∈ Y1, key y < key x) (h3 : ∀ y ∈ Y3, key x ≤ key y) :
    SortedK key (Y1 ++ [x] ++ Y3) ∧ SameK key (Y1 ++ [x] ++ Y3) ([x] ++ (Y1 ++ Y3)) := by
  refine ⟨(h.left.append (by simp [SortedK]) ?_).append h.right ?_, ?_⟩
  · intro a ha b hb
    have : b = x := by simpa using hb
    subst this
    have := h1 a ha; omega
  · intro a ha b hb
    rcases List.mem_append.1 ha with e | e
    · exact h.across a e b hb
    · have : a = x := by simpa using e
      subst this
      exact h3 b hb
  · rw [← List.append_assoc]
    refine SameK.append ?_ (SameK.refl _)
    apply SameK.swap
    intro a ha b hb
    have : b = x := by simpa using hb
    subst this
    have := h1 a ha; omega

theorem put_back {X1 X3 : List α} {y : α} (h : SortedK key (X1 ++ X3)) (h1 : ∀ x ∈ X1, key x ≤ key y) (h3 : ∀ x ∈ X3, key y < key x) :
    SortedK key (X1 ++ [y] ++ X3) ∧ SameK key (X1 ++ [y] ++ X3) (X1 ++ X3 ++ [y]) := by
  refine ⟨(h.left.append (by simp [SortedK]) ?_).append h.right ?_, ?_⟩
  · intro a ha b hb
    have : b = y := by simpa using hb
    subst this
    exact h1 a ha
  · intro a ha b hb
    rcases List.mem_append.1 ha with e | e
    · exact h.across a e b hb
    · have : a = y := by simpa using e
      subst this
      have := h3 b hb; omega
  · rw [List.append_assoc, List.append_assoc]
    refine (SameK.refl _).append ?_
    apply SameK.swap
    intro a ha b hb
    have : a = y := by simpa using ha
    subst this
    have := h3 b hb; omega

theorem SortedK.last_le {S : List α} {y : α} (h : SortedK key (S ++ [y])) : ∀ x ∈ S ++ [y], key x ≤ key y := by
  intro x hx
  rcases List.mem_append.1 hx with e | e
  · exact h.across x e y (by simp)
  · have : x = y := by simpa using e
    rw [this]; omega
theorem SortedK.head_le {S : List α} {y : α} (h : SortedK key (y :: S)) : ∀ x ∈ y :: S, key y ≤ key x := by
  intro x hx
  rcases List.mem_cons.1 hx with e | e
  · rw [e]; omega
  · exact (List.pairwise_cons.1 h).1 x e

/-- Two sorted lists, each cut in two, the inner parts changed about: both halves put in order are all in order. -/
theorem sym_join {X1 X2 Y1 Y2 Z1 Z2 : List α} (hX : SortedK key (X1 ++ X2)) (hY : SortedK key (Y1 ++ Y2)) (h1 : ∀ x ∈ X1, ∀ y ∈ Y2, key x ≤ key y) (h2 : ∀ y ∈ Y1, ∀ x ∈ X2, key y < key x)
    (hZ1 : SortedK key Z1) (hZ2 : SortedK key Z2) (s1 : SameK key Z1 (X1 ++ Y1)) (s2 : SameK key Z2 (X2 ++ Y2)) :
    SortedK key (Z1 ++ Z2) ∧ SameK key (Z1 ++ Z2) (X1 ++ X2 ++ (Y1 ++ Y2)) := by
  refine ⟨hZ1.append hZ2 ?_, (s1.append s2).trans ?_⟩
  · intro a ha b hb
    rcases List.mem_append.1 (s1.mem ha) with e | e <;> rcases List.mem_append.1 (s2.mem hb) with f | f
    · exact hX.across a e b f
    · exact h1 a e b f
    · have := h2 a e b f; omega
    · exact hY.across a e b f
  · have : SameK key (X1 ++ ((Y1 ++ X2) ++ Y2)) (X1 ++ ((X2 ++ Y1) ++ Y2)) := by
      refine (SameK.refl _).append (SameK.append ?_ (SameK.refl _))
      apply SameK.swap
      intro a ha b hb
      have := h2 a ha b hb; omega
    simpa using this

theorem cut_at {L : List α} {k : Nat} (h : k < L.length) : ∃ P y Q, L = P ++ y :: Q ∧ P.length = k ∧ L[k]? = some y := by
  refine ⟨L.take k, L[k], L.drop (k + 1), ?_, by simp; omega, by simp⟩
  simp

theorem SortedK.get {L : List α} (h : SortedK key L) {i j : Nat} {x y : α} (hij : i ≤ j) (hx : L[i]? = some x) (hy : L[j]? = some y) : key x ≤ key y := by
  obtain ⟨hi, rfl⟩ := List.getElem?_eq_some_iff.1 hx
  obtain ⟨hj, rfl⟩ := List.getElem?_eq_some_iff.1 hy
  rcases Nat.lt_or_ge i j with hlt | hge
  · exact (List.pairwise_iff_getElem.1 h) i j hi hj hlt
  · have : i = j := by omega
    subst this; omega

theorem in_take {L : List α} {k : Nat} {x : α} (h : x ∈ L.take k) : ∃ i, i < k ∧ L[i]? = some x := by
  obtain ⟨i, hi, rfl⟩ := List.mem_iff_getElem.1 h
  have hi' := hi
  rw [List.length_take] at hi'
  refine ⟨i, by omega, ?_⟩
  rw [List.getElem_take]
  exact List.getElem?_eq_getElem _

theorem in_drop {L : List α} {k : Nat} {x : α} (h : x ∈ L.drop k) : ∃ i, k ≤ i ∧ L[i]? = some x := by
  obtain ⟨i, hi, rfl⟩ := List.mem_iff_getElem.1 h
  rw [List.getElem_drop]
  exact ⟨k + i, by omega, List.getElem?_eq_getElem _⟩

/-- Parts of s members each in order, and one that may be shorter. -/
inductive Blk (key : α → Int) (s : Nat) : List α → Prop
  | last {Z} : Z.length ≤ s → SortedK key Z → Blk key s Z
  | cons {Z1 Z2} : Z1.length = s → SortedK key Z1 → Blk key s Z2 → Blk key s (Z1 ++ Z2)

inductive Full (key : α → Int) (s : Nat) : List α → Prop
  | nil : Full key s []
  | snoc {U Z} : Full key s U → Z.length = s → SortedK key Z → Full key s (U ++ Z)

theorem Full.blk {s : Nat} {U V : List α} (h : Full key s U) (hv : Blk key s V) : Blk key s (U ++ V) := by
  induction h generalizing V with
  | nil => exact hv
  | snoc h1 h2 h3 ih =>
    rw [List.append_assoc]
    exact ih (.cons h2 h3 hv)

theorem Blk.small {s : Nat} {Z : List α} (h : Blk key s Z) (hs : 0 < s) (hl : Z.length ≤ s) : SortedK key Z := by
  cases h with
  | last h1 h2 => exact h2
  | cons h1 h2 h3 =>
    rename_i Z1 Z2
    have : Z2 = [] := List.eq_nil_of_length_eq_zero (by simp at hl; omega)
    subst this
    simpa using h2

theorem Blk.cut {s : Nat} {Z : List α} (h : Blk key s Z) (hl : s < Z.length) : ∃ Z1 Z2, Z = Z1 ++ Z2 ∧ Z1.length = s ∧ SortedK key Z1 ∧ Blk key s Z2 := by
  cases h with
  | last h1 h2 => omega
  | cons h1 h2 h3 => exact ⟨_, _, rfl, h1, h2, h3⟩

theorem Blk.cut2 {s : Nat} {Z : List α} (h : Blk key s Z) (hs : 0 < s) (hl : s + s ≤ Z.length) : ∃ Z1 Z2 Z3, Z = Z1 ++ Z2 ++ Z3 ∧ Z1.length = s ∧ Z2.length = s ∧ SortedK key Z1 ∧ SortedK key Z2 ∧ Blk key s Z3 := by
  obtain ⟨Z1, Z', rfl, h1, h2, h3⟩ := h.cut (by omega)
  cases h3 with
  | last h4 h5 =>
    refine ⟨Z1, Z', [], by simp, h1, by simp at hl; omega, h2, h5, .last (by simp) (by simp [SortedK])⟩
  | cons h4 h5 h6 =>
    rename_i Z2 Z3
    exact ⟨Z1, Z2, Z3, by simp, h1, h4, h2, h5, h6⟩
end
end Go.V
