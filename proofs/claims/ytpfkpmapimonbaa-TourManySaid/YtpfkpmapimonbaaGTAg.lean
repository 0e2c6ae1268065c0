/- Own texts, packed: Z1, Z2, Z3, Z4, Z5, Z6, Z7, Z8, Z9. -/
import Derived.Test.YtpfkpmapimonbaaTg
import Derived.Test.YtpfkpmapimonbaaGCg

/-! Treaps as lists of nodes: trees, what their nodes hold, what stays. -/
namespace Go.Proofs.Ytpfkpmapimonbaa
open Go Go.V Go.RowKit
set_option linter.unusedVariables false
set_option linter.unusedSimpArgs false
set_option maxHeartbeats 4000000

structure Nd where
  (up left right size rank : Int)
inductive Tr where
  | nil : Tr
  | nd : Tr → Nat → Tr → Tr
namespace Tr
def ord : Tr → List Nat
  | nil => []
  | nd l x r => l.ord ++ x :: r.ord
def idx : Tr → Int
  | nil => -1
  | nd _ x _ => x
end Tr
theorem Tr.idx_ge (t : Tr) : -1 ≤ t.idx := by by_cases h : t.idx = -1 <;> cases t <;> simp_all [Tr.idx] <;> omega
theorem Tr.idx_mem {t : Tr} {x : Nat} (h : t.idx = x) : x ∈ t.ord := by
  cases t with
  | nil => simp only [Tr.idx] at h; omega
  | nd l y r => simp only [Tr.idx] at h; have : y = x := by omega
                subst this; simp [Tr.ord]
theorem Tr.idx_nil {t : Tr} (h : t.idx = -1) : t = .nil := by
  cases t with
  | nil => rfl
  | nd l y r => simp only [Tr.idx] at h; omega
/-- Whose parent a tree's root says it is. -/
def UpP (L : List Nd) (t : Tr) (p : Int) : Prop := ∀ x : Nat, t.idx = x → ∃ n, L[x]? = some n ∧ n.up = p
/-- The nodes are as a tree has them. -/
def Rep (L : List Nd) : Tr → Prop
  | .nil => True
  | .nd l x r => (∃ n, L[x]? = some n ∧ n.left = l.idx ∧ n.right = r.idx ∧ n.size = ((l.ord.length + 1 + r.ord.length : Nat) : Int)) ∧ UpP L l x ∧ UpP L r x ∧ Rep L l ∧ Rep L r
theorem UpP.nil (L : List Nd) (p : Int) : UpP L .nil p := fun x h => by simp only [Tr.idx] at h; omega
theorem Rep.lt {L : List Nd} : ∀ {t : Tr}, Rep L t → ∀ x ∈ t.ord, x < L.length
  | .nil, _, x, hx => by simp [Tr.ord] at hx
  | .nd l y r, h, x, hx => by
    obtain ⟨⟨n, hn, _⟩, _, _, hl, hr⟩ := h
    simp only [Tr.ord, List.mem_append, List.mem_cons] at hx
    rcases hx with hx | hx | hx
    · exact hl.lt x hx
    · subst hx; exact (List.getElem?_eq_some_iff.1 hn).1
    · exact hr.lt x hx
/-- Two lists of nodes agree at a node but for its parent. -/
def Agr (L L' : List Nd) (k : Nat) : Prop := ∀ n, L[k]? = some n → ∃ n', L'[k]? = some n' ∧ n'.left = n.left ∧ n'.right = n.right ∧ n'.size = n.size
theorem Agr.of_eq {L L' : List Nd} {k : Nat} (h : L'[k]? = L[k]?) : Agr L L' k := fun n hn => ⟨n, by rw [h, hn], rfl, rfl, rfl⟩
theorem UpP.frame {L L' : List Nd} {t : Tr} {p : Int} (h : UpP L t p) (hu : ∀ k : Nat, t.idx = k → ∀ n, L[k]? = some n → ∃ n', L'[k]? = some n' ∧ n'.up = n.up) : UpP L' t p := fun x hx => by
  obtain ⟨n, h1, h2⟩ := h x hx
  obtain ⟨n', h3, h4⟩ := hu x hx n h1
  exact ⟨n', h3, by rw [h4, h2]⟩
theorem Rep.frame {L L' : List Nd} : ∀ {t : Tr}, Rep L t → t.ord.Nodup → (∀ k ∈ t.ord, Agr L L' k) → (∀ k ∈ t.ord, (k : Int) ≠ t.idx → ∀ n, L[k]? = some n → ∃ n', L'[k]? = some n' ∧ n'.up = n.up) → Rep L' t
  | .nil, _, _, _, _ => trivial
  | .nd l y r, h, hd, ha, hu => by
    obtain ⟨⟨n, hn, h1, h2, h3⟩, ul, ur, hl, hr⟩ := h
    simp only [Tr.ord, List.nodup_append, List.nodup_cons, List.mem_cons] at hd
    obtain ⟨dl, ⟨dy, dr⟩, dlr⟩ := hd
    obtain ⟨n', hn', e1, e2, e3⟩ := ha y (by simp [Tr.ord]) n hn
    have hul : ∀ k ∈ l.ord, ∀ n, L[k]? = some n → ∃ n', L'[k]? = some n' ∧ n'.up = n.up := fun k hk => hu k (by simp [Tr.ord, hk]) (by
      show (k : Int) ≠ (y : Int)
      have := dlr k hk y (Or.inl rfl); omega)
    have hur : ∀ k ∈ r.ord, ∀ n, L[k]? = some n → ∃ n', L'[k]? = some n' ∧ n'.up = n.up := fun k hk => hu k (by simp [Tr.ord, hk]) (by
      show (k : Int) ≠ (y : Int)
      intro e
      have : k = y := by omega
      subst this; exact dy hk)
    exact ⟨⟨n', hn', by rw [e1, h1], by rw [e2, h2], by rw [e3, h3]⟩, ul.frame fun k hk => hul k (Tr.idx_mem hk), ur.frame fun k hk => hur k (Tr.idx_mem hk),
      hl.frame dl (fun k hk => ha k (by simp [Tr.ord, hk])) (fun k hk _ => hul k hk), hr.frame dr (fun k hk => ha k (by simp [Tr.ord, hk])) (fun k hk _ => hur k hk)⟩
theorem Rep.same {L L' : List Nd} {t : Tr} (h : Rep L t) (hd : t.ord.Nodup) (he : ∀ k ∈ t.ord, L'[k]? = L[k]?) : Rep L' t :=
  h.frame hd (fun k hk => Agr.of_eq (he k hk)) (fun k hk _ n hn => ⟨n, by rw [he k hk, hn], rfl⟩)
theorem UpP.same {L L' : List Nd} {t : Tr} {p : Int} (h : UpP L t p) (he : ∀ k ∈ t.ord, L'[k]? = L[k]?) : UpP L' t p := h.frame fun k hk n hn => ⟨n, by rw [he k (Tr.idx_mem hk), hn], rfl⟩

/-- One node is another one. -/
def updN (L : List Nd) (i : Nat) (f : Nd → Nd) : List Nd := match L[i]? with
  | some n => L.set i (f n)
  | none => L
theorem updN_get (L : List Nd) (i : Nat) (f : Nd → Nd) (k : Nat) : (updN L i f)[k]? = if k = i then L[k]?.map f else L[k]? := by
  unfold updN
  split
  · rename_i n hn
    have := (List.getElem?_eq_some_iff.1 hn).1
    by_cases e : k = i
    · subst e; rw [if_pos rfl, hn, List.getElem?_set_self this]; rfl
    · rw [if_neg e, List.getElem?_set_ne (by omega)]
  · rename_i hn
    by_cases e : k = i
    · subst e; rw [if_pos rfl, hn]; rfl
    · rw [if_neg e]
theorem updN_length (L : List Nd) (i : Nat) (f : Nd → Nd) : (updN L i f).length = L.length := by
  unfold updN; split <;> simp
def upTo (L : List Nd) (y x : Int) : List Nd := if y = -1 then L else updN L y.toNat fun n => { n with up := x }
theorem upTo_length (L : List Nd) (y x : Int) : (upTo L y x).length = L.length := by unfold upTo; split; rfl; exact updN_length _ _ _
theorem upTo_get (L : List Nd) (y x : Int) (hy : -1 ≤ y) (k : Nat) : (upTo L y x)[k]? = if (k : Int) = y then L[k]?.map (fun n => { n with up := x }) else L[k]? := by
  unfold upTo
  by_cases h : y = -1
  · rw [if_pos h, if_neg (by omega)]
  · rw [if_neg h, updN_get]
    by_cases e : k = y.toNat
    · rw [if_pos e, if_pos (by omega)]
    · rw [if_neg e, if_neg (by omega)]
/-- treap's set. -/
def setL (L : List Nd) (x : Nat) (l r s : Int) : List Nd := upTo (upTo (updN L x fun n => { n with left := l, right := r, size := s }) l x) r x
theorem setL_length (L : List Nd) (x : Nat) (l r s : Int) : (setL L x l r s).length = L.length := by unfold setL; rw [upTo_length, upTo_length, updN_length]
theorem setL_get {L : List Nd} {x : Nat} {l r s : Int} (hl : -1 ≤ l) (hr : -1 ≤ r) {k : Nat} (h0 : k ≠ x) (h1 : (k : Int) ≠ l) (h2 : (k : Int) ≠ r) : (setL L x l r s)[k]? = L[k]? := by
  unfold setL
  rw [upTo_get _ _ _ hr, if_neg h2, upTo_get _ _ _ hl, if_neg h1, updN_get, if_neg h0]
theorem setL_rep {L : List Nd} {l r : Tr} {x : Nat} (hx : x < L.length) (hl : Rep L l) (hr : Rep L r) (hd : (Tr.nd l x r).ord.Nodup) :
    Rep (setL L x l.idx r.idx ((l.ord.length + 1 + r.ord.length : Nat) : Int)) (.nd l x r) := by
  have hd' := hd
  simp only [Tr.ord, List.nodup_append, List.nodup_cons, List.mem_cons] at hd
  obtain ⟨dl, ⟨dy, dr⟩, dlr⟩ := hd
  have xl : (x : Int) ≠ l.idx := fun h => by have := dlr x (Tr.idx_mem h.symm) x (Or.inl rfl); exact this rfl
  have xr : (x : Int) ≠ r.idx := fun h => dy (Tr.idx_mem h.symm)
  have lr : ∀ k : Nat, l.idx = k → r.idx ≠ k := fun k h1 h2 => by have := dlr k (Tr.idx_mem h1) k (Or.inr (Tr.idx_mem h2)); exact this rfl
  generalize hs : ((l.ord.length + 1 + r.ord.length : Nat) : Int) = s
  have key : ∀ k : Nat, (setL L x l.idx r.idx s)[k]? = if (k : Int) = r.idx then L[k]?.map (fun n => { n with up := (x : Int) }) else if (k : Int) = l.idx then L[k]?.map (fun n => { n with up := (x : Int) }) else if k = x then L[k]?.map (fun n => { n with left := l.idx, right := r.idx, size := s }) else L[k]? := by
    intro k
    unfold setL
    rw [upTo_get _ _ _ r.idx_ge, upTo_get _ _ _ l.idx_ge, updN_get]
    by_cases h1 : (k : Int) = r.idx
    · have h3 : k ≠ x := fun e => xr (by rw [← e]; exact h1)
      have h2 : ¬ (k : Int) = l.idx := fun e => lr k e.symm h1.symm
      rw [if_pos h1, if_pos h1, if_neg h2, if_neg h3]
    · rw [if_neg h1, if_neg h1]
      by_cases h2 : (k : Int) = l.idx
      · have h3 : k ≠ x := fun e => xl (by rw [← e]; exact h2)
        rw [if_pos h2, if_pos h2, if_neg h3]
      · rw [if_neg h2, if_neg h2]
  refine ⟨⟨{ L[x] with left := l.idx, right := r.idx, size := s }, ?_, rfl, rfl, hs.symm⟩, ?_, ?_, ?_, ?_⟩
  · rw [key, if_neg xr, if_neg xl, if_pos rfl, List.getElem?_eq_getElem hx]; rfl
  · intro k hk
    have hkl := hl.lt k (Tr.idx_mem hk)
    refine ⟨{ L[k] with up := (x : Int) }, ?_, rfl⟩
    rw [key, if_neg (fun e => lr k hk e.symm), if_pos hk.symm, List.getElem?_eq_getElem hkl]; rfl
  · intro k hk
    have hkl := hr.lt k (Tr.idx_mem hk)
    refine ⟨{ L[k] with up := (x : Int) }, ?_, rfl⟩
    rw [key, if_pos hk.symm, List.getElem?_eq_getElem hkl]; rfl
  · refine hl.frame dl (fun k hk n hn => ?_) (fun k hk hne n hn => ?_)
    · have h1 : k ≠ x := fun e => (dlr k hk x (Or.inl rfl)) e
      have h2 : ¬ (k : Int) = r.idx := fun e => (dlr k hk k (Or.inr (Tr.idx_mem e.symm))) rfl
      by_cases h3 : (k : Int) = l.idx
      · exact ⟨{ n with up := (x : Int) }, by rw [key, if_neg h2, if_pos h3, hn]; rfl, rfl, rfl, rfl⟩
      · exact ⟨n, by rw [key, if_neg h2, if_neg h3, if_neg h1, hn], rfl, rfl, rfl⟩
    · have h1 : k ≠ x := fun e => (dlr k hk x (Or.inl rfl)) e
      have h2 : ¬ (k : Int) = r.idx := fun e => (dlr k hk k (Or.inr (Tr.idx_mem e.symm))) rfl
      exact ⟨n, by rw [key, if_neg h2, if_neg hne, if_neg h1, hn], rfl⟩
  · refine hr.frame dr (fun k hk n hn => ?_) (fun k hk hne n hn => ?_)
    · have h1 : k ≠ x := fun e => dy (e ▸ hk)
      have h2 : ¬ (k : Int) = l.idx := fun e => (dlr k (Tr.idx_mem e.symm) k (Or.inr hk)) rfl
      by_cases h3 : (k : Int) = r.idx
      · exact ⟨{ n with up := (x : Int) }, by rw [key, if_pos h3, hn]; rfl, rfl, rfl, rfl⟩
      · exact ⟨n, by rw [key, if_neg h3, if_neg h2, if_neg h1, hn], rfl, rfl, rfl⟩
    · have h1 : k ≠ x := fun e => dy (e ▸ hk)
      have h2 : ¬ (k : Int) = l.idx := fun e => (dlr k (Tr.idx_mem e.symm) k (Or.inr hk)) rfl
      exact ⟨n, by rw [key, if_neg hne, if_neg h2, if_neg h1, hn], rfl⟩
/-- What a set leaves. -/
theorem setL_far {L : List Nd} {l r : Tr} {x : Nat} {s : Int} {k : Nat} (h0 : k ≠ x) (h1 : k ∉ l.ord) (h2 : k ∉ r.ord) : (setL L x l.idx r.idx s)[k]? = L[k]? :=
  setL_get l.idx_ge r.idx_ge h0 (fun e => h1 (Tr.idx_mem e.symm)) (fun e => h2 (Tr.idx_mem e.symm))

/-- Nodes made roots. -/
theorem upTo_rep {L : List Nd} {t : Tr} {y p : Int} (hy : -1 ≤ y) (h : Rep L t) (hd : t.ord.Nodup) (hr : y = t.idx ∨ ∀ k ∈ t.ord, (k : Int) ≠ y) : Rep (upTo L y p) t := by
  refine h.frame hd (fun k hk n hn => ?_) (fun k hk hne n hn => ?_)
  · by_cases e : (k : Int) = y
    · exact ⟨{ n with up := p }, by rw [upTo_get _ _ _ hy, if_pos e, hn]; rfl, rfl, rfl, rfl⟩
    · exact ⟨n, by rw [upTo_get _ _ _ hy, if_neg e, hn], rfl, rfl, rfl⟩
  · have e : ¬ (k : Int) = y := by
      rcases hr with h | h
      · rw [h]; exact hne
      · exact h k hk
    exact ⟨n, by rw [upTo_get _ _ _ hy, if_neg e, hn], rfl⟩
theorem upTo_up {L : List Nd} {t : Tr} {p : Int} (h : Rep L t) : UpP (upTo L t.idx p) t p := fun x hx => by
  have hlt := h.lt x (Tr.idx_mem hx)
  exact ⟨{ L[x] with up := p }, by rw [upTo_get _ _ _ t.idx_ge, if_pos hx.symm, List.getElem?_eq_getElem hlt]; rfl, rfl⟩
end Go.Proofs.Ytpfkpmapimonbaa

/-! Tours of trees: how they are turned, joined, cut; what is in them. -/
namespace Go.Proofs.Ytpfkpmapimonbaa
open Go Go.V Go.RowKit
set_option linter.unusedVariables false
set_option linter.unusedSimpArgs false
set_option maxHeartbeats 4000000

/-- What stands in a tour: a vertex, an edge gone one way. -/
inductive It where
  | v : Nat → It
  | a : Nat → Nat → It
deriving DecidableEq
/-- Ways from a vertex and back to it. -/
inductive Ex : Nat → List It → Prop where
  | nil (u : Nat) : Ex u []
  | cons {u v : Nat} {p q s : List It} : Ex v p → Ex v q → Ex u s → Ex u (It.a u v :: ((p ++ It.v v :: q) ++ It.a v u :: s))
/-- A tour that begins and ends at a vertex. -/
def Et (c : Nat) (t : List It) : Prop := ∃ p q, t = p ++ It.v c :: q ∧ Ex c p ∧ Ex c q
theorem Ex.append {u : Nat} {s t : List It} (h : Ex u s) (h' : Ex u t) : Ex u (s ++ t) := by
  induction h with
  | nil => simpa using h'
  | cons h1 h2 h3 _ _ ih =>
    have := Ex.cons h1 h2 (ih h')
    simpa [List.append_assoc] using this
theorem Ex.one {u v : Nat} {t : List It} (h : Et v t) : Ex u (It.a u v :: (t ++ [It.a v u])) := by
  obtain ⟨p, q, rfl, hp, hq⟩ := h
  exact Ex.cons hp hq (Ex.nil u)
theorem Et.single (c : Nat) : Et c [It.v c] := ⟨[], [], rfl, Ex.nil _, Ex.nil _⟩
theorem Et.turn1 {c : Nat} {x : It} {s : List It} (h : Et c (x :: s)) : ∃ c', Et c' (s ++ [x]) := by
  obtain ⟨p, q, e, hp, hq⟩ := h
  cases hp with
  | nil => simp at e; obtain ⟨rfl, rfl⟩ := e; exact ⟨c, s, [], by simp, hq, Ex.nil _⟩
  | @cons _ v p1 p2 r h1 h2 h3 =>
    simp at e
    obtain ⟨rfl, rfl⟩ := e
    refine ⟨v, p1, p2 ++ (It.a v c :: ((r ++ It.v c :: q) ++ [It.a c v])), by simp, h1, h2.append (Ex.cons h3 hq (Ex.nil v))⟩
theorem Et.turn : ∀ {p q : List It} {c : Nat}, Et c (p ++ q) → ∃ c', Et c' (q ++ p)
  | [], q, c, h => ⟨c, by simpa using h⟩
  | x :: p, q, c, h => by
    obtain ⟨c1, h1⟩ := Et.turn1 (s := p ++ q) h
    rw [List.append_assoc] at h1
    obtain ⟨c2, h2⟩ := Et.turn (p := p) h1
    exact ⟨c2, by simpa using h2⟩
theorem Et.first {c u : Nat} {s : List It} (h : Et c (It.v u :: s)) : c = u ∧ Ex u s := by
  obtain ⟨p, q, e, hp, hq⟩ := h
  cases hp with
  | nil => simp at e; obtain ⟨rfl, rfl⟩ := e; exact ⟨rfl, hq⟩
  | cons => simp at e
/-- Two tours are one behind an edge more. -/
theorem Et.link {c d u v : Nat} {s t : List It} (h : Et c (It.v u :: s)) (h' : Et d (It.v v :: t)) : Et u (It.v u :: s ++ [It.a u v] ++ (It.v v :: t) ++ [It.a v u]) := by
  obtain ⟨rfl, hs⟩ := h.first
  obtain ⟨rfl, ht⟩ := h'.first
  refine ⟨[], s ++ (It.a c d :: (([] ++ It.v d :: t) ++ It.a d c :: [])), by simp, Ex.nil _, hs.append (Ex.cons (Ex.nil _) ht (Ex.nil _))⟩
theorem split_at {α : Type} {a : α} : ∀ {X Y X' Y' : List α}, (X ++ a :: Y).Nodup → X ++ a :: Y = X' ++ a :: Y' → X = X' ∧ Y = Y'
  | [], Y, [], Y', _, e => by simp at e; exact ⟨rfl, e⟩
  | [], Y, x :: X', Y', hd, e => by
    simp at e
    obtain ⟨rfl, rfl⟩ := e
    simp at hd
  | x :: X, Y, [], Y', hd, e => by
    simp at e
    obtain ⟨rfl, rfl⟩ := e
    simp at hd
  | x :: X, Y, y :: X', Y', hd, e => by
    simp at e
    obtain ⟨rfl, e⟩ := e
    obtain ⟨h1, h2⟩ := split_at (by simp only [List.cons_append, List.nodup_cons] at hd; exact hd.2) e
    exact ⟨by rw [h1], h2⟩
/-- A tour without an edge is two. -/
theorem Et.cut0 {c u v : Nat} {X Y : List It} (hd : (It.a u v :: (X ++ It.a v u :: Y)).Nodup) (h : Et c (It.a u v :: (X ++ It.a v u :: Y))) : Et v X ∧ Et u Y := by
  obtain ⟨p, q, e, hp, hq⟩ := h
  cases hp with
  | nil => simp at e
  | @cons _ w p1 p2 r h1 h2 h3 =>
    simp only [List.cons_append, List.cons.injEq, It.a.injEq] at e
    obtain ⟨⟨rfl, rfl⟩, e⟩ := e
    rw [List.append_assoc, List.cons_append] at e
    obtain ⟨rfl, rfl⟩ := split_at (by simp only [List.nodup_cons] at hd; exact hd.2) e
    exact ⟨⟨p1, p2, rfl, h1, h2⟩, ⟨r, q, rfl, h3, hq⟩⟩
theorem Et.cut {c u v : Nat} {p X q : List It} (hd : (p ++ It.a u v :: (X ++ It.a v u :: q)).Nodup) (h : Et c (p ++ It.a u v :: (X ++ It.a v u :: q))) : Et v X ∧ ∃ d, Et d (p ++ q) := by
  obtain ⟨c1, h1⟩ := h.turn
  have hd1 : (It.a u v :: (X ++ It.a v u :: (q ++ p))).Nodup := by
    have := (List.perm_append_comm (l₁ := p) (l₂ := It.a u v :: (X ++ It.a v u :: q))).nodup_iff.1 hd
    simpa [List.append_assoc] using this
  have h1' : Et c1 (It.a u v :: (X ++ It.a v u :: (q ++ p))) := by simpa [List.append_assoc] using h1
  obtain ⟨e1, e2⟩ := Et.cut0 hd1 h1'
  exact ⟨e1, e2.turn⟩
/-- The vertices of a tour. -/
def vts : List It → List Nat
  | [] => []
  | .v x :: l => x :: vts l
  | .a _ _ :: l => vts l
theorem vts_append (s t : List It) : vts (s ++ t) = vts s ++ vts t := by
  induction s with
  | nil => rfl
  | cons x s ih => cases x <;> simp [vts, ih]
theorem mem_vts {s : List It} {x : Nat} : x ∈ vts s ↔ It.v x ∈ s := by
  induction s with
  | nil => simp [vts]
  | cons y s ih => cases y <;> simp [vts, ih]
theorem Ex.length {u : Nat} {s : List It} (h : Ex u s) : s.length = 3 * (vts s).length := by
  induction h with
  | nil => rfl
  | cons _ _ _ i1 i2 i3 => simp [vts, vts_append, i1, i2, i3]; omega
theorem Et.length {c : Nat} {s : List It} (h : Et c s) : s.length + 2 = 3 * (vts s).length := by
  obtain ⟨p, q, rfl, hp, hq⟩ := h
  have h1 := hp.length
  have h2 := hq.length
  simp [vts, vts_append, h1, h2]; omega
/-- The edges of a tour are of its vertices, and go both ways. -/
theorem Ex.edge {u : Nat} {s : List It} (h : Ex u s) : ∀ x y, It.a x y ∈ s → It.a y x ∈ s ∧ (It.v x ∈ s ∨ x = u) ∧ (It.v y ∈ s ∨ y = u) := by
  induction h with
  | nil => intro x y h; simp at h
  | @cons u v p q s _ _ _ i1 i2 i3 =>
    intro x y hm
    simp only [List.mem_cons, List.mem_append, It.a.injEq, reduceCtorEq, false_or] at hm ⊢
    rcases hm with ⟨rfl, rfl⟩ | (hm | hm) | ⟨rfl, rfl⟩ | hm
    · simp
    · obtain ⟨a1, a2, a3⟩ := i1 x y hm
      refine ⟨by simp [a1], ?_, ?_⟩
      · rcases a2 with a | rfl
        · simp [a]
        · simp
      · rcases a3 with a | rfl
        · simp [a]
        · simp
    · obtain ⟨a1, a2, a3⟩ := i2 x y hm
      refine ⟨by simp [a1], ?_, ?_⟩
      · rcases a2 with a | rfl
        · simp [a]
        · simp
      · rcases a3 with a | rfl
        · simp [a]
        · simp
    · simp
    · obtain ⟨a1, a2, a3⟩ := i3 x y hm
      refine ⟨by simp [a1], ?_, ?_⟩
      · rcases a2 with a | rfl
        · simp [a]
        · simp
      · rcases a3 with a | rfl
        · simp [a]
        · simp
theorem Et.edge {c : Nat} {s : List It} (h : Et c s) : It.v c ∈ s ∧ ∀ x y, It.a x y ∈ s → It.a y x ∈ s ∧ It.v x ∈ s ∧ It.v y ∈ s := by
  obtain ⟨p, q, rfl, hp, hq⟩ := h
  refine ⟨by simp, fun x y hm => ?_⟩
  simp only [List.mem_cons, List.mem_append, reduceCtorEq, false_or] at hm ⊢
  rcases hm with hm | hm
  · obtain ⟨a1, a2, a3⟩ := hp.edge x y hm
    exact ⟨.inl a1, by rcases a2 with a | rfl <;> simp [*], by rcases a3 with a | rfl <;> simp [*]⟩
  · obtain ⟨a1, a2, a3⟩ := hq.edge x y hm
    exact ⟨.inr a1, by rcases a2 with a | rfl <;> simp [*], by rcases a3 with a | rfl <;> simp [*]⟩
/-- What holds along all edges of a tour holds at all of its vertices, or at none. -/
theorem Ex.spread {u : Nat} {s : List It} (h : Ex u s) {S : Nat → Prop} : (∀ x y, It.a x y ∈ s → (S x ↔ S y)) → ∀ x, It.v x ∈ s → (S x ↔ S u) := by
  induction h with
  | nil => intro _ x h; simp at h
  | @cons u v p q s _ _ _ i1 i2 i3 =>
    intro hs x hm
    have huv : S u ↔ S v := hs u v (by simp)
    simp only [List.mem_cons, List.mem_append, It.v.injEq, reduceCtorEq, false_or] at hm
    rcases hm with (hm | rfl | hm) | hm
    · exact (i1 (fun x y h => hs x y (by simp [h])) x hm).trans huv.symm
    · exact huv.symm
    · exact (i2 (fun x y h => hs x y (by simp [h])) x hm).trans huv.symm
    · exact i3 (fun x y h => hs x y (by simp [h])) x hm
theorem Et.spread {c : Nat} {s : List It} (h : Et c s) {S : Nat → Prop} (hs : ∀ x y, It.a x y ∈ s → (S x ↔ S y)) {x y : Nat} (hx : It.v x ∈ s) (hy : It.v y ∈ s) : S x ↔ S y := by
  obtain ⟨p, q, rfl, hp, hq⟩ := h
  have all : ∀ z, It.v z ∈ p ++ It.v c :: q → (S z ↔ S c) := by
    intro z hz
    simp only [List.mem_cons, List.mem_append, It.v.injEq] at hz
    rcases hz with hz | rfl | hz
    · exact hp.spread (fun x y h => hs x y (by simp [h])) z hz
    · exact Iff.rfl
    · exact hq.spread (fun x y h => hs x y (by simp [h])) z hz
  exact (all x hx).trans (all y hy).symm
end Go.Proofs.Ytpfkpmapimonbaa

/-! Arenas as sequences: what a node's sequence is, joined, cut, a new one. -/
namespace Go.Proofs.Ytpfkpmapimonbaa
open Go Go.V Go.RowKit
set_option linter.unusedVariables false
set_option linter.unusedSimpArgs false
set_option maxHeartbeats 4000000

/-- The nodes are the sequences that a function tells. -/
structure ArS (L : List Nd) (σ : Nat → List Nat) : Prop where
  tree : ∀ x, x < L.length → ∃ t : Tr, Rep L t ∧ UpP L t (-1) ∧ t.ord = σ x ∧ (σ x).Nodup ∧ x ∈ σ x
  same : ∀ x, x < L.length → ∀ y ∈ σ x, σ y = σ x
  out : ∀ x, L.length ≤ x → σ x = []
theorem ArS.lt {L : List Nd} {σ : Nat → List Nat} (h : ArS L σ) {x y : Nat} (hy : y ∈ σ x) : y < L.length ∧ x < L.length := by
  by_cases hx : x < L.length
  · obtain ⟨t, h1, _, h2, _⟩ := h.tree x hx
    exact ⟨h1.lt y (by rw [h2]; exact hy), hx⟩
  · rw [h.out x (by omega)] at hy; simp at hy
theorem ArS.self {L : List Nd} {σ : Nat → List Nat} (h : ArS L σ) {x : Nat} (hx : x < L.length) : x ∈ σ x := by
  obtain ⟨t, _, _, _, _, h1⟩ := h.tree x hx
  exact h1
theorem ArS.nodup {L : List Nd} {σ : Nat → List Nat} (h : ArS L σ) (x : Nat) : (σ x).Nodup := by
  by_cases hx : x < L.length
  · obtain ⟨t, _, _, _, h1, _⟩ := h.tree x hx
    exact h1
  · rw [h.out x (by omega)]; simp
theorem ArS.eq {L : List Nd} {σ : Nat → List Nat} (h : ArS L σ) {x y : Nat} (hy : y ∈ σ x) : σ y = σ x := h.same x (h.lt hy).2 y hy
theorem ArS.symm {L : List Nd} {σ : Nat → List Nat} (h : ArS L σ) {x y : Nat} (hy : y ∈ σ x) : x ∈ σ y := by rw [h.eq hy]; exact h.self (h.lt hy).2
theorem ArS.meet {L : List Nd} {σ : Nat → List Nat} (h : ArS L σ) {x y z : Nat} (hx : z ∈ σ x) (hy : z ∈ σ y) : σ x = σ y := by rw [← h.eq hx, ← h.eq hy]
theorem ArS.apart {L : List Nd} {σ : Nat → List Nat} (h : ArS L σ) {x y : Nat} (hy : y < L.length) (ne : σ x ≠ σ y) : ∀ z ∈ σ x, z ∉ σ y := fun z h1 h2 => ne (h.meet h1 h2)
/-- One sequence behind another. -/
def joinS (σ : Nat → List Nat) (x y : Nat) : Nat → List Nat := fun z => if z ∈ σ x ∨ z ∈ σ y then σ x ++ σ y else σ z
theorem ArS.join {L L' : List Nd} {σ : Nat → List Nat} {x y : Nat} {u : Tr} (h : ArS L σ) (hx : x < L.length) (hy : y < L.length) (ne : σ x ≠ σ y) (hu : Rep L' u) (hup : UpP L' u (-1)) (hord : u.ord = σ x ++ σ y) (hl : L'.length = L.length) (hf : ∀ k, k ∉ σ x → k ∉ σ y → L'[k]? = L[k]?) : ArS L' (joinS σ x y) := by
  have hd : (σ x ++ σ y).Nodup := by
    rw [List.nodup_append]
    exact ⟨h.nodup x, h.nodup y, fun a ha b hb e => by subst e; exact h.apart hy ne a ha hb⟩
  refine ⟨fun z hz => ?_, fun z hz a ha => ?_, fun z hz => ?_⟩
  · unfold joinS
    by_cases hm : z ∈ σ x ∨ z ∈ σ y
    · rw [if_pos hm]; exact ⟨u, hu, hup, hord, hd, List.mem_append.2 hm⟩
    · rw [if_neg hm]
      obtain ⟨t, h1, h2, h3, h4, h5⟩ := h.tree z (by omega)
      have far : ∀ k ∈ t.ord, L'[k]? = L[k]? := fun k hk => by
        rw [h3] at hk
        exact hf k (fun h' => hm (.inl (by rw [← h.eq h', h.eq hk]; exact h5))) (fun h' => hm (.inr (by rw [← h.eq h', h.eq hk]; exact h5)))
      exact ⟨t, h1.same (by rw [h3]; exact h4) far, h2.same far, h3, h4, h5⟩
  · unfold joinS at ha ⊢
    by_cases hm : z ∈ σ x ∨ z ∈ σ y
    · rw [if_pos hm] at ha ⊢
      rw [if_pos (List.mem_append.1 ha)]
    · rw [if_neg hm] at ha ⊢
      rw [if_neg, h.eq ha]
      rintro (h' | h')
      · exact hm (.inl (by rw [← h.eq h', h.eq ha]; exact h.self (by omega)))
      · exact hm (.inr (by rw [← h.eq h', h.eq ha]; exact h.self (by omega)))
  · unfold joinS
    rw [if_neg, h.out z (by omega)]
    rintro (h' | h') <;> have := h.lt h' <;> omega
/-- A sequence is two. -/
def cutS (σ : Nat → List Nat) (p q : List Nat) : Nat → List Nat := fun z => if z ∈ p then p else if z ∈ q then q else σ z
theorem ArS.cut {L L' : List Nd} {σ : Nat → List Nat} {x : Nat} {p q : List Nat} {u v : Tr} (h : ArS L σ) (hx : x < L.length) (hpq : σ x = p ++ q) (hu : Rep L' u) (hup : UpP L' u (-1)) (hord : u.ord = p) (hv : Rep L' v) (hvp : UpP L' v (-1)) (hord' : v.ord = q) (hl : L'.length = L.length) (hf : ∀ k, k ∉ σ x → L'[k]? = L[k]?) : ArS L' (cutS σ p q) := by
  have hd := h.nodup x
  rw [hpq, List.nodup_append] at hd
  obtain ⟨dp, dq, dpq⟩ := hd
  refine ⟨fun z hz => ?_, fun z hz a ha => ?_, fun z hz => ?_⟩
  · unfold cutS
    by_cases hp : z ∈ p
    · rw [if_pos hp]; exact ⟨u, hu, hup, hord, dp, hp⟩
    · rw [if_neg hp]
      by_cases hq : z ∈ q
      · rw [if_pos hq]; exact ⟨v, hv, hvp, hord', dq, hq⟩
      · rw [if_neg hq]
        obtain ⟨t, h1, h2, h3, h4, h5⟩ := h.tree z (by omega)
        have far : ∀ k ∈ t.ord, L'[k]? = L[k]? := fun k hk => by
          rw [h3] at hk
          refine hf k (fun h' => ?_)
          have : z ∈ σ x := by rw [← h.eq h', h.eq hk]; exact h5
          rw [hpq, List.mem_append] at this
          exact this.elim hp hq
        exact ⟨t, h1.same (by rw [h3]; exact h4) far, h2.same far, h3, h4, h5⟩
  · unfold cutS at ha ⊢
    by_cases hp : z ∈ p
    · rw [if_pos hp] at ha ⊢; rw [if_pos ha]
    · rw [if_neg hp] at ha ⊢
      by_cases hq : z ∈ q
      · rw [if_pos hq] at ha ⊢
        rw [if_neg (fun h' => dpq a h' a ha rfl), if_pos ha]
      · rw [if_neg hq] at ha ⊢
        have no : ∀ b ∈ σ x, b ≠ a := fun b hb e => by
          subst e
          have : z ∈ σ x := by rw [← h.eq hb, h.eq ha]; exact h.self (by omega)
          rw [hpq, List.mem_append] at this
          exact this.elim hp hq
        rw [if_neg (fun h' => no a (by rw [hpq]; simp [h']) rfl), if_neg (fun h' => no a (by rw [hpq]; simp [h']) rfl), h.eq ha]
  · unfold cutS
    have : z ∉ σ x := fun h' => by have := h.lt h'; omega
    rw [hpq, List.mem_append, not_or] at this
    rw [if_neg this.1, if_neg this.2, h.out z (by omega)]
/-- A node more. -/
def nodeS (σ : Nat → List Nat) (k : Nat) : Nat → List Nat := fun z => if z = k then [k] else σ z
theorem ArS.node {L : List Nd} {σ : Nat → List Nat} {r : Int} (h : ArS L σ) : ArS (L ++ [⟨-1, -1, -1, 1, r⟩]) (nodeS σ L.length) := by
  have old : ∀ k, k < L.length → (L ++ [⟨-1, -1, -1, 1, r⟩])[k]? = L[k]? := fun k hk => List.getElem?_append_left hk
  refine ⟨fun z hz => ?_, fun z hz a ha => ?_, fun z hz => ?_⟩
  · unfold nodeS
    by_cases e : z = L.length
    · rw [if_pos e]
      subst e
      refine ⟨.nd .nil L.length .nil, ⟨⟨_, List.getElem?_concat_length, rfl, rfl, rfl⟩, UpP.nil _ _, UpP.nil _ _, trivial, trivial⟩, fun x hx => ?_, rfl, by simp, by simp⟩
      have : x = L.length := by simp only [Tr.idx] at hx; omega
      subst this
      exact ⟨_, List.getElem?_concat_length, rfl⟩
    · rw [if_neg e]
      have hz' : z < L.length := by simp at hz; omega
      obtain ⟨t, h1, h2, h3, h4, h5⟩ := h.tree z hz'
      have far : ∀ k ∈ t.ord, (L ++ [⟨-1, -1, -1, 1, r⟩])[k]? = L[k]? := fun k hk => old k (h1.lt k hk)
      exact ⟨t, h1.same (by rw [h3]; exact h4) far, h2.same far, h3, h4, h5⟩
  · unfold nodeS at ha ⊢
    by_cases e : z = L.length
    · rw [if_pos e] at ha ⊢
      rw [if_pos (by simpa using ha)]
    · rw [if_neg e] at ha ⊢
      have := h.lt ha
      rw [if_neg (by omega), h.eq ha]
  · unfold nodeS
    simp at hz
    rw [if_neg (by omega), h.out z (by omega)]
end Go.Proofs.Ytpfkpmapimonbaa

/-! Trees: what stands above a node, and ahead of it. -/
namespace Go.Proofs.Ytpfkpmapimonbaa
open Go Go.V Go.RowKit
set_option linter.unusedVariables false
set_option linter.unusedSimpArgs false
set_option maxHeartbeats 4000000

/-- A tree under another one. -/
inductive Sub : Tr → Tr → Prop where
  | refl (t : Tr) : Sub t t
  | left {l r t : Tr} {y : Nat} : Sub (.nd l y r) t → Sub l t
  | right {l r t : Tr} {y : Nat} : Sub (.nd l y r) t → Sub r t
theorem Sub.rep {L : List Nd} {s t : Tr} (h : Sub s t) (ht : Rep L t) : Rep L s := by
  induction h with
  | refl => exact ht
  | left _ ih => exact (ih ht).2.2.2.1
  | right _ ih => exact (ih ht).2.2.2.2
theorem Sub.sub {s t : Tr} (h : Sub s t) : s.ord.Sublist t.ord := by
  induction h with
  | refl => exact List.Sublist.refl _
  | @left l r t y _ ih => exact (List.sublist_append_left l.ord (y :: r.ord)).trans ih
  | @right l r t y _ ih => exact ((List.sublist_cons_self y r.ord).trans (List.sublist_append_right l.ord (y :: r.ord))).trans ih
theorem Sub.trans {s t u : Tr} (h : Sub s t) (h' : Sub t u) : Sub s u := by
  induction h with
  | refl => exact h'
  | left _ ih => exact .left (ih h')
  | right _ ih => exact .right (ih h')
theorem Sub.of_mem : ∀ {t : Tr} {x : Nat}, x ∈ t.ord → ∃ l r, Sub (.nd l x r) t
  | .nil, x, h => by simp [Tr.ord] at h
  | .nd l y r, x, h => by
    simp only [Tr.ord, List.mem_append, List.mem_cons] at h
    rcases h with h | rfl | h
    · obtain ⟨a, b, q⟩ := Sub.of_mem h
      exact ⟨a, b, q.trans (.left (.refl _))⟩
    · exact ⟨l, r, .refl _⟩
    · obtain ⟨a, b, q⟩ := Sub.of_mem h
      exact ⟨a, b, q.trans (.right (.refl _))⟩
/-- What stands above: nothing, or a node. -/
theorem Sub.above {L : List Nd} {s t : Tr} (h : Sub s t) (ht : Rep L t) (hu : UpP L t (-1)) : (s = t ∧ UpP L s (-1)) ∨ ∃ (l r : Tr) (y : Nat), Sub (.nd l y r) t ∧ UpP L s y ∧ (s = l ∨ s = r) := by
  cases h with
  | refl => exact .inl ⟨rfl, hu⟩
  | @left _ r _ y h => exact .inr ⟨_, r, y, h, (h.rep ht).2.1, .inl rfl⟩
  | @right l _ _ y h => exact .inr ⟨l, _, y, h, (h.rep ht).2.2.1, .inr rfl⟩
theorem Tr.up_lt {l r s : Tr} {y : Nat} (h : s = l ∨ s = r) : s.ord.length < (Tr.nd l y r).ord.length := by
  rcases h with rfl | rfl <;> simp [Tr.ord] <;> omega
theorem Rep.node {L : List Nd} {l r : Tr} {x : Nat} (h : Rep L (.nd l x r)) : ∃ n, L[x]? = some n ∧ n.left = l.idx ∧ n.right = r.idx ∧ n.size = (((Tr.nd l x r).ord.length : Nat) : Int) := by
  obtain ⟨n, h1, h2, h3, h4⟩ := h.1
  exact ⟨n, h1, h2, h3, by rw [h4]; simp [Tr.ord]; omega⟩
/-- How many nodes are under a root: its number, if it is one. -/
theorem Rep.size {L : List Nd} {t : Tr} (h : Rep L t) {x : Nat} (hx : t.idx = x) : ∃ n, L[x]? = some n ∧ n.size = ((t.ord.length : Nat) : Int) := by
  cases t with
  | nil => simp only [Tr.idx] at hx; omega
  | nd l y r =>
    have : y = x := by simp only [Tr.idx] at hx; omega
    subst this
    obtain ⟨n, h1, _, _, h4⟩ := h.node
    exact ⟨n, h1, h4⟩
/-- The place of a node under a right child, a left child. -/
theorem Tr.at_right {l r : Tr} {y n x : Nat} (h : r.ord[n]? = some x) : (Tr.nd l y r).ord[l.ord.length + 1 + n]? = some x := by
  show (l.ord ++ y :: r.ord)[_]? = _
  rw [List.getElem?_append_right (by omega), show l.ord.length + 1 + n - l.ord.length = n + 1 by omega, List.getElem?_cons_succ]
  exact h
theorem Tr.at_left {l r : Tr} {y n x : Nat} (h : l.ord[n]? = some x) : (Tr.nd l y r).ord[n]? = some x := by
  show (l.ord ++ y :: r.ord)[n]? = _
  rw [List.getElem?_append_left (List.getElem?_eq_some_iff.1 h).1]
  exact h
theorem Tr.at_mid {l r : Tr} {y : Nat} : (Tr.nd l y r).ord[l.ord.length]? = some y := by
  show (l.ord ++ y :: r.ord)[_]? = _
  rw [List.getElem?_append_right (by omega)]; simp
theorem Tr.ne_child {l r : Tr} {y : Nat} (hd : (Tr.nd l y r).ord.Nodup) {k : Nat} (h : l.idx = k) : r.idx ≠ k := fun h2 => by
  simp only [Tr.ord, List.nodup_append, List.nodup_cons, List.mem_cons] at hd
  exact hd.2.2 k (Tr.idx_mem h) k (Or.inr (Tr.idx_mem h2)) rfl
theorem Sub.nodup {s t : Tr} (h : Sub s t) (hd : t.ord.Nodup) : s.ord.Nodup := hd.sublist h.sub
theorem idxOf_at {l : List Nat} {n x : Nat} (hd : l.Nodup) (h : l[n]? = some x) : l.idxOf x = n := by
  obtain ⟨hn, e⟩ := List.getElem?_eq_some_iff.1 h
  rw [← e, List.Nodup.idxOf_getElem hd]
end Go.Proofs.Ytpfkpmapimonbaa

/-! Forests as tours: what a rotation, an edge more, an edge less do. -/
namespace Go.Proofs.Ytpfkpmapimonbaa
open Go Go.V Go.RowKit
set_option linter.unusedVariables false
set_option linter.unusedSimpArgs false
set_option maxHeartbeats 4000000

def replS (σ : Nat → List Nat) (S : List Nat) : Nat → List Nat := fun z => if z ∈ S then S else σ z
theorem ArS.repl {L : List Nd} {σ : Nat → List Nat} (h : ArS L σ) (x : Nat) : σ = replS σ (σ x) := by
  funext z
  unfold replS
  split
  · rename_i hz; exact h.eq hz
  · rfl
theorem joinS_repl {σ : Nat → List Nat} {S : List Nat} {x y : Nat} (hx : x ∈ S) (hy : y ∉ S) : joinS (replS σ S) x y = replS σ (S ++ σ y) := by
  funext z
  unfold joinS
  have e1 : replS σ S x = S := if_pos hx
  have e2 : replS σ S y = σ y := if_neg hy
  rw [e1, e2]
  unfold replS
  by_cases h : z ∈ S ∨ z ∈ σ y
  · rw [if_pos h, if_pos (List.mem_append.2 h)]
  · rw [if_neg h, if_neg (fun h' => h (List.mem_append.1 h')), if_neg (fun h' => h (.inl h'))]
theorem nodeS_repl {σ : Nat → List Nat} {S : List Nat} {k : Nat} (hk : k ∉ S) : nodeS (replS σ S) k = replS (nodeS σ k) S := by
  funext z
  simp only [nodeS, replS]
  by_cases e : z = k
  · subst e; simp [hk]
  · simp [e]
theorem nodeS_id {σ : Nat → List Nat} {k : Nat} (h : σ k = [k]) : nodeS σ k = σ := by
  funext z
  unfold nodeS
  split
  · rename_i e; rw [e, h]
  · rfl
theorem turn_fun {σ : Nat → List Nat} {p q : List Nat} {u y : Nat} (hu : u ∈ q) (hup : u ∉ p) (hy : y ∈ p) : joinS (cutS σ p q) u y = replS σ (q ++ p) := by
  funext z
  unfold joinS
  have e1 : cutS σ p q u = q := by unfold cutS; rw [if_neg hup, if_pos hu]
  have e2 : cutS σ p q y = p := by unfold cutS; rw [if_pos hy]
  rw [e1, e2]
  unfold replS cutS
  by_cases h : z ∈ q ∨ z ∈ p
  · rw [if_pos h, if_pos (List.mem_append.2 h)]
  · rw [if_neg h, if_neg (fun h' => h (List.mem_append.1 h')), if_neg (fun h' => h (.inr h')), if_neg (fun h' => h (.inl h'))]

structure TourS (n len : Nat) (σ : Nat → List Nat) (arc : Nat → Nat → Option Nat) (free : List Nat) (lab : Nat → It) : Prop where
  nle : n ≤ len
  vert : ∀ x, x < n → lab x = .v x
  arcs : ∀ u v k, arc u v = some k → n ≤ k ∧ k < len ∧ lab k = .a u v ∧ u < n ∧ v < n ∧ k ∈ σ u
  tour : ∀ x, x < n → ∃ c, Et c ((σ x).map lab)
  live : ∀ x, x < n → ∀ k ∈ σ x, k < n ∨ ∃ u v, arc u v = some k
  fre : free.Nodup ∧ ∀ k ∈ free, n ≤ k ∧ k < len ∧ σ k = [k] ∧ ∀ u v, arc u v ≠ some k
section
variable {n len : Nat} {σ : Nat → List Nat} {arc : Nat → Nat → Option Nat} {free : List Nat} {lab : Nat → It} {L : List Nd}
theorem TourS.inj (h : TourS n len σ arc free lab) {x k k' : Nat} (hx : x < n) (hk : k ∈ σ x) (hk' : k' ∈ σ x) (e : lab k = lab k') : k = k' := by
  rcases h.live x hx k hk with h1 | ⟨u, v, h1⟩ <;> rcases h.live x hx k' hk' with h2 | ⟨u', v', h2⟩
  · rw [h.vert k h1, h.vert k' h2] at e; cases e; rfl
  · rw [h.vert k h1, (h.arcs _ _ _ h2).2.2.1] at e; cases e
  · rw [(h.arcs _ _ _ h1).2.2.1, h.vert k' h2] at e; cases e
  · rw [(h.arcs _ _ _ h1).2.2.1, (h.arcs _ _ _ h2).2.2.1] at e
    cases e
    rw [h1] at h2; cases h2; rfl
theorem TourS.nodup (h : TourS n len σ arc free lab) (hA : ArS L σ) {x : Nat} (hx : x < n) : ((σ x).map lab).Nodup := by
  have hd := hA.nodup x
  have : ∀ l : List Nat, (∀ k ∈ l, k ∈ σ x) → l.Nodup → (l.map lab).Nodup := by
    intro l
    induction l with
    | nil => intros; simp
    | cons a l ih =>
      intro hs hl
      rw [List.nodup_cons] at hl
      rw [List.map_cons, List.nodup_cons]
      refine ⟨fun hm => ?_, ih (fun k hk => hs k (by simp [hk])) hl.2⟩
      obtain ⟨b, hb, e⟩ := List.mem_map.1 hm
      have := h.inj hx (hs b (by simp [hb])) (hs a (by simp)) e
      subst this
      exact hl.1 hb
  exact this _ (fun _ h => h) hd
theorem TourS.vmem (h : TourS n len σ arc free lab) {x y : Nat} (hx : x < n) : It.v y ∈ (σ x).map lab ↔ y < n ∧ y ∈ σ x := by
  constructor
  · intro hm
    obtain ⟨k, hk, e⟩ := List.mem_map.1 hm
    rcases h.live x hx k hk with h1 | ⟨u, v, h1⟩
    · rw [h.vert k h1] at e; cases e; exact ⟨h1, hk⟩
    · rw [(h.arcs _ _ _ h1).2.2.1] at e; cases e
  · rintro ⟨h1, h2⟩
    exact List.mem_map.2 ⟨y, h2, h.vert y h1⟩
theorem TourS.amem (h : TourS n len σ arc free lab) {x u v : Nat} (hx : x < n) (hm : It.a u v ∈ (σ x).map lab) : ∃ k, arc u v = some k ∧ k ∈ σ x := by
  obtain ⟨k, hk, e⟩ := List.mem_map.1 hm
  rcases h.live x hx k hk with h1 | ⟨u', v', h1⟩
  · rw [h.vert k h1] at e; cases e
  · rw [(h.arcs _ _ _ h1).2.2.1] at e; cases e; exact ⟨k, h1, hk⟩
theorem TourS.arc_mem (h : TourS n len σ arc free lab) {u v k : Nat} (hk : arc u v = some k) : It.a u v ∈ (σ u).map lab := by
  obtain ⟨_, _, h1, _, _, h2⟩ := h.arcs _ _ _ hk
  exact List.mem_map.2 ⟨k, h2, h1⟩
/-- An edge goes both ways, and its ends are of one tree. -/
theorem TourS.both (h : TourS n len σ arc free lab) (hA : ArS L σ) {u v k : Nat} (hk : arc u v = some k) : (∃ k', arc v u = some k' ∧ k' ∈ σ u) ∧ v ∈ σ u ∧ σ v = σ u := by
  obtain ⟨_, _, _, hu, hv, _⟩ := h.arcs _ _ _ hk
  obtain ⟨c, hc⟩ := h.tour u hu
  obtain ⟨h1, _, h3⟩ := hc.edge.2 u v (h.arc_mem hk)
  have := ((h.vmem hu).1 h3).2
  exact ⟨h.amem hu h1, this, hA.eq this⟩
theorem TourS.turn (h : TourS n len σ arc free lab) (hA : ArS L σ) {u : Nat} (hu : u < n) {p q : List Nat} (hpq : σ u = p ++ q) : TourS n len (replS σ (q ++ p)) arc free lab := by
  have hm : ∀ z, z ∈ q ++ p ↔ z ∈ σ u := fun z => by rw [hpq]; simp [or_comm]
  have key : ∀ x, (x ∈ σ u ∧ replS σ (q ++ p) x = q ++ p ∧ σ x = p ++ q) ∨ (x ∉ σ u ∧ replS σ (q ++ p) x = σ x) := by
    intro x
    unfold replS
    by_cases hx : x ∈ σ u
    · left; exact ⟨hx, if_pos ((hm x).2 hx), by rw [hA.eq hx, hpq]⟩
    · right; exact ⟨hx, if_neg (fun h' => hx ((hm x).1 h'))⟩
  have mem : ∀ x k, k ∈ replS σ (q ++ p) x ↔ k ∈ σ x := by
    intro x k
    rcases key x with ⟨_, e1, e2⟩ | ⟨_, e1⟩
    · rw [e1, e2]; simp [or_comm]
    · rw [e1]
  refine ⟨h.nle, h.vert, fun a b k hk => ?_, fun x hx => ?_, fun x hx k hk => h.live x hx k ((mem x k).1 hk), h.fre.1, fun k hk => ?_⟩
  · obtain ⟨a1, a2, a3, a4, a5, a6⟩ := h.arcs a b k hk
    exact ⟨a1, a2, a3, a4, a5, (mem _ _).2 a6⟩
  · obtain ⟨c, hc⟩ := h.tour x hx
    rcases key x with ⟨_, e1, e2⟩ | ⟨_, e1⟩
    · rw [e1]; rw [e2, List.map_append] at hc; rw [List.map_append]; exact hc.turn
    · rw [e1]; exact ⟨c, hc⟩
  · obtain ⟨b1, b2, b3, b4⟩ := h.fre.2 k hk
    refine ⟨b1, b2, ?_, b4⟩
    rcases key k with ⟨e0, e1, e2⟩ | ⟨_, e1⟩
    · exfalso
      rcases h.live u hu k e0 with h' | ⟨a, b, h'⟩
      · omega
      · exact b4 a b h'
    · rw [e1, b3]
def arcAdd (arc : Nat → Nat → Option Nat) (u v k : Nat) : Nat → Nat → Option Nat := fun a b => if a = u ∧ b = v then some k else arc a b
def arcDel (arc : Nat → Nat → Option Nat) (u v : Nat) : Nat → Nat → Option Nat := fun a b => if a = u ∧ b = v then none else arc a b
def labSet (lab : Nat → It) (k : Nat) (i : It) : Nat → It := fun z => if z = k then i else lab z
theorem TourS.link (h : TourS n len σ arc free lab) (hA : ArS L σ) {u v k1 k2 len' : Nat} {s t free' : List Nat} (hu : u < n) (hv : v < n) (hsu : σ u = u :: s) (hsv : σ v = v :: t) (ne : σ u ≠ σ v)
    (h12 : k1 ≠ k2) (hk1 : n ≤ k1 ∧ k1 < len') (hk2 : n ≤ k2 ∧ k2 < len') (hl : len ≤ len') (f1 : ∀ z, z ≠ k1 → k1 ∉ σ z) (f2 : ∀ z, z ≠ k2 → k2 ∉ σ z)
    (hf : free'.Nodup ∧ ∀ k ∈ free', k ∈ free ∧ k ≠ k1 ∧ k ≠ k2) :
    TourS n len' (replS (nodeS (nodeS σ k1) k2) (σ u ++ [k1] ++ σ v ++ [k2])) (arcAdd (arcAdd arc u v k1) v u k2) free' (labSet (labSet lab k1 (.a u v)) k2 (.a v u)) := by
  have k1u : k1 ∉ σ u := f1 u (by omega)
  have k1v : k1 ∉ σ v := f1 v (by omega)
  have k2u : k2 ∉ σ u := f2 u (by omega)
  have k2v : k2 ∉ σ v := f2 v (by omega)
  have uv : u ≠ v := fun e => ne (by rw [e])
  have uA : u ∈ σ u := by rw [hsu]; simp
  have vA : v ∈ σ v := by rw [hsv]; simp
  have labO : ∀ z, z ≠ k1 → z ≠ k2 → labSet (labSet lab k1 (.a u v)) k2 (.a v u) z = lab z := fun z a b => by unfold labSet; rw [if_neg b, if_neg a]
  have lab1 : labSet (labSet lab k1 (.a u v)) k2 (.a v u) k1 = .a u v := by unfold labSet; rw [if_neg h12, if_pos rfl]
  have lab2 : labSet (labSet lab k1 (.a u v)) k2 (.a v u) k2 = .a v u := by unfold labSet; rw [if_pos rfl]
  have mapO : ∀ l : List Nat, k1 ∉ l → k2 ∉ l → l.map (labSet (labSet lab k1 (.a u v)) k2 (.a v u)) = l.map lab := fun l a b => List.map_congr_left fun z hz => labO z (fun e => a (e ▸ hz)) (fun e => b (e ▸ hz))
  obtain ⟨S, hS⟩ : ∃ S, S = σ u ++ [k1] ++ σ v ++ [k2] := ⟨_, rfl⟩
  have mS : ∀ z, z ∈ S ↔ z ∈ σ u ∨ z = k1 ∨ z ∈ σ v ∨ z = k2 := fun z => by rw [hS]; simp [or_assoc]
  have key : ∀ x, x < n → (x ∈ S ∧ replS (nodeS (nodeS σ k1) k2) S x = S) ∨ (x ∉ S ∧ replS (nodeS (nodeS σ k1) k2) S x = σ x ∧ k1 ∉ σ x ∧ k2 ∉ σ x) := by
    intro x hx
    unfold replS
    by_cases hm : x ∈ S
    · exact .inl ⟨hm, if_pos hm⟩
    · refine .inr ⟨hm, ?_, f1 x (by omega), f2 x (by omega)⟩
      rw [if_neg hm]; unfold nodeS
      rw [if_neg (by omega), if_neg (by omega)]
  rw [← hS]
  refine ⟨by have := h.nle; omega, fun x hx => ?_, fun a b k hk => ?_, fun x hx => ?_, fun x hx k hk => ?_, hf.1, fun k hk => ?_⟩
  · rw [labO x (by omega) (by omega), h.vert x hx]
  · unfold arcAdd at hk
    split at hk
    · rename_i e; obtain ⟨rfl, rfl⟩ := e
      cases hk
      refine ⟨hk2.1, hk2.2, lab2, hv, hu, ?_⟩
      unfold replS
      rw [if_pos ((mS _).2 (.inr (.inr (.inl vA)))), mS]; simp
    · split at hk
      · rename_i e; obtain ⟨rfl, rfl⟩ := e
        cases hk
        refine ⟨hk1.1, hk1.2, lab1, hu, hv, ?_⟩
        unfold replS
        rw [if_pos ((mS _).2 (.inl uA)), mS]; simp
      · obtain ⟨a1, a2, a3, a4, a5, a6⟩ := h.arcs a b k hk
        have n1 : k ≠ k1 := fun e => by subst e; exact f1 a (by omega) a6
        have n2 : k ≠ k2 := fun e => by subst e; exact f2 a (by omega) a6
        refine ⟨a1, by omega, by rw [labO k n1 n2, a3], a4, a5, ?_⟩
        rcases key a a4 with ⟨e1, e2⟩ | ⟨_, e2, _⟩
        · rw [e2, mS]
          rcases (mS a).1 e1 with e | e | e | e
          · left; rw [← hA.eq e]; exact a6
          · omega
          · right; right; left; rw [← hA.eq e]; exact a6
          · omega
        · rw [e2]; exact a6
  · rcases key x hx with ⟨e1, e2⟩ | ⟨_, e2, e3, e4⟩
    · rw [e2, hS, List.map_append, List.map_append, List.map_append, mapO _ k1u k2u, mapO _ k1v k2v]
      obtain ⟨c, hc⟩ := h.tour u hu
      obtain ⟨d, hd⟩ := h.tour v hv
      rw [hsu, List.map_cons, h.vert u hu] at hc
      rw [hsv, List.map_cons, h.vert v hv] at hd
      have := hc.link hd
      simp only [hsu, hsv, List.map_cons, List.map_nil, h.vert u hu, h.vert v hv, lab1, lab2]
      exact ⟨u, this⟩
    · rw [e2, mapO _ e3 e4]; exact h.tour x hx
  · have old : ∀ y, y < n → k ∈ σ y → k < n ∨ ∃ a b, arcAdd (arcAdd arc u v k1) v u k2 a b = some k := by
      intro y hy hky
      rcases h.live y hy k hky with h' | ⟨a, b, h'⟩
      · exact .inl h'
      · right
        have e1 : ¬ (a = v ∧ b = u) := by
          rintro ⟨rfl, rfl⟩
          obtain ⟨_, h2, h3⟩ := h.both hA h'
          exact ne h3
        have e2 : ¬ (a = u ∧ b = v) := by
          rintro ⟨rfl, rfl⟩
          obtain ⟨_, h2, h3⟩ := h.both hA h'
          exact ne h3.symm
        exact ⟨a, b, by unfold arcAdd; rw [if_neg e1, if_neg e2]; exact h'⟩
    rcases key x hx with ⟨e1, e2⟩ | ⟨_, e2, _⟩
    · rw [e2, mS] at hk
      rcases hk with hk | rfl | hk | rfl
      · exact old u hu hk
      · exact .inr ⟨u, v, by unfold arcAdd; rw [if_neg (by omega), if_pos ⟨rfl, rfl⟩]⟩
      · exact old v hv hk
      · exact .inr ⟨v, u, by unfold arcAdd; rw [if_pos ⟨rfl, rfl⟩]⟩
    · rw [e2] at hk; exact old x hx hk
  · obtain ⟨g1, g2, g3⟩ := hf.2 k hk
    obtain ⟨b1, b2, b3, b4⟩ := h.fre.2 k g1
    have no : ∀ y, y < n → k ∉ σ y := fun y hy h' => by
      rcases h.live y hy k h' with h' | ⟨a, b, h'⟩
      · omega
      · exact b4 a b h'
    refine ⟨b1, by omega, ?_, fun a b hab => ?_⟩
    · unfold replS
      rw [if_neg (fun h' => by rcases (mS k).1 h' with e | e | e | e; exact no u hu e; exact g2 e; exact no v hv e; exact g3 e)]
      unfold nodeS
      rw [if_neg g3, if_neg g2, b3]
    · unfold arcAdd at hab
      split at hab
      · cases hab; exact g3 rfl
      · split at hab
        · cases hab; exact g2 rfl
        · exact b4 a b hab
end
end Go.Proofs.Ytpfkpmapimonbaa

/-! Forests as tours: an edge less. -/
namespace Go.Proofs.Ytpfkpmapimonbaa
open Go Go.V Go.RowKit
set_option linter.unusedVariables false
set_option linter.unusedSimpArgs false
set_option maxHeartbeats 4000000

def fcut (σ : Nat → List Nat) (p : List Nat) (a : Nat) (X : List Nat) (b : Nat) (q : List Nat) : Nat → List Nat := fun z =>
  if z ∈ p ++ q then p ++ q else if z ∈ X then X else if z = a then [a] else if z = b then [b] else σ z
section
variable {n len : Nat} {σ : Nat → List Nat} {arc : Nat → Nat → Option Nat} {free : List Nat} {lab : Nat → It} {L : List Nd}
theorem TourS.cut (h : TourS n len σ arc free lab) (hA : ArS L σ) {u x y a b : Nat} {p X q : List Nat} (hu : u < n) (hs : σ u = p ++ a :: (X ++ b :: q)) (ha : arc x y = some a) (hb : arc y x = some b) :
    TourS n len (fcut σ p a X b q) (arcDel (arcDel arc x y) y x) (free ++ [a, b]) lab ∧ (∃ z, z < n ∧ z ∈ X) ∧ (∃ z, z < n ∧ z ∈ p ++ q) := by
  have hd := hA.nodup u
  rw [hs] at hd
  have hd2 := hd
  rw [List.nodup_append] at hd2
  obtain ⟨dp, hd3, dpr⟩ := hd2
  rw [List.nodup_cons] at hd3
  obtain ⟨daX, hd4⟩ := hd3
  rw [List.nodup_append] at hd4
  obtain ⟨dX, hd5, dXr⟩ := hd4
  rw [List.nodup_cons] at hd5
  obtain ⟨dbq, dq⟩ := hd5
  have aX : a ∉ X := fun h' => daX (by simp [h'])
  have ab : a ≠ b := fun h' => daX (by simp [h'])
  have aq : a ∉ q := fun h' => daX (by simp [h'])
  have ap : a ∉ p := fun h' => dpr a h' a (by simp) rfl
  have bp : b ∉ p := fun h' => dpr b h' b (by simp) rfl
  have bX : b ∉ X := fun h' => dXr b h' b (by simp) rfl
  have pX : ∀ z, z ∈ p → z ∉ X := fun z h1 h2 => dpr z h1 z (by simp [h2]) rfl
  have qX : ∀ z, z ∈ q → z ∉ X := fun z h1 h2 => dXr z h2 z (by simp [h1]) rfl
  have mS : ∀ z, z ∈ σ u ↔ z ∈ p ++ q ∨ z ∈ X ∨ z = a ∨ z = b := fun z => by rw [hs]; simp only [List.mem_append, List.mem_cons]; exact ⟨fun h' => (by rcases h' with h' | h' | h' | h' | h' <;> simp [h']), fun h' => (by rcases h' with (h' | h') | h' | h' | h' <;> simp [h'])⟩
  obtain ⟨a1, a2, a3, hx, hy, a6⟩ := h.arcs _ _ _ ha
  obtain ⟨b1, b2, b3, _, _, b6⟩ := h.arcs _ _ _ hb
  obtain ⟨c, hc⟩ := h.tour u hu
  have hdl := h.nodup hA hu
  rw [hs] at hc hdl
  simp only [List.map_append, List.map_cons, a3, b3] at hc hdl
  obtain ⟨e1, d, e2⟩ := Et.cut hdl hc
  have onX : ∀ z ∈ X, fcut σ p a X b q z = X := fun z hz => by
    unfold fcut
    rw [if_neg (fun h' => (List.mem_append.1 h').elim (fun h1 => pX z h1 hz) (fun h1 => qX z h1 hz)), if_pos hz]
  have onP : ∀ z ∈ p ++ q, fcut σ p a X b q z = p ++ q := fun z hz => by unfold fcut; rw [if_pos hz]
  have onO : ∀ z, z ∉ σ u → fcut σ p a X b q z = σ z := fun z hz => by
    rw [mS] at hz
    simp only [not_or] at hz
    unfold fcut
    rw [if_neg hz.1, if_neg hz.2.1, if_neg hz.2.2.1, if_neg hz.2.2.2]
  have ne_ab : ∀ u' v' k, arc u' v' = some k → ¬ (u' = x ∧ v' = y) → ¬ (u' = y ∧ v' = x) → k ≠ a ∧ k ≠ b := by
    intro u' v' k hk n1 n2
    have l1 := (h.arcs _ _ _ hk).2.2.1
    refine ⟨fun e => ?_, fun e => ?_⟩
    · subst e; rw [a3] at l1; cases l1; exact n1 ⟨rfl, rfl⟩
    · subst e; rw [b3] at l1; cases l1; exact n2 ⟨rfl, rfl⟩
  -- a live node's part is its ends' part
  have part : ∀ (P : List Nat) (c' : Nat), Et c' (P.map lab) → (∀ z ∈ P, z ∈ σ u) → ∀ u' v' k, arc u' v' = some k → k ∈ P → u' ∈ P := by
    intro P c' hP hsub u' v' k hk hkP
    have l1 := (h.arcs _ _ _ hk).2.2.1
    have : It.v u' ∈ P.map lab := (hP.edge.2 u' v' (List.mem_map.2 ⟨k, hkP, l1⟩)).2.1
    obtain ⟨z, hz, e⟩ := List.mem_map.1 this
    rcases h.live u hu z (hsub z hz) with h' | ⟨p', q', h'⟩
    · rw [h.vert z h'] at e; cases e; exact hz
    · rw [(h.arcs _ _ _ h').2.2.1] at e; cases e
  have e2' : Et d ((p ++ q).map lab) := by rw [List.map_append]; exact e2
  have vert : ∀ (P : List Nat) (c' : Nat), Et c' (P.map lab) → (∀ z ∈ P, z ∈ σ u) → ∃ z, z < n ∧ z ∈ P := by
    intro P c' hP hsub
    obtain ⟨z, hz, e⟩ := List.mem_map.1 hP.edge.1
    rcases h.live u hu z (hsub z hz) with h' | ⟨p', q', h'⟩
    · exact ⟨z, h', hz⟩
    · rw [(h.arcs _ _ _ h').2.2.1] at e; cases e
  have subX : ∀ z ∈ X, z ∈ σ u := fun z hz => (mS z).2 (.inr (.inl hz))
  have subP : ∀ z ∈ p ++ q, z ∈ σ u := fun z hz => (mS z).2 (.inl hz)
  have part_of : ∀ z k, z < n → k ∈ fcut σ p a X b q z → (z ∈ p ++ q ∧ k ∈ p ++ q ∧ fcut σ p a X b q z = p ++ q) ∨ (z ∈ X ∧ k ∈ X ∧ fcut σ p a X b q z = X) ∨ (z ∉ σ u ∧ k ∈ σ z ∧ fcut σ p a X b q z = σ z) := by
    intro z k hz hk
    by_cases h1 : z ∈ σ u
    · rcases (mS z).1 h1 with h' | h' | h' | h'
      · rw [onP z h'] at hk; exact .inl ⟨h', hk, onP z h'⟩
      · rw [onX z h'] at hk; exact .inr (.inl ⟨h', hk, onX z h'⟩)
      · omega
      · omega
    · rw [onO z h1] at hk; exact .inr (.inr ⟨h1, hk, onO z h1⟩)
  refine ⟨⟨h.nle, h.vert, fun u' v' k hk => ?_, fun z hz => ?_, fun z hz k hk => ?_, ?_, fun k hk => ?_⟩, vert X _ e1 subX, vert (p ++ q) _ e2' subP⟩
  · unfold arcDel at hk
    split at hk
    · cases hk
    · rename_i n2
      split at hk
      · cases hk
      · rename_i n1
        obtain ⟨g1, g2, g3, g4, g5, g6⟩ := h.arcs u' v' k hk
        refine ⟨g1, g2, g3, g4, g5, ?_⟩
        obtain ⟨ka, kb⟩ := ne_ab u' v' k hk n1 n2
        by_cases h1 : u' ∈ σ u
        · have hku : k ∈ σ u := by rw [← hA.eq h1]; exact g6
          rcases (mS k).1 hku with h' | h' | h' | h'
          · rw [onP u' (part _ _ e2' subP u' v' k hk h')]; exact h'
          · rw [onX u' (part _ _ e1 subX u' v' k hk h')]; exact h'
          · exact absurd h' ka
          · exact absurd h' kb
        · rw [onO u' h1]; exact g6
  · obtain ⟨c', hc'⟩ := h.tour z hz
    by_cases h1 : z ∈ σ u
    · rcases (mS z).1 h1 with h' | h' | h' | h'
      · rw [onP z h']; exact ⟨d, e2'⟩
      · rw [onX z h']; exact ⟨_, e1⟩
      · omega
      · omega
    · rw [onO z h1]; exact ⟨c', hc'⟩
  · have old : ∀ z', z' < n → k ∈ σ z' → k ≠ a → k ≠ b → k < n ∨ ∃ u' v', arcDel (arcDel arc x y) y x u' v' = some k := by
      intro z' hz' hkz ka kb
      rcases h.live z' hz' k hkz with h' | ⟨u', v', h'⟩
      · exact .inl h'
      · right
        refine ⟨u', v', ?_⟩
        unfold arcDel
        rw [if_neg (by rintro ⟨rfl, rfl⟩; rw [hb] at h'; cases h'; exact kb rfl), if_neg (by rintro ⟨rfl, rfl⟩; rw [ha] at h'; cases h'; exact ka rfl), h']
    rcases part_of z k hz hk with ⟨_, h', _⟩ | ⟨_, h', _⟩ | ⟨h1, h', _⟩
    · exact old u hu (subP k h') (fun e => by subst e; exact (List.mem_append.1 h').elim ap aq) (fun e => by subst e; exact (List.mem_append.1 h').elim bp dbq)
    · exact old u hu (subX k h') (fun e => by subst e; exact aX h') (fun e => by subst e; exact bX h')
    · refine old z hz h' (fun e => ?_) (fun e => ?_)
      · subst e; exact h1 (by rw [← hA.eq (show k ∈ σ u from (mS k).2 (by simp)), hA.eq h']; exact hA.self (hA.lt h').2)
      · subst e; exact h1 (by rw [← hA.eq (show k ∈ σ u from (mS k).2 (by simp)), hA.eq h']; exact hA.self (hA.lt h').2)
  · rw [List.nodup_append]
    refine ⟨h.fre.1, by simp [ab], fun k hk k' hk' e => ?_⟩
    subst e
    have := (h.fre.2 k hk).2.2.2
    simp at hk'
    rcases hk' with rfl | rfl
    · exact this _ _ ha
    · exact this _ _ hb
  · have gone : ∀ k, (k = a ∨ k = b) → ∀ u' v', arcDel (arcDel arc x y) y x u' v' ≠ some k := by
      intro k hk u' v' hk'
      unfold arcDel at hk'
      split at hk'
      · cases hk'
      · rename_i n2
        split at hk'
        · cases hk'
        · rename_i n1
          obtain ⟨g1, g2⟩ := ne_ab u' v' k hk' n1 n2
          exact hk.elim g1 g2
    rcases List.mem_append.1 hk with hk | hk
    · obtain ⟨f1, f2, f3, f4⟩ := h.fre.2 k hk
      refine ⟨f1, f2, ?_, fun u' v' h' => ?_⟩
      · rw [onO k, f3]
        intro h'
        rcases h.live u hu k h' with h'' | ⟨u', v', h''⟩
        · omega
        · exact f4 u' v' h''
      · unfold arcDel at h'
        split at h'
        · cases h'
        · split at h'
          · cases h'
          · exact f4 u' v' h'
    · simp at hk
      rcases hk with rfl | rfl
      · refine ⟨a1, a2, ?_, gone _ (.inl rfl)⟩
        unfold fcut
        rw [if_neg (fun h' => (List.mem_append.1 h').elim ap aq), if_neg aX, if_pos rfl]
      · refine ⟨b1, b2, ?_, gone _ (.inr rfl)⟩
        unfold fcut
        rw [if_neg (fun h' => (List.mem_append.1 h').elim bp dbq), if_neg bX, if_neg (fun e => ab e.symm), if_pos rfl]
end
end Go.Proofs.Ytpfkpmapimonbaa

/-! Forests as tours: the vertices of a tree, how many trees, what the edges tell. -/
namespace Go.Proofs.Ytpfkpmapimonbaa
open Go Go.V Go.RowKit
set_option linter.unusedVariables false
set_option linter.unusedSimpArgs false
set_option maxHeartbeats 4000000

theorem len_sub {l m : List Nat} : l.Nodup → (∀ a ∈ l, a ∈ m) → l.length ≤ m.length := by
  induction l generalizing m with
  | nil => intros; simp
  | cons x l ih =>
    intro hd hs
    rw [List.nodup_cons] at hd
    have hx : x ∈ m := hs x (by simp)
    have := ih (m := m.erase x) hd.2 fun a ha => (List.mem_erase_of_ne (fun e => hd.1 (by rw [← e]; exact ha))).2 (hs a (by simp [ha]))
    rw [List.length_erase_of_mem hx] at this
    have : 0 < m.length := List.length_pos_of_mem hx
    simp only [List.length_cons]; omega
theorem len_same {l m : List Nat} (hl : l.Nodup) (hm : m.Nodup) (h : ∀ a, a ∈ l ↔ a ∈ m) : l.length = m.length :=
  Nat.le_antisymm (len_sub hl fun a ha => (h a).1 ha) (len_sub hm fun a ha => (h a).2 ha)
/-- Rising lists of the same are the same. -/
theorem rise_ext {l m : List Nat} (hl : l.Pairwise (· < ·)) (hm : m.Pairwise (· < ·)) (h : ∀ a, a ∈ l ↔ a ∈ m) : l = m := by
  induction l generalizing m with
  | nil =>
    cases m with
    | nil => rfl
    | cons y m => have := (h y).2 (by simp); simp at this
  | cons x l ih =>
    cases m with
    | nil => have := (h x).1 (by simp); simp at this
    | cons y m =>
      rw [List.pairwise_cons] at hl hm
      have hxy : x = y := by
        rcases List.mem_cons.1 ((h x).1 (by simp)) with e | e
        · exact e
        · rcases List.mem_cons.1 ((h y).2 (by simp)) with e' | e'
          · exact e'.symm
          · have := hl.1 y e'; have := hm.1 x e; omega
      subst hxy
      congr 1
      refine ih hl.2 hm.2 fun a => ⟨fun ha => ?_, fun ha => ?_⟩
      · rcases List.mem_cons.1 ((h a).1 (by simp [ha])) with e | e
        · subst e; have := hl.1 a ha; omega
        · exact e
      · rcases List.mem_cons.1 ((h a).2 (by simp [ha])) with e | e
        · subst e; have := hm.1 a ha; omega
        · exact e
/-- The vertices of a tree, rising. -/
def verts (n : Nat) (σ : Nat → List Nat) (u : Nat) : List Nat := (List.range n).filter fun x => decide (x ∈ σ u)
theorem mem_verts {n : Nat} {σ : Nat → List Nat} {u x : Nat} : x ∈ verts n σ u ↔ x < n ∧ x ∈ σ u := by simp [verts]
theorem verts_rise (n : Nat) (σ : Nat → List Nat) (u : Nat) : (verts n σ u).Pairwise (· < ·) := List.Pairwise.filter _ List.pairwise_lt_range
theorem verts_nodup (n : Nat) (σ : Nat → List Nat) (u : Nat) : (verts n σ u).Nodup := (verts_rise n σ u).imp (fun h => by omega)
theorem vts_nodup : ∀ {s : List It}, s.Nodup → (vts s).Nodup
  | [], _ => by simp [vts]
  | .v x :: s, h => by
    rw [List.nodup_cons] at h
    show (x :: vts s).Nodup
    rw [List.nodup_cons]
    exact ⟨fun h' => h.1 (mem_vts.1 h'), vts_nodup h.2⟩
  | .a _ _ :: s, h => by
    rw [List.nodup_cons] at h
    exact vts_nodup (s := s) h.2
section
variable {n len : Nat} {σ : Nat → List Nat} {arc : Nat → Nat → Option Nat} {free : List Nat} {lab : Nat → It} {L : List Nd} {E : List (Nat × Nat)}
/-- A tour is three times as long as its tree has vertices, but for two. -/
theorem TourS.size (h : TourS n len σ arc free lab) (hA : ArS L σ) {u : Nat} (hu : u < n) : (σ u).length + 2 = 3 * (verts n σ u).length := by
  obtain ⟨c, hc⟩ := h.tour u hu
  have := hc.length
  rw [List.length_map] at this
  rw [this, len_same (vts_nodup (h.nodup hA hu)) (verts_nodup n σ u) fun a => by rw [mem_vts, h.vmem hu, mem_verts]]
def pairE (u v : Nat) : Nat × Nat := (min u v, max u v)
theorem pairE_comm (u v : Nat) : pairE u v = pairE v u := by unfold pairE; rw [Nat.min_comm, Nat.max_comm]
/-- The edges are those that the arcs go along. -/
structure EdgeS (n : Nat) (arc : Nat → Nat → Option Nat) (E : List (Nat × Nat)) : Prop where
  nodup : E.Nodup
  ok : ∀ e ∈ E, e.1 < e.2 ∧ e.2 < n
  iff : ∀ x y, (∃ k, arc x y = some k) ↔ pairE x y ∈ E
theorem EdgeS.of (h : EdgeS n arc E) {e : Nat × Nat} (he : e ∈ E) : ∃ k, arc e.1 e.2 = some k := by
  have := h.ok e he
  refine (h.iff _ _).2 ?_
  have : pairE e.1 e.2 = e := by unfold pairE; rw [Nat.min_eq_left (by omega), Nat.max_eq_right (by omega)]
  rw [this]; exact he
/-- What is marked from a vertex on, along all edges, is its tree. -/
theorem TourS.marks (h : TourS n len σ arc free lab) (hA : ArS L σ) (hE : EdgeS n arc E) {u : Nat} (hu : u < n) {S : Nat → Prop} (hS : S u) (hsub : ∀ x, x < n → S x → x ∈ σ u) (hcl : ∀ e ∈ E, S e.1 ↔ S e.2) : ∀ x, x < n → (S x ↔ x ∈ σ u) := by
  intro x hx
  refine ⟨hsub x hx, fun hm => ?_⟩
  obtain ⟨c, hc⟩ := h.tour u hu
  refine (hc.spread (S := S) (fun a b hab => ?_) ((h.vmem hu).2 ⟨hx, hm⟩) ((h.vmem hu).2 ⟨hu, hA.self (hA.lt hm).2⟩)).2 hS
  obtain ⟨k, hk, _⟩ := h.amem hu hab
  have he := hcl _ ((hE.iff a b).1 ⟨k, hk⟩)
  have hne : a ≠ b := fun e => by
    have := (hE.ok _ ((hE.iff a b).1 ⟨k, hk⟩)).1
    unfold pairE at this; simp [e] at this
  unfold pairE at he
  simp only at he
  by_cases hlt : a < b
  · rwa [Nat.min_eq_left (by omega), Nat.max_eq_right (by omega)] at he
  · rw [Nat.min_eq_right (by omega), Nat.max_eq_left (by omega)] at he
    exact he.symm
/-- The ends of an edge are of one tree. -/
theorem TourS.ends (h : TourS n len σ arc free lab) (hA : ArS L σ) (hE : EdgeS n arc E) {e : Nat × Nat} (he : e ∈ E) {u : Nat} : e.1 ∈ σ u ↔ e.2 ∈ σ u := by
  obtain ⟨k, hk⟩ := hE.of he
  obtain ⟨_, h1, h2⟩ := h.both hA hk
  constructor
  · intro h'; rw [← hA.eq h']; exact h1
  · intro h'; rw [← hA.eq h', h2]; exact hA.self (by have := h.arcs _ _ _ hk; have := h.nle; exact (hA.lt h1).2)
end
/-- How many trees: how many vertices are the least ones of theirs. -/
def cntS (n : Nat) (σ : Nat → List Nat) : Nat := ((List.range n).filter fun u => decide (∀ y ∈ σ u, y < n → u ≤ y)).length
theorem filter_one {l : List Nat} (hl : l.Nodup) {c : Nat} (hc : c ∈ l) {p q : Nat → Bool} (hp : p c = true) (hq : ∀ x ∈ l, q x = (p x && decide (x ≠ c))) : (l.filter q).length + 1 = (l.filter p).length := by
  induction l with
  | nil => simp at hc
  | cons x l ih =>
    rw [List.nodup_cons] at hl
    rcases List.mem_cons.1 hc with e | e
    · subst e
      rw [List.filter_cons_of_pos hp, List.filter_cons_of_neg (by rw [hq c (by simp)]; simp), List.length_cons]
      congr 2
      refine List.filter_congr fun y hy => ?_
      rw [hq y (by simp [hy])]
      have : y ≠ c := fun e => hl.1 (e ▸ hy)
      simp [this]
    · have ih' := ih hl.2 e (fun y hy => hq y (by simp [hy]))
      have hx : x ≠ c := fun e' => hl.1 (e' ▸ e)
      have hqx := hq x (by simp)
      by_cases hpx : p x = true
      · rw [List.filter_cons_of_pos hpx, List.filter_cons_of_pos (by rw [hqx, hpx]; simp [hx]), List.length_cons, List.length_cons]; omega
      · rw [List.filter_cons_of_neg hpx, List.filter_cons_of_neg (by rw [hqx]; simp [hpx])]; exact ih'
theorem least_ex {P : Nat → Prop} {x : Nat} (hx : P x) : ∃ m, P m ∧ ∀ y, P y → m ≤ y := by
  induction x using Nat.strongRecOn with
  | _ x ih =>
    by_cases h : ∃ y, y < x ∧ P y
    · obtain ⟨y, h1, h2⟩ := h; exact ih y h1 h2
    · exact ⟨x, hx, fun y hy => by
        by_cases h' : y < x
        · exact absurd ⟨y, h', hy⟩ h
        · omega⟩
/-- Two trees that become one are one less. -/
theorem cnt_merge {n : Nat} {σ τ : Nat → List Nat} {u v : Nat} (hr : ∀ x, x < n → x ∈ σ x) (he : ∀ x y, y ∈ σ x → σ y = σ x) (hu : u < n) (hv : v < n) (hne : v ∉ σ u) (hm : ∀ x y, x < n → y < n → (y ∈ τ x ↔ y ∈ σ x ∨ ((x ∈ σ u ∨ x ∈ σ v) ∧ (y ∈ σ u ∨ y ∈ σ v)))) : cntS n τ + 1 = cntS n σ := by
  obtain ⟨a, ⟨a1, a2⟩, a3⟩ := least_ex (P := fun y => y < n ∧ y ∈ σ u) ⟨hu, hr u hu⟩
  obtain ⟨b, ⟨b1, b2⟩, b3⟩ := least_ex (P := fun y => y < n ∧ y ∈ σ v) ⟨hv, hr v hv⟩
  have dis : ∀ z, z ∈ σ u → z ∈ σ v → False := fun z h1 h2 => hne (by rw [← he u z h1, he v z h2]; exact hr v hv)
  have ab : a ≠ b := fun e => dis a a2 (by rw [e]; exact b2)
  unfold cntS
  refine filter_one (c := max a b) List.nodup_range (by simp; omega) ?_ fun x hx => ?_
  · simp only [decide_eq_true_eq]
    intro y hy hyn
    rcases Nat.le_total a b with h | h
    · rw [Nat.max_eq_right h] at hy ⊢
      rw [he v b b2] at hy; exact b3 y ⟨hyn, hy⟩
    · rw [Nat.max_eq_left h] at hy ⊢
      rw [he u a a2] at hy; exact a3 y ⟨hyn, hy⟩
  · have hxn : x < n := by simpa using hx
    rw [Bool.eq_iff_iff]
    simp only [decide_eq_true_eq, Bool.and_eq_true]
    constructor
    · intro h
      refine ⟨fun y hy hyn => h y ((hm x y hxn hyn).2 (.inl hy)) hyn, fun e => ?_⟩
      rcases Nat.le_total a b with h' | h'
      · rw [Nat.max_eq_right h'] at e
        subst e
        have := h a ((hm x a hxn a1).2 (.inr ⟨.inr b2, .inl a2⟩)) a1
        omega
      · rw [Nat.max_eq_left h'] at e
        subst e
        have := h b ((hm x b hxn b1).2 (.inr ⟨.inl a2, .inr b2⟩)) b1
        omega
    · rintro ⟨h1, h2⟩ y hy hyn
      rcases (hm x y hxn hyn).1 hy with h | ⟨h3, h4⟩
      · exact h1 y h hyn
      · -- x is a or b, the lesser one
        have hxab : x = a ∨ x = b := by
          rcases h3 with h3 | h3
          · left
            have e1 := a3 x ⟨hxn, h3⟩
            have e2 := h1 a (by rw [he u x h3]; exact a2) a1
            omega
          · right
            have e1 := b3 x ⟨hxn, h3⟩
            have e2 := h1 b (by rw [he v x h3]; exact b2) b1
            omega
        have hy2 : a ≤ y ∨ b ≤ y := h4.elim (fun h => .inl (a3 y ⟨hyn, h⟩)) (fun h => .inr (b3 y ⟨hyn, h⟩))
        have hya : y ∈ σ u → a ≤ y := fun h => a3 y ⟨hyn, h⟩
        have hyb : y ∈ σ v → b ≤ y := fun h => b3 y ⟨hyn, h⟩
        rcases Nat.le_total a b with h' | h'
        · rw [Nat.max_eq_right h'] at h2; omega
        · rw [Nat.max_eq_left h'] at h2; omega
end Go.Proofs.Ytpfkpmapimonbaa

/-! A list of numbers sorted; edges of a graph kept in order. -/
namespace Go.Proofs.Ytpfkpmapimonbaa
open Go Go.V Go.RowKit
set_option linter.unusedVariables false
set_option linter.unusedSimpArgs false
set_option maxHeartbeats 4000000

theorem rise_extI {l m : List Int} (hl : l.Pairwise (· < ·)) (hm : m.Pairwise (· < ·)) (h : ∀ a, a ∈ l ↔ a ∈ m) : l = m := by
  induction l generalizing m with
  | nil =>
    cases m with
    | nil => rfl
    | cons y m => have := (h y).2 (by simp); simp at this
  | cons x l ih =>
    cases m with
    | nil => have := (h x).1 (by simp); simp at this
    | cons y m =>
      rw [List.pairwise_cons] at hl hm
      have hxy : x = y := by
        rcases List.mem_cons.1 ((h x).1 (by simp)) with e | e
        · exact e
        · rcases List.mem_cons.1 ((h y).2 (by simp)) with e' | e'
          · exact e'.symm
          · have := hl.1 y e'; have := hm.1 x e; omega
      subst hxy
      congr 1
      refine ih hl.2 hm.2 fun a => ⟨fun ha => ?_, fun ha => ?_⟩
      · rcases List.mem_cons.1 ((h a).1 (by simp [ha])) with e | e
        · subst e; have := hl.1 a ha; omega
        · exact e
      · rcases List.mem_cons.1 ((h a).2 (by simp [ha])) with e | e
        · subst e; have := hm.1 a ha; omega
        · exact e
abbrev intsN (l : List Nat) : List Int := l.map fun b : Nat => (b : Int)
theorem sort_verts {zs : List Int} {m : List Nat} (hz : zs.Nodup) (hm : m.Pairwise (· < ·)) (h : ∀ a : Int, a ∈ zs ↔ a ∈ intsN m) : zs.mergeSort (fun x y => decide (x ≤ y)) = intsN m := by
  have hp := List.mergeSort_perm zs (fun x y => decide (x ≤ y))
  have hs : (zs.mergeSort (fun x y => decide (x ≤ y))).Pairwise (fun a b => decide (a ≤ b) = true) := List.pairwise_mergeSort (fun a b c h1 h2 => by simp at *; omega) (fun a b => by simp; omega) zs
  have hd : (zs.mergeSort (fun x y => decide (x ≤ y))).Nodup := hp.nodup_iff.2 hz
  refine rise_extI ?_ ?_ fun a => by rw [hp.mem_iff, h]
  · have := hs.and hd
    exact this.imp fun {a b} h => by have h1 := h.1; have h2 := h.2; simp at h1; omega
  · rw [List.pairwise_map]; exact hm.imp fun h => by omega
/-- The numbers below a number, of a sequence, sorted: its vertices. -/
theorem sort_part {n : Nat} {σ : Nat → List Nat} {u : Nat} (hd : (σ u).Nodup) : ((intsN (σ u)).filter fun x => !decide (x ≥ (n : Int))).mergeSort (fun x y => decide (x ≤ y)) = intsN (verts n σ u) := by
  refine sort_verts ?_ (verts_rise n σ u) fun a => ?_
  · refine List.Nodup.sublist List.filter_sublist ?_
    rw [List.nodup_iff_pairwise_ne, List.pairwise_map]
    exact hd.imp fun h e => h (by omega)
  · simp only [List.mem_filter, List.mem_map, mem_verts, Bool.not_eq_true', decide_eq_false_iff_not]
    constructor
    · rintro ⟨⟨b, h1, rfl⟩, h2⟩; exact ⟨b, ⟨by omega, h1⟩, rfl⟩
    · rintro ⟨b, ⟨h1, h2⟩, rfl⟩; exact ⟨⟨b, h2, rfl⟩, by omega⟩
end Go.Proofs.Ytpfkpmapimonbaa

/-! Nodes of an arena in memory. -/
namespace Go.Proofs.Ytpfkpmapimonbaa
open Go Go.V Go.RowKit
set_option linter.unusedVariables false
set_option linter.unusedSimpArgs false
set_option maxHeartbeats 4000000
set_option maxRecDepth 100000

def ndC (x : Nd) : List Value := [.int .i64 x.up, .int .i64 x.left, .int .i64 x.right, .int .i64 x.size, .int .u64 x.rank]
def nds (L : List Nd) : List Value := L.flatMap ndC
theorem nds_length (L : List Nd) : (nds L).length = L.length * 5 := by
  induction L with
  | nil => rfl
  | cons x L ih => show (ndC x ++ nds L).length = _; rw [List.length_append, ih]; show 5 + _ = _; simp only [List.length_cons]; omega
theorem nds_append (L M : List Nd) : nds (L ++ M) = nds L ++ nds M := by simp [nds]
theorem nds_get : ∀ (L : List Nd) (x : Nat) (hx : x < L.length) (j : Nat), j < 5 → (nds L)[x * 5 + j]? = (ndC L[x])[j]?
  | a :: L, 0, hx, j, hj => by
    show (ndC a ++ nds L)[0 * 5 + j]? = _
    rw [Nat.zero_mul, Nat.zero_add, List.getElem?_append_left (by show j < 5; exact hj)]; rfl
  | a :: L, x + 1, hx, j, hj => by
    show (ndC a ++ nds L)[(x + 1) * 5 + j]? = _
    rw [List.getElem?_append_right (by show 5 ≤ _; omega)]
    have := nds_get L x (by simpa using hx) j hj
    rw [show (x + 1) * 5 + j - (ndC a).length = x * 5 + j by show _ - 5 = _; omega, this]; rfl
theorem nds_set : ∀ (L : List Nd) (x : Nat) (hx : x < L.length) (j : Nat) (u : Value) (e : Nd), j < 5 → ndC e = (ndC L[x]).set j u → nds (L.set x e) = (nds L).set (x * 5 + j) u
  | a :: L, 0, hx, j, u, e, hj, he => by
    show ndC e ++ nds L = (ndC a ++ nds L).set (0 * 5 + j) u
    rw [Nat.zero_mul, Nat.zero_add, List.set_append_left _ _ (by show j < 5; exact hj)]
    rw [show ndC e = (ndC a).set j u from he]
  | a :: L, x + 1, hx, j, u, e, hj, he => by
    show ndC a ++ nds (L.set x e) = (ndC a ++ nds L).set ((x + 1) * 5 + j) u
    rw [List.set_append_right _ _ (by show 5 ≤ _; omega)]
    rw [nds_set L x (by simpa using hx) j u e hj (by simpa using he)]
    congr 2
    show x * 5 + j = (x + 1) * 5 + j - 5
    omega
theorem updN_set {L : List Nd} {x : Nat} (hx : x < L.length) (f : Nd → Nd) : updN L x f = L.set x (f L[x]) := by
  unfold updN; rw [List.getElem?_eq_getElem hx]
/-- An arena in memory: its block g, its row's block b. -/
def AB (w : World) (base g b n c : Nat) (L : List Nd) (seed : Int) : Prop :=
  w.heap[g]? = some (.cells #[.slice (some ⟨b, 0, none⟩) n c, .int .u64 seed] 95 (0, 0)) ∧ OwnedK w base 98 5 (some ⟨b, 0, none⟩) n c (nds L) ∧ base ≤ g
section
variable {w w' : World} {base g b n c : Nat} {L : List Nd} {seed : Int}
theorem AB.len (h : AB w base g b n c L seed) : n = L.length := by have := h.2.1.cases.1; rw [nds_length] at this; omega
theorem AB.ge (h : AB w base g b n c L seed) : base ≤ b ∧ ∃ cur, w.heap[b]? = some (.cells cur 98 (0, 0)) := by
  obtain ⟨_, h2 | ⟨g', cur, e, h3, _, _, h6, _⟩⟩ := h.2.1.cases
  · cases h2.1
  · cases e; exact ⟨h3, cur, h6⟩
theorem AB.ne (h : AB w base g b n c L seed) : b ≠ g := by
  obtain ⟨_, cur, h1⟩ := h.ge
  intro e
  rw [e, h.1] at h1; cases h1
theorem AB.kept (h : AB w base g b n c L seed) (hg : w.grownBy w' none) : AB w' base g b n c L seed := ⟨by rw [hg.block _ (Array.getElem?_eq_some_iff.1 h.1).1 (by simp)]; exact h.1, h.2.1.kept hg, h.2.2⟩
theorem AB.kp {S : Nat → Prop} (h : AB w base g b n c L seed) (hk : Kp w w' S) (h1 : ¬ S g) (h2 : ¬ S b) : AB w' base g b n c L seed :=
  ⟨by rw [hk.block _ (Array.getElem?_eq_some_iff.1 h.1).1 h1]; exact h.1, h.2.1.kp hk (fun k hk e => by simp [Value.ownBlock] at hk; subst hk; exact h2 e), h.2.2⟩
/-- What stands in a node's cell. -/
theorem AB.cell (h : AB w base g b n c L seed) {x : Nat} (hx : x < L.length) {j : Nat} (hj : j < 5) : w.cell? ⟨b, x * 5 + j, none⟩ = (ndC L[x])[j]? := by
  have hl : x * 5 + j < (nds L).length := by rw [nds_length]; omega
  obtain ⟨a, e1, e2⟩ := h.2.1.row (x * 5 + j) (nds L)[x * 5 + j] (List.getElem?_eq_getElem hl)
  cases e1
  rw [add_blk] at e2
  rw [e2, ← List.getElem?_eq_getElem hl, nds_get L x hx j hj]
/-- A node's cell written. -/
theorem AB.put (h : AB w base g b n c L seed) {x : Nat} (hx : x < L.length) {j : Nat} (hj : j < 5) {u : Value} {e : Nd} (he : ndC e = (ndC L[x]).set j u) :
    (∃ uv_ : Value, w.cell? ⟨b, x * 5 + j, none⟩ = some uv_) ∧ w.frozen? ⟨b, x * 5 + j, none⟩ = false ∧ AB (w.setCell ⟨b, x * 5 + j, none⟩ u) base g b n c (L.set x e) seed ∧ Kp w (w.setCell ⟨b, x * 5 + j, none⟩ u) (fun q => q = b) := by
  obtain ⟨b', e1, h1, h2, h3, h4, h5, h6⟩ := own_put h.2.1 (k := x * 5 + j) (by rw [nds_length]; omega) u
  cases e1
  rw [← nds_set L x hx j u e hj he] at h5
  have hne := h.ne
  exact ⟨h3, h4, ⟨blk_far h.1 (p := ⟨b, x * 5 + j, none⟩) (show b ≠ g from hne) u, h5, h.2.2⟩, h6⟩
end
end Go.Proofs.Ytpfkpmapimonbaa
