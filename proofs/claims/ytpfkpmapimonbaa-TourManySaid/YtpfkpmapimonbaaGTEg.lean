/- Own texts, packed: Z21, Z22, Z24, Z25, Z26, Z27, Z28, Z29, Z30. -/
import Derived.Test.YtpfkpmapimonbaaGTCg
import Derived.Test.YtpfkpmapimonbaaGTXg
import Derived.ChangeKeysEq
import Derived.Laws.StructEq
import Derived.Test.YtpfkpmapimonbaaGXg
import Derived.Test.YtpfkpmapimonbaaGTDg

/-! archipelagoref21: a graph in memory; pair, there, at, Has, Add, Drop: the walks. -/
namespace Go.Proofs.Ytpfkpmapimonbaa
open Go Go.V Go.RowKit
set_option linter.unusedVariables false
set_option linter.unusedSimpArgs false
set_option maxHeartbeats 4000000
set_option maxRecDepth 100000

def prC (e : Nat × Nat) : List Value := [.int .i64 (e.1 : Int), .int .i64 (e.2 : Int)]
def prs (E : List (Nat × Nat)) : List Value := E.flatMap prC
theorem prs_length (E : List (Nat × Nat)) : (prs E).length = E.length * 2 := by
  induction E with
  | nil => rfl
  | cons x E ih => show (prC x ++ prs E).length = _; rw [List.length_append, ih]; show 2 + _ = _; simp only [List.length_cons]; omega
theorem prs_get : ∀ (E : List (Nat × Nat)) (x : Nat) (hx : x < E.length) (j : Nat), j < 2 → (prs E)[x * 2 + j]? = (prC E[x])[j]?
  | a :: E, 0, hx, j, hj => by
    show (prC a ++ prs E)[0 * 2 + j]? = _
    rw [Nat.zero_mul, Nat.zero_add, List.getElem?_append_left (by show j < 2; exact hj)]; rfl
  | a :: E, x + 1, hx, j, hj => by
    show (prC a ++ prs E)[(x + 1) * 2 + j]? = _
    rw [List.getElem?_append_right (by show 2 ≤ _; omega)]
    have := prs_get E x (by simpa using hx) j hj
    rw [show (x + 1) * 2 + j - (prC a).length = x * 2 + j by show _ - 2 = _; omega, this]; rfl
/-- A graph of the reference in memory, whose blocks are of T. -/
structure GR (w : World) (base r N : Nat) (T : Nat → Prop) (A : Option Addr) (n c : Nat) (E : List (Nat × Nat)) : Prop where
  blk : w.heap[r]? = some (.cells #[.int .i64 (N : Int), .slice A n c] 34 (0, 0))
  own : OwnedK w base 35 2 A n c (prs E)
  tr : T r
  ta : ∀ q, (Value.slice A n c).ownBlock = some q → T q
  lt : ∀ q, T q → q < w.heap.size
section
variable {w w' : World} {base r N n c : Nat} {T : Nat → Prop} {A : Option Addr} {E : List (Nat × Nat)}
theorem GR.len (h : GR w base r N T A n c E) : n = E.length := by have := h.own.cases.1; rw [prs_length] at this; omega
theorem GR.kp {S : Nat → Prop} (h : GR w base r N T A n c E) (hk : Kp w w' S) (hd : ∀ q, T q → ¬ S q) : GR w' base r N T A n c E :=
  ⟨by rw [hk.block _ (Array.getElem?_eq_some_iff.1 h.blk).1 (hd r h.tr)]; exact h.blk, h.own.kp hk (fun q hq => hd q (h.ta q hq)), h.tr, h.ta, fun q hq => Nat.lt_of_lt_of_le (h.lt q hq) hk.size⟩
theorem GR.kept (h : GR w base r N T A n c E) (hg : w.grownBy w' none) : GR w' base r N T A n c E := h.kp (S := fun _ => False) (Kp.of_none hg) (fun _ _ e => e)
theorem GR.cell (h : GR w base r N T A n c E) {x : Nat} (hx : x < E.length) : ∃ a, A = some a ∧ w.cell? (a.add (x * 2)) = some (.int .i64 (E[x].1 : Int)) ∧ w.cell? (Addr.add (a.add (x * 2)) 1) = some (.int .i64 (E[x].2 : Int)) := by
  obtain ⟨a, e1, e2⟩ := h.own.row (x * 2 + 0) (.int .i64 (E[x].1 : Int)) (by rw [prs_get E x hx 0 (by omega)]; rfl)
  obtain ⟨b, f1, f2⟩ := h.own.row (x * 2 + 1) (.int .i64 (E[x].2 : Int)) (by rw [prs_get E x hx 1 (by omega)]; rfl)
  rw [e1] at f1; cases f1
  exact ⟨a, e1, e2, by rw [add_add]; exact f2⟩
theorem mnE (u v : Int) : mn u v = min u v := by unfold mn; split <;> omega
theorem mxE (u v : Int) : mx u v = max u v := by unfold mx; split <;> omega
end
end Go.Proofs.Ytpfkpmapimonbaa

/-! archipelagoref21: Add, Drop, Part, Connected, Link, Count; archipelagohelp.Ints: the walks. -/
namespace Go.Proofs.Ytpfkpmapimonbaa
open Go Go.V Go.RowKit
set_option linter.unusedVariables false
set_option linter.unusedSimpArgs false
set_option maxHeartbeats 4000000
set_option maxRecDepth 100000

theorem intsZ_calls {w : World} {A B : Option Addr} {n c m d : Nat} {xs ys : List Int} (hA : Row w A (i64s xs)) (hB : Row w B (i64s ys)) (hn : n = xs.length) (hm : m = ys.length) (hb : n ≤ 2 ^ 60) :
    Calls P 23 #[.slice A n c, .slice B m d] w fun ev w' => ev = .returned (.bool (decide (xs = ys))) ∧ w.grownBy w' none := by
  apply vc23; unfold VC23; try (conv => zeta)
  simp only [InK]
  refine ⟨fun h => ⟨?_, grown_refl _ _⟩, fun h => ?_⟩
  · have : xs ≠ ys := fun e => by subst e; omega
    simp [this]
  · have hl : xs.length = ys.length := by omega
    refine ⟨fun ms i w' => ∃ k : Nat, i = (k : Int) ∧ k ≤ xs.length ∧ ms = xs.length - k ∧ xs.take k = ys.take k ∧ w.grownBy w' none, ⟨_, 0, rfl, by omega, rfl, by simp, grown_refl _ _⟩, ?_⟩
    rintro ms i w' ⟨k, rfl, hk, rfl, ht, hg⟩
    refine ⟨fun hlt => ?_, fun hge => ?_⟩
    · have l1 : k < xs.length := by omega
      have l2 : k < ys.length := by omega
      obtain ⟨a, ha1, ha2⟩ := (hA.kept_none hg) k (.int .i64 xs[k]) (by simp [l1])
      obtain ⟨b, hb1, hb2⟩ := (hB.kept_none hg) k (.int .i64 ys[k]) (by simp [l2])
      refine ⟨a, ha1, by omega, by omega, xs[k], ha2, b, hb1, by omega, by omega, ys[k], hb2, fun hne => ⟨?_, grown_drew hg⟩, fun he => ?_⟩
      · have : xs ≠ ys := fun e => hne (by subst e; rfl)
        simp [this]
      · have he : xs[k] = ys[k] := Decidable.not_not.1 he
        refine ⟨by omega, xs.length - (k + 1), by omega, k + 1, by omega, by omega, rfl, ?_, grown_drew hg⟩
        rw [List.take_succ_eq_append_getElem l1, List.take_succ_eq_append_getElem l2, ht, he]
    · have hk' : k = xs.length := by omega
      rw [hk', List.take_length, hl, List.take_length] at ht
      refine ⟨?_, hg⟩
      simp [ht]
section
variable {w w' : World} {base r N n c : Nat} {T : Nat → Prop} {A : Option Addr} {E : List (Nat × Nat)}
/-- The row of edges is another one. -/
theorem GR.put {A' : Option Addr} {n' c' : Nat} {E' : List (Nat × Nat)} {W : World} (h : GR w base r N T A n c E) (hb : W.heap[r]? = some (.cells #[.int .i64 (N : Int), .slice A n c] 34 (0, 0))) (ho : OwnedK W base 35 2 A' n' c' (prs E')) (hk : Kp w W T) (hn : ∀ k, (Value.slice A' n' c').ownBlock = some k → T k ∨ w.heap.size ≤ k) :
    GR (W.setCell ⟨r, 1, none⟩ (.slice A' n' c')) base r N (extS T w (W.setCell ⟨r, 1, none⟩ (.slice A' n' c'))) A' n' c' E' ∧ Kp w (W.setCell ⟨r, 1, none⟩ (.slice A' n' c')) T := by
  have s1 := blk_set hb 1 (.slice A' n' c')
  have KS : Kp W (W.setCell ⟨r, 1, none⟩ (.slice A' n' c')) (fun q => q = r) := kset (Kp.refl W _) rfl
  have KF := hk.then KS (fun q _ e => by rw [e]; exact h.tr)
  have ho' := ho.kp KS (fun q hq e => by subst e; exact own_far ho hb (by decide) hq)
  refine ⟨⟨by simpa using s1, ho', .inl h.tr, fun q hq => ?_, fun q hq => ?_⟩, KF⟩
  · rcases hn q hq with e | e
    · exact .inl e
    · exact .inr ⟨e, ho'.block_lt q hq⟩
  · rcases hq with e | e
    · exact Nat.lt_of_lt_of_le (h.lt q e) KF.size
    · exact e.2
end
end Go.Proofs.Ytpfkpmapimonbaa

/-! archipelagoref21: Part, Connected, Link, Count: the walks, at a forest's edges. -/
namespace Go.Proofs.Ytpfkpmapimonbaa
open Go Go.V Go.RowKit
set_option linter.unusedVariables false
set_option linter.unusedSimpArgs false
set_option maxHeartbeats 4000000
set_option maxRecDepth 100000

section
variable {w w' : World} {base r N n c : Nat} {T : Nat → Prop} {A : Option Addr} {E : List (Nat × Nat)}
variable {L : List Nd} {M : List (Arc × Nat)} {free : List Nat} {σ : Nat → List Nat} {lab : Nat → It}
end
end Go.Proofs.Ytpfkpmapimonbaa

/-! tour.New: the walk; a forest's answers by its edges. -/
namespace Go.Proofs.Ytpfkpmapimonbaa
open Go Go.V Go.RowKit
set_option linter.unusedVariables false
set_option linter.unusedSimpArgs false
set_option maxHeartbeats 4000000
set_option maxRecDepth 100000

def sig0 (i : Nat) : Nat → List Nat := fun z => if z < i then [z] else []
theorem sig0_next (i : Nat) : nodeS (sig0 i) i = sig0 (i + 1) := by
  funext z
  unfold nodeS sig0
  by_cases e : z = i
  · subst e; simp
  · rw [if_neg e]
    by_cases h : z < i
    · rw [if_pos h, if_pos (by omega)]
    · rw [if_neg h, if_neg (by omega)]
theorem ArS.zero : ArS [] (sig0 0) := ⟨fun x hx => by simp at hx, fun x hx => by simp at hx, fun x _ => by simp [sig0]⟩
theorem TG.new {N : Nat} {L : List Nd} (hl : L.length = N) (hs : ArS L (sig0 N)) : TG N L (sig0 N) [] [] It.v [] := by
  refine ⟨hs, ⟨by omega, fun _ _ => rfl, fun u v k hk => ?_, fun x hx => ?_, fun x hx k hk => ?_, by simp, fun k hk => by simp at hk⟩, ⟨by simp, fun e he => by simp at he, fun x y => ?_⟩, rfl, by simp, fun p hp => by simp at hp, ?_⟩
  · simp [arcOf, getK] at hk
  · refine ⟨x, ?_⟩
    unfold sig0; rw [if_pos hx]; exact Et.single x
  · unfold sig0 at hk; rw [if_pos hx] at hk; simp at hk; left; omega
  · simp [arcOf, getK]
  · unfold cntS
    rw [List.filter_eq_self.2]
    · simp
    · intro x hx
      simp only [decide_eq_true_eq]
      intro y hy hyn
      unfold sig0 at hy
      rw [if_pos (by simpa using hx)] at hy
      simp at hy; omega
def nOf (n : Int) : Nat := (min (max n 0) 65536).toNat
theorem fnew_calls {w : World} {base : Nat} (hb : base ≤ w.heap.size) (n sd : Int) : Calls P 13 #[.int .i64 n, .int .u64 sd] w fun ev w' => ∃ f g : Nat, ev = .returned (.pointer (some ⟨f, 0, none⟩)) ∧ FG w' base f g (nOf n) (fun q => w.heap.size ≤ q ∧ q < w'.heap.size) (nOf n) (sig0 (nOf n)) [] ∧ w.grownBy w' none := by
  apply vc13; unfold VC13; try (conv => zeta)
  simp only [InK, mnE, mxE]
  refine (new_calls21 sd hb).mono fun ev w1 hh => ?_
  obtain ⟨s', rfl, ha, g1, _⟩ := hh
  have hN : (min (max n 0) 65536 : Int) = (nOf n : Int) := by unfold nOf; omega
  have hNb : nOf n ≤ 65536 := by unfold nOf; omega
  rw [hN]
  refine ⟨_, rfl, ?_⟩
  have hm : MapA (w1.alloc (.map #[] 0)) w1.heap.size [] := MapAt.made w1
  have g2 := World.grownBy_alloc w1 (.map #[] 0) none
  obtain ⟨w2, hw2⟩ : ∃ w2, w2 = w1.alloc (.map #[] 0) := ⟨_, rfl⟩
  rw [← hw2] at hm g2 ⊢
  have g3 := World.grownBy_alloc w2 (.cells #[.pointer (some ⟨w.heap.size, 0, none⟩), .int .i64 (nOf n : Int), .map (some w1.heap.size), .slice none 0 0] 60) none
  have b3 := heap_alloc_new w2 (.cells #[.pointer (some ⟨w.heap.size, 0, none⟩), .int .i64 (nOf n : Int), .map (some w1.heap.size), .slice none 0 0] 60)
  obtain ⟨w3, hw3⟩ : ∃ w3, w3 = w2.alloc (.cells #[.pointer (some ⟨w.heap.size, 0, none⟩), .int .i64 (nOf n : Int), .map (some w1.heap.size), .slice none 0 0] 60) := ⟨_, rfl⟩
  rw [← hw3] at g3 b3 ⊢
  have g03 := grown_trans g1 (grown_trans g2 g3)
  have fm0 : FoM w3 base w2.heap.size w.heap.size w1.heap.size none 0 0 none 0 0 (nOf n) [] s' [] [] := ⟨b3, ha.kept (grown_trans g2 g3), hm.kept g3, OwnedK.nil _ _ _ _⟩
  refine ⟨_, rfl, _, by rw [add_blk]; exact blk_cell b3 1, ?_⟩
  refine ⟨fun m i W => ∃ (p : Nat) (A : Option Addr) (na ca : Nat) (sx : Int) (L : List Nd), i = p ∧ p ≤ nOf n ∧ m = nOf n - p ∧ FoM W base w2.heap.size w.heap.size w1.heap.size A na ca none 0 0 (nOf n) L sx [] [] ∧ L.length = p ∧ ArS L (sig0 p) ∧ w.grownBy W none ∧ (∀ q, (Value.slice A na ca).ownBlock = some q → w.heap.size ≤ q), ⟨_, 0, none, 0, 0, s', [], rfl, by omega, rfl, fm0, rfl, ArS.zero, g03, fun q hq => by cases hq⟩, ?_⟩
  rintro m i W ⟨p, A, na, ca, sx, L, rfl, hp, rfl, hF, hLl, hs, gW, hown⟩
  refine ⟨fun hlt => ?_, fun hge => ?_⟩
  · refine ⟨_, rfl, _, blk_cell hF.blk 0, (node_calls21 hF.ar (Nat.le_trans hb gW.size) (by omega)).mono fun ev w4 hh => ?_⟩
    obtain ⟨rfl, A', n', c', s2, r, a1, a2, K1⟩ := hh
    refine ⟨_, rfl, by omega, nOf n - (p + 1), by omega, p + 1, A', n', c', s2, L ++ [⟨-1, -1, -1, 1, r⟩], by omega, by omega, rfl, ⟨?_, a1, hF.mp.kp K1 (fun e => ?_), OwnedK.nil _ _ _ _⟩, by simp [hLl], ?_, ?_, fun q hq => ?_⟩
    · rw [K1.block _ (Array.getElem?_eq_some_iff.1 hF.blk).1 (fun e => ?_)]
      · exact hF.blk
      · rcases e with e | e
        · have := hF.blk; rw [e, hF.ar.blk] at this; cases this
        · exact own_far hF.ar.own hF.blk (by decide) e.symm
    · rcases e with e | e
      · exact map_ne hF.mp hF.ar.blk e
      · obtain ⟨cur, h'⟩ := hF.ar.own.block_type _ e.symm
        exact map_ne hF.mp h' rfl
    · have := hs.node (r := r)
      rw [hLl, sig0_next] at this; exact this
    · exact ((Kp.of_none (S := fun q => w.heap.size ≤ q) gW).then K1 (fun q hq e => e.elim (fun e => by omega) (fun e => by have := hown q e.symm; omega))).grown (fun q hq e => by omega)
    · rcases a2 q hq with e | e
      · exact hown q e
      · exact Nat.le_trans gW.size e
  · have hpe : p = nOf n := by omega
    subst hpe
    refine ⟨w2.heap.size, w.heap.size, rfl, ⟨L, [], [], It.v, by omega, ⟨w1.heap.size, A, na, ca, none, 0, 0, sx, hF, ⟨⟨?_, ?_⟩, ⟨Nat.le_refl _, ?_⟩, ⟨g1.size, ?_⟩, fun q hq => ⟨hown q hq, hF.ar.own.block_lt q hq⟩, fun q hq => by cases hq⟩, fun q hq => hq.2⟩, TG.new hLl hs⟩, gW⟩
    · exact Nat.le_trans g1.size g2.size
    · exact (Array.getElem?_eq_some_iff.1 hF.blk).1
    · exact (Array.getElem?_eq_some_iff.1 hF.ar.blk).1
    · exact hF.mp.lt
section
variable {N : Nat} {L : List Nd} {σ : Nat → List Nat} {M : List ((Int × Int) × Nat)} {free : List Nat} {lab : Nat → It} {E : List (Nat × Nat)}
theorem TG.self (h : TG N L σ M free lab E) {x : Nat} (hx : x < N) : x ∈ σ x := h.ars.self (by have := h.le; omega)
theorem TG.same_iff (h : TG N L σ M free lab E) {x y : Nat} (hy : y < N) : σ x = σ y ↔ y ∈ σ x := ⟨fun e => by rw [e]; exact h.self hy, fun e => (h.ars.eq e).symm⟩
/-- The ends of an edge are of one tree. -/
theorem TG.step (h : TG N L σ M free lab E) {a b u : Nat} (he : (a, b) ∈ E) : a ∈ σ u ↔ b ∈ σ u := h.tour.ends h.ars h.edge (e := (a, b)) he
/-- What is reached, and is closed, is the tree. -/
theorem TG.comp (h : TG N L σ M free lab E) {u : Nat} (hu : u < N) {S : Nat → Prop} (hS : S u) (hsub : ∀ x, x < N → S x → x ∈ σ u) (hcl : ∀ a b, (a, b) ∈ E → (S a ↔ S b)) {x : Nat} (hx : x < N) : x ∈ σ u ↔ S x :=
  (h.tour.marks h.ars h.edge hu (S := S) hS hsub (fun e he => hcl e.1 e.2 he) x hx).symm
/-- How many vertices a tree has. -/
theorem TG.size (h : TG N L σ M free lab E) {u : Nat} (hu : u < N) : ((σ u).length + 2) / 3 = (verts N σ u).length := by
  have := h.tour.size h.ars hu
  omega
theorem TG.verts_is (h : TG N L σ M free lab E) {u : Nat} (hu : u < N) {S : Nat → Prop} [DecidablePred S] (hS : S u) (hsub : ∀ x, x < N → S x → x ∈ σ u) (hcl : ∀ a b, (a, b) ∈ E → (S a ↔ S b)) : verts N σ u = (List.range N).filter fun x => decide (S x) := by
  unfold verts
  refine List.filter_congr fun x hx => ?_
  exact decide_eq_decide.2 (h.comp hu hS hsub hcl (by simpa using hx))
end
end Go.Proofs.Ytpfkpmapimonbaa

/-! A forest in use: its calls; archipelagolaw22.known, TourMany: the walks. -/
namespace Go.Proofs.Ytpfkpmapimonbaa
open Go Go.V Go.RowKit
set_option linter.unusedVariables false
set_option linter.unusedSimpArgs false
set_option maxHeartbeats 4000000
set_option maxRecDepth 100000

/-- A forest that was made behind world w0; what was there before is as it was. -/
def FS (w0 w : World) (f g N len : Nat) (σ : Nat → List Nat) (E : List (Nat × Nat)) : Prop :=
  ∃ S : Nat → Prop, FG w w0.heap.size f g N S len σ E ∧ (∀ q, S q → w0.heap.size ≤ q) ∧ w0.grownBy w none
def inN (N : Nat) (u : Int) : Prop := 0 ≤ u ∧ u < (N : Int)
instance (N : Nat) (u : Int) : Decidable (inN N u) := inferInstanceAs (Decidable (_ ∧ _))
section
variable {w0 w w' : World} {f g N len : Nat} {σ : Nat → List Nat} {E : List (Nat × Nat)}
theorem FS.kept (h : FS w0 w f g N len σ E) (hg : w.grownBy w' none) : FS w0 w' f g N len σ E := by
  obtain ⟨S, ⟨L, M, free, lab, h1, h2, h3⟩, h4, h5⟩ := h
  exact ⟨S, ⟨L, M, free, lab, h1, h2.kept hg, h3⟩, h4, grown_trans h5 hg⟩
theorem FS.grown (h : FS w0 w f g N len σ E) : w0.grownBy w none := by obtain ⟨_, _, _, h⟩ := h; exact h
theorem FS.tg (h : FS w0 w f g N len σ E) : ∃ L M free lab, TG N L σ M free lab E := by
  obtain ⟨S, ⟨L, M, free, lab, h1, h2, h3⟩, h4, h5⟩ := h
  exact ⟨L, M, free, lab, h3⟩
theorem fs_new (hg : w0.grownBy w none) (n sd : Int) : Calls P 13 #[.int .i64 n, .int .u64 sd] w fun ev w' => ∃ f g : Nat, ev = .returned (.pointer (some ⟨f, 0, none⟩)) ∧ FS w0 w' f g (nOf n) (nOf n) (sig0 (nOf n)) [] ∧ w.grownBy w' none :=
  (fnew_calls (base := w0.heap.size) hg.size n sd).mono fun ev w' hh => by
    obtain ⟨f, g, rfl, h1, h2⟩ := hh
    exact ⟨f, g, rfl, ⟨_, h1, fun q hq => Nat.le_trans hg.size hq.1, grown_trans hg h2⟩, h2⟩
theorem fs_link (h : FS w0 w f g N len σ E) (hl : len + 2 ≤ 2 ^ 20) (u v : Int) : Calls P 15 #[.pointer (some ⟨f, 0, none⟩), .int .i64 u, .int .i64 v] w fun ev w' => ev = .returned (.bool (decide (inN N u ∧ inN N v ∧ σ u.toNat ≠ σ v.toNat))) ∧
    ∃ σ', FS w0 w' f g N (len + 2) σ' (if inN N u ∧ inN N v ∧ σ u.toNat ≠ σ v.toNat then E ++ [pairE u.toNat v.toNat] else E) ∧ (¬ (inN N u ∧ inN N v ∧ σ u.toNat ≠ σ v.toNat) → σ' = σ) := by
  obtain ⟨S, ⟨L, M, free, lab, h1, h2, h3⟩, h4, h5⟩ := h
  refine (link_calls h2 h3 h5.size (by omega) u v).mono fun ev w' hh => ?_
  obtain ⟨rfl, σ', ⟨L', M', free', lab', a1, a2, a3⟩, K, hno⟩ := hh
  refine ⟨rfl, σ', ⟨_, ⟨L', M', free', lab', by omega, a2, a3⟩, fun q hq => hq.elim (h4 q) (fun e => Nat.le_trans h5.size e.1), ?_⟩, hno⟩
  exact ((Kp.of_none (S := fun q => w0.heap.size ≤ q) h5).then K (fun q _ e => h4 q e)).grown (fun q hq e => by omega)
theorem fs_cut (h : FS w0 w f g N len σ E) (hl : len ≤ 2 ^ 20) {u v : Int} (hu : okI u) (hv : okI v) : Calls P 17 #[.pointer (some ⟨f, 0, none⟩), .int .i64 u, .int .i64 v] w fun ev w' => ev = .returned (.bool (decide ((0 ≤ u ∧ 0 ≤ v) ∧ pairE u.toNat v.toNat ∈ E))) ∧
    ∃ σ', FS w0 w' f g N len σ' (if (0 ≤ u ∧ 0 ≤ v) ∧ pairE u.toNat v.toNat ∈ E then E.erase (pairE u.toNat v.toNat) else E) ∧ (¬ ((0 ≤ u ∧ 0 ≤ v) ∧ pairE u.toNat v.toNat ∈ E) → σ' = σ) := by
  obtain ⟨S, ⟨L, M, free, lab, h1, h2, h3⟩, h4, h5⟩ := h
  refine (cut_calls h2 h3 h5.size (by omega) hu hv).mono fun ev w' hh => ?_
  obtain ⟨rfl, σ', ⟨L', M', free', lab', a1, a2, a3⟩, K, hno⟩ := hh
  refine ⟨rfl, σ', ⟨_, ⟨L', M', free', lab', by omega, a2, a3⟩, fun q hq => hq.elim (h4 q) (fun e => Nat.le_trans h5.size e.1), ?_⟩, hno⟩
  exact ((Kp.of_none (S := fun q => w0.heap.size ≤ q) h5).then K (fun q _ e => h4 q e)).grown (fun q hq e => by omega)
theorem fs_conn (h : FS w0 w f g N len σ E) (u v : Int) : Calls P 19 #[.pointer (some ⟨f, 0, none⟩), .int .i64 u, .int .i64 v] w fun ev w' => ev = .returned (.bool (decide (inN N u ∧ inN N v ∧ σ u.toNat = σ v.toNat))) ∧ w' = w := by
  obtain ⟨S, ⟨L, M, free, lab, h1, h2, h3⟩, h4, h5⟩ := h
  exact connected_calls h2 h3.ars h3.le u v
theorem fs_size (h : FS w0 w f g N len σ E) (hl : len ≤ 2 ^ 20) (u : Int) : Calls P 21 #[.pointer (some ⟨f, 0, none⟩), .int .i64 u] w fun ev w' => ev = .returned (.int .i64 (if inN N u then ((verts N σ u.toNat).length : Int) else 0)) ∧ w' = w := by
  obtain ⟨S, ⟨L, M, free, lab, h1, h2, h3⟩, h4, h5⟩ := h
  refine (fsize_calls h2 h3.ars h3.le (by omega) u).mono fun ev w' hh => ?_
  obtain ⟨rfl, rfl⟩ := hh
  refine ⟨?_, rfl⟩
  by_cases hc : inN N u
  · rw [if_pos hc, if_pos (show 0 ≤ u ∧ u < (N : Int) from hc), h3.size (by obtain ⟨a, b⟩ := hc; omega)]
  · rw [if_neg hc, if_neg (show ¬ (0 ≤ u ∧ u < (N : Int)) from hc)]
theorem fs_count (h : FS w0 w f g N len σ E) (hl : len ≤ 2 ^ 20) : Calls P 25 #[.pointer (some ⟨f, 0, none⟩)] w fun ev w' => ev = .returned (.int .i64 ((N : Int) - (E.length : Int))) ∧ FS w0 w' f g N len σ E ∧ w.grownBy w' none := by
  have h' := h
  obtain ⟨S, ⟨L, M, free, lab, h1, h2, h3⟩, h4, h5⟩ := h
  have hc := h3.cnt
  have hm := h3.mlen
  have hle := h3.le
  refine (count_calls h2 (by omega) (by omega)).mono fun ev w' hh => ?_
  obtain ⟨rfl, g⟩ := hh
  refine ⟨?_, h'.kept g, g⟩
  rw [hm]
  congr 2
  congr 1
  omega
theorem fs_part (h : FS w0 w f g N len σ E) (hl : len ≤ 2 ^ 20) (u : Int) : Calls P 24 #[.pointer (some ⟨f, 0, none⟩), .int .i64 u] w fun ev w' => ∃ (A : Option Addr) (m k : Nat), ev = .returned (.slice A m k) ∧ OwnedK w' w.heap.size 3 1 A m k (i64s (intsN (partN N σ u))) ∧ w.grownBy w' none ∧ FS w0 w' f g N len σ E := by
  have h' := h
  obtain ⟨S, ⟨L, M, free, lab, h1, h2, h3⟩, h4, h5⟩ := h
  refine (fpart_calls h2 h3 (by omega) u).mono fun ev w' hh => ?_
  obtain ⟨A, m, k, rfl, a1, a2⟩ := hh
  exact ⟨A, m, k, rfl, a1, a2, h'.kept a2⟩
end
theorem known22_calls {w : World} : Calls P 12 #[] w fun ev w' => ev = .returned (.bool true) ∧ w.grownBy w' none := by
  apply vc12; unfold VC12; try (conv => zeta)
  refine (fs_new (grown_refl w none) 4 7).mono fun ev w1 hh => ?_
  obtain ⟨f, g, rfl, h1, _⟩ := hh
  have hN : nOf 4 = 4 := by decide
  rw [hN] at h1
  refine ⟨_, rfl, fun h => (by cases h), fun _ => ?_⟩
  refine (fs_link h1 (by omega) 0 1).mono fun ev w2 hh => ?_
  obtain ⟨rfl, σ2, h2, _⟩ := hh
  have c1 : inN 4 0 ∧ inN 4 1 ∧ sig0 4 (0 : Int).toNat ≠ sig0 4 (1 : Int).toNat := by decide
  rw [if_pos c1, List.nil_append, show pairE (0 : Int).toNat (1 : Int).toNat = (0, 1) from rfl] at h2
  refine ⟨_, rfl, (fs_link h2 (by omega) 1 2).mono fun ev w3 hh => ?_⟩
  obtain ⟨rfl, σ3, h3, _⟩ := hh
  have c2 : inN 4 1 ∧ inN 4 2 ∧ σ2 (1 : Int).toNat ≠ σ2 (2 : Int).toNat := by
    obtain ⟨L, M, free, lab, t⟩ := h2.tg
    refine ⟨by decide, by decide, fun e => ?_⟩
    have := (t.same_iff (x := 1) (y := 2) (by omega)).1 e
    have := (t.comp (u := 1) (by omega) (S := fun x => x = 0 ∨ x = 1) (by simp) (fun x _ hx => by
      rcases hx with rfl | rfl
      · exact (t.step (a := 0) (b := 1) (by simp)).2 (t.self (by omega))
      · exact t.self (by omega)) (fun a b hab => by simp at hab; obtain ⟨rfl, rfl⟩ := hab; simp) (x := 2) (by omega)).1 this
    omega
  rw [if_pos c2, show pairE (1 : Int).toNat (2 : Int).toNat = (1, 2) from rfl] at h3
  have h3e : ([(0, 1)] ++ [(1, 2)] : List (Nat × Nat)) = [(0, 1), (1, 2)] := rfl
  rw [h3e] at h3
  refine ⟨_, rfl, (fs_link h3 (by omega) 2 0).mono fun ev w4 hh => ?_⟩
  obtain ⟨rfl, σ4, h4, e4⟩ := hh
  obtain ⟨L3, M3, free3, lab3, t3⟩ := h3.tg
  have in3 : ∀ x, x < 3 → x ∈ σ3 0 := fun x hx => by
    have a0 : 0 ∈ σ3 0 := t3.self (by omega)
    have a1 : 1 ∈ σ3 0 := (t3.step (a := 0) (b := 1) (by simp)).1 a0
    have a2 : 2 ∈ σ3 0 := (t3.step (a := 1) (b := 2) (by simp)).1 a1
    have : x = 0 ∨ x = 1 ∨ x = 2 := by omega
    rcases this with rfl | rfl | rfl
    · exact a0
    · exact a1
    · exact a2
  have c3 : ¬ (inN 4 2 ∧ inN 4 0 ∧ σ3 (2 : Int).toNat ≠ σ3 (0 : Int).toNat) := fun h => h.2.2 (t3.ars.eq (in3 2 (by omega)))
  rw [e4 c3, if_neg c3] at h4
  have hv : verts 4 σ3 0 = [0, 1, 2] := by
    rw [t3.verts_is (u := 0) (by omega) (S := fun x => x < 3) (by omega) (fun x _ hx => in3 x hx) (fun a b hab => by simp at hab; rcases hab with ⟨rfl, rfl⟩ | ⟨rfl, rfl⟩ <;> simp)]
    decide
  refine ⟨_, rfl, (fs_size h4 (by omega) 0).mono fun ev w5 hh => ?_⟩
  obtain ⟨rfl, rfl⟩ := hh
  rw [if_pos (show inN 4 0 by decide), show (0 : Int).toNat = 0 from rfl, hv]
  refine ⟨_, rfl, (fs_count h4 (by omega)).mono fun ev w6 hh => ?_⟩
  obtain ⟨rfl, h6, _⟩ := hh
  refine ⟨_, rfl, (fs_cut h6 (by omega) (u := 1) (v := 0) (by unfold okI; omega) (by unfold okI; omega)).mono fun ev w7 hh => ?_⟩
  obtain ⟨rfl, σ7, h7, _⟩ := hh
  have c7 : (0 ≤ (1 : Int) ∧ 0 ≤ (0 : Int)) ∧ pairE (1 : Int).toNat (0 : Int).toNat ∈ [(0, 1), (1, 2)] := by decide
  rw [if_pos c7, show [(0, 1), (1, 2)].erase (pairE (1 : Int).toNat (0 : Int).toNat) = [(1, 2)] by decide] at h7
  refine ⟨_, rfl, (fs_cut h7 (by omega) (u := 0) (v := 1) (by unfold okI; omega) (by unfold okI; omega)).mono fun ev w8 hh => ?_⟩
  obtain ⟨rfl, σ8, h8, e8⟩ := hh
  have c8 : ¬ ((0 ≤ (0 : Int) ∧ 0 ≤ (1 : Int)) ∧ pairE (0 : Int).toNat (1 : Int).toNat ∈ [(1, 2)]) := by decide
  rw [e8 c8, if_neg c8] at h8
  obtain ⟨L7, M7, free7, lab7, t7⟩ := h7.tg
  have s12 : σ7 1 = σ7 2 := (t7.same_iff (by omega)).2 ((t7.step (a := 1) (b := 2) (by simp)).1 (t7.self (by omega)))
  have n01 : σ7 0 ≠ σ7 1 := fun e => by
    have := (t7.same_iff (x := 0) (y := 1) (by omega)).1 e
    have := (t7.comp (u := 0) (by omega) (S := fun x => x = 0) rfl (fun x _ hx => by subst hx; exact t7.self (by omega)) (fun a b hab => by simp at hab; obtain ⟨rfl, rfl⟩ := hab; simp) (x := 1) (by omega)).1 this
    omega
  have v2 : verts 4 σ7 2 = [1, 2] := by
    rw [t7.verts_is (u := 2) (by omega) (S := fun x => x = 1 ∨ x = 2) (by simp) (fun x _ hx => by
      rcases hx with rfl | rfl
      · exact (t7.step (a := 1) (b := 2) (by simp)).2 (t7.self (by omega))
      · exact t7.self (by omega)) (fun a b hab => by simp at hab; obtain ⟨rfl, rfl⟩ := hab; simp)]
    decide
  refine ⟨_, rfl, fun _ => ⟨fun _ => ⟨fun _ => ⟨fun _ => ⟨fun _ => ⟨fun _ => ⟨fun _ => ?_, fun h => absurd (decide_eq_false c8) h⟩, fun h => absurd c7 (of_decide_eq_false h)⟩, fun h => absurd (by simp) h⟩, fun h => absurd rfl h⟩, fun h => absurd (decide_eq_false c3) h⟩, fun h => absurd c2 (of_decide_eq_false h)⟩, fun h => absurd c1 (of_decide_eq_false h)⟩
  refine (fs_conn h8 1 2).mono fun ev w9 hh => ?_
  obtain ⟨rfl, rfl⟩ := hh
  have c9 : inN 4 1 ∧ inN 4 2 ∧ σ7 (1 : Int).toNat = σ7 (2 : Int).toNat := ⟨by decide, by decide, s12⟩
  refine ⟨_, rfl, fun _ => (fs_conn h8 0 1).mono fun ev w10 hh => ?_, fun h => absurd c9 (of_decide_eq_false h)⟩
  obtain ⟨rfl, rfl⟩ := hh
  have c10 : ¬ (inN 4 0 ∧ inN 4 1 ∧ σ7 (0 : Int).toNat = σ7 (1 : Int).toNat) := fun h => n01 h.2.2
  refine ⟨_, rfl, fun _ => (fs_part h8 (by omega) 2).mono fun ev w11 hh => ?_, fun h => absurd (decide_eq_false c10) h⟩
  obtain ⟨A11, m11, k11, rfl, o11, g11, h11⟩ := hh
  have hp : partN 4 σ7 2 = [1, 2] := by unfold partN; rw [if_pos (by decide)]; exact v2
  rw [hp] at o11
  have gA := World.grownBy_alloc w11 (.cells #[.int .i64 1, .int .i64 2] 3) none
  have rA := row_new w11 #[.int .i64 1, .int .i64 2] 3
  have hm : m11 = 2 := by have := o11.cases.1; simp at this; omega
  refine ⟨_, _, _, rfl, (intsZ_calls (xs := intsN [1, 2]) (ys := [1, 2]) (o11.kept gA).row rA (by rw [hm]; rfl) rfl (by omega)).mono fun ev w12 hh => ?_⟩
  obtain ⟨rfl, g12⟩ := hh
  have h12 := (h11.kept gA).kept g12
  have c12 : intsN [1, 2] = [1, 2] := by decide
  refine ⟨_, rfl, fun _ => (fs_size h12 (by omega) 9).mono fun ev w13 hh => ?_, fun h => absurd c12 (of_decide_eq_false h)⟩
  obtain ⟨rfl, rfl⟩ := hh
  rw [if_neg (show ¬ inN 4 9 by decide)]
  refine ⟨_, rfl, fun _ => (fs_conn h12 3 3).mono fun ev w14 hh => ?_, fun h => absurd rfl h⟩
  obtain ⟨rfl, rfl⟩ := hh
  exact ⟨_, rfl, by rw [decide_eq_true (show inN 4 3 ∧ inN 4 3 ∧ σ7 (3 : Int).toNat = σ7 (3 : Int).toNat from ⟨by decide, by decide, rfl⟩)], h12.grown⟩
end Go.Proofs.Ytpfkpmapimonbaa

/-! archipelagolaw22.TourMany: the walk. -/
namespace Go.Proofs.Ytpfkpmapimonbaa
open Go Go.V Go.RowKit
set_option linter.unusedVariables false
set_option linter.unusedSimpArgs false
set_option maxHeartbeats 4000000
set_option maxRecDepth 100000

theorem run_eqB21 (s t : Operand) (a b : Bool) (w : World) : Sem.run P (do eqGuard .eql 4 s t (.bool a) (.bool b); Go.binOp .eql 4 (.bool a) (.bool b) : Sem Value) w = .ok (.bool (decide (a = b))) w := by
  cases a <;> cases b <;> rfl
theorem and1023 (n : Int) : ∃ m : Nat, bop .and .i64 n 1023 = (m : Int) ∧ m ≤ 1023 := by
  refine ⟨(BitVec.ofInt 64 n &&& BitVec.ofInt 64 1023).toNat, ?_, ?_⟩
  · have h : (BitVec.ofInt 64 n &&& BitVec.ofInt 64 1023).toNat ≤ 1023 := by
      rw [BitVec.toNat_and]
      exact Nat.le_trans Nat.and_le_right (by decide)
    show IntKind.i64.wrap (((BitVec.ofInt 64 n &&& BitVec.ofInt 64 1023).toNat : Nat) : Int) = _
    exact wrap_in (show InK .i64 _ by simp only [InK]; omega)
  · rw [BitVec.toNat_and]
    exact Nat.le_trans Nat.and_le_right (by decide)
theorem verts0 {m u : Nat} (hu : u < m) : verts m (sig0 m) u = [u] := by
  refine rise_ext (verts_rise _ _ _) (by simp) fun a => ?_
  rw [mem_verts]
  unfold sig0
  rw [if_pos hu]
  simp
  omega
theorem walkTourMany {w : World} {n sd u : Int} (hn : -9223372036854775808 ≤ n ∧ n ≤ 9223372036854775807) (hsd : 0 ≤ sd ∧ sd ≤ 18446744073709551615) (hu : 0 ≤ u ∧ u ≤ 255) :
    Calls P 6 #[.int .i64 n, .int .u64 sd, .int .u8 u] w fun ev w' => ev = .returned (.bool true) ∧ w.grownBy w' none := by
  apply vc6; unfold VC6; try (conv => zeta)
  simp only [InK]
  obtain ⟨m, hm, hm2⟩ := and1023 n
  simp only [hm]
  refine known22_calls.mono fun ev w1 hh => ?_
  obtain ⟨rfl, g1⟩ := hh
  refine ⟨true, rfl, fun h => (by cases h), fun _ => (fs_new g1 (m : Int) sd).mono fun ev w2 hh => ?_⟩
  obtain ⟨f, fg, rfl, h2, g2⟩ := hh
  have e1 : nOf (m : Int) = m := by unfold nOf; omega
  have e2 : nOf (0 - (m : Int)) = 0 := by unfold nOf; omega
  rw [e1] at h2
  refine ⟨_, rfl, by omega, (fs_new (grown_refl w2 none) (0 - (m : Int)) sd).mono fun ev w3 hh => ?_⟩
  obtain ⟨g, gg, rfl, h3, g3⟩ := hh
  rw [e2] at h3
  have f3 := h2.kept g3
  refine ⟨_, rfl, by omega, (fs_count f3 (by omega)).mono fun ev w4 hh => ?_⟩
  obtain ⟨rfl, f4, g34⟩ := hh
  have h4 := h3.kept g34
  have hc : (m : Int) - (([] : List (Nat × Nat)).length : Int) = m := by simp
  refine ⟨_, rfl, fun _ => (fs_size f4 (by omega) u).mono fun ev w5 hh => ?_, fun h => absurd hc h⟩
  obtain ⟨rfl, rfl⟩ := hh
  have hin : inN m u ↔ u < (m : Int) := ⟨fun h => h.2, fun h => ⟨hu.1, h⟩⟩
  have hvl : inN m u → (verts m (sig0 m) u.toNat).length = 1 := fun h => by rw [verts0 (by obtain ⟨a, b⟩ := h; omega)]; rfl
  have hs : decide ((if inN m u then ((verts m (sig0 m) u.toNat).length : Int) else 0) = 1) = decide (u < (m : Int)) := by
    by_cases c : inN m u
    · rw [if_pos c, hvl c, decide_eq_true (hin.1 c)]; rfl
    · rw [if_neg c, decide_eq_false (fun h => c (hin.2 h))]; rfl
  refine ⟨_, rfl, _, fun w => run_eqB21 _ _ _ _ w, fun _ => (fs_part f4 (by omega) u).mono fun ev w6 hh => ?_, fun h => absurd hs (of_decide_eq_false h)⟩
  obtain ⟨A6, n6, c6, rfl, o6, g6, f6⟩ := hh
  have h6 := h4.kept g6
  have hn6 : n6 = (partN m (sig0 m) u).length := by have := o6.cases.1; simp at this; omega
  have hpl : decide ((n6 : Int) = 1) = decide (u < (m : Int)) := by
    rw [hn6]
    unfold partN
    by_cases c : inN m u
    · rw [if_pos (show 0 ≤ u ∧ u < (m : Int) from c), hvl c, decide_eq_true (hin.1 c)]; rfl
    · rw [if_neg (show ¬ (0 ≤ u ∧ u < (m : Int)) from c), decide_eq_false (fun h => c (hin.2 h))]; rfl
  refine ⟨_, _, _, rfl, _, fun w => run_eqB21 _ _ _ _ w, fun _ => (fs_conn f6 u u).mono fun ev w7 hh => ?_, fun h => absurd hpl (of_decide_eq_false h)⟩
  obtain ⟨rfl, rfl⟩ := hh
  have hcc : decide (inN m u ∧ inN m u ∧ sig0 m u.toNat = sig0 m u.toNat) = decide (u < (m : Int)) := decide_eq_decide.2 ⟨fun h => hin.1 h.1, fun h => ⟨hin.2 h, hin.2 h, rfl⟩⟩
  refine ⟨_, rfl, _, fun w => run_eqB21 _ _ _ _ w, fun _ => (fs_size f6 (by omega) (-1)).mono fun ev w8 hh => ?_, fun h => absurd hcc (of_decide_eq_false h)⟩
  obtain ⟨rfl, rfl⟩ := hh
  rw [if_neg (show ¬ inN m (-1) from fun h => by have := h.1; omega)]
  refine ⟨_, rfl, fun _ => (fs_count h6 (by omega)).mono fun ev w9 hh => ?_, fun h => absurd rfl h⟩
  obtain ⟨rfl, h9, g9⟩ := hh
  have f9 := f6.kept g9
  refine ⟨_, rfl, fun _ => (fs_link h9 (by omega) 0 1).mono fun ev w10 hh => ?_, fun h => absurd (by simp) h⟩
  obtain ⟨rfl, σ10, h10, _⟩ := hh
  have c10 : ¬ (inN 0 0 ∧ inN 0 1 ∧ sig0 0 (0 : Int).toNat ≠ sig0 0 (1 : Int).toNat) := by decide
  have f10 := h2.kept h10.grown
  refine ⟨_, rfl, fun _ => (fs_link f10 (by omega) u u).mono fun ev w11 hh => ?_, fun h => absurd (decide_eq_false c10) h⟩
  obtain ⟨rfl, σ11, f11, e11⟩ := hh
  have c11 : ¬ (inN m u ∧ inN m u ∧ sig0 m u.toNat ≠ sig0 m u.toNat) := fun h => h.2.2 rfl
  rw [e11 c11, if_neg c11] at f11
  refine ⟨_, rfl, fun _ => (fs_link f11 (by omega) 0 (m : Int)).mono fun ev w12 hh => ?_, fun h => absurd (decide_eq_false c11) h⟩
  obtain ⟨rfl, σ12, f12, _⟩ := hh
  have c12 : ¬ (inN m 0 ∧ inN m (m : Int) ∧ sig0 m (0 : Int).toNat ≠ sig0 m (m : Int).toNat) := fun h => by have := h.2.1.2; omega
  exact ⟨_, rfl, by rw [decide_eq_false c12]; rfl, f12.grown⟩
end Go.Proofs.Ytpfkpmapimonbaa

/-! archipelagolaw22.TourLong: the walk. -/
namespace Go.Proofs.Ytpfkpmapimonbaa
open Go Go.V Go.RowKit
set_option linter.unusedVariables false
set_option linter.unusedSimpArgs false
set_option maxHeartbeats 4000000
set_option maxRecDepth 100000

def PathE (k : Nat) (E : List (Nat × Nat)) : Prop := ∀ e, e ∈ E ↔ ∃ j, j + 1 < k ∧ e = (j, j + 1)
theorem PathE.mk {k : Nat} {E : List (Nat × Nat)} (h : PathE k E) {j : Nat} (hj : j + 1 < k) : (j, j + 1) ∈ E := (h _).2 ⟨j, hj, rfl⟩
theorem PathE.of {k : Nat} {E : List (Nat × Nat)} (h : PathE k E) {a b : Nat} (hab : (a, b) ∈ E) : b = a + 1 ∧ a + 1 < k := by
  obtain ⟨j, hj, e⟩ := (h _).1 hab
  cases e; exact ⟨rfl, hj⟩
end Go.Proofs.Ytpfkpmapimonbaa

/-! archipelagolaw22.TourStars: the walk. -/
namespace Go.Proofs.Ytpfkpmapimonbaa
open Go Go.V Go.RowKit
set_option linter.unusedVariables false
set_option linter.unusedSimpArgs false
set_option maxHeartbeats 4000000
set_option maxRecDepth 100000

/-- A forest in use beside blocks Q of others, which it leaves as they are. -/
def FR (w0 w : World) (f g N len : Nat) (σ : Nat → List Nat) (E : List (Nat × Nat)) (Q : Nat → Prop) : Prop :=
  ∃ S : Nat → Prop, FG w w0.heap.size f g N S len σ E ∧ (∀ q, S q → w0.heap.size ≤ q ∧ ¬ Q q) ∧ w0.grownBy w none ∧ ∀ q, Q q → w0.heap.size ≤ q ∧ q < w.heap.size
section
variable {w0 w w' : World} {f g N len : Nat} {σ : Nat → List Nat} {E : List (Nat × Nat)} {Q : Nat → Prop}
theorem FR.fs (h : FR w0 w f g N len σ E Q) : FS w0 w f g N len σ E := by
  obtain ⟨S, h1, h2, h3, h4⟩ := h
  exact ⟨S, h1, fun q hq => (h2 q hq).1, h3⟩
theorem FR.kept (h : FR w0 w f g N len σ E Q) (hg : w.grownBy w' none) : FR w0 w' f g N len σ E Q := by
  obtain ⟨S, ⟨L, M, free, lab, h1, h2, h3⟩, h4, h5, h6⟩ := h
  exact ⟨S, ⟨L, M, free, lab, h1, h2.kept hg, h3⟩, h4, grown_trans h5 hg, fun q hq => ⟨(h6 q hq).1, Nat.lt_of_lt_of_le (h6 q hq).2 hg.size⟩⟩
theorem FS.fr (h : FS w0 w f g N len σ E) (hg : w.grownBy w' none) {b : Nat} (hb : w.heap.size ≤ b ∧ b < w'.heap.size) : FR w0 w' f g N len σ E (fun q => q = b) := by
  obtain ⟨S, ⟨L, M, free, lab, h1, h2, h3⟩, h4, h5⟩ := h
  refine ⟨S, ⟨L, M, free, lab, h1, h2.kept hg, h3⟩, fun q hq => ⟨h4 q hq, fun e => by have := h2.bound q hq; omega⟩, grown_trans h5 hg, fun q hq => by subst hq; exact ⟨Nat.le_trans h5.size hb.1, hb.2⟩⟩
end
end Go.Proofs.Ytpfkpmapimonbaa

/-! archipelagolaw22.TourPlays: the walk. -/
namespace Go.Proofs.Ytpfkpmapimonbaa
open Go Go.V Go.RowKit
set_option linter.unusedVariables false
set_option linter.unusedSimpArgs false
set_option maxHeartbeats 4000000
set_option maxRecDepth 100000

/-- An act of a story: what, two numbers, a raw one. -/
structure ActV where
  (wh u v raw : Int)
def actC (a : ActV) : List Value := [.int .u8 a.wh, .int .u8 a.u, .int .u8 a.v, .int .i64 a.raw]
def acts (l : List ActV) : List Value := l.flatMap actC
/-- A forest and a graph of the reference of the same edges. -/
def PSt (w0 W : World) (f g r N len : Nat) (σ : Nat → List Nat) (E : List (Nat × Nat)) : Prop :=
  ∃ (S T : Nat → Prop) (A : Option Addr) (n c : Nat), FG W w0.heap.size f g N S len σ E ∧ GR W w0.heap.size r N T A n c E ∧ (∀ q, S q → ¬ T q) ∧ (∀ q, S q → w0.heap.size ≤ q) ∧ (∀ q, T q → w0.heap.size ≤ q) ∧ w0.grownBy W none
section
variable {w0 W W' : World} {f g r N len : Nat} {σ : Nat → List Nat} {E : List (Nat × Nat)}
theorem PSt.fs (h : PSt w0 W f g r N len σ E) : FS w0 W f g N len σ E := by
  obtain ⟨S, T, A, n, c, h1, h2, h3, h4, h5, h6⟩ := h
  exact ⟨S, h1, h4, h6⟩
theorem PSt.kept (h : PSt w0 W f g r N len σ E) (hg : W.grownBy W' none) : PSt w0 W' f g r N len σ E := by
  obtain ⟨S, T, A, n, c, ⟨L, M, free, lab, a1, a2, a3⟩, h2, h3, h4, h5, h6⟩ := h
  exact ⟨S, T, A, n, c, ⟨L, M, free, lab, a1, a2.kept hg, a3⟩, h2.kept hg, h3, h4, h5, grown_trans h6 hg⟩
theorem PSt.gr (h : PSt w0 W f g r N len σ E) : ∃ T A n c, GR W w0.heap.size r N T A n c E := by
  obtain ⟨S, T, A, n, c, h1, h2, _⟩ := h
  exact ⟨T, A, n, c, h2⟩
end
end Go.Proofs.Ytpfkpmapimonbaa
