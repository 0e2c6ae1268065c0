/- Own texts, packed: J1, J2, J3, J4, J5. -/
import Derived.Test.YtpfkpmapimonbaaGTEg
import Derived.Test.YtpfkpmapimonbaaGTXg
import Derived.Test.YtpfkpmapimonbaaGCg
import Derived.Test.YtpfkpmapimonbaaGTBg
import Derived.Test.YtpfkpmapimonbaaGHXg

/-! Connected by edges; how many parts; forests. No program. -/
namespace Go.Proofs.Ytpfkpmapimonbaa
open Go Go.V Go.RowKit
set_option linter.unusedVariables false
set_option linter.unusedSimpArgs false
set_option maxHeartbeats 1000000

abbrev Eds := List (Nat × Nat)
def Adj (E : Eds) (a b : Nat) : Prop := (a, b) ∈ E ∨ (b, a) ∈ E
/-- There is a way by edges. -/
inductive Cn (E : Eds) : Nat → Nat → Prop
  | refl (x : Nat) : Cn E x x
  | step {x y z : Nat} : Cn E x y → Adj E y z → Cn E x z
def RgE (N : Nat) (E : Eds) : Prop := ∀ e ∈ E, e.1 < e.2 ∧ e.2 < N
section
variable {E F : Eds} {N x y z a b u v : Nat}
theorem Adj.symm (h : Adj E a b) : Adj E b a := h.elim .inr .inl
theorem Cn.one (h : Adj E a b) : Cn E a b := .step (.refl a) h
theorem Cn.of_mem (h : (a, b) ∈ E) : Cn E a b := .one (.inl h)
theorem Cn.trans (h : Cn E x y) (h' : Cn E y z) : Cn E x z := by
  induction h' with
  | refl => exact h
  | step _ ha ih => exact .step ih ha
theorem Cn.symm (h : Cn E x y) : Cn E y x := by
  induction h with
  | refl => exact .refl _
  | step _ ha ih => exact (Cn.one ha.symm).trans ih
theorem Cn.mono (hs : ∀ e ∈ E, e ∈ F) (h : Cn E x y) : Cn F x y := by
  induction h with
  | refl => exact .refl _
  | step _ ha ih => exact .step ih (ha.elim (fun e => .inl (hs _ e)) (fun e => .inr (hs _ e)))
/-- Every edge of one is a way of the other. -/
theorem Cn.sub (hs : ∀ e ∈ E, Cn F e.1 e.2) (h : Cn E x y) : Cn F x y := by
  induction h with
  | refl => exact .refl _
  | step _ ha ih => exact ih.trans (ha.elim (fun e => hs _ e) (fun e => (hs _ e).symm))
theorem Cn.closed {S : Nat → Prop} (hS : ∀ e ∈ E, (S e.1 ↔ S e.2)) (h : Cn E x y) : S x ↔ S y := by
  induction h with
  | refl => exact Iff.rfl
  | step _ ha ih => exact ih.trans (ha.elim (fun e => hS _ e) (fun e => (hS _ e).symm))
theorem Cn.nil (h : Cn [] x y) : x = y := by
  induction h with
  | refl => rfl
  | step _ ha ih => exact ha.elim (fun e => by cases e) (fun e => by cases e)
/-- With an edge more. -/
theorem Cn.add : Cn (E ++ [(a, b)]) x y ↔ Cn E x y ∨ (Cn E x a ∧ Cn E b y) ∨ (Cn E x b ∧ Cn E a y) := by
  constructor
  · intro h
    induction h with
    | refl => exact .inl (.refl _)
    | @step q r _ ha ih =>
      have hq : Adj E q r ∨ (q = a ∧ r = b) ∨ (q = b ∧ r = a) := by
        rcases ha with e | e
        · rcases List.mem_append.1 e with e | e
          · exact .inl (.inl e)
          · simp at e; exact .inr (.inl e)
        · rcases List.mem_append.1 e with e | e
          · exact .inl (.inr e)
          · simp at e; exact .inr (.inr ⟨e.2, e.1⟩)
      rcases hq with hq | ⟨rfl, rfl⟩ | ⟨rfl, rfl⟩
      · rcases ih with ih | ⟨h1, h2⟩ | ⟨h1, h2⟩
        · exact .inl (.step ih hq)
        · exact .inr (.inl ⟨h1, .step h2 hq⟩)
        · exact .inr (.inr ⟨h1, .step h2 hq⟩)
      · rcases ih with ih | ⟨h1, h2⟩ | ⟨h1, h2⟩
        · exact .inr (.inl ⟨ih, .refl _⟩)
        · exact .inr (.inl ⟨h1, .refl _⟩)
        · exact .inl h1
      · rcases ih with ih | ⟨h1, h2⟩ | ⟨h1, h2⟩
        · exact .inr (.inr ⟨ih, .refl _⟩)
        · exact .inl h1
        · exact .inr (.inr ⟨h1, .refl _⟩)
  · have hm : ∀ e ∈ E, e ∈ E ++ [(a, b)] := fun e he => List.mem_append_left _ he
    have hab : Cn (E ++ [(a, b)]) a b := .of_mem (by simp)
    rintro (h | ⟨h1, h2⟩ | ⟨h1, h2⟩)
    · exact h.mono hm
    · exact ((h1.mono hm).trans hab).trans (h2.mono hm)
    · exact ((h1.mono hm).trans hab.symm).trans (h2.mono hm)
theorem Cn.add_same (hab : Cn E a b) : Cn (E ++ [(a, b)]) x y ↔ Cn E x y := by
  rw [Cn.add]
  constructor
  · rintro (h | ⟨h1, h2⟩ | ⟨h1, h2⟩)
    · exact h
    · exact (h1.trans hab).trans h2
    · exact (h1.trans hab.symm).trans h2
  · exact .inl
theorem Cn.congr (h : ∀ e, e ∈ E ↔ e ∈ F) : Cn E x y ↔ Cn F x y := ⟨Cn.mono (fun e he => (h e).1 he), Cn.mono (fun e he => (h e).2 he)⟩
end
open Classical in
noncomputable def compS (N : Nat) (E : Eds) (x : Nat) : List Nat := if x < N then (List.range N).filter (fun y => decide (Cn E x y)) else [x]
/-- How many parts there are. -/
noncomputable def cntC (N : Nat) (E : Eds) : Nat := cntS N (compS N E)
/-- The vertices of a part. -/
noncomputable def partC (N : Nat) (E : Eds) (u : Nat) : List Nat := verts N (compS N E) u
section
variable {E F : Eds} {N x y a b u v : Nat} {σ : Nat → List Nat}
theorem mem_compS (hx : x < N) : y ∈ compS N E x ↔ y < N ∧ Cn E x y := by unfold compS; rw [if_pos hx]; simp
theorem mem_partC (hu : u < N) : x ∈ partC N E u ↔ x < N ∧ Cn E u x := by
  unfold partC; rw [mem_verts, mem_compS hu]
  exact ⟨fun h => h.2, fun h => ⟨h.1, h⟩⟩
theorem compS_self (hx : x < N) : x ∈ compS N E x := (mem_compS hx).2 ⟨hx, .refl _⟩
theorem compS_eq (hy : y ∈ compS N E x) : compS N E y = compS N E x := by
  by_cases hx : x < N
  · obtain ⟨h1, h2⟩ := (mem_compS hx).1 hy
    unfold compS
    rw [if_pos hx, if_pos h1]
    exact List.filter_congr fun z _ => decide_eq_decide.2 ⟨fun h => h2.trans h, fun h => h2.symm.trans h⟩
  · unfold compS at hy ⊢
    rw [if_neg hx] at hy
    simp at hy; subst hy; rfl
/-- Whatever tells the parts. -/
theorem cnt_of (h : ∀ x y, x < N → y < N → (y ∈ σ x ↔ Cn E x y)) : cntS N σ = cntC N E := by
  unfold cntC
  exact cntS_congr fun x y hx hy => by rw [h x y hx hy, mem_compS hx]; exact ⟨fun e => ⟨hy, e⟩, fun e => e.2⟩
theorem part_of (h : ∀ x y, x < N → y < N → (y ∈ σ x ↔ Cn E x y)) (hu : u < N) : verts N σ u = partC N E u := by
  unfold partC verts
  exact List.filter_congr fun x hx => decide_eq_decide.2 (by rw [h u x hu (by simpa using hx), mem_compS hu]; exact ⟨fun e => ⟨by simpa using hx, e⟩, fun e => e.2⟩)
theorem cnt_congr (h : ∀ x y, x < N → y < N → (Cn E x y ↔ Cn F x y)) : cntC N E = cntC N F :=
  cnt_of fun x y hx hy => by rw [mem_compS hx, h x y hx hy]; exact ⟨fun e => e.2, fun e => ⟨hy, e⟩⟩
theorem part_congr (h : ∀ x y, x < N → y < N → (Cn E x y ↔ Cn F x y)) (hu : u < N) : partC N E u = partC N F u :=
  part_of (fun x y hx hy => by rw [mem_compS hx, h x y hx hy]; exact ⟨fun e => e.2, fun e => ⟨hy, e⟩⟩) hu
theorem cnt_add_same (h : Cn E a b) : cntC N (E ++ [(a, b)]) = cntC N E := cnt_congr fun x y _ _ => Cn.add_same h
theorem cnt_add (ha : a < N) (hb : b < N) (h : ¬ Cn E a b) : cntC N (E ++ [(a, b)]) + 1 = cntC N E := by
  unfold cntC
  refine cnt_merge (u := a) (v := b) (fun x hx => compS_self hx) (fun x y h => compS_eq h) ha hb (fun e => h ((mem_compS ha).1 e).2) fun x y hx hy => ?_
  rw [mem_compS hx, mem_compS hx, mem_compS ha, mem_compS hb, mem_compS ha, mem_compS hb, Cn.add]
  constructor
  · rintro ⟨_, h1 | ⟨h1, h2⟩ | ⟨h1, h2⟩⟩
    · exact .inl ⟨hy, h1⟩
    · exact .inr ⟨.inl ⟨hx, h1.symm⟩, .inr ⟨hy, h2⟩⟩
    · exact .inr ⟨.inr ⟨hx, h1.symm⟩, .inl ⟨hy, h2⟩⟩
  · rintro (⟨_, h1⟩ | ⟨⟨_, h1⟩ | ⟨_, h1⟩, ⟨_, h2⟩ | ⟨_, h2⟩⟩)
    · exact ⟨hy, .inl h1⟩
    · exact ⟨hy, .inl (h1.symm.trans h2)⟩
    · exact ⟨hy, .inr (.inl ⟨h1.symm, h2⟩)⟩
    · exact ⟨hy, .inr (.inr ⟨h1.symm, h2⟩)⟩
    · exact ⟨hy, .inl (h1.symm.trans h2)⟩
theorem cnt_nil : cntC N [] = N := by
  unfold cntC cntS
  rw [List.filter_eq_self.2, List.length_range]
  intro x hx
  have hx : x < N := by simpa using hx
  rw [decide_eq_true_eq]
  intro y hy _
  rw [((mem_compS hx).1 hy).2.nil]; exact Nat.le_refl _
theorem cnt_pos (h : 0 < N) : 0 < cntC N E := by
  unfold cntC cntS
  obtain ⟨m, ⟨m1, m2⟩, m3⟩ := least_ex (P := fun y => y < N ∧ Cn E 0 y) ⟨h, .refl _⟩
  apply List.length_pos_of_mem (a := m)
  rw [List.mem_filter, decide_eq_true_eq]
  refine ⟨by simpa using m1, fun y hy hyN => m3 y ⟨hyN, m2.trans ((mem_compS m1).1 hy).2⟩⟩
/-- All is one part. -/
theorem cnt_one (hN : 0 < N) (h : ∀ x, x < N → Cn E 0 x) : cntC N E = 1 := by
  have h1 := cnt_pos (E := E) hN
  suffices cntC N E ≤ 1 by omega
  unfold cntC cntS
  have : ((List.range N).filter fun u => decide (∀ y ∈ compS N E u, y < N → u ≤ y)) = (List.range N).filter fun u => decide (u = 0) := by
    refine List.filter_congr fun x hx => decide_eq_decide.2 ?_
    have hx : x < N := by simpa using hx
    constructor
    · intro h2
      have := h2 0 ((mem_compS hx).2 ⟨hN, (h x hx).symm⟩) hN
      omega
    · rintro rfl y _ _; omega
  rw [this]
  clear this h1
  cases N with
  | zero => omega
  | succ N =>
    rw [List.range_succ_eq_map, List.filter_cons_of_pos (by simp), List.filter_eq_nil_iff.2 (fun x hx => by simp at hx; obtain ⟨y, _, rfl⟩ := hx; simp)]
    simp
def FrE (N : Nat) (E : Eds) : Prop := cntC N E + E.length = N
theorem fr_ge (hR : RgE N E) : N ≤ cntC N E + E.length := by
  induction h : E.length generalizing E with
  | zero =>
    have : E = [] := List.length_eq_zero_iff.1 h
    subst this; rw [cnt_nil]; omega
  | succ n ih =>
    rcases List.eq_nil_or_concat E with rfl | ⟨F, ⟨a, b⟩, rfl⟩
    · cases h
    · rw [List.concat_eq_append] at hR h ⊢
      have hF : RgE N F := fun e he => hR e (List.mem_append_left _ he)
      have hl : F.length = n := by simpa using h
      have := ih hF hl
      obtain ⟨h2, h3⟩ : a < b ∧ b < N := hR (a, b) (by simp)
      by_cases hc : Cn F a b
      · rw [cnt_add_same hc]; omega
      · have := cnt_add (N := N) (by omega) h3 hc; omega
theorem fr_split (hR : RgE N (E ++ [(a, b)])) (h : FrE N (E ++ [(a, b)])) : FrE N E ∧ ¬ Cn E a b := by
  have hF : RgE N E := fun e he => hR e (List.mem_append_left _ he)
  have h1 := fr_ge hF
  obtain ⟨h2, h3⟩ : a < b ∧ b < N := hR (a, b) (by simp)
  unfold FrE at *
  simp only [List.length_append, List.length_singleton] at h
  by_cases hc : Cn E a b
  · rw [cnt_add_same hc] at h; omega
  · have := cnt_add (N := N) (by omega) h3 hc
    exact ⟨by omega, hc⟩
theorem fr_perm (hp : E.Perm F) (h : FrE N E) : FrE N F := by
  unfold FrE at *
  rw [← hp.length_eq, ← cnt_congr (E := E) (F := F) fun x y _ _ => Cn.congr fun e => hp.mem_iff]
  exact h
/-- Without one of its edges a forest does not connect its ends. -/
theorem fr_erase (hR : RgE N E) (h : FrE N E) {e : Nat × Nat} (he : e ∈ E) : FrE N (E.erase e) ∧ ¬ Cn (E.erase e) e.1 e.2 := by
  have hp : E.Perm (E.erase e ++ [(e.1, e.2)]) := (List.perm_cons_erase he).trans (List.perm_append_comm (l₁ := [e]) (l₂ := E.erase e))
  exact fr_split (fun x hx => hR x (hp.mem_iff.2 hx)) (fr_perm hp h)
/-- An edge of a forest connects what its other edges don't. -/
theorem fr_sub (hR : RgE N E) (h : FrE N E) (hs : ∀ e ∈ F, e ∈ E) {e : Nat × Nat} (he : e ∈ E) (hn : e ∉ F) : ¬ Cn F e.1 e.2 := fun hc =>
  (fr_erase hR h he).2 (hc.mono fun x hx => (List.mem_erase_of_ne (fun e' => hn (by rw [← e']; exact hx))).2 (hs x hx))
theorem fr_add (ha : a < N) (hb : b < N) (h : FrE N E) (hn : ¬ Cn E a b) : FrE N (E ++ [(a, b)]) := by
  unfold FrE at *
  have := cnt_add (N := N) ha hb hn
  simp; omega
end
section
variable {N : Nat} {L : List Nd} {σ : Nat → List Nat} {M : List ((Int × Int) × Nat)} {free : List Nat} {lab : Nat → It} {E : List (Nat × Nat)}
/-- A forest's trees are the parts of its edges. -/
theorem TG.cn (h : TG N L σ M free lab E) {x y : Nat} (hx : x < N) (hy : y < N) : y ∈ σ x ↔ Cn E x y := by
  refine h.comp hx (.refl _) (fun z _ hz => ?_) (fun a b hab => ⟨fun h1 => h1.trans (.of_mem hab), fun h1 => h1.trans (Cn.of_mem hab).symm⟩) hy
  have := (Cn.closed (S := fun z => z ∈ σ x) (fun e he => h.step he) hz).1 (h.self hx)
  exact this
theorem TG.cnS (h : TG N L σ M free lab E) {x y : Nat} (hx : x < N) (hy : y < N) : σ x = σ y ↔ Cn E x y := (h.same_iff hy).trans (h.cn hx hy)
theorem TG.cntC (h : TG N L σ M free lab E) : cntC N E + E.length = N := by
  rw [← cnt_of (σ := σ) fun x y hx hy => h.cn hx hy]; exact h.cnt
theorem TG.part (h : TG N L σ M free lab E) {u : Nat} (hu : u < N) : verts N σ u = partC N E u := part_of (fun x y hx hy => h.cn hx hy) hu
end
theorem Adj.iff_pair {E : Eds} {N a b : Nat} (hR : RgE N E) : Adj E a b ↔ pairE a b ∈ E := by
  unfold Adj pairE
  constructor
  · rintro (h | h)
    · have := hR _ h; simp only at this; rw [Nat.min_eq_left (by omega), Nat.max_eq_right (by omega)]; exact h
    · have := hR _ h; simp only at this; rw [Nat.min_eq_right (by omega), Nat.max_eq_left (by omega)]; exact h
  · intro h
    rcases Nat.le_total a b with e | e
    · rw [Nat.min_eq_left e, Nat.max_eq_right e] at h; exact .inl h
    · rw [Nat.min_eq_right e, Nat.max_eq_left e] at h; exact .inr h
theorem Cn.pair {E : Eds} {a b : Nat} : Cn E (pairE a b).1 (pairE a b).2 ↔ Cn E a b := by
  unfold pairE
  rcases Nat.le_total a b with e | e
  · rw [Nat.min_eq_left e, Nat.max_eq_right e]
  · rw [Nat.min_eq_right e, Nat.max_eq_left e]; exact ⟨Cn.symm, Cn.symm⟩
end Go.Proofs.Ytpfkpmapimonbaa

/-! ref21.Graph of any edges: Part, Connected, Link, Count, Degree: the walks. -/
namespace Go.Proofs.Ytpfkpmapimonbaa
open Go Go.V Go.RowKit
set_option linter.unusedVariables false
set_option linter.unusedSimpArgs false
set_option maxHeartbeats 4000000
set_option maxRecDepth 100000

section
variable {N : Nat} {σ : Nat → List Nat} {E : Eds}
theorem cs_self (hσ : σ = compS N E) {x : Nat} (hx : x < N) : x ∈ σ x := by rw [hσ]; exact compS_self hx
theorem cs_eq (hσ : σ = compS N E) {x y : Nat} (h : y ∈ σ x) : σ y = σ x := by rw [hσ] at h ⊢; exact compS_eq h
theorem cs_ends (hσ : σ = compS N E) (hR : RgE N E) {e : Nat × Nat} (he : e ∈ E) {u : Nat} (hu : u < N) : e.1 ∈ σ u ↔ e.2 ∈ σ u := by
  have := hR e he
  rw [hσ, mem_compS hu, mem_compS hu]
  exact ⟨fun h => ⟨by omega, h.2.trans (.of_mem he)⟩, fun h => ⟨by omega, h.2.trans (Cn.of_mem he).symm⟩⟩
theorem cs_marks (hσ : σ = compS N E) (hR : RgE N E) {u : Nat} (hu : u < N) {S : Nat → Prop} (hS : S u) (hsub : ∀ x, x < N → S x → x ∈ σ u) (hcl : ∀ e ∈ E, (S e.1 ↔ S e.2)) : ∀ x, x < N → (S x ↔ x ∈ σ u) := fun x hx =>
  ⟨hsub x hx, fun h => by rw [hσ, mem_compS hu] at h; exact (Cn.closed hcl h.2).1 hS⟩
end
section
variable {w w' : World} {base r N n c : Nat} {T : Nat → Prop} {A : Option Addr} {E : List (Nat × Nat)} {σ : Nat → List Nat}
theorem gpartC_calls (h : GR w base r N T A n c E) (hσ : σ = compS N E) (hR : RgE N E) (hEl : E.length ≤ 2 ^ 29) (hN : N ≤ 2 ^ 30) (u : Int) : Calls P 22 #[.pointer (some ⟨r, 0, none⟩), .int .i64 u] w fun ev w' => ∃ (A : Option Addr) (m k : Nat), ev = .returned (.slice A m k) ∧ OwnedK w' w.heap.size 3 1 A m k (i64s (intsN (partN N σ u))) ∧ w.grownBy w' none := by
  apply vc22; unfold VC22; try (conv => zeta)
  simp only [InK]
  have hlen := h.len
  refine (there_calls h u).mono fun ev w1 hh => ?_
  obtain ⟨rfl, rfl⟩ := hh
  refine ⟨_, rfl, fun hno => ⟨none, 0, 0, rfl, ?_, grown_refl _ _⟩, fun hyes => ?_⟩
  · have : partN N σ u = [] := if_neg (of_decide_eq_false hno)
    rw [this]; exact OwnedK.nil _ _ _ _
  have hu : 0 ≤ u ∧ u < (N : Int) := by simpa using hyes
  obtain ⟨u, rfl⟩ : ∃ a : Nat, u = a := ⟨u.toNat, by omega⟩
  have tu : (u : Int).toNat = u := by omega
  have hp : partN N σ (u : Int) = verts N σ u := if_pos hu
  have huN : u < N := by omega
  rw [hp, tu]
  obtain ⟨w2, r1, r2, r3⟩ := run_made (P := P) (w := w1) elemB1 (by omega) (m := N) (by omega)
  have o2 : OwnedK w2 w1.heap.size 4 1 (some ⟨w1.heap.size, 0, none⟩) N N (boolsV (List.replicate N false)) := by
    have := r2.ownsRow (base := w1.heap.size) (Nat.le_refl _) (by simp only [maxLen]; omega)
    simpa [OwnedK] using this
  obtain ⟨b0, e0, _, _, p1, p2, p3, p4⟩ := own_put o2 (k := u) (by simp; omega) (.bool true)
  cases e0
  have hset : (boolsV (List.replicate N false)).set u (.bool true) = boolsV ((List.replicate N false).set u true) := by simp [List.map_set]
  rw [hset] at p3
  refine ⟨_, rfl, _, blk_cell h.blk 0, _, _, _, w2, r1, _, rfl, by omega, by omega, ?_⟩
  rw [add_blk]
  refine ⟨p1, p2, ?_⟩
  obtain ⟨w3, hw3⟩ : ∃ w3, w3 = w2.setCell ⟨w1.heap.size, u, none⟩ (.bool true) := ⟨_, rfl⟩
  rw [← hw3] at p3 p4 ⊢
  have g13 : w1.grownBy w3 none := ((Kp.of_none (S := fun q => w1.heap.size ≤ q) r3).then p4 (fun q _ e => by omega)).grown (fun q hq e => by omega)
  have hEN : ∀ e ∈ E, e.1 < N ∧ e.2 < N := fun e he => by have := hR e he; omega
  have rstay : r < w1.heap.size := (Array.getElem?_eq_some_iff.1 h.blk).1
  -- what marks are, and how they are read and written
  refine ⟨fun m again W => ∃ bs : List Bool, bs.length = N ∧ OwnedK W w1.heap.size 4 1 (some ⟨w1.heap.size, 0, none⟩) N N (boolsV bs) ∧ w1.grownBy W none ∧ bs[u]? = some true ∧ (∀ x, x < N → bs[x]? = some true → x ∈ σ u) ∧ (again = false → ∀ e ∈ E, bs[e.1]? = bs[e.2]?) ∧ m = 2 * bs.count false + (if again then 1 else 0), ⟨_, (List.replicate N false).set u true, by simp, p3, g13, by rw [List.getElem?_set_self (by simp; omega)], fun x hx hm => ?_, fun e => (by cases e), rfl⟩, ?_⟩
  · by_cases e : u = x
    · subst e; exact cs_self hσ (by omega)
    · rw [List.getElem?_set_ne e, List.getElem?_replicate, if_pos hx] at hm; cases hm
  rintro m again W ⟨bs, hbl, oW, gW, hbu, hbs, hcl, rfl⟩
  refine ⟨fun ha => ?_, fun ha => ?_⟩
  · subst ha
    refine ⟨fun m2 again i W' => ∃ (p : Nat) (bs' : List Bool), i = p ∧ p ≤ E.length ∧ m2 = E.length - p ∧ bs'.length = N ∧ OwnedK W' w1.heap.size 4 1 (some ⟨w1.heap.size, 0, none⟩) N N (boolsV bs') ∧ w1.grownBy W' none ∧ bs'[u]? = some true ∧ (∀ x, x < N → bs'[x]? = some true → x ∈ σ u) ∧ (again = false → bs' = bs ∧ ∀ j (hj : j < E.length), j < p → bs[E[j].1]? = bs[E[j].2]?) ∧ (again = true → bs'.count false < bs.count false) ∧ bs'.count false ≤ bs.count false,
      ⟨_, 0, bs, rfl, by omega, rfl, hbl, oW, gW, hbu, hbs, fun _ => ⟨rfl, fun j hj h => by omega⟩, fun e => (by cases e), Nat.le_refl _⟩, ?_⟩
    rintro m2 again2 i W2 ⟨p, bs2, rfl, hp2, rfl, hbl2, o2, g2, hbu2, hbs2, hf, ht, hc⟩
    have tp : (p : Int).toNat = p := by omega
    rw [tp]
    have h2 := h.kept g2
    refine ⟨_, rfl, _, _, _, by rw [add_blk]; exact blk_cell h2.blk 1, fun hlt => ?_, fun hge => ?_⟩
    · have lp : p < E.length := by omega
      have gd1 := grown_drew (grown_refl W2 none)
      have gd2 := grown_drew gd1
      have h3 := h2.kept gd1
      obtain ⟨a, e1, e2, e3⟩ := h3.cell lp
      obtain ⟨x1, x2⟩ := hEN _ (List.getElem_mem lp)
      have o4 := o2.kept gd2
      have g4 := grown_trans g2 gd2
      obtain ⟨w4, hw4⟩ : ∃ w4, w4 = W2.drew.drew := ⟨_, rfl⟩
      rw [← hw4] at gd2 o4 g4 ⊢
      have c1 := own_cell o4 (j := E[p].1) (by omega)
      have c2 := own_cell o4 (j := E[p].2) (by omega)
      have t1 : ((E[p].1 : Nat) : Int).toNat = E[p].1 := by omega
      have t2 : ((E[p].2 : Nat) : Int).toNat = E[p].2 := by omega
      refine ⟨_, rfl, _, _, _, by rw [add_blk]; exact blk_cell h3.blk 1, a, e1, by omega, by omega, ⟨by omega, by omega⟩, (E[p].1 : Int), e2, _, rfl, _, _, _, by rw [add_blk]; exact blk_cell h3.blk 1, a, e1, by omega, by omega, ⟨by omega, by omega⟩, (E[p].2 : Int), e3, ?_⟩
      rw [t1, t2]
      refine ⟨_, rfl, by omega, by omega, _, by rw [add_blk]; exact c1, _, rfl, by omega, by omega, _, by rw [add_blk]; exact c2, _, fun w => run_neB21 _ _ _ _ w, fun hne => ?_, fun heq => ⟨by omega, E.length - (p + 1), by omega, p + 1, bs2, by omega, by omega, rfl, hbl2, o4, g4, hbu2, hbs2, fun e => ?_, ht, hc⟩⟩
      · -- one is marked, the other one not: both are then
        have hne' : bs2[E[p].1]'(by omega) ≠ bs2[E[p].2]'(by omega) := by simpa using hne
        have both : E[p].1 ∈ σ u ∧ E[p].2 ∈ σ u := by
          have hends := cs_ends hσ hR (List.getElem_mem lp) (u := u) huN
          cases hb1 : bs2[E[p].1]'(by omega) with
          | true =>
            have := hbs2 _ x1 (by rw [List.getElem?_eq_getElem (by omega), hb1])
            exact ⟨this, hends.1 this⟩
          | false =>
            have hb2 : bs2[E[p].2]'(by omega) = true := by
              cases hb2 : bs2[E[p].2]'(by omega) with
              | true => rfl
              | false => rw [hb1, hb2] at hne'; exact absurd rfl hne'
            have := hbs2 _ x2 (by rw [List.getElem?_eq_getElem (by omega), hb2])
            exact ⟨hends.2 this, this⟩
        obtain ⟨b1, q1, _, _, q2, q3, q4, q5⟩ := own_put o4 (k := E[p].1) (by simp; omega) (.bool true)
        cases q1
        have hs1 : (boolsV bs2).set E[p].1 (.bool true) = boolsV (bs2.set E[p].1 true) := by simp [List.map_set]
        rw [hs1] at q4
        obtain ⟨b2, q1', _, _, s2, s3, s4, s5⟩ := own_put q4 (k := E[p].2) (by simp; omega) (.bool true)
        cases q1'
        have hs2 : (boolsV (bs2.set E[p].1 true)).set E[p].2 (.bool true) = boolsV ((bs2.set E[p].1 true).set E[p].2 true) := by simp [List.map_set]
        rw [hs2] at s4
        have gF : w1.grownBy ((w4.setCell ⟨w1.heap.size, E[p].1, none⟩ (.bool true)).setCell ⟨w1.heap.size, E[p].2, none⟩ (.bool true)) none := (((Kp.of_none (S := fun q => w1.heap.size ≤ q) g4).then q5 (fun q _ e => by omega)).then s5 (fun q _ e => by omega)).grown (fun q hq e => by omega)
        have cnt1 : ((bs2.set E[p].1 true).set E[p].2 true).count false < bs2.count false := by
          have l1 : E[p].1 < bs2.length := by omega
          have l2 : E[p].2 < bs2.length := by omega
          have hne12 : E[p].1 ≠ E[p].2 := fun e => hne' (by simp only [e])
          rw [List.count_set (by simpa using l2), List.count_set l1]
          rw [List.getElem_set_ne hne12]
          have pos1 : bs2[E[p].1] = false → 0 < bs2.count false := fun e => List.count_pos_iff.2 (by rw [← e]; exact List.getElem_mem l1)
          have pos2 : bs2[E[p].2] = false → 0 < bs2.count false := fun e => List.count_pos_iff.2 (by rw [← e]; exact List.getElem_mem l2)
          cases hb1 : bs2[E[p].1] <;> cases hb2 : bs2[E[p].2]
          · rw [hb1, hb2] at hne'; exact absurd rfl hne'
          · have := pos1 hb1; simp; omega
          · have := pos2 hb2; simp; omega
          · rw [hb1, hb2] at hne'; exact absurd rfl hne'
        refine ⟨_, rfl, by omega, by omega, by rw [add_blk]; exact q2, by rw [add_blk]; exact q3, _, rfl, by omega, by omega, by rw [add_blk, add_blk]; exact s2, by rw [add_blk, add_blk]; exact s3, by omega, E.length - (p + 1), by omega, p + 1, (bs2.set E[p].1 true).set E[p].2 true, by omega, by omega, rfl, by simp [hbl2], by rw [add_blk, add_blk]; exact s4, by rw [add_blk, add_blk]; exact gF, ?_, fun x hx hm => ?_, fun e => (by cases e), fun _ => by omega, by omega⟩
        · rw [List.getElem?_set]
          split
          · rw [if_pos (by simp; omega)]
          · rw [List.getElem?_set]
            split
            · rw [if_pos (by omega)]
            · exact hbu2
        · rw [List.getElem?_set] at hm
          split at hm
          · rename_i e; rw [← e]; exact both.2
          · rw [List.getElem?_set] at hm
            split at hm
            · rename_i e; rw [← e]; exact both.1
            · exact hbs2 x hx hm
      · have heq' : bs2[E[p].1]'(by omega) = bs2[E[p].2]'(by omega) := by simpa using heq
        obtain ⟨rfl, hj⟩ := hf e
        refine ⟨rfl, fun j hjl hjp => ?_⟩
        by_cases e : j = p
        · subst e
          rw [List.getElem?_eq_getElem (by omega), List.getElem?_eq_getElem (by omega), heq']
        · exact hj j hjl (by omega)
    · have hpe : p = E.length := by omega
      subst hpe
      refine ⟨2 * bs2.count false + (if again2 then 1 else 0), ?_, bs2, hbl2, o2, g2, hbu2, hbs2, fun e => ?_, rfl⟩
      · cases again2 with
        | true => have := ht rfl; simp; omega
        | false => simp; omega
      · obtain ⟨rfl, hj⟩ := hf e
        intro e' he'
        obtain ⟨j, hjl, rfl⟩ := List.mem_iff_getElem.1 he'
        exact hj j hjl hjl
  · subst ha
    have hclosed := hcl rfl
    have key : ∀ x, x < N → (bs[x]? = some true ↔ x ∈ σ u) := cs_marks hσ hR huN (S := fun x => bs[x]? = some true) hbu hbs fun e he => by rw [hclosed e he]
    refine ⟨fun m2 oA on oc i W' => ∃ p : Nat, i = p ∧ p ≤ N ∧ m2 = N - p ∧ OwnedK W' W.heap.size 3 1 oA on oc (i64s (intsN ((List.range p).filter fun x => decide (x ∈ σ u)))) ∧ W.grownBy W' none, ⟨_, 0, rfl, by omega, rfl, by simpa using OwnedK.nil _ _ _ _, grown_refl _ _⟩, ?_⟩
    rintro m2 oA on oc i W2 ⟨p, rfl, hp2, rfl, o9, g2⟩
    have tp : (p : Int).toNat = p := by omega
    rw [tp]
    have g02 := grown_trans gW g2
    have h2 := h.kept g02
    have hon : on ≤ p := by
      have h1 := o9.cases.1
      have h2 := List.length_filter_le (fun x => decide (x ∈ σ u)) (List.range p)
      simp at h1 h2; omega
    refine ⟨_, rfl, _, blk_cell h2.blk 0, fun hlt => ?_, fun hge => ?_⟩
    · have lp : p < N := by omega
      have cp := own_cell (oW.kept g2) (j := p) (by omega)
      have hnext : (List.range (p + 1)).filter (fun x => decide (x ∈ σ u)) = (List.range p).filter (fun x => decide (x ∈ σ u)) ++ [p].filter (fun x => decide (x ∈ σ u)) := by rw [List.range_succ, List.filter_append]
      have hk := key p lp
      rw [List.getElem?_eq_getElem (by omega)] at hk
      refine ⟨_, rfl, by omega, by omega, _, by rw [add_blk]; exact cp, fun hy => ?_, fun hno => ⟨by omega, N - (p + 1), by omega, p + 1, by omega, by omega, rfl, ?_, g2⟩⟩
      · have hin : p ∈ σ u := hk.1 (by rw [hy])
        have gA := World.grownBy_alloc W2 (.cells #[.int .i64 (p : Int)] 3) none
        have bA := heap_alloc_new W2 (.cells #[.int .i64 (p : Int)] 3)
        obtain ⟨A3, n3, c3, W3, a1, a2, a3, a4, a5⟩ := append_i (x := (p : Int)) (a := ⟨W2.heap.size, 0, none⟩) (o9.kept gA) (blk_cell bA 0) (by omega) (Nat.le_trans g2.size gA.size)
        refine ⟨A3, n3, c3, W3, a1, by omega, N - (p + 1), by omega, p + 1, by omega, by omega, rfl, ?_, grown_step (grown_trans g2 gA) a3 (fun k hk => o9.block_ge k hk)⟩
        have : [p].filter (fun x => decide (x ∈ σ u)) = [p] := List.filter_eq_self.2 (fun x hx => by simp at hx; subst hx; simp [hin])
        rw [hnext, this]; simpa using a2
      · have hin : p ∉ σ u := fun h' => by have := hk.2 h'; rw [hno] at this; cases this
        have : [p].filter (fun x => decide (x ∈ σ u)) = [] := List.filter_eq_nil_iff.2 (fun x hx => by simp at hx; subst hx; simp [hin])
        rw [hnext, this, List.append_nil]; exact o9
    · have : p = N := by omega
      subst this
      exact ⟨oA, on, oc, rfl, o9.mono gW.size, g02⟩
theorem gconnectedC_calls (h : GR w base r N T A n c E) (hσ : σ = compS N E) (hR : RgE N E) (hEl : E.length ≤ 2 ^ 29) (hN : N ≤ 2 ^ 30) (u v : Int) : Calls P 20 #[.pointer (some ⟨r, 0, none⟩), .int .i64 u, .int .i64 v] w fun ev w' => ev = .returned (.bool (decide ((0 ≤ u ∧ u < N) ∧ (0 ≤ v ∧ v < N) ∧ σ u.toNat = σ v.toNat))) ∧ w.grownBy w' none := by
  apply vc20; unfold VC20; try (conv => zeta)
  simp only [InK]
  have hd : ((0 ≤ u ∧ u < N) ∧ (0 ≤ v ∧ v < N) ∧ σ u.toNat = σ v.toNat) ↔ v ∈ intsN (partN N σ u) := by
    rw [partN_mem]
    constructor
    · rintro ⟨h1, h2, h3⟩; exact ⟨h1, h2, by rw [h3]; exact cs_self hσ (by omega)⟩
    · rintro ⟨h1, h2, h3⟩; exact ⟨h1, h2, (cs_eq hσ h3).symm⟩
  rw [show decide ((0 ≤ u ∧ u < (N : Int)) ∧ (0 ≤ v ∧ v < (N : Int)) ∧ σ u.toNat = σ v.toNat) = decide (v ∈ intsN (partN N σ u)) from decide_eq_decide.2 hd]
  refine (gpartC_calls h hσ hR hEl hN u).mono fun ev w1 hh => ?_
  obtain ⟨A1, n1, c1, rfl, o1, g1⟩ := hh
  have hpl : (partN N σ u).length ≤ N := by
    unfold partN; split
    · have := List.length_filter_le (fun x => decide (x ∈ σ u.toNat)) (List.range N); unfold verts; simpa using this
    · simp
  obtain ⟨l, hl⟩ : ∃ l, intsN (partN N σ u) = l := ⟨_, rfl⟩
  simp only [hl] at o1 ⊢
  have hll : l.length ≤ N := by rw [← hl]; simpa using hpl
  have hn1 : n1 = l.length := by have := o1.cases.1; simp at this; omega
  refine ⟨_, _, _, rfl, fun m i W => ∃ p : Nat, i = p ∧ p ≤ l.length ∧ m = l.length - p ∧ w1.grownBy W none ∧ ∀ j (hj : j < l.length), j < p → l[j] ≠ v, ⟨_, 0, rfl, by omega, rfl, grown_refl _ _, fun j hj h => by omega⟩, ?_⟩
  rintro m i W ⟨p, rfl, hp, rfl, gW, hx⟩
  have tp : (p : Int).toNat = p := by omega
  rw [tp]
  refine ⟨fun hlt => ?_, fun hge => ⟨?_, grown_trans g1 gW⟩⟩
  · have lp : p < l.length := by omega
    obtain ⟨a, e1, e2⟩ := (o1.kept gW).row p (.int .i64 l[p]) (by simp [lp])
    refine ⟨a, e1, by omega, by omega, _, e2, fun he => ⟨?_, grown_trans g1 gW⟩, fun hne => ⟨by omega, l.length - (p + 1), by omega, p + 1, by omega, by omega, rfl, gW, fun j hj hjp => ?_⟩⟩
    · rw [decide_eq_true (by rw [← he]; exact List.getElem_mem lp)]
    · by_cases e : j = p
      · subst e; exact hne
      · exact hx j hj (by omega)
  · rw [decide_eq_false]
    intro hm
    obtain ⟨j, hj, e⟩ := List.mem_iff_getElem.1 hm
    exact hx j hj (by omega) e
theorem glinkC_calls (h : GR w base r N T A n c E) (hσ : σ = compS N E) (hR : RgE N E) (hEl : E.length ≤ 2 ^ 29) (hb : base ≤ w.heap.size) (hN : N ≤ 2 ^ 30) (u v : Int) : Calls P 16 #[.pointer (some ⟨r, 0, none⟩), .int .i64 u, .int .i64 v] w fun ev w' => ev = .returned (.bool (decide ((0 ≤ u ∧ u < N) ∧ (0 ≤ v ∧ v < N) ∧ σ u.toNat ≠ σ v.toNat))) ∧
    ∃ (A' : Option Addr) (n' c' : Nat), GR w' base r N (extS T w w') A' n' c' (if (0 ≤ u ∧ u < N) ∧ (0 ≤ v ∧ v < N) ∧ σ u.toNat ≠ σ v.toNat then E ++ [pairE u.toNat v.toNat] else E) ∧ Kp w w' T := by
  apply vc16; unfold VC16; try (conv => zeta)
  refine (gconnectedC_calls h hσ hR hEl hN u v).mono fun ev w1 hh => ?_
  obtain ⟨rfl, g1⟩ := hh
  have h1 := h.kept g1
  refine ⟨_, rfl, fun hno => (gadd_calls h1 (Nat.le_trans hb g1.size) u v hEl (by omega)).mono fun ev w2 hh => ?_, fun hyes => ?_⟩
  · obtain ⟨rfl, A', n', c', a1, a2⟩ := hh
    have hno' := of_decide_eq_false hno
    have hiff : ((0 ≤ u ∧ u < (N : Int)) ∧ (0 ≤ v ∧ v < (N : Int)) ∧ u ≠ v ∧ pairE u.toNat v.toNat ∉ E) ↔ ((0 ≤ u ∧ u < (N : Int)) ∧ (0 ≤ v ∧ v < (N : Int)) ∧ σ u.toNat ≠ σ v.toNat) := by
      constructor
      · rintro ⟨h1, h2, _, _⟩; exact ⟨h1, h2, fun e => hno' ⟨h1, h2, e⟩⟩
      · rintro ⟨h1, h2, h3⟩
        refine ⟨h1, h2, fun e => h3 (by rw [e]), fun hm => h3 ?_⟩
        exact (cs_eq hσ (by rw [hσ, mem_compS (by omega)]; exact ⟨by omega, Cn.one ((Adj.iff_pair hR).2 hm)⟩)).symm
    refine ⟨_, rfl, by rw [decide_eq_decide.2 hiff], A', n', c', ?_, (Kp.of_none g1).then a2 (fun _ _ e => e)⟩
    have e : (if (0 ≤ u ∧ u < (N : Int)) ∧ (0 ≤ v ∧ v < (N : Int)) ∧ u ≠ v ∧ pairE u.toNat v.toNat ∉ E then E ++ [pairE u.toNat v.toNat] else E) = if (0 ≤ u ∧ u < (N : Int)) ∧ (0 ≤ v ∧ v < (N : Int)) ∧ σ u.toNat ≠ σ v.toNat then E ++ [pairE u.toNat v.toNat] else E := by
      by_cases hc : (0 ≤ u ∧ u < (N : Int)) ∧ (0 ≤ v ∧ v < (N : Int)) ∧ σ u.toNat ≠ σ v.toNat
      · rw [if_pos hc, if_pos (hiff.2 hc)]
      · rw [if_neg hc, if_neg (fun h' => hc (hiff.1 h'))]
    rw [e] at a1
    have g2 := a2.size
    exact ⟨a1.blk, a1.own, a1.tr.imp id (fun e => ⟨Nat.le_trans g1.size e.1, e.2⟩), fun q hq => (a1.ta q hq).imp id (fun e => ⟨Nat.le_trans g1.size e.1, e.2⟩), fun q hq => hq.elim (fun e => Nat.lt_of_lt_of_le (h1.lt q e) g2) (fun e => e.2)⟩
  · have hy : (0 ≤ u ∧ u < (N : Int)) ∧ (0 ≤ v ∧ v < (N : Int)) ∧ σ u.toNat = σ v.toNat := by
      have := hyes
      simp at this
      exact ⟨⟨this.1, this.2.1⟩, ⟨this.2.2.1, this.2.2.2.1⟩, this.2.2.2.2⟩
    have hc : ¬ ((0 ≤ u ∧ u < (N : Int)) ∧ (0 ≤ v ∧ v < (N : Int)) ∧ σ u.toNat ≠ σ v.toNat) := fun h' => h'.2.2 hy.2.2
    refine ⟨by rw [decide_eq_false hc], A, n, c, ?_, Kp.of_none g1⟩
    rw [if_neg hc]
    exact ⟨h1.blk, h1.own, .inl h1.tr, fun q hq => .inl (h1.ta q hq), fun q hq => hq.elim (h1.lt q) (fun e => e.2)⟩
theorem gcountC_calls (h : GR w base r N T A n c E) (hσ : σ = compS N E) (hR : RgE N E) (hEl : E.length ≤ 2 ^ 29) (hN : N ≤ 2 ^ 30) : Calls P 26 #[.pointer (some ⟨r, 0, none⟩)] w fun ev w' => ev = .returned (.int .i64 (cntS N σ : Int)) ∧ w.grownBy w' none := by
  apply vc26; unfold VC26; try (conv => zeta)
  simp only [InK]
  have fle : ∀ p : Nat, ((List.range p).filter fun u => decide (∀ y ∈ σ u, y < N → u ≤ y)).length ≤ p := fun p => by
    have := List.length_filter_le (fun u => decide (∀ y ∈ σ u, y < N → u ≤ y)) (List.range p); simpa using this
  refine ⟨fun m k i W => ∃ p : Nat, i = p ∧ p ≤ N ∧ m = N - p ∧ k = (((List.range p).filter fun u => decide (∀ y ∈ σ u, y < N → u ≤ y)).length : Int) ∧ w.grownBy W none, ⟨_, 0, rfl, by omega, rfl, by simp, grown_refl _ _⟩, ?_⟩
  rintro m k i W ⟨p, rfl, hp, rfl, rfl, gW⟩
  have hW := h.kept gW
  refine ⟨_, rfl, _, blk_cell hW.blk 0, fun hlt => ?_, fun hge => ?_⟩
  · have lp : p < N := by omega
    refine (gpartC_calls hW hσ hR hEl hN (p : Int)).mono fun ev w1 hh => ?_
    obtain ⟨A1, n1, c1, rfl, o1, g1⟩ := hh
    have hpn : partN N σ (p : Int) = verts N σ p := by unfold partN; rw [if_pos (by omega)]; simp
    rw [hpn] at o1
    have pin : p ∈ verts N σ p := mem_verts.2 ⟨lp, cs_self hσ (by omega)⟩
    obtain ⟨x, rest, hv⟩ : ∃ x rest, verts N σ p = x :: rest := by
      cases hv : verts N σ p with
      | nil => rw [hv] at pin; simp at pin
      | cons x rest => exact ⟨x, rest, rfl⟩
    have hn1 : 0 < n1 := by have := o1.cases.1; rw [hv] at this; simp at this; omega
    obtain ⟨a, e1, e2⟩ := o1.row 0 (.int .i64 (x : Int)) (by rw [hv]; rfl)
    rw [addr0] at e2
    have hx : x = p ↔ ∀ y ∈ σ p, y < N → p ≤ y := by
      have hr := verts_rise N σ p
      rw [hv, List.pairwise_cons] at hr
      constructor
      · rintro rfl y hy hyn
        have : y ∈ verts N σ x := mem_verts.2 ⟨hyn, hy⟩
        rw [hv] at this
        rcases List.mem_cons.1 this with e | e
        · omega
        · have := hr.1 y e; omega
      · intro hle'
        have hxv : x ∈ verts N σ p := by rw [hv]; simp
        have h1 := hle' x (mem_verts.1 hxv).2 (mem_verts.1 hxv).1
        rw [hv] at pin
        rcases List.mem_cons.1 pin with e | e
        · exact e.symm
        · have := hr.1 p e; omega
    have hnext : ((List.range (p + 1)).filter fun u => decide (∀ y ∈ σ u, y < N → u ≤ y)).length = ((List.range p).filter fun u => decide (∀ y ∈ σ u, y < N → u ≤ y)).length + (if x = p then 1 else 0) := by
      rw [List.range_succ, List.filter_append, List.length_append]
      congr 1
      by_cases e : x = p
      · rw [if_pos e, List.filter_eq_self.2 (fun z hz => by simp at hz; subst hz; exact decide_eq_true (hx.1 e))]; rfl
      · rw [if_neg e, List.filter_eq_nil_iff.2 (fun z hz => by simp at hz; subst hz; simpa using fun h' => e (hx.2 h'))]; rfl
    have := fle p
    refine ⟨_, _, _, rfl, a, e1, by omega, by omega, (x : Int), e2, fun he => ⟨by omega, by omega, N - (p + 1), by omega, p + 1, by omega, by omega, rfl, ?_, grown_trans gW g1⟩, fun hne => ⟨by omega, N - (p + 1), by omega, p + 1, by omega, by omega, rfl, ?_, grown_trans gW g1⟩⟩
    · rw [hnext, if_pos (by omega)]; omega
    · rw [hnext, if_neg (by omega)]; omega
  · have : p = N := by omega
    subst this
    exact ⟨rfl, gW⟩
end
section
variable {w w' : World} {base r N n c : Nat} {T : Nat → Prop} {A : Option Addr} {E : List (Nat × Nat)}
/-- How many edges a vertex has. -/
def degE (E : Eds) (u : Int) : Nat := (E.filter fun e => decide ((e.1 : Int) = u ∨ (e.2 : Int) = u)).length
theorem gdegree_calls (h : GR w base r N T A n c E) (hR : RgE N E) (hEl : E.length ≤ 2 ^ 29) (u : Int) : Calls P 37 #[.pointer (some ⟨r, 0, none⟩), .int .i64 u] w fun ev w' => ev = .returned (.int .i64 (degE E u : Int)) ∧ w.grownBy w' none := by
  apply vc37; unfold VC37; try (conv => zeta)
  simp only [InK]
  have hlen := h.len
  have dl : ∀ l : Eds, degE l u ≤ l.length := fun l => List.length_filter_le _ _
  refine ⟨fun m k i W => ∃ p : Nat, i = p ∧ p ≤ E.length ∧ m = E.length - p ∧ k = (degE (E.take p) u : Int) ∧ w.grownBy W none, ⟨_, 0, rfl, by omega, rfl, by simp [degE], grown_refl _ _⟩, ?_⟩
  rintro m k i W ⟨p, rfl, hp, rfl, rfl, gW⟩
  have hW := h.kept gW
  have tp : (p : Int).toNat = p := by omega
  rw [tp]
  refine ⟨_, rfl, A, n, c, by rw [add_blk]; exact blk_cell hW.blk 1, fun hlt => ?_, fun hge => ?_⟩
  · have lp : p < E.length := by omega
    obtain ⟨a, e1, q1, q2⟩ := hW.cell lp
    have hd := dl (E.take p)
    have htl : (E.take p).length ≤ p := by simp; omega
    have hnx : E.take (p + 1) = E.take p ++ [E[p]] := List.take_succ_eq_append_getElem lp
    have yes : ((E[p].1 : Int) = u ∨ (E[p].2 : Int) = u) → degE (E.take (p + 1)) u = degE (E.take p) u + 1 := fun hh => by
      unfold degE; rw [hnx, List.filter_append, List.length_append, List.filter_cons_of_pos (by simpa using hh)]; rfl
    have no : ¬ ((E[p].1 : Int) = u ∨ (E[p].2 : Int) = u) → degE (E.take (p + 1)) u = degE (E.take p) u := fun hh => by
      unfold degE; rw [hnx, List.filter_append, List.length_append, List.filter_cons_of_neg (by simpa using hh)]; rfl
    refine (there_calls hW u).mono fun ev w2 hh => ?_
    obtain ⟨rfl, rfl⟩ := hh
    refine ⟨_, rfl, fun hth => ⟨_, rfl, A, n, c, by rw [add_blk]; exact blk_cell hW.blk 1, a, e1, by omega, by omega, by omega, _, q1, fun he => ⟨by omega, by omega, E.length - (p + 1), by omega, p + 1, by omega, by omega, rfl, by rw [yes (.inl he)]; omega, gW⟩, fun hne => ⟨_, rfl, A, n, c, by rw [add_blk]; exact blk_cell hW.blk 1, a, e1, by omega, by omega, by omega, _, q2, fun he => ⟨by omega, by omega, E.length - (p + 1), by omega, p + 1, by omega, by omega, rfl, by rw [yes (.inr he)]; omega, gW⟩, fun hne2 => ⟨by omega, E.length - (p + 1), by omega, p + 1, by omega, by omega, rfl, by rw [no (fun hh => hh.elim hne hne2)], gW⟩⟩⟩, fun hth => ⟨?_, gW⟩⟩
    have hth := of_decide_eq_false hth
    have zero : ∀ l : Eds, (∀ e ∈ l, e ∈ E) → degE l u = 0 := fun l hl => by
      unfold degE; rw [List.filter_eq_nil_iff.2]; rfl
      intro e he
      have := hR e (hl e he)
      simp; omega
    rw [zero _ (fun e he => List.mem_of_mem_take he), zero E (fun e he => he)]
  · have : p = E.length := by omega
    subst this
    rw [List.take_length]
    exact ⟨rfl, gW⟩
end
end Go.Proofs.Ytpfkpmapimonbaa

/-! A map ranged over whose entries are struck as they come. No program. -/
namespace Go.V
open Go Go.RowKit Go.ChangeMaps
set_option linter.unusedVariables false
set_option linter.unusedSimpArgs false
set_option linter.unusedSectionVars false

section
variable {κ υ : Type} [DecidableEq κ] {P : Program} {w w' w'' : World} {mt kt et : TypeId} {enc : κ → Value} {ok : κ → Prop} {encv : υ → Value} {b r : Nat} {L L' : List (κ × υ)}

/-- A map that was lost entries of alone. -/
def ShM (w w' : World) (b : Nat) : Prop := ∀ es clock, w.heap[b]? = some (.map es clock) → ∃ es', w'.heap[b]? = some (.map es' clock) ∧ es'.toList.Sublist es.toList
theorem ShM.refl (w : World) (b : Nat) : ShM w w b := fun es clock h => ⟨es, h, List.Sublist.refl _⟩
theorem ShM.trans (h : ShM w w' b) (h' : ShM w' w'' b) : ShM w w'' b := fun es clock e => by
  obtain ⟨es1, e1, s1⟩ := h es clock e
  obtain ⟨es2, e2, s2⟩ := h' es1 clock e1
  exact ⟨es2, e2, s2.trans s1⟩
theorem ShM.of_kp {S : Nat → Prop} (hk : Kp w w' S) (hS : ¬ S b) : ShM w w' b := fun es clock e => ⟨es, by rw [hk.block b (Array.getElem?_eq_some_iff.1 e).1 hS]; exact e, List.Sublist.refl _⟩
theorem ShM.of_eq (h : w'.heap[b]? = w.heap[b]?) : ShM w w' b := fun es clock e => ⟨es, by rw [h]; exact e, List.Sublist.refl _⟩
/-- An entry struck: the map is less alone. -/
theorem MapAt.strike2 (K : KeyT P kt enc ok) (hm : P.underlying mt = some (.map kt et)) (h : MapAt enc ok encv w b L) {k : κ} (hk : ok k) (ty : TypeId) :
    ∃ w', Sem.run P (Builtin.delete_ #[mt, kt] ty #[.map (some b), enc k]) w = .ok (.tuple #[]) w' ∧ MapAt enc ok encv w' b (delK L k) ∧ w.grownBy w' (some b) ∧ ShM w w' b := by
  obtain ⟨w1, h1, h2, h3⟩ := h.strike K hm hk ty
  refine ⟨w1, h1, h2, h3, ?_⟩
  obtain ⟨es, clock, hb, hL, hok, hnd, hbn⟩ := id h
  intro es0 clock0 hb0
  rw [hb] at hb0; cases hb0
  obtain ⟨l, hl⟩ := K.key k hk
  have hck := fun em => K.law.check w em hl
  rcases h.find K hb hk with ⟨f1, f2⟩ | ⟨j, u, f1, f2, f3, e, he, hek⟩
  · have : Sem.run P (Builtin.delete_ #[mt, kt] ty #[.map (some b), enc k]) w = .ok (.tuple #[]) { w with heap := w.heap.setIfInBounds b (.map es clock) } := by
      simp [Builtin.delete_, run_underlying hm, MapKept.run_getObj_map hb, hck, f1, MapKept.run_setObj_map _ hb, Result.andThen]
    rw [h1] at this; cases this
    exact ⟨es, (MapKept.heap_set hb).1, List.Sublist.refl _⟩
  · have : Sem.run P (Builtin.delete_ #[mt, kt] ty #[.map (some b), enc k]) w = .ok (.tuple #[]) { w with heap := w.heap.setIfInBounds b (.map (es.eraseIdxIfInBounds j) clock) } := by
      simp [Builtin.delete_, run_underlying hm, MapKept.run_getObj_map hb, hck, f1, MapKept.run_setObj_map _ hb, Result.andThen]
    rw [h1] at this; cases this
    refine ⟨_, (MapKept.heap_set hb).1, ?_⟩
    simp only [Array.eraseIdxIfInBounds]
    split
    · rw [Array.toList_eraseIdx]; exact List.eraseIdx_sublist _ _
    · exact List.Sublist.refl _
/-- Block r walks over the map of block b; what came is struck, but what came last (cur). -/
def Dr (enc : κ → Value) (encv : υ → Value) (w : World) (r b : Nat) (cur : Option (κ × υ)) : Prop :=
  ∃ (es : Array MapEntry) (clock since : Nat) (seen : Array Nat) (c0 : Nat), w.heap[b]? = some (.map es clock) ∧ w.heap[r]? = some (.mapIter (some b) since seen c0) ∧ (∀ e ∈ es.toList, e.born < since) ∧ (es.toList.map (·.born)).Nodup ∧ (since ≤ c0 ∧ since ≤ clock) ∧
    match cur with
    | none => ∀ e ∈ es.toList, seen.contains e.born = false
    | some p => ∃ e ∈ es.toList, ∃ seen' : Array Nat, e.key = enc p.1 ∧ e.val = encv p.2 ∧ seen = seen'.push e.born ∧ c0 = clock ∧ ∀ e' ∈ es.toList, e'.born ≠ e.born → seen.contains e'.born = false
theorem Dr.kp {S : Nat → Prop} {cur : Option (κ × υ)} (h : Dr enc encv w r b cur) (hk : Kp w w' S) (hb : ¬ S b) (hr : ¬ S r) : Dr enc encv w' r b cur := by
  obtain ⟨es, clock, since, seen, c0, h1, h2, rest⟩ := h
  exact ⟨es, clock, since, seen, c0, by rw [hk.block b (Array.getElem?_eq_some_iff.1 h1).1 hb]; exact h1, by rw [hk.block r (Array.getElem?_eq_some_iff.1 h2).1 hr]; exact h2, rest⟩
theorem Dr.lt {cur : Option (κ × υ)} (h : Dr enc encv w r b cur) : r < w.heap.size ∧ b < w.heap.size := by
  obtain ⟨es, clock, since, seen, c0, h1, h2, rest⟩ := h
  exact ⟨(Array.getElem?_eq_some_iff.1 h2).1, (Array.getElem?_eq_some_iff.1 h1).1⟩
theorem Dr.begin (hm : P.underlying mt = some (.map kt et)) (h : MapAt enc ok encv w b L) :
    ∃ o : Obj, Sem.run P (Instr.range mt (.map (some b))) w = .ok (.pointer (some ⟨w.heap.size, 0, none⟩)) (w.alloc o) ∧ Dr enc encv (w.alloc o) w.heap.size b none := by
  obtain ⟨es, clock, hb, hL, hok, hnd, hbn⟩ := h
  have hlt := (Array.getElem?_eq_some_iff.1 hb).1
  exact ⟨.mapIter (some b) clock #[] clock, run_range_map w mt kt et b es clock hm hb, es, clock, clock, #[], clock, by rw [(MapKept.heap_alloc w _).2 b hlt]; exact hb, (MapKept.heap_alloc w _).1, hbn.1, hbn.2, ⟨Nat.le_refl _, Nat.le_refl _⟩, fun e _ => by simp⟩
/-- A step. -/
theorem Dr.next (h : Dr enc encv w r b (none : Option (κ × υ))) (hM : MapAt enc ok encv w b L) (ty : TypeId) :
    (L = [] ∧ Sem.run P (Instr.next (.pointer (some ⟨r, 0, none⟩)) false ty) w = .ok (.tuple #[.bool false]) w) ∨
    ∃ p ∈ L, ∃ w' : World, Sem.run P (Instr.next (.pointer (some ⟨r, 0, none⟩)) false ty) w = .ok (.tuple #[.bool true, enc p.1, encv p.2]) w' ∧ Dr enc encv w' r b (some p) ∧ Kp w w' (fun k => k = r) := by
  obtain ⟨es, clock, since, seen, c0, h1, h5, h3, h4, h6, h7⟩ := h
  obtain ⟨es', clock', hb, hL, _⟩ := hM
  rw [h1] at hb; cases hb
  have hbr : b ≠ r := by
    intro e; subst e; rw [h1] at h5; cases h5
  rcases run_next_at (P := P) w ty r b since c0 seen es clock h5 h1 h3 h6.1 with ⟨q1, q2⟩ | ⟨e, he, w1, hw1, q2⟩
  · refine .inl ⟨?_, q2⟩
    cases hl : L with
    | nil => rfl
    | cons p L2 =>
      exfalso
      rw [hl] at hL
      have hlen := congrArg List.length hL
      simp only [List.length_map, List.length_cons] at hlen
      have h0 : 0 < es.toList.length := by omega
      have hm : es.toList[0] ∈ (leftOf es seen).toList := by
        unfold leftOf
        rw [Array.toList_filter, List.mem_filter]
        exact ⟨List.getElem_mem h0, by rw [h7 _ (List.getElem_mem h0)]; rfl⟩
      have h00 : (leftOf es seen).toList.length = 0 := by simpa using q1
      rw [List.length_eq_zero_iff.1 h00] at hm
      simp at hm
  · unfold leftOf at he
    rw [Array.toList_filter, List.mem_filter] at he
    have hmem : (e.key, e.val) ∈ L.map (fun p => (enc p.1, encv p.2)) := by rw [← hL]; exact List.mem_map_of_mem (f := fun e : MapEntry => (e.key, e.val)) he.1
    obtain ⟨p, hp, hpe⟩ := List.mem_map.1 hmem
    simp only [Prod.mk.injEq] at hpe
    have hw : w1.heap = w.heap ∧ w1.os = w.os ∧ w1.tape = w.tape ∧ w1.output = w.output := by rcases hw1 with rfl | rfl <;> exact ⟨rfl, rfl, rfl, rfl⟩
    have hr1 := (Array.getElem?_eq_some_iff.1 h5).1
    refine .inr ⟨p, hp, setBlock w1 r (.mapIter (some b) since (seen.push e.born) clock), by rw [q2, hpe.1, hpe.2], ⟨es, clock, since, seen.push e.born, clock, ?_, ?_, h3, h4, ⟨h6.2, h6.2⟩, e, he.1, seen, hpe.1.symm, hpe.2.symm, rfl, rfl, fun e' he' hne => ?_⟩, ⟨hw.2.1, hw.2.2.1, hw.2.2.2, by simp [setBlock, hw.1], fun k hk2 hS => ?_⟩⟩
    · simp only [setBlock, hw.1]
      rw [Array.getElem?_setIfInBounds_ne (fun e => hbr e.symm)]
      exact h1
    · simp only [setBlock, hw.1]
      rw [Array.getElem?_setIfInBounds_self_of_lt hr1]
    · rw [Array.contains_push, h7 e' he', Bool.false_or]
      exact beq_eq_false_iff_ne.2 hne
    · simp only [setBlock, hw.1]
      rw [Array.getElem?_setIfInBounds_ne (fun e => hS e.symm)]
theorem Dr.entry {p : κ × υ} (h : Dr enc encv w r b (some p)) : Sem.run P (Instr.entry (.pointer (some ⟨r, 0, none⟩))) w = .ok (.tuple #[enc p.1, encv p.2]) w := by
  obtain ⟨es, clock, since, seen, c0, h1, h5, h3, h4, h6, e, he, seen', hk, hv, rfl, rfl, _⟩ := h
  rw [run_entry_at (P := P) w r b since seen' es c0 e h5 h1 he h4, hk, hv]
/-- What came last is struck. -/
theorem Dr.struck {p : κ × υ} (h : Dr enc encv w r b (some p)) (hs : ShM w w' b) (hr : w'.heap[r]? = w.heap[r]?) (hM : MapAt enc ok encv w' b L') (hE : ∀ x y, enc x = enc y → x = y) (hn : p.1 ∉ L'.map Prod.fst) : Dr enc encv w' r b (none : Option (κ × υ)) := by
  obtain ⟨es, clock, since, seen, c0, h1, h5, h3, h4, h6, e, he, seen', hk, hv, hse, hc, h7⟩ := h
  obtain ⟨es', h1', hsub⟩ := hs es clock h1
  obtain ⟨es2, clock2, hb, hL, _⟩ := hM
  rw [h1'] at hb; cases hb
  refine ⟨es', clock, since, seen, c0, h1', by rw [hr]; exact h5, fun x hx => h3 x (hsub.mem hx), h4.sublist (hsub.map _), h6, fun x hx => ?_⟩
  refine h7 x (hsub.mem hx) fun hxb => ?_
  have hxe : x = e := by
    obtain ⟨i, hi, e1⟩ := List.getElem_of_mem (hsub.mem hx)
    obtain ⟨j, hj, e2⟩ := List.getElem_of_mem he
    have : (es.toList.map (·.born))[i]? = (es.toList.map (·.born))[j]? := by simp only [List.getElem?_map, List.getElem?_eq_getElem hi, List.getElem?_eq_getElem hj, e1, e2, Option.map_some, hxb]
    have hij := (List.getElem?_inj (by simpa using hi) h4).1 this
    subst hij
    rw [← e1, ← e2]
  subst hxe
  have hmem : (x.key, x.val) ∈ L'.map (fun p => (enc p.1, encv p.2)) := by rw [← hL]; exact List.mem_map_of_mem (f := fun e : MapEntry => (e.key, e.val)) hx
  obtain ⟨q, hq, hqe⟩ := List.mem_map.1 hmem
  simp only [Prod.mk.injEq] at hqe
  exact hn (List.mem_map.2 ⟨q, hq, hE _ _ (hqe.1.trans hk)⟩)
/-- A map that is nil has nothing. -/
theorem range_nil (hm : P.underlying mt = some (.map kt et)) (w : World) : Sem.run P (Instr.range mt (.map none)) w = .ok (.pointer (some ⟨w.heap.size, 0, none⟩)) (w.alloc (.mapIter none 0 #[] 0)) := by
  simp [Instr.range, run_underlying hm]
set_option maxRecDepth 100000 in
theorem next_nil {r s c : Nat} {seen : Array Nat} (hr : w.heap[r]? = some (.mapIter none s seen c)) (ty : TypeId) : Sem.run P (Instr.next (.pointer (some ⟨r, 0, none⟩)) false ty) w = .ok (.tuple #[.bool false]) w := by
  have h : (getObj r).run P w = .ok (.mapIter none s seen c) w := by simp [getObj, Sem.run, hr]
  simp only [Instr.next, Sem.run_bind, h, Result.andThen]
  rfl
end
end Go.V

/-! hdt.near: who is next to whom, in memory; set: the walk. -/
namespace Go.Proofs.Ytpfkpmapimonbaa
open Go Go.V Go.RowKit
set_option linter.unusedVariables false
set_option linter.unusedSimpArgs false
set_option linter.unusedSectionVars false
set_option maxHeartbeats 4000000
set_option maxRecDepth 100000

abbrev intV (x : Int) : Value := .int .i64 x
abbrev mapV (q : Nat) : Value := .map (some q)
abbrev bMap (w : World) (q : Nat) (l : List (Int × Bool)) : Prop := MapAt intV okI Value.bool w q l
abbrev nMap (w : World) (b : Nat) (O : List (Int × Nat)) : Prop := MapAt intV okI mapV w b O
theorem keyI : KeyT P 3 intV okI where
  law := Maps.int_keyed Try.underlying3
  key := fun x hx => ⟨_, Maps.keyOf_int_mk Try.underlying3 (wf_of_i64 hx)⟩
  inj := fun x y h => by simpa [intV] using h
theorem zero_mib (w : World) : (zeroValue 107).run P w = .ok (.map none) w := by
  have h : ((P.info? 107).getD default).zero = some (.map none) := by kernel_rfl
  have h2 : (P.info? 107).isSome = true := by kernel_rfl
  cases hq : P.info? 107 with
  | none => rw [hq] at h2; cases h2
  | some i => rw [hq] at h; simp at h; simp [zeroValue, typeInfo, hq, h]
section
variable {κ υ : Type} [DecidableEq κ] {L : List (κ × υ)}
theorem keys_iff {k : κ} : k ∈ L.map Prod.fst ↔ getK L k ≠ none := by
  rw [Ne, getK_none, List.mem_map]
  constructor
  · rintro ⟨p, hp, rfl⟩ h; exact h p hp rfl
  · intro h
    refine Decidable.byContradiction fun h' => h fun p hp e => h' ⟨p, hp, e⟩
theorem keys_upd {k k' : κ} {v : υ} : k' ∈ (updK L k v).map Prod.fst ↔ k' ∈ L.map Prod.fst ∨ k' = k := by
  rw [keys_iff, keys_iff, getK_upd]
  by_cases e : k = k'
  · rw [if_pos e]; simp [e]
  · rw [if_neg e]; exact ⟨.inl, fun h => h.elim id fun h => absurd h.symm e⟩
theorem keys_del {k k' : κ} : k' ∈ (delK L k).map Prod.fst ↔ k' ∈ L.map Prod.fst ∧ k' ≠ k := by
  rw [keys_iff, keys_iff, getK_del]
  by_cases e : k = k'
  · rw [if_pos e]; simp [e]
  · rw [if_neg e]; exact ⟨fun h => ⟨h, fun h => e h.symm⟩, fun h => h.1⟩
theorem snd_inj (hn : (L.map Prod.snd).Nodup) {p q : κ × υ} (hp : p ∈ L) (hq : q ∈ L) (e : p.2 = q.2) : p = q := by
  obtain ⟨i, hi, e1⟩ := List.getElem_of_mem hp
  obtain ⟨j, hj, e2⟩ := List.getElem_of_mem hq
  have : (L.map Prod.snd)[i]? = (L.map Prod.snd)[j]? := by simp only [List.getElem?_map, List.getElem?_eq_getElem hi, List.getElem?_eq_getElem hj, e1, e2, Option.map_some, e]
  have := (List.getElem?_inj (by simpa using hi) hn).1 this
  subst this
  rw [← e1, ← e2]
end
/-- Who is next to whom: R. -/
structure NearAt (w : World) (b : Nat) (O : List (Int × Nat)) (F : Nat → Prop) (R : Int → Int → Prop) : Prop where
  outer : nMap w b O
  inner : ∀ p ∈ O, ∃ l, bMap w p.2 l ∧ ∀ y, (y ∈ l.map Prod.fst ↔ R p.1 y)
  out : ∀ x y, R x y → ∃ q, (x, q) ∈ O
  nod : (O.map Prod.snd).Nodup
  bF : F b
  qF : ∀ p ∈ O, F p.2 ∧ p.2 ≠ b
  lt : ∀ q, F q → q < w.heap.size
def halfR (R : Int → Int → Prop) (a c : Int) (is : Bool) (x y : Int) : Prop := if is = true then R x y ∨ (x = a ∧ y = c) else R x y ∧ ¬ (x = a ∧ y = c)
def setR (R : Int → Int → Prop) (u v : Int) (is : Bool) (x y : Int) : Prop := if is = true then R x y ∨ ((x = u ∧ y = v) ∨ (x = v ∧ y = u)) else R x y ∧ ¬ ((x = u ∧ y = v) ∨ (x = v ∧ y = u))
theorem half_half (R : Int → Int → Prop) (u v : Int) (is : Bool) : halfR (halfR R u v is) v u is = setR R u v is := by
  funext x y
  unfold halfR setR
  cases is
  · simp only [Bool.false_eq_true, if_false]
    apply propext
    constructor
    · rintro ⟨⟨h1, h2⟩, h3⟩; exact ⟨h1, fun h => h.elim h2 h3⟩
    · rintro ⟨h1, h2⟩; exact ⟨⟨h1, fun h => h2 (.inl h)⟩, fun h => h2 (.inr h)⟩
  · simp only [if_true]
    apply propext
    constructor
    · rintro ((h | h) | h)
      · exact .inl h
      · exact .inr (.inl h)
      · exact .inr (.inr h)
    · rintro (h | h | h)
      · exact .inl (.inl h)
      · exact .inl (.inr h)
      · exact .inr h
section
variable {w w' : World} {b : Nat} {O : List (Int × Nat)} {F : Nat → Prop} {R : Int → Int → Prop}
theorem NearAt.kp {S : Nat → Prop} (h : NearAt w b O F R) (hk : Kp w w' S) (hd : ∀ q, F q → ¬ S q) : NearAt w' b O F R :=
  ⟨h.outer.kp hk (hd b h.bF), fun p hp => by obtain ⟨l, h1, h2⟩ := h.inner p hp; exact ⟨l, h1.kp hk (hd _ (h.qF p hp).1), h2⟩, h.out, h.nod, h.bF, h.qF, fun q hq => Nat.lt_of_lt_of_le (h.lt q hq) hk.size⟩
theorem NearAt.kept (h : NearAt w b O F R) (hg : w.grownBy w' none) : NearAt w' b O F R := h.kp (S := fun _ => False) (Kp.of_none hg) (fun _ _ e => e)
theorem NearAt.mono {F' : Nat → Prop} (h : NearAt w b O F R) (hF : ∀ q, F q → F' q) (hl : ∀ q, F' q → q < w.heap.size) : NearAt w b O F' R :=
  ⟨h.outer, h.inner, h.out, h.nod, hF _ h.bF, fun p hp => ⟨hF _ (h.qF p hp).1, (h.qF p hp).2⟩, hl⟩
theorem NearAt.keyU (h : NearAt w b O F R) {x q q' : Nat} {k : Int} (h1 : (k, q) ∈ O) (h2 : (k, q') ∈ O) : q = q' := by
  obtain ⟨es, clock, _, _, _, hn, _⟩ := h.outer
  have a := (getK_mem hn).2 h1
  have b := (getK_mem hn).2 h2
  rw [a] at b; cases b; rfl
theorem NearAt.get (h : NearAt w b O F R) {k : Int} {q : Nat} : getK O k = some q ↔ (k, q) ∈ O := by
  obtain ⟨es, clock, _, _, _, hn, _⟩ := h.outer
  exact getK_mem hn
theorem NearAt.look (h : NearAt w b O F R) {a : Int} (ha : okI a) : Sem.run P (Instr.lookup 84 (.map (some b)) (.int .i64 a) false) w = .ok (.map (getK O a)) w := by
  have := h.outer.look keyI Try.underlying84 (zero_mib w) ha false
  rw [this]
  cases getK O a <;> rfl
/-- A vertex that had no map has one. -/
theorem NearAt.open_ (h : NearAt w b O F R) {a : Int} (ha : okI a) (hn : getK O a = none) : ∃ W, Sem.run P (Instr.mapUpdate 84 (.map (some b)) (.int .i64 a) (.map (some w.heap.size))) (w.alloc (.map #[] 0)) = .ok () W ∧ NearAt W b (O ++ [(a, w.heap.size)]) (extS F w W) R ∧ Kp w W F := by
  have g := World.grownBy_alloc w (.map #[] 0) none
  have h1 := h.kept g
  have hm : bMap (w.alloc (.map #[] 0)) w.heap.size [] := MapAt.made w
  obtain ⟨W, r1, r2, r3⟩ := h1.outer.update keyI Try.underlying84 ha w.heap.size
  rw [updK_none hn] at r2
  have K1 : Kp (w.alloc (.map #[] 0)) W (fun k => some k = some b) := Kp.of_grown r3
  have hb := h.lt b h.bF
  have sz := K1.size
  have g0 := g.size
  have ls : w.heap.size < (w.alloc (.map #[] 0)).heap.size := (Array.getElem?_eq_some_iff.1 (heap_alloc_new w (.map #[] 0))).1
  have K : Kp w W F := (Kp.of_none g).then K1 (fun k _ e => by cases e; exact h.bF)
  refine ⟨W, r1, ⟨r2, ?_, fun x y hxy => ?_, ?_, .inl h.bF, ?_, ?_⟩, K⟩
  · intro p hp
    rcases List.mem_append.1 hp with hp | hp
    · obtain ⟨l, h2, h3⟩ := h1.inner p hp
      exact ⟨l, h2.kp K1 (fun e => (h.qF p hp).2 (by cases e; rfl)), h3⟩
    · simp at hp; subst hp
      refine ⟨[], hm.kp K1 (fun e => by cases e; omega), fun y => ⟨fun h => by simp at h, fun hr => ?_⟩⟩
      obtain ⟨q, hq⟩ := h.out _ _ hr
      exact absurd rfl (getK_none.1 hn _ hq)
  · obtain ⟨q, hq⟩ := h.out x y hxy
    exact ⟨q, List.mem_append_left _ hq⟩
  · rw [List.map_append, List.nodup_append]
    refine ⟨h.nod, by simp, fun x hx y hy => ?_⟩
    obtain ⟨p, hp, rfl⟩ := List.mem_map.1 hx
    simp at hy; subst hy
    have := h.lt _ (h.qF p hp).1
    omega
  · intro p hp
    rcases List.mem_append.1 hp with hp | hp
    · exact ⟨.inl (h.qF p hp).1, (h.qF p hp).2⟩
    · simp at hp; subst hp
      exact ⟨.inr ⟨Nat.le_refl _, by omega⟩, by show w.heap.size ≠ b; omega⟩
  · rintro q (hq | hq)
    · have := h.lt q hq; omega
    · exact hq.2
/-- One is next to another one, or is so no longer. -/
theorem NearAt.put (h : NearAt w b O F R) {a c : Int} {q : Nat} (hq : (a, q) ∈ O) (hK : Kp w w' (fun k => some k = some q)) {l l' : List (Int × Bool)} (hl : bMap w q l) (hl' : bMap w' q l') (is : Bool) (hiff : ∀ y, y ∈ l'.map Prod.fst ↔ if is = true then y ∈ l.map Prod.fst ∨ y = c else y ∈ l.map Prod.fst ∧ y ≠ c) : NearAt w' b O F (halfR R a c is) := by
  obtain ⟨l0, h1, h2⟩ := h.inner _ hq
  have hll : ∀ y, y ∈ l.map Prod.fst ↔ R a y := by
    have : l.map (fun p => (intV p.1, Value.bool p.2)) = l0.map (fun p => (intV p.1, Value.bool p.2)) := by
      obtain ⟨es, clock, e1, e2, _⟩ := hl
      obtain ⟨es', clock', e1', e2', _⟩ := h1
      rw [e1] at e1'; cases e1'
      rw [← e2, ← e2']
    have e : l.map Prod.fst = l0.map Prod.fst := by
      have := congrArg (List.map fun p : Value × Value => match p.1 with | .int _ x => x | _ => 0) this
      simpa [List.map_map, Function.comp_def] using this
    intro y; rw [e]; exact h2 y
  refine ⟨h.outer.kp hK (fun e => (h.qF _ hq).2 (by cases e; rfl)), fun p hp => ?_, fun x y hxy => ?_, h.nod, h.bF, h.qF, fun q hq => Nat.lt_of_lt_of_le (h.lt q hq) hK.size⟩
  · by_cases e : p.2 = q
    · have hpe := snd_inj h.nod hp hq e
      subst hpe
      refine ⟨l', hl', fun y => ?_⟩
      rw [hiff y]
      unfold halfR
      cases is
      · simp only [Bool.false_eq_true, if_false, hll]
        exact ⟨fun h => ⟨h.1, fun h' => h.2 h'.2⟩, fun h => ⟨h.1, fun h' => h.2 ⟨by trivial, h'⟩⟩⟩
      · simp only [if_true, hll]
        exact ⟨fun h => h.imp id (fun h' => ⟨by trivial, h'⟩), fun h => h.imp id (fun h' => h'.2)⟩
    · obtain ⟨l2, h3, h4⟩ := h.inner p hp
      refine ⟨l2, h3.kp hK (fun e' => e (by cases e'; rfl)), fun y => ?_⟩
      rw [h4 y]
      have hpa : p.1 ≠ a := fun e' => e (h.keyU (x := 0) (k := a) (by rw [← e']; exact hp) hq)
      unfold halfR
      cases is
      · simp only [Bool.false_eq_true, if_false]; exact ⟨fun h => ⟨h, fun h' => hpa h'.1⟩, fun h => h.1⟩
      · simp only [if_true]; exact ⟨.inl, fun h => h.elim id (fun h' => absurd h'.1 hpa)⟩
  · unfold halfR at hxy
    cases is
    · simp only [Bool.false_eq_true, if_false] at hxy; exact h.out _ _ hxy.1
    · simp only [if_true] at hxy
      rcases hxy with hxy | ⟨rfl, rfl⟩
      · exact h.out _ _ hxy
      · exact ⟨q, hq⟩
end
end Go.Proofs.Ytpfkpmapimonbaa

/-! hdt: near.set, of: the walks. -/
namespace Go.Proofs.Ytpfkpmapimonbaa
open Go Go.V Go.RowKit
set_option linter.unusedVariables false
set_option linter.unusedSimpArgs false
set_option maxHeartbeats 4000000
set_option maxRecDepth 100000

theorem of_calls {w : World} (u v : Int) : Calls P 61 #[.int .i64 u, .int .i64 v] w fun ev w' => ev = .returned (.agg #[.int .i64 (min u v), .int .i64 (max u v)]) ∧ w.grownBy w' none := by
  apply vc61; unfold VC61; try (conv => zeta)
  simp only [mnE, mxE]
  have b0 := heap_alloc_new w (.cells #[.int .i64 0, .int .i64 0] 80)
  have s1 := blk_set b0 0 (.int .i64 (min u v))
  have s2 := blk_set s1 1 (.int .i64 (max u v))
  refine ⟨⟨_, blk_cell b0 0⟩, blk_free b0 0, ⟨_, blk_cell s1 1⟩, blk_free s1 1, _, blk_cell s2 0, _, blk_cell s2 1, rfl, ?_⟩
  exact (kset (kset (Kp.of_none (S := fun q => w.heap.size ≤ q) (World.grownBy_alloc w _ none)) (Nat.le_refl _)) (Nat.le_refl _)).grown (fun q hq e => by omega)
section
variable {w w' : World} {b : Nat} {O : List (Int × Nat)} {F : Nat → Prop} {R : Int → Int → Prop}
/-- One is written beside another one. -/
theorem NearAt.update (h : NearAt w b O F R) {a c : Int} (hc : okI c) {q : Nat} (hq : (a, q) ∈ O) : ∃ W, Sem.run P (Instr.mapUpdate 107 (.map (some q)) (.int .i64 c) (.bool true)) w = .ok () W ∧ NearAt W b O F (halfR R a c true) ∧ Kp w W (fun k => some k = some q) := by
  obtain ⟨l, h1, h2⟩ := h.inner _ hq
  obtain ⟨W, r1, r2, r3⟩ := h1.update keyI Try.underlying107 hc true
  exact ⟨W, r1, h.put hq (Kp.of_grown r3) h1 r2 true (fun y => by simp only [if_true]; exact keys_upd), Kp.of_grown r3⟩
theorem NearAt.strike (h : NearAt w b O F R) {a c : Int} (hc : okI c) {q : Nat} (hq : (a, q) ∈ O) : ∃ W, Sem.run P (Builtin.delete_ #[107, 3] 0 #[.map (some q), .int .i64 c]) w = .ok (.tuple #[]) W ∧ NearAt W b O F (halfR R a c false) ∧ Kp w W (fun k => some k = some q) ∧ ShM w W q := by
  obtain ⟨l, h1, h2⟩ := h.inner _ hq
  obtain ⟨W, r1, r2, r3, r4⟩ := h1.strike2 keyI Try.underlying107 hc 0
  exact ⟨W, r1, h.put hq (Kp.of_grown r3) h1 r2 false (fun y => by simp only [Bool.false_eq_true, if_false]; exact keys_del), Kp.of_grown r3, r4⟩
/-- What a half of set does. -/
def HalfOk (w W : World) (b : Nat) (O : List (Int × Nat)) (F : Nat → Prop) (R : Int → Int → Prop) (is : Bool) : Prop :=
  ∃ O', NearAt W b O' (extS F w W) R ∧ Kp w W F ∧ (∀ p ∈ O, p ∈ O') ∧ (is = false → ∀ p ∈ O, ShM w W p.2)
theorem nset_calls (h : NearAt w b O F R) {u v : Int} (hu : okI u) (hv : okI v) (is : Bool) :
    Calls P 81 #[.map (some b), .int .i64 u, .int .i64 v, .bool is] w fun ev w' => ev = .returned (.tuple #[]) ∧ HalfOk w w' b O F (setR R u v is) is := by
  apply vc81; unfold VC81; try (conv => zeta)
  simp only [InK]
  refine ⟨fun m i W => (i = 0 ∧ m = 2 ∧ W = w) ∨ (i = 1 ∧ m = 1 ∧ HalfOk w W b O F (halfR R u v is) is) ∨ (i = 2 ∧ m = 0 ∧ HalfOk w W b O F (setR R u v is) is), ⟨_, .inl ⟨rfl, rfl, rfl⟩⟩, ?_⟩
  have hb := h.lt b h.bF
  -- a half
  have half : ∀ (W : World) (R0 : Int → Int → Prop) (a c : Int), okI a → okI c → HalfOk w W b O F R0 is → ∀ (Q : World → Prop), (∀ W', HalfOk w W' b O F (halfR R0 a c is) is → Q W') →
      ∀ W0, W0 = ((W.alloc (.cells #[.int .i64 0, .int .i64 0] 35)).setCell ⟨W.heap.size, 0, none⟩ (.int .i64 a)).setCell ⟨W.heap.size, 1, none⟩ (.int .i64 c) →
      W0.cell? ⟨W.heap.size, 0, none⟩ = some (.int .i64 a) ∧
      ∃ J : World → Prop, (∃ x : Option Nat, Sem.run P (Instr.lookup 84 (.map (some b)) (.int .i64 a) false) W0 = .ok (.map x) W0 ∧ (x = none → ∃ W1, Sem.run P (Instr.mapUpdate 84 (.map (some b)) (.int .i64 a) (.map (some W0.heap.size))) (W0.alloc (.map #[] 0)) = .ok () W1 ∧ J W1) ∧ (¬ x = none → J W0)) ∧
        ∀ W3, J W3 → W3.cell? ⟨W.heap.size, 0, none⟩ = some (.int .i64 a) ∧ W3.cell? ⟨W.heap.size, 1, none⟩ = some (.int .i64 c) ∧ ∃ q : Nat, Sem.run P (Instr.lookup 84 (.map (some b)) (.int .i64 a) false) W3 = .ok (.map (some q)) W3 ∧
          (is = true → ∃ W4, Sem.run P (Instr.mapUpdate 107 (.map (some q)) (.int .i64 c) (.bool true)) W3 = .ok () W4 ∧ Q W4) ∧
          (is = false → ∃ W4, Sem.run P (Builtin.delete_ #[107, 3] 0 #[.map (some q), .int .i64 c]) W3 = .ok (.tuple #[]) W4 ∧ Q W4) := by
    rintro W R0 a c ha hc ⟨O1, n1, K1, s1, sh1⟩ Q hQ W0 hW0
    have gA := World.grownBy_alloc W (.cells #[.int .i64 0, .int .i64 0] 35) none
    have bA := heap_alloc_new W (.cells #[.int .i64 0, .int .i64 0] 35)
    have q1 := blk_set bA 0 (.int .i64 a)
    have q2 := blk_set q1 1 (.int .i64 c)
    have gS : W.grownBy W0 none := by rw [hW0]; exact (kset (kset (Kp.of_none (S := fun q => W.heap.size ≤ q) gA) (Nat.le_refl _)) (Nat.le_refl _)).grown (fun q hq e => by omega)
    have bS : W0.heap[W.heap.size]? = some (.cells #[.int .i64 a, .int .i64 c] 35 (0, 0)) := by rw [hW0]; simpa using q2
    have ltS := (Array.getElem?_eq_some_iff.1 bS).1
    clear hW0 q1 q2 bA gA
    have n0 := n1.kept gS
    have sz1 := K1.size
    have szS := gS.size
    refine ⟨blk_cell bS 0, fun W3 => ∃ (O3 : List (Int × Nat)) (q : Nat), NearAt W3 b O3 (extS F w W3) R0 ∧ Kp w W3 F ∧ (∀ p ∈ O, p ∈ O3) ∧ (∀ p ∈ O, ShM w W3 p.2 ∨ is = true) ∧ (a, q) ∈ O3 ∧ W3.heap[W.heap.size]? = some (.cells #[.int .i64 a, .int .i64 c] 35 (0, 0)), ⟨getK O1 a, n0.look ha, fun hno => ?_, fun hyes => ?_⟩, ?_⟩
    · obtain ⟨W1, r1, r2, r3⟩ := n0.open_ ha hno
      have s1' := r3.size
      refine ⟨W1, r1, _, _, r2.mono (fun q hq => ?_) (fun q hq => ?_), (K1.then (Kp.of_none (S := fun _ => False) gS) (fun _ _ e => e.elim)).then r3 (fun q hq e => ?_), fun p hp => List.mem_append_left _ (s1 p hp), fun p hp => ?_, List.mem_append_right _ (List.mem_singleton.2 rfl), ?_⟩
      · rcases hq with (hq | hq) | hq
        · exact .inl hq
        · exact .inr ⟨hq.1, by omega⟩
        · exact .inr ⟨by omega, hq.2⟩
      · rcases hq with hq | hq
        · have := h.lt q hq; omega
        · exact hq.2
      · exact e.elim id (fun e => by omega)
      · cases is with
        | true => exact .inr rfl
        | false =>
          refine .inl (((sh1 rfl p hp).trans (ShM.of_kp (Kp.of_none (S := fun _ => False) gS) id)).trans (ShM.of_eq ?_))
          -- an inner map is not the outer one
          obtain ⟨l, hl, _⟩ := n0.inner p (s1 p hp)
          obtain ⟨l', hl', _⟩ := r2.inner p (List.mem_append_left _ (s1 p hp))
          obtain ⟨W1', r1', r2', r3'⟩ := (n0.kept (World.grownBy_alloc W0 (.map #[] 0) none)).outer.update keyI Try.underlying84 ha W0.heap.size
          rw [r1] at r1'; cases r1'
          have hlt := n0.lt _ (n0.qF p (s1 p hp)).1
          rw [r3'.block p.2 (Nat.lt_of_lt_of_le hlt (World.grownBy_alloc W0 (.map #[] 0) none).size) (fun e => (n0.qF p (s1 p hp)).2 (by cases e; rfl))]
          exact (World.grownBy_alloc W0 (.map #[] 0) none).block _ hlt (by simp)
      · rw [r3.block _ ltS (fun e => ?_)]; exact bS
        rcases e with e | e
        · have := h.lt _ e; omega
        · omega
    · cases hg : getK O1 a with
      | none => exact absurd hg hyes
      | some q =>
        refine ⟨O1, q, n0.mono (fun q hq => hq.imp id (fun e => ⟨e.1, by omega⟩)) (fun q hq => ?_), K1.then (Kp.of_none (S := fun _ => False) gS) (fun _ _ e => e.elim), s1, fun p hp => ?_, n0.get.1 hg, bS⟩
        · rcases hq with hq | hq
          · have := h.lt q hq; omega
          · exact hq.2
        · cases is with
          | true => exact .inr rfl
          | false => exact .inl ((sh1 rfl p hp).trans (ShM.of_kp (Kp.of_none (S := fun _ => False) gS) id))
    · rintro W3 ⟨O3, q, n3, K3, s3, sh3, hq, b3⟩
      refine ⟨blk_cell b3 0, blk_cell b3 1, q, ?_, fun hi => ?_, fun hi => ?_⟩
      · have := n3.look ha
        rw [n3.get.2 hq] at this
        exact this
      · subst hi
        obtain ⟨W4, r1, r2, r3⟩ := n3.update hc hq
        have s4 := r3.size
        refine ⟨W4, r1, hQ _ ⟨O3, r2.mono (fun q hq => hq.imp id (fun e => ⟨e.1, by omega⟩)) (fun q hq => ?_), K3.then r3 (fun k hk e => ?_), s3, fun e => (by cases e)⟩⟩
        · rcases hq with hq | hq
          · have := h.lt q hq; have := K3.size; omega
          · exact hq.2
        · cases e
          exact (n3.qF _ hq).1.elim id (fun e => by omega)
      · subst hi
        obtain ⟨W4, r1, r2, r3, r4⟩ := n3.strike hc hq
        have s4 := r3.size
        refine ⟨W4, r1, hQ _ ⟨O3, r2.mono (fun q hq => hq.imp id (fun e => ⟨e.1, by omega⟩)) (fun q hq => ?_), K3.then r3 (fun k hk e => ?_), s3, fun _ p hp => ?_⟩⟩
        · rcases hq with hq | hq
          · have := h.lt q hq; have := K3.size; omega
          · exact hq.2
        · cases e
          exact (n3.qF _ hq).1.elim id (fun e => by omega)
        · have h3 := (sh3 p hp).resolve_right (by simp)
          by_cases e : p.2 = q
          · rw [e] at h3 ⊢; exact h3.trans r4
          · exact h3.trans (ShM.of_kp r3 (fun e' => e (by cases e'; rfl)))
  have start : HalfOk w w b O F R is := ⟨O, h.mono (fun q hq => .inl hq) (fun q hq => hq.elim (h.lt q) (fun e => e.2)), Kp.refl _ _, fun p hp => hp, fun _ p _ => ShM.refl _ _⟩
  rintro m i W hI
  refine ⟨fun hlt => ?_, fun hge => ?_⟩
  · have gA := World.grownBy_alloc W (.cells #[.int .i64 0, .int .i64 0] 35) none
    have bA := heap_alloc_new W (.cells #[.int .i64 0, .int .i64 0] 35)
    rcases hI with ⟨rfl, rfl, rfl⟩ | ⟨rfl, rfl, hH⟩ | ⟨rfl, _, _⟩
    · refine ⟨⟨by omega, by omega⟩, fun _ => ⟨⟨_, blk_cell bA 0⟩, blk_free bA 0, ⟨_, blk_cell (blk_set bA 0 (.int .i64 u)) 1⟩, blk_free (blk_set bA 0 (.int .i64 u)) 1, ?_⟩, fun e => absurd e (by decide), trivial⟩
      obtain ⟨c0, J, ⟨x, j1, j2, j3⟩, j4⟩ := half W R u v hu hv start (fun W' => (0 + 1 : Int) = 1 ∧ HalfOk W W' b O F (halfR R u v is) is) (fun W' h' => ⟨rfl, h'⟩) _ rfl
      refine ⟨J, ⟨⟨by omega, by omega⟩, u, c0, x, j1, fun e => ?_, j3⟩, fun W3 hJ => ?_⟩
      · obtain ⟨W1, t1, t2⟩ := j2 e
        exact ⟨⟨by omega, by omega⟩, u, c0, W1, t1, t2⟩
      · obtain ⟨d0, d1, q, dl, dt, df⟩ := j4 W3 hJ
        refine ⟨fun hi => ⟨⟨by omega, by omega⟩, u, d0, some q, dl, ⟨by omega, by omega⟩, v, d1, ?_⟩, fun hi => ⟨⟨by omega, by omega⟩, u, d0, some q, dl, ⟨by omega, by omega⟩, v, d1, ?_⟩⟩
        · obtain ⟨W4, t1, t2⟩ := dt hi
          exact ⟨W4, t1, by omega, 1, by omega, .inr (.inl ⟨by omega, rfl, t2.2⟩)⟩
        · obtain ⟨W4, t1, t2⟩ := df hi
          exact ⟨W4, t1, by omega, 1, by omega, .inr (.inl ⟨by omega, rfl, t2.2⟩)⟩
    · refine ⟨⟨by omega, by omega⟩, fun e => absurd e (by decide), fun _ => ⟨⟨_, blk_cell bA 0⟩, blk_free bA 0, ⟨_, blk_cell (blk_set bA 0 (.int .i64 v)) 1⟩, blk_free (blk_set bA 0 (.int .i64 v)) 1, ?_⟩, trivial⟩
      obtain ⟨c0, J, ⟨x, j1, j2, j3⟩, j4⟩ := half W (halfR R u v is) v u hv hu hH (fun W' => HalfOk w W' b O F (setR R u v is) is) (fun W' h' => by rw [half_half] at h'; exact h') _ rfl
      refine ⟨J, ⟨⟨by omega, by omega⟩, v, c0, x, j1, fun e => ?_, j3⟩, fun W3 hJ => ?_⟩
      · obtain ⟨W1, t1, t2⟩ := j2 e
        exact ⟨⟨by omega, by omega⟩, v, c0, W1, t1, t2⟩
      · obtain ⟨d0, d1, q, dl, dt, df⟩ := j4 W3 hJ
        refine ⟨fun hi => ⟨⟨by omega, by omega⟩, v, d0, some q, dl, ⟨by omega, by omega⟩, u, d1, ?_⟩, fun hi => ⟨⟨by omega, by omega⟩, v, d0, some q, dl, ⟨by omega, by omega⟩, u, d1, ?_⟩⟩
        · obtain ⟨W4, t1, t2⟩ := dt hi
          exact ⟨W4, t1, by omega, 0, by omega, .inr (.inr ⟨by omega, rfl, t2⟩)⟩
        · obtain ⟨W4, t1, t2⟩ := df hi
          exact ⟨W4, t1, by omega, 0, by omega, .inr (.inr ⟨by omega, rfl, t2⟩)⟩
    · omega
  · rcases hI with ⟨rfl, rfl, rfl⟩ | ⟨rfl, rfl, hH⟩ | ⟨rfl, _, hH⟩
    · omega
    · omega
    · exact ⟨by trivial, hH⟩
end
end Go.Proofs.Ytpfkpmapimonbaa
