/- Own texts, packed: J11, J12, J13, J14, J15. -/
import Derived.Test.YtpfkpmapimonbaaGHAg
import Derived.Test.YtpfkpmapimonbaaGHBg

/-! hdt's levels, plain: what an edge that comes, goes, or changes its level leaves. -/
namespace Go.Proofs.Ytpfkpmapimonbaa
open Go Go.V Go.RowKit
set_option linter.unusedVariables false
set_option linter.unusedSimpArgs false
set_option maxHeartbeats 2000000

abbrev MF := Arc → Option (Int × Bool)
def kI (e : Nat × Nat) : Arc := ((e.1 : Int), (e.2 : Int))
def pk (x y : Int) : Arc := (min x y, max x y)
theorem kI_inj {e f : Nat × Nat} (h : kI e = kI f) : e = f := by
  unfold kI at h
  simp only [Prod.mk.injEq] at h
  exact Prod.ext (by omega) (by omega)
theorem pk_nat (a b : Nat) : pk (a : Int) (b : Int) = kI (pairE a b) := by
  unfold pk kI pairE; simp only [Prod.mk.injEq]; omega
theorem pk_comm (x y : Int) : pk x y = pk y x := by unfold pk; rw [Int.min_comm, Int.max_comm]
def updF (m : MF) (p : Arc) (v : Option (Int × Bool)) : MF := fun q => if p = q then v else m q
theorem updF_same (m : MF) (p : Arc) (v : Option (Int × Bool)) : updF m p v p = v := if_pos rfl
theorem updF_ne (m : MF) {p q : Arc} (v : Option (Int × Bool)) (h : q ≠ p) : updF m p v q = m q := if_neg (fun e => h e.symm)
theorem updF_updF (m : MF) (p : Arc) (v v' : Option (Int × Bool)) : updF (updF m p v) p v' = updF m p v' := by
  funext q; unfold updF; split <;> rfl
/-- The other side. -/
def Cross (E : Eds) (a b x y : Nat) : Prop := (Cn E a x ∧ Cn E b y) ∨ (Cn E b x ∧ Cn E a y)
structure Inv3 (N : Nat) (m : MF) (E : Nat → Eds) (a b j : Nat) : Prop where
  keys : ∀ p s, m p = some s → ∃ e : Nat × Nat, p = kI e ∧ e.1 < e.2 ∧ e.2 < N ∧ ∃ ℓ : Nat, s.1 = (ℓ : Int)
  frt : ∀ k e, e ∈ E k ↔ ∃ ℓ : Nat, k ≤ ℓ ∧ m (kI e) = some ((ℓ : Int), true)
  non : ∀ (ℓ : Nat) e, m (kI e) = some ((ℓ : Int), false) → Cn (E ℓ) e.1 e.2 ∨ (ℓ < j ∧ Cross (E ℓ) a b e.1 e.2)
  sep : ∀ k, k < j → ¬ Cn (E k) a b
  fr : ∀ k, FrE N (E k)
section
variable {N : Nat} {m : MF} {E : Nat → Eds} {a b j i : Nat}
theorem Inv3.symm (h : Inv3 N m E a b j) : Inv3 N m E b a j := ⟨h.keys, h.frt, fun ℓ e he => (h.non ℓ e he).imp id (fun h => ⟨h.1, h.2.symm⟩), fun k hk hc => h.sep k hk hc.symm, h.fr⟩
theorem Inv3.rg (h : Inv3 N m E a b j) (k : Nat) : RgE N (E k) := fun e he => by
  obtain ⟨ℓ, _, h1⟩ := (h.frt k e).1 he
  obtain ⟨f, h2, h3, h4, _⟩ := h.keys _ _ h1
  rw [kI_inj h2]; exact ⟨h3, h4⟩
theorem Inv3.nest (h : Inv3 N m E a b j) {k k' : Nat} (hk : k ≤ k') : ∀ e ∈ E k', e ∈ E k := fun e he => by
  obtain ⟨ℓ, h1, h2⟩ := (h.frt k' e).1 he
  exact (h.frt k e).2 ⟨ℓ, by omega, h2⟩
theorem Inv3.zero (h : Inv3 N m E a b 0) (a' b' : Nat) : Inv3 N m E a' b' 0 := ⟨h.keys, h.frt, fun ℓ e he => (h.non ℓ e he).imp id (fun h => absurd h.1 (Nat.not_lt_zero _)), fun k hk => absurd hk (Nat.not_lt_zero _), h.fr⟩
theorem Inv3.lv_tree (h : Inv3 N m E a b j) {e : Nat × Nat} {ℓ : Nat} (he : m (kI e) = some ((ℓ : Int), true)) {k : Nat} : e ∈ E k ↔ k ≤ ℓ := by
  rw [h.frt k e]
  constructor
  · rintro ⟨ℓ', h1, h2⟩
    rw [he] at h2
    simp at h2; omega
  · intro hk; exact ⟨ℓ, hk, he⟩
theorem Inv3.lv_none (h : Inv3 N m E a b j) {e : Nat × Nat} (he : ∀ ℓ : Nat, m (kI e) ≠ some ((ℓ : Int), true)) {k : Nat} : e ∉ E k := fun hm => by
  obtain ⟨ℓ, _, h2⟩ := (h.frt k e).1 hm
  exact he ℓ h2
theorem Inv3.edge (h : Inv3 N m E a b j) {e : Nat × Nat} {s : Int × Bool} (he : m (kI e) = some s) : e.1 < e.2 ∧ e.2 < N := by
  obtain ⟨f, h2, h3, h4, _⟩ := h.keys _ _ he
  rw [kI_inj h2]; exact ⟨h3, h4⟩
/-- An edge of a tree one level up: its ends are not connected there. -/
theorem Inv3.apart (h : Inv3 N m E a b j) {e : Nat × Nat} (he : m (kI e) = some ((i : Int), true)) : ¬ Cn (E (i + 1)) e.1 e.2 :=
  fr_sub (h.rg i) (h.fr i) (h.nest (Nat.le_succ i)) ((h.lv_tree he).2 (Nat.le_refl _)) (fun hm => absurd ((h.lv_tree he).1 hm) (by omega))
/-- A tree's edge goes one level up. -/
theorem Inv3.up (h : Inv3 N m E a b (i + 1)) {e : Nat × Nat} (he : m (kI e) = some ((i : Int), true)) : Inv3 N (updF m (kI e) (some (((i + 1 : Nat) : Int), true))) (fun k => if k = i + 1 then E k ++ [e] else E k) a b (i + 1) := by
  have hed := h.edge he
  refine ⟨fun p s hp => ?_, fun k f => ?_, fun ℓ f hf => ?_, fun k hk => ?_, fun k => ?_⟩
  · by_cases e' : p = kI e
    · subst e'
      rw [updF_same] at hp; cases hp
      exact ⟨e, rfl, hed.1, hed.2, i + 1, rfl⟩
    · rw [updF_ne _ _ e'] at hp; exact h.keys p s hp
  · by_cases e' : f = e
    · subst e'
      rw [updF_same]
      have h1 := h.lv_tree he (k := k)
      by_cases hk : k = i + 1
      · rw [if_pos hk]
        exact ⟨fun _ => ⟨i + 1, by omega, rfl⟩, fun _ => by simp⟩
      · rw [if_neg hk, h1]
        constructor
        · intro hki; exact ⟨i + 1, by omega, rfl⟩
        · rintro ⟨ℓ, h2, h3⟩
          simp at h3; omega
    · rw [updF_ne _ _ (fun h' => e' (kI_inj h')), ← h.frt k f]
      by_cases hk : k = i + 1
      · rw [if_pos hk]; simp [e']
      · rw [if_neg hk]
  · by_cases e' : f = e
    · subst e'; rw [updF_same] at hf; simp at hf
    · rw [updF_ne _ _ (fun h' => e' (kI_inj h'))] at hf
      have hn := h.non ℓ f hf
      by_cases hk : ℓ = i + 1
      · rw [if_pos hk]
        rcases hn with hn | ⟨hn, _⟩
        · exact .inl (hn.mono fun x hx => List.mem_append_left _ hx)
        · omega
      · rw [if_neg hk]; exact hn
  · rw [if_neg (by omega)]; exact h.sep k hk
  · show FrE N (if k = i + 1 then E k ++ [e] else E k)
    by_cases hk : k = i + 1
    · subst hk; rw [if_pos rfl]; exact fr_add (by omega) hed.2 (h.fr _) (h.apart he)
    · rw [if_neg hk]; exact h.fr k
/-- An edge of no tree goes one level up. -/
theorem Inv3.up2 (h : Inv3 N m E a b (i + 1)) {e : Nat × Nat} (he : m (kI e) = some ((i : Int), false)) (hc : Cn (E (i + 1)) e.1 e.2) : Inv3 N (updF m (kI e) (some (((i + 1 : Nat) : Int), false))) E a b (i + 1) := by
  have hed := h.edge he
  refine ⟨fun p s hp => ?_, fun k f => ?_, fun ℓ f hf => ?_, h.sep, h.fr⟩
  · by_cases e' : p = kI e
    · subst e'
      rw [updF_same] at hp; cases hp
      exact ⟨e, rfl, hed.1, hed.2, i + 1, rfl⟩
    · rw [updF_ne _ _ e'] at hp; exact h.keys p s hp
  · by_cases e' : f = e
    · subst e'
      rw [updF_same, h.frt k f, he]
      constructor
      · rintro ⟨ℓ, _, h3⟩; simp at h3
      · rintro ⟨ℓ, _, h3⟩; simp at h3
    · rw [updF_ne _ _ (fun h' => e' (kI_inj h')), ← h.frt k f]
  · by_cases e' : f = e
    · subst e'
      rw [updF_same] at hf
      have : ℓ = i + 1 := by simp at hf; omega
      subst this; exact .inl hc
    · rw [updF_ne _ _ (fun h' => e' (kI_inj h'))] at hf; exact h.non ℓ f hf
/-- What is connected in a part all of whose edges are one level up. -/
theorem cn_full {E E' : Eds} {u x y : Nat} (hf : ∀ e ∈ E, Cn E u e.1 → e ∈ E') (hx : Cn E u x) (h : Cn E x y) : Cn E' x y := by
  induction h with
  | refl => exact .refl _
  | @step y z hxy ha ih =>
    refine ih.trans ?_
    have hy := hx.trans hxy
    rcases ha with e | e
    · exact .of_mem (hf _ e hy)
    · exact (Cn.of_mem (hf _ e (hy.trans (Cn.of_mem e).symm))).symm
/-- An edge that is found crosses in all levels below. -/
theorem Inv3.cross (h : Inv3 N m E a b (i + 1)) {e : Nat × Nat} (he : m (kI e) = some ((i : Int), false)) (hn : ¬ Cn (E i) e.1 e.2) {k : Nat} (hk : k ≤ i) : Cross (E k) a b e.1 e.2 := by
  have := ((h.non i e he).resolve_left hn).2
  exact this.imp (fun h' => ⟨h'.1.mono (h.nest hk), h'.2.mono (h.nest hk)⟩) (fun h' => ⟨h'.1.mono (h.nest hk), h'.2.mono (h.nest hk)⟩)
theorem Inv3.crossN (h : Inv3 N m E a b (i + 1)) {e : Nat × Nat} (he : m (kI e) = some ((i : Int), false)) (hn : ¬ Cn (E i) e.1 e.2) {k : Nat} (hk : k ≤ i) : ¬ Cn (E k) e.1 e.2 := fun hc => by
  rcases h.cross he hn hk with ⟨h1, h2⟩ | ⟨h1, h2⟩
  · exact h.sep k (by omega) ((h1.trans hc).trans h2.symm)
  · exact h.sep k (by omega) ((h2.trans hc.symm).trans h1.symm)
/-- The parts are one again. -/
theorem Inv3.mended (h : Inv3 N m E a b (i + 1)) {e : Nat × Nat} (he : m (kI e) = some ((i : Int), false)) (hn : ¬ Cn (E i) e.1 e.2) : Inv3 N (updF m (kI e) (some ((i : Int), true))) (fun k => if k ≤ i then E k ++ [e] else E k) a b 0 := by
  have hed := h.edge he
  have hno : ∀ k, e ∉ E k := fun k => h.lv_none (fun ℓ h' => by rw [he] at h'; simp at h')
  refine ⟨fun p s hp => ?_, fun k f => ?_, fun ℓ f hf => ?_, fun k hk => absurd hk (Nat.not_lt_zero _), fun k => ?_⟩
  · by_cases e' : p = kI e
    · subst e'
      rw [updF_same] at hp; cases hp
      exact ⟨e, rfl, hed.1, hed.2, i, rfl⟩
    · rw [updF_ne _ _ e'] at hp; exact h.keys p s hp
  · by_cases e' : f = e
    · subst e'
      rw [updF_same]
      by_cases hk : k ≤ i
      · rw [if_pos hk]; exact ⟨fun _ => ⟨i, hk, rfl⟩, fun _ => by simp⟩
      · rw [if_neg hk]
        refine ⟨fun h' => absurd h' (hno k), ?_⟩
        rintro ⟨ℓ, h2, h3⟩
        simp at h3; omega
    · rw [updF_ne _ _ (fun h' => e' (kI_inj h')), ← h.frt k f]
      by_cases hk : k ≤ i
      · rw [if_pos hk]; simp [e']
      · rw [if_neg hk]
  · by_cases e' : f = e
    · subst e'; rw [updF_same] at hf; simp at hf
    · rw [updF_ne _ _ (fun h' => e' (kI_inj h'))] at hf
      left
      by_cases hk : ℓ ≤ i
      · rw [if_pos hk]
        have hm : ∀ x ∈ E ℓ, x ∈ E ℓ ++ [e] := fun x hx => List.mem_append_left _ hx
        have hce : Cn (E ℓ ++ [e]) e.1 e.2 := .of_mem (by simp)
        have hab : Cn (E ℓ ++ [e]) a b := by
          rcases h.cross he hn hk with ⟨h1, h2⟩ | ⟨h1, h2⟩
          · exact ((h1.mono hm).trans hce).trans (h2.mono hm).symm
          · exact ((h2.mono hm).trans hce.symm).trans (h1.mono hm).symm
        rcases h.non ℓ f hf with hn | ⟨_, ⟨h1, h2⟩ | ⟨h1, h2⟩⟩
        · exact hn.mono hm
        · exact ((h1.mono hm).symm.trans hab).trans (h2.mono hm)
        · exact ((h1.mono hm).symm.trans hab.symm).trans (h2.mono hm)
      · rw [if_neg hk]
        rcases h.non ℓ f hf with hn | ⟨h1, _⟩
        · exact hn
        · omega
  · show FrE N (if k ≤ i then E k ++ [e] else E k)
    by_cases hk : k ≤ i
    · rw [if_pos hk]; exact fr_add (by omega) hed.2 (h.fr k) (h.crossN he hn hk)
    · rw [if_neg hk]; exact h.fr k
/-- No edge of the level goes out of the part. -/
theorem Inv3.down (h : Inv3 N m E a b (i + 1)) (hno : ∀ e, m (kI e) = some ((i : Int), false) → ¬ Cn (E i) a e.1 ∧ ¬ Cn (E i) a e.2) : Inv3 N m E a b i := by
  refine ⟨h.keys, h.frt, fun ℓ e he => ?_, fun k hk => h.sep k (by omega), h.fr⟩
  rcases h.non ℓ e he with h1 | ⟨h1, h2⟩
  · exact .inl h1
  · by_cases hl : ℓ = i
    · subst hl
      have := hno e he
      rcases h2 with h2 | h2
      · exact absurd h2.1 this.1
      · exact absurd h2.2 this.2
    · exact .inr ⟨by omega, h2⟩
/-- A tree's edge goes. -/
theorem Inv3.cut {a' b' L : Nat} (h : Inv3 N m E a' b' 0) {e : Nat × Nat} (he : m (kI e) = some ((L : Int), true)) (hnd : ∀ k, (E k).Nodup) : Inv3 N (updF m (kI e) none) (fun k => if k ≤ L then (E k).erase e else E k) e.1 e.2 (L + 1) := by
  have hmem : ∀ k, e ∈ E k ↔ k ≤ L := fun k => h.lv_tree he
  refine ⟨fun p s hp => ?_, fun k f => ?_, fun ℓ f hf => ?_, fun k hk => ?_, fun k => ?_⟩
  · by_cases e' : p = kI e
    · subst e'; rw [updF_same] at hp; cases hp
    · rw [updF_ne _ _ e'] at hp; exact h.keys p s hp
  · by_cases e' : f = e
    · subst e'
      rw [updF_same]
      refine ⟨fun h' => ?_, fun ⟨ℓ, _, h3⟩ => by cases h3⟩
      by_cases hk : k ≤ L
      · rw [if_pos hk] at h'; exact absurd rfl ((List.Nodup.mem_erase_iff (hnd k)).1 h').1
      · rw [if_neg hk] at h'; exact absurd ((hmem k).1 h') hk
    · rw [updF_ne _ _ (fun h' => e' (kI_inj h')), ← h.frt k f]
      by_cases hk : k ≤ L
      · rw [if_pos hk, List.mem_erase_of_ne e']
      · rw [if_neg hk]
  · by_cases e' : f = e
    · subst e'; rw [updF_same] at hf; cases hf
    · rw [updF_ne _ _ (fun h' => e' (kI_inj h'))] at hf
      have hc := (h.non ℓ f hf).resolve_right (fun h' => absurd h'.1 (Nat.not_lt_zero _))
      by_cases hk : ℓ ≤ L
      · rw [if_pos hk]
        have hp : (E ℓ).Perm ((E ℓ).erase e ++ [(e.1, e.2)]) := (List.perm_cons_erase ((hmem ℓ).2 hk)).trans (List.perm_append_comm (l₁ := [e]) (l₂ := (E ℓ).erase e))
        have hc2 := Cn.add.1 ((Cn.congr fun x => hp.mem_iff).1 hc)
        rcases hc2 with h1 | ⟨h1, h2⟩ | ⟨h1, h2⟩
        · exact .inl h1
        · exact .inr ⟨by omega, .inl ⟨h1.symm, h2⟩⟩
        · exact .inr ⟨by omega, .inr ⟨h1.symm, h2⟩⟩
      · rw [if_neg hk]; exact .inl hc
  · rw [if_pos (by omega)]
    exact (fr_erase (h.rg k) (h.fr k) ((hmem k).2 (by omega))).2
  · show FrE N (if k ≤ L then (E k).erase e else E k)
    by_cases hk : k ≤ L
    · rw [if_pos hk]; exact (fr_erase (h.rg k) (h.fr k) ((hmem k).2 hk)).1
    · rw [if_neg hk]; exact h.fr k
/-- An edge of no tree goes. -/
theorem Inv3.gone (h : Inv3 N m E a b 0) {e : Nat × Nat} {L : Nat} (he : m (kI e) = some ((L : Int), false)) : Inv3 N (updF m (kI e) none) E a b 0 := by
  refine ⟨fun p s hp => ?_, fun k f => ?_, fun ℓ f hf => ?_, h.sep, h.fr⟩
  · by_cases e' : p = kI e
    · subst e'; rw [updF_same] at hp; cases hp
    · rw [updF_ne _ _ e'] at hp; exact h.keys p s hp
  · by_cases e' : f = e
    · subst e'
      rw [updF_same, h.frt k f, he]
      exact ⟨fun ⟨ℓ, _, h3⟩ => by simp at h3, fun ⟨ℓ, _, h3⟩ => by cases h3⟩
    · rw [updF_ne _ _ (fun h' => e' (kI_inj h')), ← h.frt k f]
  · by_cases e' : f = e
    · subst e'; rw [updF_same] at hf; cases hf
    · rw [updF_ne _ _ (fun h' => e' (kI_inj h'))] at hf; exact h.non ℓ f hf
/-- An edge comes. -/
theorem Inv3.come (h : Inv3 N m E a b 0) {e : Nat × Nat} (he : m (kI e) = none) (h1 : e.1 < e.2) (h2 : e.2 < N) (r : Bool) (hr : r = true ↔ ¬ Cn (E 0) e.1 e.2) : Inv3 N (updF m (kI e) (some ((0 : Int), r))) (fun k => if k = 0 ∧ r = true then E k ++ [e] else E k) a b 0 := by
  have hno : ∀ k, e ∉ E k := fun k => h.lv_none (fun ℓ h' => by rw [he] at h'; simp at h')
  refine ⟨fun p s hp => ?_, fun k f => ?_, fun ℓ f hf => ?_, fun k hk => absurd hk (Nat.not_lt_zero _), fun k => ?_⟩
  · by_cases e' : p = kI e
    · subst e'
      rw [updF_same] at hp; cases hp
      exact ⟨e, rfl, h1, h2, 0, rfl⟩
    · rw [updF_ne _ _ e'] at hp; exact h.keys p s hp
  · by_cases e' : f = e
    · subst e'
      rw [updF_same]
      by_cases hk : k = 0 ∧ r = true
      · rw [if_pos hk]; exact ⟨fun _ => ⟨0, by omega, by rw [hk.2]; rfl⟩, fun _ => by simp⟩
      · rw [if_neg hk]
        refine ⟨fun h' => absurd h' (hno k), ?_⟩
        rintro ⟨ℓ, h3, h4⟩
        simp at h4
        exact absurd ⟨by omega, h4.2⟩ hk
    · rw [updF_ne _ _ (fun h' => e' (kI_inj h')), ← h.frt k f]
      by_cases hk : k = 0 ∧ r = true
      · rw [if_pos hk]; simp [e']
      · rw [if_neg hk]
  · left
    have grow : Cn (E ℓ) f.1 f.2 → Cn (if ℓ = 0 ∧ r = true then E ℓ ++ [e] else E ℓ) f.1 f.2 := fun hc => by
      by_cases hk : ℓ = 0 ∧ r = true
      · rw [if_pos hk]; exact hc.mono fun x hx => List.mem_append_left _ hx
      · rw [if_neg hk]; exact hc
    by_cases e' : f = e
    · subst e'
      rw [updF_same] at hf
      have hl : ℓ = 0 ∧ r = false := by simp at hf; exact ⟨by omega, hf.2⟩
      obtain ⟨rfl, rfl⟩ := hl
      exact grow (Classical.not_not.1 fun hn => absurd (hr.2 hn) (by simp))
    · rw [updF_ne _ _ (fun h' => e' (kI_inj h'))] at hf
      exact grow ((h.non ℓ f hf).resolve_right (fun h' => absurd h'.1 (Nat.not_lt_zero _)))
  · show FrE N (if k = 0 ∧ r = true then E k ++ [e] else E k)
    by_cases hk : k = 0 ∧ r = true
    · rw [if_pos hk]; exact fr_add (by omega) h2 (h.fr k) (by rw [hk.1]; exact hr.1 hk.2)
    · rw [if_neg hk]; exact h.fr k
/-- The lowest forest connects what all edges do. -/
theorem Inv3.conn (h : Inv3 N m E a b 0) {F : Eds} (hF : ∀ e, e ∈ F ↔ ∃ s, m (kI e) = some s) {x y : Nat} : Cn (E 0) x y ↔ Cn F x y := by
  constructor
  · refine Cn.mono fun e he => ?_
    obtain ⟨ℓ, _, h1⟩ := (h.frt 0 e).1 he
    exact (hF e).2 ⟨_, h1⟩
  · refine Cn.sub fun e he => ?_
    obtain ⟨s, hs⟩ := (hF e).1 he
    obtain ⟨f, h2, _, _, ℓ, h3⟩ := h.keys _ _ hs
    obtain ⟨s1, s2⟩ := s
    simp only at h3; subst h3
    cases s2 with
    | true => exact .of_mem ((h.frt 0 e).2 ⟨ℓ, Nat.zero_le _, hs⟩)
    | false =>
      have := (h.non ℓ e hs).resolve_right (fun h' => absurd h'.1 (Nat.not_lt_zero _))
      exact this.mono (h.nest (Nat.zero_le _))
end
/-- Who is next to whom, by edges of one kind. -/
def NrOk (m : MF) (R : Nat → Int → Int → Prop) (t : Bool) : Prop := ∀ (k : Nat) x y, R k x y ↔ m (pk x y) = some ((k : Int), t)
section
variable {m : MF} {R : Nat → Int → Int → Prop} {t : Bool} {u v : Int} {ℓ : Nat}
theorem NrOk.lose {s : Bool} (h : NrOk m R t) (hm : m (pk u v) = some ((ℓ : Int), s)) : NrOk (updF m (pk u v) none) (fun k => if k = ℓ then setR (R k) (pk u v).1 (pk u v).2 false else R k) t := by
  intro k x y
  show (if k = ℓ then setR (R k) (pk u v).1 (pk u v).2 false else R k) x y ↔ updF m (pk u v) none (pk x y) = some ((k : Int), t)
  have hiff : ((x = (pk u v).1 ∧ y = (pk u v).2) ∨ (x = (pk u v).2 ∧ y = (pk u v).1)) ↔ pk x y = pk u v := by unfold pk; simp only [Prod.mk.injEq]; omega
  by_cases e : pk x y = pk u v
  · have hl : updF m (pk u v) none (pk x y) = none := by rw [e]; exact updF_same _ _ _
    rw [hl]
    simp only [reduceCtorEq, iff_false]
    by_cases hk : k = ℓ
    · rw [if_pos hk]; unfold setR; simp only [Bool.false_eq_true, if_false]; exact fun h' => h'.2 (hiff.2 e)
    · rw [if_neg hk, h k x y, e, hm]; simp; omega
  · rw [updF_ne _ _ e, ← h k x y]
    by_cases hk : k = ℓ
    · rw [if_pos hk]; unfold setR; simp only [Bool.false_eq_true, if_false]; exact ⟨fun h' => h'.1, fun h' => ⟨h', fun h2 => e (hiff.1 h2)⟩⟩
    · rw [if_neg hk]
theorem NrOk.keep {s : Bool} (h : NrOk m R t) (hm : m (pk u v) = none) : NrOk (updF m (pk u v) (some ((ℓ : Int), s))) (fun k => if k = ℓ ∧ s = t then setR (R k) (pk u v).1 (pk u v).2 true else R k) t := by
  intro k x y
  show (if k = ℓ ∧ s = t then setR (R k) (pk u v).1 (pk u v).2 true else R k) x y ↔ updF m (pk u v) (some ((ℓ : Int), s)) (pk x y) = some ((k : Int), t)
  have hiff : ((x = (pk u v).1 ∧ y = (pk u v).2) ∨ (x = (pk u v).2 ∧ y = (pk u v).1)) ↔ pk x y = pk u v := by unfold pk; simp only [Prod.mk.injEq]; omega
  by_cases e : pk x y = pk u v
  · have hl : updF m (pk u v) (some ((ℓ : Int), s)) (pk x y) = some ((ℓ : Int), s) := by rw [e]; exact updF_same _ _ _
    rw [hl]
    by_cases hk : k = ℓ ∧ s = t
    · rw [if_pos hk]; unfold setR; simp only [if_true]
      exact ⟨fun _ => by rw [hk.1, hk.2], fun _ => .inr (hiff.2 e)⟩
    · rw [if_neg hk, h k x y, e, hm]
      simp only [reduceCtorEq, false_iff, Option.some.injEq, Prod.mk.injEq]
      exact fun h' => hk ⟨by omega, h'.2⟩
  · rw [updF_ne _ _ e, ← h k x y]
    by_cases hk : k = ℓ ∧ s = t
    · rw [if_pos hk]; unfold setR; simp only [if_true]; exact ⟨fun h' => h'.elim id (fun h2 => absurd (hiff.1 h2) e), .inl⟩
    · rw [if_neg hk]
end
end Go.Proofs.Ytpfkpmapimonbaa

/-! hdt.Graph: its state in mend, and how lose, keep, Link change it. -/
namespace Go.Proofs.Ytpfkpmapimonbaa
open Go Go.V Go.RowKit
set_option linter.unusedVariables false
set_option linter.unusedSimpArgs false
set_option maxHeartbeats 4000000
set_option maxRecDepth 100000

theorem getK_delF (M : EMap) (p : Arc) : getK (delK M p) = updF (getK M) p none := by funext q; rw [getK_del]; rfl
theorem getK_updF (M : EMap) (p : Arc) (v : Sta) : getK (updK M p v) = updF (getK M) p (some v) := by funext q; rw [getK_upd]; rfl
/-- A graph at work: its levels and its edges agree; nothing is said of the forests. -/
structure StG (w5 : World) (base g N len : Nat) (U : Nat → Prop) (deg : List Int) (lv0 : List LV) (i : Nat) (l0 : LV) (W : World) (V : Nat → Prop) (T : Tp) (lv : List LV) (M : EMap) (l : LV) : Prop where
  hg : HG W base g N len V T lv M deg
  vu : ∀ q, V q → U q ∨ w5.heap.size ≤ q
  tr : NrOk (getK M) (TL lv) true
  ot : NrOk (getK M) (OL lv) false
  lev : ∀ p s, getK M p = some s → ∃ ℓ : Nat, s.1 = (ℓ : Int) ∧ ℓ < lv.length
  kp : Kp w5 W U
  li : lv[i]? = some l
  same : SameL l0 l
  len1 : lv0.length ≤ lv.length
  len2 : lv.length ≤ max lv0.length (i + 2)
section
variable {w5 W W' : World} {base g N len : Nat} {U V : Nat → Prop} {deg : List Int} {lv0 lv : List LV} {i : Nat} {l0 l : LV} {T : Tp} {M : EMap}
theorem StG.base_le (h : StG w5 base g N len U deg lv0 i l0 W V T lv M l) : base ≤ W.heap.size := by
  have := h.hg.lt g (h.hg.inT _ (.inl rfl)); omega
theorem StG.kept (h : StG w5 base g N len U deg lv0 i l0 W V T lv M l) (hg : W.grownBy W' none) : StG w5 base g N len U deg lv0 i l0 W' V T lv M l :=
  { h with hg := h.hg.kept hg, kp := h.kp.then (Kp.of_none (S := fun _ => False) hg) (fun _ _ e => e.elim) }
theorem StG.vuE (h : StG w5 base g N len U deg lv0 i l0 W V T lv M l) : ∀ q, extS V W W' q → U q ∨ w5.heap.size ≤ q := fun q hq => hq.elim (h.vu q) (fun e => .inr (Nat.le_trans h.kp.size e.1))
theorem StG.kpU (h : StG w5 base g N len U deg lv0 i l0 W V T lv M l) (K : Kp W W' V) : Kp w5 W' U := h.kp.then K (fun q hq e => (h.vu q e).elim id (fun e => by omega))
theorem StG.len_le (h : StG w5 base g N len U deg lv0 i l0 W V T lv M l) : i < lv.length := (List.getElem?_eq_some_iff.1 h.li).1
theorem StG.lose (h : StG w5 base g N len U deg lv0 i l0 W V T lv M l) {u v : Int} {t : Bool} (hM : getK M (pk u v) = some ((i : Int), t)) (hL : LoseOk W W' base g N len V T lv M deg (pk u v) i) :
    ∃ lv' l', StG w5 base g N len U deg lv0 i l0 W' (extS V W W') T lv' (delK M (pk u v)) l' ∧ (∀ k, EL lv' k = EL lv k) ∧ (∀ k, TL lv' k = if k = i then setR (TL lv k) (pk u v).1 (pk u v).2 false else TL lv k) ∧ (∀ k, OL lv' k = if k = i then setR (OL lv k) (pk u v).1 (pk u v).2 false else OL lv k) ∧ SameL l l' ∧ (∀ q ∈ l.TO, ShM W W' q.2) ∧ (∀ q ∈ l.OO, ShM W W' q.2) ∧ Kp W W' V ∧ lv'.length = lv.length := by
  obtain ⟨lv', l1, l', a1, a2, a3, a4, a5, a6, a7, a8, a9, a10, a11, a12⟩ := hL
  rw [h.li] at a4; cases a4
  refine ⟨lv', l', ⟨a1, h.vuE, ?_, ?_, fun p s hp => ?_, h.kpU a2, a5, h.same.trans a6, by rw [a7]; exact h.len1, by rw [a7]; exact h.len2⟩, a8, a9, a10, a6, a11, a12, a2, a7⟩
  · rw [getK_delF, show TL lv' = _ from funext a9]; exact h.tr.lose hM
  · rw [getK_delF, show OL lv' = _ from funext a10]; exact h.ot.lose hM
  · rw [getK_delF] at hp
    unfold updF at hp
    split at hp
    · cases hp
    · rw [a7]; exact h.lev p s hp
theorem StG.keep (h : StG w5 base g N len U deg lv0 i l0 W V T lv M l) {u v : Int} {t : Bool} {ℓ : Nat} (hℓ : ℓ ≤ i + 1) (hM : getK M (pk u v) = none) (hK : KeepOk W W' base g N len V lv M deg (pk u v) ℓ t) :
    ∃ T' lv' l' lk, StG w5 base g N len U deg lv0 i l0 W' (extS V W W') T' lv' (updK M (pk u v) ((ℓ : Int), t)) l' ∧ (∀ k, EL lv' k = EL lv k) ∧ (∀ k, TL lv' k = if k = ℓ ∧ t = true then setR (TL lv k) (pk u v).1 (pk u v).2 true else TL lv k) ∧ (∀ k, OL lv' k = if k = ℓ ∧ t = false then setR (OL lv k) (pk u v).1 (pk u v).2 true else OL lv k) ∧ SameL l l' ∧ (ℓ ≠ i → l' = l ∧ ∀ q, l.Fp q → W'.heap[q]? = W.heap[q]?) ∧ lv'[ℓ]? = some lk ∧ lv.length ≤ lv'.length ∧ Kp W W' V ∧ lv'.length ≤ max lv.length (ℓ + 1) := by
  obtain ⟨T', lv', lk, a1, a2, a3, a4, a5, a6, a7, a8, a9, a10⟩ := hK
  have hil := h.len_le
  obtain ⟨l', hl', hs, hne⟩ : ∃ l', lv'[i]? = some l' ∧ SameL l l' ∧ (ℓ ≠ i → l' = l ∧ ∀ q, l.Fp q → W'.heap[q]? = W.heap[q]?) := by
    by_cases e : i = ℓ
    · subst e; exact ⟨lk, a4, a5 l h.li, fun e => absurd rfl e⟩
    · obtain ⟨b1, b2⟩ := a3 i l h.li e
      exact ⟨l, b1, SameL.refl l, fun _ => ⟨rfl, b2⟩⟩
  have hlk := (List.getElem?_eq_some_iff.1 a4).1
  have hl1 := h.len1
  have hl2 := h.len2
  refine ⟨T', lv', l', lk, ⟨a1, h.vuE, ?_, ?_, fun p s hp => ?_, h.kpU a2, hl', h.same.trans hs, by omega, by omega⟩, a8, a9, a10, hs, hne, a4, a6, a2, a7⟩
  · rw [getK_updF, show TL lv' = _ from funext a9]; exact h.tr.keep hM
  · rw [getK_updF, show OL lv' = _ from funext a10]; exact h.ot.keep hM
  · rw [getK_updF] at hp
    unfold updF at hp
    split at hp
    · cases hp; exact ⟨ℓ, rfl, hlk⟩
    · obtain ⟨ℓ', c1, c2⟩ := h.lev p s hp; exact ⟨ℓ', c1, by omega⟩
theorem StG.forest (h : StG w5 base g N len U deg lv0 i l0 W V T lv M l) {k : Nat} {lk : LV} (hk : lv[k]? = some lk) {E' : Eds} (K : Kp W W' lk.S) (hF : FGx W' base lk.f lk.g N (extS lk.S W W') (len + 2 * E'.length) E') :
    ∃ lv' l', StG w5 base g N len U deg lv0 i l0 W' (extS V W W') T lv' M l' ∧ (∀ j, EL lv' j = if j = k then E' else EL lv j) ∧ (∀ j, TL lv' j = TL lv j) ∧ (∀ j, OL lv' j = OL lv j) ∧ SameL l l' ∧ (k ≠ i → l' = l ∧ ∀ q, l.Fp q → W'.heap[q]? = W.heap[q]?) ∧ lv'.length = lv.length ∧ Kp W W' V := by
  have hkl := (List.getElem?_eq_some_iff.1 hk).1
  have hel : lv[k] = lk := (List.getElem?_eq_some_iff.1 hk).2
  have hml := List.mem_of_getElem? hk
  have L' := (h.hg.lev lk hml).forest K hF
  have fp : ∀ q, LV.Fp { lk with S := extS lk.S W W', E := E' } q → extS (lv[k]).Fp W W' q := fun q hq => by
    rw [hel]
    rcases hq with hq | hq | hq | hq
    · exact .inl (.inl hq)
    · exact hq.imp (fun e => .inr (.inl e)) id
    · exact .inl (.inr (.inr (.inl hq)))
    · exact .inl (.inr (.inr (.inr hq)))
  have hS : ∀ q, lk.S q → (lv[k]).Fp q := fun q hq => by rw [hel]; exact .inr (.inl hq)
  have h1 := h.hg.lvl h.base_le hkl K hS L' (by rw [hel]) fp
  have h2 := h.hg.oth hkl K hS { lk with S := extS lk.S W W', E := E' }
  have KU : Kp W W' V := K.mono fun q _ hq => h.hg.inL lk hml q (.inr (.inl hq))
  obtain ⟨l', hl', hs, hne⟩ : ∃ l', (lv.set k { lk with S := extS lk.S W W', E := E' })[i]? = some l' ∧ SameL l l' ∧ (k ≠ i → l' = l ∧ ∀ q, l.Fp q → W'.heap[q]? = W.heap[q]?) := by
    by_cases e : i = k
    · subst e
      rw [h.li] at hk; cases hk
      exact ⟨_, List.getElem?_set_self hkl, ⟨rfl, rfl, rfl, rfl, fun _ h => h, fun _ h => h⟩, fun e => absurd rfl e⟩
    · obtain ⟨b1, b2⟩ := h2 i l h.li e
      exact ⟨l, b1, SameL.refl l, fun _ => ⟨rfl, b2⟩⟩
  have hTL : ∀ j, TL (lv.set k { lk with S := extS lk.S W W', E := E' }) j = TL lv j := fun j => by
    rw [TL_set hkl]
    by_cases e : j = k
    · subst e; rw [if_pos rfl, TL_some hk]
    · rw [if_neg e]
  have hOL : ∀ j, OL (lv.set k { lk with S := extS lk.S W W', E := E' }) j = OL lv j := fun j => by
    rw [OL_set hkl]
    by_cases e : j = k
    · subst e; rw [if_pos rfl, OL_some hk]
    · rw [if_neg e]
  refine ⟨_, l', ⟨h1, h.vuE, by rw [show TL _ = _ from funext hTL]; exact h.tr, by rw [show OL _ = _ from funext hOL]; exact h.ot, fun p s hp => by simpa using h.lev p s hp, h.kpU KU, hl', h.same.trans hs, by simpa using h.len1, by simpa using h.len2⟩, fun j => EL_set hkl j, hTL, hOL, hs, hne, by simp, KU⟩
end
end Go.Proofs.Ytpfkpmapimonbaa

/-! hdt.Graph.mend: its two bodies. -/
namespace Go.Proofs.Ytpfkpmapimonbaa
open Go Go.V Go.RowKit
set_option linter.unusedVariables false
set_option linter.unusedSimpArgs false
set_option maxHeartbeats 8000000
set_option maxRecDepth 100000

theorem Inv3.nat {N : Nat} {m : MF} {E : Nat → Eds} {a b j : Nat} (h : Inv3 N m E a b j) {x y : Int} {s : Int × Bool} (hm : m (pk x y) = some s) : ∃ c d : Nat, x = c ∧ y = d ∧ c < N ∧ d < N ∧ c ≠ d ∧ pk x y = kI (pairE c d) := by
  obtain ⟨e, h1, h2, h3, _⟩ := h.keys _ _ hm
  have h1' := h1
  unfold pk kI at h1
  simp only [Prod.mk.injEq] at h1
  refine ⟨x.toNat, y.toNat, by omega, by omega, by omega, by omega, by omega, ?_⟩
  rw [← pk_nat, show ((x.toNat : Nat) : Int) = x by omega, show ((y.toNat : Nat) : Int) = y by omega]
theorem okI_nat {n N : Nat} (h : n < N) (hN : N ≤ 65536) : okI (n : Int) := by unfold okI; omega
theorem okArc_pk {c d N : Nat} (hc : c < N) (hd : d < N) (hN : N ≤ 65536) : okArc (pk (c : Int) (d : Int)) := by unfold okArc pk okI; constructor <;> simp only <;> omega
theorem nd_len {α : Type} [DecidableEq α] : ∀ {l m : List α}, l.Nodup → (∀ a ∈ l, a ∈ m) → l.length ≤ m.length
  | [], m, _, _ => Nat.zero_le _
  | a :: l, m, hn, hs => by
    rw [List.nodup_cons] at hn
    have ha := hs a (by simp)
    have ih := nd_len (m := m.erase a) hn.2 fun b hb => (List.mem_erase_of_ne (fun e => hn.1 (by rw [← e]; exact hb))).2 (hs b (by simp [hb]))
    have := List.length_erase_of_mem ha
    have := List.length_pos_of_mem ha
    simp only [List.length_cons]; omega
/-- A graph in mend, its law with it. -/
structure Lp (w5 : World) (base g N len : Nat) (U : Nat → Prop) (deg : List Int) (lv0 : List LV) (M0 : EMap) (a b i : Nat) (l0 : LV) (W : World) (V : Nat → Prop) (T : Tp) (lv : List LV) (M : EMap) (l : LV) : Prop where
  st : StG w5 base g N len U deg lv0 i l0 W V T lv M l
  inv : Inv3 N (getK M) (EL lv) a b (i + 1)
  el : ∀ k, k ≤ i → EL lv k = EL lv0 k
  iss : ∀ q, (getK M q).isSome = (getK M0 q).isSome
section
variable {w5 W W' : World} {base g N len : Nat} {U V : Nat → Prop} {deg : List Int} {lv0 lv : List LV} {a b i : Nat} {l0 l : LV} {T : Tp} {M0 M : EMap}
theorem Lp.kept (h : Lp w5 base g N len U deg lv0 M0 a b i l0 W V T lv M l) (hg : W.grownBy W' none) : Lp w5 base g N len U deg lv0 M0 a b i l0 W' V T lv M l := { h with st := h.st.kept hg }
/-- What is asked of the sizes. -/
def Sz (N len : Nat) (n : Nat) : Prop := N ≤ 65536 ∧ n + 4 ≤ 2 ^ 20 ∧ N ≤ len ∧ len + 2 * N + 2 ≤ 2 ^ 20
theorem up_calls (h : Lp w5 base g N len U deg lv0 M0 a b i l0 W V T lv M l) (hsz : Sz N len lv.length) {x y : Int} (hxy : TL lv i x y) {r q : Nat} (hq : (x, q) ∈ l.TO) {v : Bool} (hD : Dr intV Value.bool W r q (some (y, v))) (hr : ¬ V r) {Lq : List (Int × Bool)} (hLq : bMap W q Lq) (hiff : ∀ z, z ∈ Lq.map Prod.fst ↔ TL lv i x z) {Q : World → Prop}
    (hQ : ∀ W' V' T' lv' M' l' Lq', Lp w5 base g N len U deg lv0 M0 a b i l0 W' V' T' lv' M' l' → (x, q) ∈ l'.TO → Dr intV Value.bool W' r q (none : Option (Int × Bool)) → ¬ V' r → bMap W' q Lq' → (∀ z, z ∈ Lq'.map Prod.fst ↔ TL lv' i x z) → Lq'.length < Lq.length → (∀ z z', TL lv' i z z' → TL lv i z z') → lv'.length ≤ max lv.length (i + 2) → Q W') :
    Calls P 61 #[.int .i64 x, .int .i64 y] W fun ev w1 => ∃ x1 x2 : Int, ev = .returned (.agg #[.int .i64 x1, .int .i64 x2]) ∧ Calls P 65 #[.pointer (some ⟨g, 0, none⟩), .agg #[.int .i64 x1, .int .i64 x2]] w1 fun ev w2 => ∃ (x3 : Int) (x4 : Bool), ev = .returned (.agg #[.int .i64 x3, .bool x4]) ∧
      Calls P 61 #[.int .i64 x, .int .i64 y] w2 fun ev w3 => ∃ x5 x6 : Int, ev = .returned (.agg #[.int .i64 x5, .int .i64 x6]) ∧ (InK .i64 ((i : Int) + 1) ∧ Calls P 63 #[.pointer (some ⟨g, 0, none⟩), .agg #[.int .i64 x5, .int .i64 x6], .agg #[.int .i64 ((i : Int) + 1), .bool true]] w3 fun ev w4 => ev = .returned (.tuple #[]) ∧
        (InK .i64 ((i : Int) + 1) ∧ Calls P 60 #[.pointer (some ⟨g, 0, none⟩), .int .i64 ((i : Int) + 1)] w4 fun ev w5 => ∃ x7 : Option Addr, ev = .returned (.pointer x7) ∧ ∃ a1 : Addr, x7 = some a1 ∧ ∃ x8 : Option Addr, w5.cell? a1 = some (.pointer x8) ∧ Calls P 15 #[.pointer x8, .int .i64 x, .int .i64 y] w5 fun ev w6 => ∃ x9 : Bool, ev = .returned (.bool x9) ∧ Q w6)) := by
  obtain ⟨z1, z2, z3, z4⟩ := hsz
  have hil := h.st.len_le
  have hM := (h.st.tr i x y).1 hxy
  obtain ⟨c, d, rfl, rfl, hc, hd, hcd, hpk⟩ := h.inv.nat hM
  have hok := okArc_pk hc hd z1
  have ei : (i : Int) + 1 = ((i + 1 : Nat) : Int) := by omega
  have hin : InK .i64 ((i : Int) + 1) := by simp only [InK]; omega
  refine (of_calls (c : Int) (d : Int)).mono fun ev w1 hh => ?_
  obtain ⟨rfl, g1⟩ := hh
  have h1 := h.kept g1
  have hD1 := hD.kp (S := fun _ => False) (Kp.of_none g1) id id
  refine ⟨_, _, rfl, (lose_calls h1.st.hg h1.st.base_le (p := pk (c : Int) (d : Int)) hok hM hil (by omega) z1 z3).mono fun ev w2 hh => ?_⟩
  obtain ⟨rfl, hL⟩ := hh
  obtain ⟨lv2, l2, s2, e2, t2, o2, sm2, shT, shO, K2, hll⟩ := h1.st.lose hM hL
  -- the walk over the map goes on
  have q2 : (↑c, q) ∈ l2.TO := sm2.TO _ hq
  have hl2 := List.mem_of_getElem? s2.li
  obtain ⟨L2, m2, i2⟩ := (s2.hg.lev l2 hl2).tr.inner _ q2
  have i2' : ∀ z, z ∈ L2.map Prod.fst ↔ TL lv2 i (c : Int) z := fun z => by rw [TL_some s2.li]; exact i2 z
  have hiff2 : ∀ z, TL lv2 i (c : Int) z ↔ TL lv i (c : Int) z ∧ z ≠ (d : Int) := fun z => by
    rw [t2 i, if_pos rfl]
    unfold setR pk
    simp only [Bool.false_eq_true, if_false]
    constructor
    · rintro ⟨b1, b2⟩; exact ⟨b1, fun e => b2 (by omega)⟩
    · rintro ⟨b1, b2⟩; exact ⟨b1, fun e => b2 (by omega)⟩
  have hr2 : w2.heap[r]? = w1.heap[r]? := K2.block r hD1.lt.1 hr
  have hD2 : Dr intV Value.bool w2 r q (none : Option (Int × Bool)) := hD1.struck (shT _ hq) hr2 m2 keyI.inj (fun e => ((hiff2 _).1 ((i2' _).1 e)).2 rfl)
  have hlt2 : L2.length < Lq.length := by
    have hn2 : ((d : Int) :: L2.map Prod.fst).Nodup := by
      rw [List.nodup_cons]
      refine ⟨fun e => ((hiff2 _).1 ((i2' _).1 e)).2 rfl, ?_⟩
      obtain ⟨es, clock, _, _, _, hn, _⟩ := m2
      exact hn
    have := nd_len (m := Lq.map Prod.fst) hn2 fun z hz => by
      rcases List.mem_cons.1 hz with e | e
      · rw [e]; exact (hiff _).2 hxy
      · exact (hiff _).2 ((hiff2 _).1 ((i2' _).1 e)).1
    simp only [List.length_cons, List.length_map] at this
    omega
  refine ⟨_, _, rfl, (of_calls (c : Int) (d : Int)).mono fun ev w3 hh => ?_⟩
  obtain ⟨rfl, g3⟩ := hh
  have s3 := s2.kept g3
  have hD3 := hD2.kp (S := fun _ => False) (Kp.of_none g3) id id
  have m3 := m2.kept g3
  have r3 : ¬ extS V w1 w2 r := fun e => e.elim hr (fun e => by have := hD1.lt.1; omega)
  have hM2 : getK (delK M (pk (c : Int) (d : Int))) (pk (c : Int) (d : Int)) = none := by rw [getK_delF]; exact updF_same _ _ _
  have hlen2 : i < lv2.length := s2.len_le
  refine ⟨_, _, rfl, hin, ?_⟩
  rw [ei]
  refine (keep_calls s3.hg s3.base_le (p := pk (c : Int) (d : Int)) hok (ℓ := i + 1) (by omega) true (by omega) z1 z3).mono fun ev w4 hh => ?_
  obtain ⟨rfl, hK⟩ := hh
  obtain ⟨T4, lv4, l4, lk4, s4, e4, t4, o4, sm4, ne4, k4, len4, K4, len4'⟩ := s3.keep (Nat.le_refl _) hM2 hK
  obtain ⟨rfl, st4⟩ := ne4 (by omega)
  have mB3 := (s3.hg.lev l4 (List.mem_of_getElem? s3.li))
  have qF : l4.TF q := (mB3.tr.qF _ q2).1
  have hq4 : w4.heap[q]? = w3.heap[q]? := st4 q (.inr (.inr (.inl qF)))
  have hr4 : w4.heap[r]? = w3.heap[r]? := K4.block r hD3.lt.1 r3
  refine ⟨rfl, hin, ?_⟩
  refine (lat_old s4.hg s4.base_le k4 (by omega) z1 z3).mono fun ev w5' hh => ?_
  obtain ⟨rfl, rfl⟩ := hh
  have hLk := s4.hg.lev lk4 (List.mem_of_getElem? k4)
  have hEk : lk4.E = EL lv (i + 1) := by rw [← EL_some k4, e4, e2]
  have hsm := hLk.fg.small
  refine ⟨_, rfl, _, rfl, _, blk_cell hLk.blk 0, (xlink_calls hLk.fg s4.base_le (by omega) (c : Int) (d : Int)).mono fun ev w6 hh => ?_⟩
  obtain ⟨rr, rfl, hrr, hF, K6⟩ := hh
  have hM' : getK M (kI (pairE c d)) = some ((i : Int), true) := by rw [← hpk]; exact hM
  have hap := h.inv.apart hM'
  rw [Cn.pair] at hap
  have hrt : rr = true := hrr.2 ⟨⟨by omega, by omega⟩, ⟨by omega, by omega⟩, by rw [hEk]; simpa using hap⟩
  rw [hrt, if_pos rfl] at hF
  have tc : ((c : Int).toNat) = c := by omega
  have td : ((d : Int).toNat) = d := by omega
  rw [tc, td] at hF
  have hlE : (lk4.E ++ [pairE c d]).length = lk4.E.length + 1 := by simp
  obtain ⟨lv6, l6, s6, e6, t6, o6, sm6, ne6, len6, K6U⟩ := s4.forest k4 K6 (E' := lk4.E ++ [pairE c d]) (by rw [hlE]; exact hF.more (by omega))
  obtain ⟨rfl, st6⟩ := ne6 (by omega)
  have hELf : EL lv6 = fun k => if k = i + 1 then EL lv k ++ [pairE c d] else EL lv k := by
    funext k
    rw [e6 k]
    by_cases e : k = i + 1
    · subst e; rw [if_pos rfl, if_pos rfl, hEk]
    · rw [if_neg e, if_neg e, e4, e2]
  have hMf : getK (updK (delK M (pk (c : Int) (d : Int))) (pk (c : Int) (d : Int)) (((i + 1 : Nat) : Int), true)) = updF (getK M) (kI (pairE c d)) (some (((i + 1 : Nat) : Int), true)) := by rw [getK_updF, getK_delF, updF_updF, hpk]
  have inv6 : Inv3 N (getK (updK (delK M (pk (c : Int) (d : Int))) (pk (c : Int) (d : Int)) (((i + 1 : Nat) : Int), true))) (EL lv6) a b (i + 1) := by rw [hELf, hMf]; exact h.inv.up hM'
  have hT6 : ∀ z z', TL lv6 i z z' ↔ TL lv2 i z z' := fun z z' => by rw [t6, t4 i, if_neg (by omega)]
  have hq6 : w6.heap[q]? = w3.heap[q]? := by rw [st6 q (.inr (.inr (.inl qF)))]; exact hq4
  have hr6 : w6.heap[r]? = w3.heap[r]? := by
    rw [K6U.block r (by have := hD3.lt.1; have := K4.size; omega) (fun e => e.elim r3 (fun e => by have := hD3.lt.1; omega))]; exact hr4
  have same6 : ∀ o, w3.heap[q]? = some o → w6.heap[q]? = some o := fun o ho => by rw [hq6]; exact ho
  refine ⟨rr, rfl, hQ w6 _ _ lv6 _ l6 L2 ⟨s6, inv6, fun k hk => ?_, fun p => ?_⟩ q2 ?_ ?_ ?_ (fun z => by rw [hT6, i2']) hlt2 (fun z z' hz => ?_) (by omega)⟩
  · rw [hELf]; show (if k = i + 1 then _ else _) = _
    rw [if_neg (by omega)]; exact h.el k hk
  · rw [hMf]
    by_cases e : p = kI (pairE c d)
    · subst e; rw [updF_same, ← h.iss, hM']; rfl
    · rw [updF_ne _ _ e]; exact h.iss p
  · obtain ⟨es, clock, since, seen, c0, d1, d2, rest⟩ := hD3
    exact ⟨es, clock, since, seen, c0, by rw [hq6]; exact d1, by rw [hr6]; exact d2, rest⟩
  · intro e
    rcases e with (e | e) | e
    · exact r3 e
    · have := hD3.lt.1; omega
    · have := hD3.lt.1; have := K4.size; omega
  · obtain ⟨es, clock, d1, rest⟩ := m3
    exact ⟨es, clock, by rw [hq6]; exact d1, rest⟩
  · rw [hT6, t2 i, if_pos rfl] at hz
    exact hz.1
end
end Go.Proofs.Ytpfkpmapimonbaa

/-! hdt.Graph.mend: its second body. -/
namespace Go.Proofs.Ytpfkpmapimonbaa
open Go Go.V Go.RowKit
set_option linter.unusedVariables false
set_option linter.unusedSimpArgs false
set_option maxHeartbeats 8000000
set_option maxRecDepth 100000

section
variable {w5 W W' : World} {base g N len : Nat} {U V : Nat → Prop} {deg : List Int} {lv0 lv : List LV} {a b i : Nat} {l0 l : LV} {T : Tp} {M0 M : EMap}
theorem seek_calls (h : Lp w5 base g N len U deg lv0 M0 a b i l0 W V T lv M l) (hsz : Sz N len lv.length) {x y : Int} (hxy : OL lv i x y) {c0 : Nat} (hx0 : x = (c0 : Int)) (hpart : Cn (EL lv i) a c0) (full : ∀ e ∈ EL lv i, Cn (EL lv i) a e.1 → e ∈ EL lv (i + 1)) {r q : Nat} (hq : (x, q) ∈ l.OO) {v : Bool} (hD : Dr intV Value.bool W r q (some (y, v))) (hr : ¬ V r) {Lq : List (Int × Bool)} (hLq : bMap W q Lq) (hiff : ∀ z, z ∈ Lq.map Prod.fst ↔ OL lv i x z) {Q QR : World → Prop}
    (hQ : ∀ W' V' T' lv' M' l' Lq', Lp w5 base g N len U deg lv0 M0 a b i l0 W' V' T' lv' M' l' → (x, q) ∈ l'.OO → Dr intV Value.bool W' r q (none : Option (Int × Bool)) → ¬ V' r → bMap W' q Lq' → (∀ z, z ∈ Lq'.map Prod.fst ↔ OL lv' i x z) → Lq'.length < Lq.length → (∀ z z', OL lv' i z z' → OL lv i z z') → lv'.length ≤ max lv.length (i + 2) → (∀ k, EL lv' k = EL lv k) → Q W')
    (hR : ∀ W' V' T' lv' M' l', StG w5 base g N len U deg lv0 i l0 W' V' T' lv' M' l' → Inv3 N (getK M') (EL lv') a b 0 → (∀ q, (getK M' q).isSome = (getK M0 q).isSome) → QR W') :
    Calls P 61 #[.int .i64 x, .int .i64 y] W fun ev w1 => ∃ x1 x2 : Int, ev = .returned (.agg #[.int .i64 x1, .int .i64 x2]) ∧ Calls P 65 #[.pointer (some ⟨g, 0, none⟩), .agg #[.int .i64 x1, .int .i64 x2]] w1 fun ev w2 => ∃ (x3 : Int) (x4 : Bool), ev = .returned (.agg #[.int .i64 x3, .bool x4]) ∧
      ∃ a1 : Addr, some (⟨l0.b, 0, none⟩ : Addr) = some a1 ∧ ∃ x7 : Option Addr, w2.cell? a1 = some (.pointer x7) ∧ Calls P 19 #[.pointer x7, .int .i64 x, .int .i64 y] w2 fun ev w3 => ∃ x8 : Bool, ev = .returned (.bool x8) ∧
        ((x8 = false → Calls P 61 #[.int .i64 x, .int .i64 y] w3 fun ev w4 => ∃ x5 x6 : Int, ev = .returned (.agg #[.int .i64 x5, .int .i64 x6]) ∧ Calls P 63 #[.pointer (some ⟨g, 0, none⟩), .agg #[.int .i64 x5, .int .i64 x6], .agg #[.int .i64 (i : Int), .bool true]] w4 fun ev w5 => ev = .returned (.tuple #[]) ∧
            (InK .i64 ((i : Int) + 1) ∧ ∃ I : Nat → Int → World → Prop, (∃ k : Nat, I k (0 : Int) w5) ∧ ∀ (m : Nat) (j : Int) (w6 : World), I m j w6 → ((j < (i : Int) + 1 → Calls P 60 #[.pointer (some ⟨g, 0, none⟩), .int .i64 j] w6 fun ev w7 => ∃ x9 : Option Addr, ev = .returned (.pointer x9) ∧ ∃ a2 : Addr, x9 = some a2 ∧ ∃ x10 : Option Addr, w7.cell? a2 = some (.pointer x10) ∧ Calls P 15 #[.pointer x10, .int .i64 x, .int .i64 y] w7 fun ev w8 => ∃ x11 : Bool, ev = .returned (.bool x11) ∧ (InK .i64 (j + 1) ∧ ∃ m' : Nat, m' < m ∧ I m' (j + 1) w8)) ∧ (¬ j < (i : Int) + 1 → QR w6)))) ∧
         (¬ x8 = false → Calls P 61 #[.int .i64 x, .int .i64 y] w3 fun ev w4 => ∃ x5 x6 : Int, ev = .returned (.agg #[.int .i64 x5, .int .i64 x6]) ∧ (InK .i64 ((i : Int) + 1) ∧ Calls P 63 #[.pointer (some ⟨g, 0, none⟩), .agg #[.int .i64 x5, .int .i64 x6], .agg #[.int .i64 ((i : Int) + 1), .bool false]] w4 fun ev w5 => ev = .returned (.tuple #[]) ∧ Q w5))) := by
  obtain ⟨z1, z2, z3, z4⟩ := hsz
  have hil := h.st.len_le
  have hM := (h.st.ot i x y).1 hxy
  obtain ⟨c, d, rfl, rfl, hc, hd, hcd, hpk⟩ := h.inv.nat hM
  have hc0 : c0 = c := by omega
  subst hc0
  have hok := okArc_pk hc hd z1
  have ei : (i : Int) + 1 = ((i + 1 : Nat) : Int) := by omega
  have hin : InK .i64 ((i : Int) + 1) := by simp only [InK]; omega
  have tc : ((c0 : Int).toNat) = c0 := by omega
  have td : ((d : Int).toNat) = d := by omega
  refine (of_calls (c0 : Int) (d : Int)).mono fun ev w1 hh => ?_
  obtain ⟨rfl, g1⟩ := hh
  have h1 := h.kept g1
  have hD1 := hD.kp (S := fun _ => False) (Kp.of_none g1) id id
  refine ⟨_, _, rfl, (lose_calls h1.st.hg h1.st.base_le (p := pk (c0 : Int) (d : Int)) hok hM hil (by omega) z1 z3).mono fun ev w2 hh => ?_⟩
  obtain ⟨rfl, hL⟩ := hh
  obtain ⟨lv2, l2, s2, e2, t2, o2, sm2, shT, shO, K2, hll⟩ := h1.st.lose hM hL
  have q2 : (↑c0, q) ∈ l2.OO := sm2.OO _ hq
  have hl2 := List.mem_of_getElem? s2.li
  have hLv2 := s2.hg.lev l2 hl2
  obtain ⟨L2, m2, i2⟩ := hLv2.ot.inner _ q2
  have i2' : ∀ z, z ∈ L2.map Prod.fst ↔ OL lv2 i (c0 : Int) z := fun z => by rw [OL_some s2.li]; exact i2 z
  have hiff2 : ∀ z, OL lv2 i (c0 : Int) z ↔ OL lv i (c0 : Int) z ∧ z ≠ (d : Int) := fun z => by
    rw [o2 i, if_pos rfl]
    unfold setR pk
    simp only [Bool.false_eq_true, if_false]
    constructor
    · rintro ⟨b1, b2⟩; exact ⟨b1, fun e => b2 (by omega)⟩
    · rintro ⟨b1, b2⟩; exact ⟨b1, fun e => b2 (by omega)⟩
  have hr2 : w2.heap[r]? = w1.heap[r]? := K2.block r hD1.lt.1 hr
  have hD2 : Dr intV Value.bool w2 r q (none : Option (Int × Bool)) := hD1.struck (shO _ hq) hr2 m2 keyI.inj (fun e => ((hiff2 _).1 ((i2' _).1 e)).2 rfl)
  have hlt2 : L2.length < Lq.length := by
    have hn2 : ((d : Int) :: L2.map Prod.fst).Nodup := by
      rw [List.nodup_cons]
      refine ⟨fun e => ((hiff2 _).1 ((i2' _).1 e)).2 rfl, ?_⟩
      obtain ⟨es, clock, _, _, _, hn, _⟩ := m2
      exact hn
    have := nd_len (m := Lq.map Prod.fst) hn2 fun z hz => by
      rcases List.mem_cons.1 hz with e | e
      · rw [e]; exact (hiff _).2 hxy
      · exact (hiff _).2 ((hiff2 _).1 ((i2' _).1 e)).1
    simp only [List.length_cons, List.length_map] at this
    omega
  have hEi : l2.E = EL lv i := by rw [← EL_some s2.li, e2]
  have r2' : ¬ extS V w1 w2 r := fun e => e.elim hr (fun e => by have := hD1.lt.1; omega)
  have hM2 : getK (delK M (pk (c0 : Int) (d : Int))) (pk (c0 : Int) (d : Int)) = none := by rw [getK_delF]; exact updF_same _ _ _
  have hM' : getK M (kI (pairE c0 d)) = some ((i : Int), false) := by rw [← hpk]; exact hM
  refine ⟨_, _, rfl, _, rfl, _, by rw [← s2.same.b]; exact blk_cell hLv2.blk 0, (xconn_calls hLv2.fg (c0 : Int) (d : Int)).mono fun ev w3 hh => ?_⟩
  obtain ⟨rr, rfl, hrr, rfl⟩ := hh
  rw [hEi, tc, td] at hrr
  refine ⟨rr, rfl, fun hno => ?_, fun hyes => ?_⟩
  · -- an edge that goes out of the part
    have hnc : ¬ Cn (EL lv i) (pairE c0 d).1 (pairE c0 d).2 := by
      rw [Cn.pair]
      intro hcn
      rw [hrr.2 ⟨⟨by omega, by omega⟩, ⟨by omega, by omega⟩, hcn⟩] at hno
      cases hno
    refine (of_calls (c0 : Int) (d : Int)).mono fun ev w4 hh => ?_
    obtain ⟨rfl, g4⟩ := hh
    have s3 := s2.kept g4
    refine ⟨_, _, rfl, (keep_calls s3.hg s3.base_le (p := pk (c0 : Int) (d : Int)) hok (ℓ := i) (by omega) true (by omega) z1 z3).mono fun ev w5' hh => ?_⟩
    obtain ⟨rfl, hK⟩ := hh
    obtain ⟨T4, lv4, l4, lk4, s4, e4, t4, o4, sm4, ne4, k4, len4, K4, len4'⟩ := s3.keep (ℓ := i) (by omega) hM2 hK
    have hMf : getK (updK (delK M (pk (c0 : Int) (d : Int))) (pk (c0 : Int) (d : Int)) (((i : Nat) : Int), true)) = updF (getK M) (kI (pairE c0 d)) (some ((i : Int), true)) := by rw [getK_updF, getK_delF, updF_updF, hpk]
    refine ⟨rfl, hin, fun m j Wj => ∃ (t : Nat) (V' : Nat → Prop) (T' : Tp) (lv' : List LV) (l' : LV), j = t ∧ t ≤ i + 1 ∧ m = i + 1 - t ∧ StG w5 base g N len U deg lv0 i l0 Wj V' T' lv' (updK (delK M (pk (c0 : Int) (d : Int))) (pk (c0 : Int) (d : Int)) (((i : Nat) : Int), true)) l' ∧ (∀ k, EL lv' k = if k < t then EL lv k ++ [pairE c0 d] else EL lv k) ∧ lv'.length = lv4.length, ⟨_, 0, _, _, _, _, rfl, by omega, rfl, s4, fun k => by rw [if_neg (by omega), e4, e2], rfl⟩, ?_⟩
    rintro m j Wj ⟨t, V', T', lv', l', rfl, ht, rfl, sj, ej, lj⟩
    refine ⟨fun hlt => ?_, fun hge => ?_⟩
    · have hti : t ≤ i := by omega
      have htl : t < lv'.length := by omega
      obtain ⟨lk, hk⟩ : ∃ lk, lv'[t]? = some lk := ⟨lv'[t], by simp [htl]⟩
      have hLk := sj.hg.lev lk (List.mem_of_getElem? hk)
      have hEk : lk.E = EL lv t := by rw [← EL_some hk, ej, if_neg (by omega)]
      have hsm := hLk.fg.small
      refine (lat_old sj.hg sj.base_le hk (by omega) z1 z3).mono fun ev w7 hh => ?_
      obtain ⟨rfl, rfl⟩ := hh
      refine ⟨_, rfl, _, rfl, _, blk_cell hLk.blk 0, (xlink_calls hLk.fg sj.base_le (by omega) (c0 : Int) (d : Int)).mono fun ev w8 hh => ?_⟩
      obtain ⟨r8, rfl, hr8, hF, K8⟩ := hh
      have hcn := h.inv.crossN hM' hnc hti
      rw [Cn.pair] at hcn
      have hrt : r8 = true := hr8.2 ⟨⟨by omega, by omega⟩, ⟨by omega, by omega⟩, by rw [hEk, tc, td]; exact hcn⟩
      rw [hrt, if_pos rfl, tc, td] at hF
      have hlE : (lk.E ++ [pairE c0 d]).length = lk.E.length + 1 := by simp
      obtain ⟨lv6, l6, s6, e6, t6, o6, sm6, ne6, len6, K6U⟩ := sj.forest hk K8 (E' := lk.E ++ [pairE c0 d]) (by rw [hlE]; exact hF.more (by omega))
      refine ⟨r8, rfl, by simp only [InK]; omega, i + 1 - (t + 1), by omega, t + 1, _, _, lv6, l6, by omega, by omega, by omega, s6, fun k => ?_, by omega⟩
      rw [e6 k]
      by_cases e : k = t
      · subst e; rw [if_pos rfl, if_pos (by omega), hEk]
      · rw [if_neg e, ej k]
        by_cases e' : k < t
        · rw [if_pos e', if_pos (by omega)]
        · rw [if_neg e', if_neg (by omega)]
    · have hti : t = i + 1 := by omega
      subst hti
      have hELf : EL lv' = fun k => if k ≤ i then EL lv k ++ [pairE c0 d] else EL lv k := by
        funext k
        rw [ej k]
        by_cases e : k ≤ i
        · rw [if_pos e, if_pos (by omega)]
        · rw [if_neg e, if_neg (by omega)]
      refine hR _ _ _ lv' _ l' sj ?_ fun p => ?_
      · rw [hELf, hMf]; exact h.inv.mended hM' hnc
      · rw [hMf]
        by_cases e : p = kI (pairE c0 d)
        · subst e; rw [updF_same, ← h.iss, hM']; rfl
        · rw [updF_ne _ _ e]; exact h.iss p
  · -- an edge of the part: one level up
    have hcn : Cn (EL lv i) c0 d := (hrr.1 (by cases rr with | true => rfl | false => exact absurd rfl hyes)).2.2
    refine (of_calls (c0 : Int) (d : Int)).mono fun ev w4 hh => ?_
    obtain ⟨rfl, g4⟩ := hh
    have s3 := s2.kept g4
    have hD3 := hD2.kp (S := fun _ => False) (Kp.of_none g4) id id
    have m3 := m2.kept g4
    refine ⟨_, _, rfl, hin, ?_⟩
    rw [ei]
    refine (keep_calls s3.hg s3.base_le (p := pk (c0 : Int) (d : Int)) hok (ℓ := i + 1) (by have := s2.len_le; omega) false (by omega) z1 z3).mono fun ev w5' hh => ?_
    obtain ⟨rfl, hK⟩ := hh
    obtain ⟨T4, lv4, l4, lk4, s4, e4, t4, o4, sm4, ne4, k4, len4, K4, len4'⟩ := s3.keep (Nat.le_refl _) hM2 hK
    obtain ⟨rfl, st4⟩ := ne4 (by omega)
    have mB3 := (s3.hg.lev l4 (List.mem_of_getElem? s3.li))
    have qF : l4.OF q := (mB3.ot.qF _ q2).1
    have hq4 : w5'.heap[q]? = w4.heap[q]? := st4 q (.inr (.inr (.inr qF)))
    have hr4 : w5'.heap[r]? = w4.heap[r]? := K4.block r hD3.lt.1 r2'
    have hMf : getK (updK (delK M (pk (c0 : Int) (d : Int))) (pk (c0 : Int) (d : Int)) (((i + 1 : Nat) : Int), false)) = updF (getK M) (kI (pairE c0 d)) (some (((i + 1 : Nat) : Int), false)) := by rw [getK_updF, getK_delF, updF_updF, hpk]
    have hELf : EL lv4 = EL lv := funext fun k => by rw [e4, e2]
    have hO4 : ∀ z z', OL lv4 i z z' ↔ OL lv2 i z z' := fun z z' => by rw [o4 i, if_neg (by omega)]
    refine ⟨rfl, hQ w5' _ _ lv4 _ l4 L2 ⟨s4, ?_, fun k hk => by rw [hELf]; exact h.el k hk, fun p => ?_⟩ q2 ?_ ?_ ?_ (fun z => by rw [hO4, i2']) hlt2 (fun z z' hz => ?_) (by omega) (fun k => by rw [hELf])⟩
    · rw [hELf, hMf]
      refine h.inv.up2 hM' ?_
      rw [Cn.pair]
      exact cn_full full hpart hcn
    · rw [hMf]
      by_cases e : p = kI (pairE c0 d)
      · subst e; rw [updF_same, ← h.iss, hM']; rfl
      · rw [updF_ne _ _ e]; exact h.iss p
    · obtain ⟨es, clock, since, seen, c1, d1, d2, rest⟩ := hD3
      exact ⟨es, clock, since, seen, c1, by rw [hq4]; exact d1, by rw [hr4]; exact d2, rest⟩
    · intro e
      rcases e with e | e
      · exact r2' e
      · have := hD3.lt.1; omega
    · obtain ⟨es, clock, d1, rest⟩ := m3
      exact ⟨es, clock, by rw [hq4]; exact d1, rest⟩
    · rw [hO4, o2 i, if_pos rfl] at hz
      exact hz.1
end
end Go.Proofs.Ytpfkpmapimonbaa

/-! hdt.Graph.mend: the walk. -/
namespace Go.Proofs.Ytpfkpmapimonbaa
open Go Go.V Go.RowKit
set_option linter.unusedVariables false
set_option linter.unusedSimpArgs false
set_option maxHeartbeats 16000000
set_option maxRecDepth 100000

structure MS (w : World) (base g N len : Nat) (U : Nat → Prop) (T : Tp) (lv : List LV) (M : EMap) (deg : List Int) (a b j : Nat) : Prop where
  hg : HG w base g N len U T lv M deg
  tr : NrOk (getK M) (TL lv) true
  ot : NrOk (getK M) (OL lv) false
  lev : ∀ p s, getK M p = some s → ∃ ℓ : Nat, s.1 = (ℓ : Int) ∧ ℓ < lv.length
  inv : Inv3 N (getK M) (EL lv) a b j
section
variable {w w5 W W' : World} {base g N len : Nat} {U V : Nat → Prop} {deg : List Int} {lv0 lv : List LV} {a b i : Nat} {l0 l : LV} {T : Tp} {M0 M : EMap}
theorem MS.kept {w' : World} {j : Nat} (h : MS w base g N len U T lv M deg a b j) (hg : w.grownBy w' none) : MS w' base g N len U T lv M deg a b j := { h with hg := h.hg.kept hg }
theorem Lp.iter (h : Lp w5 base g N len U deg lv0 M0 a b i l0 W V T lv M l) {r : Nat} (K : Kp W W' (fun k => k = r)) (hr : ¬ V r) (hr5 : w5.heap.size ≤ r) : Lp w5 base g N len U deg lv0 M0 a b i l0 W' V T lv M l :=
  { h with st := { h.st with hg := h.st.hg.kp K (fun q hq e => hr (by rw [← e]; exact hq)), kp := h.st.kp.then K (fun q hq e => by omega) } }
/-- What mend comes to. -/
def MendOk (w w' : World) (base g N len : Nat) (U : Nat → Prop) (lv : List LV) (M : EMap) (deg : List Int) (a b i : Nat) (r : Bool) : Prop :=
  ∃ T' lv' M', MS w' base g N len (extS U w w') T' lv' M' deg a b (if r = true then 0 else i) ∧ Kp w w' U ∧ lv.length ≤ lv'.length ∧ lv'.length ≤ max lv.length (i + 2) ∧ ∀ q, (getK M' q).isSome = (getK M q).isSome
theorem mend_calls (h : MS w base g N len U T lv M deg a b (i + 1)) (hb : base ≤ w.heap.size) (hi : i < lv.length) (ha : a < N) (hb' : b < N) (hsz : Sz N len (lv.length + 1)) :
    Calls P 66 #[.pointer (some ⟨g, 0, none⟩), .int .i64 (i : Int), .int .i64 (a : Int), .int .i64 (b : Int)] w fun ev w' => ∃ r : Bool, ev = .returned (.bool r) ∧ MendOk w w' base g N len U lv M deg a b i r := by
  apply vc66; unfold VC66; try (conv => zeta)
  obtain ⟨z1, z2, z3, z4⟩ := hsz
  obtain ⟨l0, hl0⟩ : ∃ l0, lv[i]? = some l0 := ⟨lv[i], by simp [hi]⟩
  have ti : (i : Int).toNat = i := by omega
  refine (lat_old h.hg hb hl0 (by omega) z1 z3).mono fun ev w1 hh => ?_
  obtain ⟨rfl, rfl⟩ := hh
  have gd := grown_drew (grown_refl w1 none)
  have hd := h.kept gd
  have hL := hd.hg.lev l0 (List.mem_of_getElem? hl0)
  have hEi : l0.E = EL lv i := (EL_some hl0).symm
  have hsm := hL.fg.small
  refine ⟨_, rfl, fun u1 W => (u1 = (a : Int) ∨ u1 = (b : Int)) ∧ W = w1.drew, ?_, ?_⟩
  · refine ⟨fun W => W = w1.drew, rfl, _, rfl, _, blk_cell hL.blk 0, (xsize_calls hL.fg (by omega) (a : Int)).mono fun ev w2 hh => ?_⟩
    obtain ⟨rfl, rfl⟩ := hh
    refine ⟨_, rfl, rfl, _, rfl, _, fun wq hq => by rw [hq]; exact blk_cell hL.blk 0, (xsize_calls hL.fg (by omega) (b : Int)).mono fun ev w3 hh => ?_⟩
    obtain ⟨rfl, rfl⟩ := hh
    exact ⟨_, rfl, rfl, fun _ => ⟨.inr rfl, rfl⟩, fun _ => ⟨.inl rfl, rfl⟩⟩
  rintro u1 W ⟨hu1, rfl⟩
  -- which part
  obtain ⟨uu, vv, rfl, huN, hinv, hback⟩ : ∃ uu vv : Nat, u1 = (uu : Int) ∧ uu < N ∧ Inv3 N (getK M) (EL lv) uu vv (i + 1) ∧ ∀ m E j, Inv3 N m E uu vv j → Inv3 N m E a b j := by
    rcases hu1 with e | e
    · exact ⟨a, b, e, ha, h.inv, fun _ _ _ h => h⟩
    · exact ⟨b, a, e, hb', h.inv.symm, fun _ _ _ h => h.symm⟩
  clear hu1
  refine ⟨_, rfl, _, blk_cell hL.blk 0, (xpart_calls hL.fg (by omega) (uu : Int)).mono fun ev w5 hh => ?_⟩
  obtain ⟨A1, n1, c1, rfl, o1, g5⟩ := hh
  obtain ⟨part, hpart⟩ : ∃ part, part = partC N (EL lv i) uu := ⟨_, rfl⟩
  have hpI : partI N l0.E (uu : Int) = part := by unfold partI; rw [if_pos (by omega), hEi, hpart]; simp
  rw [hpI] at o1
  have hn1 : n1 = part.length := by have := o1.cases.1; simp at this; omega
  have mpart : ∀ x, x ∈ part ↔ x < N ∧ Cn (EL lv i) uu x := fun x => by rw [hpart]; exact mem_partC huN
  have hpl : part.length ≤ N := by
    rw [hpart]; unfold partC verts
    have := List.length_filter_le (fun x => decide (x ∈ compS N (EL lv i) uu)) (List.range N)
    simpa using this
  have h5 := hd.kept g5
  have sz5 := g5.size
  have szd : w1.drew.heap.size = w1.heap.size := rfl
  have row : ∀ W, Kp w5 W U → ∀ p (hp : p < part.length), ∃ a, A1 = some a ∧ W.cell? (a.add p) = some (.int .i64 (part[p] : Int)) := fun W hK p hp => by
    obtain ⟨a, e1, e2⟩ := (o1.kp hK (fun q hq e => by have := o1.block_ge q hq; have := (h.hg.lt q e).2; omega)).row p (.int .i64 (part[p] : Int)) (by simp [hp])
    exact ⟨a, e1, e2⟩
  have S0 : Lp w5 base g N len U deg lv M uu vv i l0 w5 U T lv M l0 := ⟨⟨h5.hg, fun q hq => .inl hq, h5.tr, h5.ot, h5.lev, Kp.refl _ _, hl0, SameL.refl _, Nat.le_refl _, by omega⟩, hinv, fun _ _ => rfl, fun _ => rfl⟩
  have okx : ∀ p (hp : p < part.length), okI (part[p] : Int) := fun p hp => okI_nat ((mpart _).1 (List.getElem_mem hp)).1 z1
  have szl : ∀ {W V T' lv' M' l'}, Lp w5 base g N len U deg lv M uu vv i l0 W V T' lv' M' l' → Sz N len lv'.length := fun hh => by
    have := hh.st.len2
    exact ⟨z1, by omega, z3, z4⟩
  refine ⟨A1, n1, c1, rfl, fun m j W => ∃ (p : Nat) (V : Nat → Prop) (T' : Tp) (lv' : List LV) (M' : EMap) (l' : LV), j = p ∧ p ≤ part.length ∧ m = part.length - p ∧ Lp w5 base g N len U deg lv M uu vv i l0 W V T' lv' M' l' ∧ (∀ x ∈ part.take p, ∀ y, ¬ TL lv' i (x : Int) y), ⟨_, 0, _, _, _, _, _, rfl, by omega, rfl, S0, fun x hx => by simp at hx⟩, ?_⟩
  rintro m j W ⟨p, V, T', lv', M', l', rfl, hp, rfl, hS, hno⟩
  have tp : (p : Int).toNat = p := by omega
  refine ⟨fun hlt => ?_, fun hge => ?_⟩
  · -- one vertex: its tree's edges
    have lp : p < part.length := by omega
    obtain ⟨a1, ea, ec⟩ := row W hS.st.kp p lp
    have hL' := hS.st.hg.lev l' (List.mem_of_getElem? hS.st.li)
    have hnext : ∀ (lv2 : List LV), (∀ x ∈ part.take p, ∀ y, ¬ TL lv2 i (x : Int) y) → (∀ y, ¬ TL lv2 i (part[p] : Int) y) → ∀ x ∈ part.take (p + 1), ∀ y, ¬ TL lv2 i (x : Int) y := fun lv2 h1 h2 x hx y => by
      rw [List.take_succ_eq_append_getElem lp] at hx
      rcases List.mem_append.1 hx with e | e
      · exact h1 x e y
      · simp at e; subst e; exact h2 y
    refine ⟨a1, ea, by omega, by omega, (part[p] : Int), by rw [tp]; exact ec, _, rfl, some l'.t, by rw [add_blk, ← hS.st.same.b]; exact blk_cell hL'.blk 1, getK l'.TO (part[p] : Int), hL'.tr.look (okx p lp), ?_⟩
    cases hgk : getK l'.TO (part[p] : Int) with
    | none =>
      have hnone : ∀ y, ¬ TL lv' i (part[p] : Int) y := fun y hy => by
        rw [TL_some hS.st.li] at hy
        obtain ⟨q, hq⟩ := hL'.tr.out _ _ hy
        exact getK_none.1 hgk _ hq rfl
      have gA := World.grownBy_alloc W (.mapIter none 0 #[] 0) none
      refine ⟨_, _, range_nil Try.underlying107 W, fun m W8 => W8 = W.alloc (.mapIter none 0 #[] 0), ⟨0, rfl⟩, ?_⟩
      rintro m2 W8 rfl
      refine ⟨_, .inl ⟨next_nil (heap_alloc_new W _) 0, fun e => (by cases e), fun _ => ⟨by simp only [InK]; omega, part.length - (p + 1), by omega, p + 1, V, T', lv', M', l', by omega, by omega, by omega, hS.kept gA, hnext lv' hno hnone⟩⟩⟩
    | some q =>
      have hq : ((part[p] : Int), q) ∈ l'.TO := hL'.tr.get.1 hgk
      obtain ⟨Lq, mq, iq⟩ := hL'.tr.inner _ hq
      obtain ⟨o, rr, hDr⟩ := Dr.begin (P := P) Try.underlying107 mq
      have gA := World.grownBy_alloc W o none
      have hVr : ¬ V W.heap.size := fun e => by have := (hS.st.hg.lt _ e).2; omega
      have hr5 : w5.heap.size ≤ W.heap.size := hS.st.kp.size
      obtain ⟨r, hr⟩ : ∃ r, r = W.heap.size := ⟨_, rfl⟩
      rw [← hr] at rr hDr hVr hr5
      refine ⟨_, _, rr, fun m2 W8 => ∃ (V : Nat → Prop) (T' : Tp) (lv' : List LV) (M' : EMap) (l' : LV) (Lq : List (Int × Bool)), m2 = Lq.length ∧ Lp w5 base g N len U deg lv M uu vv i l0 W8 V T' lv' M' l' ∧ ((part[p] : Int), q) ∈ l'.TO ∧ Dr intV Value.bool W8 r q (none : Option (Int × Bool)) ∧ ¬ V r ∧ bMap W8 q Lq ∧ (∀ z, z ∈ Lq.map Prod.fst ↔ TL lv' i (part[p] : Int) z) ∧ (∀ x ∈ part.take p, ∀ y, ¬ TL lv' i (x : Int) y), ⟨_, V, T', lv', M', l', Lq, rfl, hS.kept gA, hq, hDr, hVr, mq.kept gA, fun z => by rw [TL_some hS.st.li]; exact iq z, hno⟩, ?_⟩
      clear hS hno hL' hgk hq mq iq hDr rr gA hVr hr ea ec
      rintro m2 W8 ⟨V, T', lv', M', l', Lq, rfl, hS, hq, hDr, hVr, mq, iq, hno⟩
      have hL' := hS.st.hg.lev l' (List.mem_of_getElem? hS.st.li)
      rcases hDr.next (P := P) mq 0 with ⟨hnil, hrun⟩ | ⟨⟨y, v⟩, hy, W9, hrun, hD9, K9⟩
      · refine ⟨W8, .inl ⟨hrun, fun e => (by cases e), fun _ => ⟨by simp only [InK]; omega, part.length - (p + 1), by omega, p + 1, V, T', lv', M', l', by omega, by omega, by omega, hS, hnext lv' hno fun y hy => ?_⟩⟩⟩
        have := (iq y).2 hy
        rw [hnil] at this
        simp at this
      · have hVq : V q := hS.st.hg.inL l' (List.mem_of_getElem? hS.st.li) q (.inr (.inr (.inl (hL'.tr.qF _ hq).1)))
        have hS9 := hS.iter K9 hVr hr5
        have hqr : q ≠ r := fun e => hVr (e ▸ hVq)
        have mq9 : bMap W9 q Lq := mq.kp K9 hqr
        refine ⟨W9, .inr ⟨_, _, hrun, fun _ => ⟨y, v, W9, hD9.entry, ?_⟩, fun e => (by cases e)⟩⟩
        refine up_calls hS9 (szl hS9) ((iq y).1 (List.mem_map_of_mem (f := Prod.fst) hy)) hq hD9 hVr mq9 iq fun W' V2 T2 lv2 M2 l2 Lq2 c1 c2 c3 c4 c5 c6 c7 c8 c9 => ?_
        exact ⟨Lq2.length, c7, V2, T2, lv2, M2, l2, Lq2, rfl, c1, c2, c3, c4, c5, c6, fun x hx y hy => hno x hx y (c8 _ _ hy)⟩
  · -- all edges of the part's trees are one level up
    have hpe : p = part.length := by omega
    subst hpe
    rw [List.take_length] at hno
    have full0 : ∀ e ∈ EL lv' i, Cn (EL lv' i) uu e.1 → e ∈ EL lv' (i + 1) := fun e he hce => by
      have hed := hS.inv.rg i e he
      obtain ⟨ℓ, hl1, hl2⟩ := (hS.inv.frt i e).1 he
      by_cases hli : ℓ = i
      · subst hli
        refine absurd ((hS.st.tr ℓ (e.1 : Int) (e.2 : Int)).2 ?_) (hno e.1 ((mpart _).2 ⟨by omega, by rw [← hS.el ℓ (Nat.le_refl _)]; exact hce⟩) _)
        rw [pk_nat, show pairE e.1 e.2 = e by unfold pairE; rw [Nat.min_eq_left (by omega), Nat.max_eq_right (by omega)]]
        exact hl2
      · exact (hS.inv.frt (i + 1) e).2 ⟨ℓ, by omega, hl2⟩
    have toEnd : ∀ {W V T' lv' M' l'}, StG w5 base g N len U deg lv i l0 W V T' lv' M' l' → HG W base g N len (extS U w1 W) T' lv' M' deg ∧ Kp w1 W U := fun {W V T' lv' M' l'} hh => by
      refine ⟨hh.hg.wide (fun q hq => ?_) (fun q hq => ?_), (Kp.of_none (S := U) (grown_trans gd g5)).then hh.kp (fun _ _ e => e)⟩
      · rcases hh.vu q hq with e | e
        · exact .inl e
        · exact .inr ⟨by omega, (hh.hg.lt q hq).2⟩
      · rcases hq with e | e
        · have := h.hg.lt q e; have := hh.kp.size; omega
        · exact ⟨by omega, e.2⟩
    refine ⟨fun m j W => ∃ (p : Nat) (V : Nat → Prop) (T' : Tp) (lv' : List LV) (M' : EMap) (l' : LV), j = p ∧ p ≤ part.length ∧ m = part.length - p ∧ Lp w5 base g N len U deg lv M uu vv i l0 W V T' lv' M' l' ∧ (∀ e ∈ EL lv' i, Cn (EL lv' i) uu e.1 → e ∈ EL lv' (i + 1)) ∧ (∀ x ∈ part.take p, ∀ y, ¬ OL lv' i (x : Int) y), ⟨_, 0, _, _, _, _, _, rfl, by omega, rfl, hS, full0, fun x hx => by simp at hx⟩, ?_⟩
    clear hS hno full0
    rintro m j W ⟨p, V, T', lv', M', l', rfl, hp, rfl, hS, full, hno⟩
    have tp : (p : Int).toNat = p := by omega
    refine ⟨fun hlt => ?_, fun hge => ?_⟩
    · have lp : p < part.length := by omega
      obtain ⟨a1, ea, ec⟩ := row W hS.st.kp p lp
      have hL' := hS.st.hg.lev l' (List.mem_of_getElem? hS.st.li)
      have hcx := ((mpart _).1 (List.getElem_mem lp)).2
      have hnext : ∀ (lv2 : List LV), (∀ x ∈ part.take p, ∀ y, ¬ OL lv2 i (x : Int) y) → (∀ y, ¬ OL lv2 i (part[p] : Int) y) → ∀ x ∈ part.take (p + 1), ∀ y, ¬ OL lv2 i (x : Int) y := fun lv2 h1 h2 x hx y => by
        rw [List.take_succ_eq_append_getElem lp] at hx
        rcases List.mem_append.1 hx with e | e
        · exact h1 x e y
        · simp at e; subst e; exact h2 y
      refine ⟨a1, ea, by omega, by omega, (part[p] : Int), by rw [tp]; exact ec, _, rfl, some l'.o, by rw [add_blk, ← hS.st.same.b]; exact blk_cell hL'.blk 2, getK l'.OO (part[p] : Int), hL'.ot.look (okx p lp), ?_⟩
      cases hgk : getK l'.OO (part[p] : Int) with
      | none =>
        have hnone : ∀ y, ¬ OL lv' i (part[p] : Int) y := fun y hy => by
          rw [OL_some hS.st.li] at hy
          obtain ⟨q, hq⟩ := hL'.ot.out _ _ hy
          exact getK_none.1 hgk _ hq rfl
        have gA := World.grownBy_alloc W (.mapIter none 0 #[] 0) none
        refine ⟨_, _, range_nil Try.underlying107 W, fun m W8 => W8 = W.alloc (.mapIter none 0 #[] 0), ⟨0, rfl⟩, ?_⟩
        rintro m2 W8 rfl
        refine ⟨_, .inl ⟨next_nil (heap_alloc_new W _) 0, fun e => (by cases e), fun _ => ⟨by simp only [InK]; omega, part.length - (p + 1), by omega, p + 1, V, T', lv', M', l', by omega, by omega, by omega, hS.kept gA, full, hnext lv' hno hnone⟩⟩⟩
      | some q =>
        have hq : ((part[p] : Int), q) ∈ l'.OO := hL'.ot.get.1 hgk
        obtain ⟨Lq, mq, iq⟩ := hL'.ot.inner _ hq
        obtain ⟨o, rr, hDr⟩ := Dr.begin (P := P) Try.underlying107 mq
        have gA := World.grownBy_alloc W o none
        have hVr : ¬ V W.heap.size := fun e => by have := (hS.st.hg.lt _ e).2; omega
        have hr5 : w5.heap.size ≤ W.heap.size := hS.st.kp.size
        obtain ⟨r, hr⟩ : ∃ r, r = W.heap.size := ⟨_, rfl⟩
        rw [← hr] at rr hDr hVr hr5
        refine ⟨_, _, rr, fun m2 W8 => ∃ (V : Nat → Prop) (T' : Tp) (lv' : List LV) (M' : EMap) (l' : LV) (Lq : List (Int × Bool)), m2 = Lq.length ∧ Lp w5 base g N len U deg lv M uu vv i l0 W8 V T' lv' M' l' ∧ (∀ e ∈ EL lv' i, Cn (EL lv' i) uu e.1 → e ∈ EL lv' (i + 1)) ∧ ((part[p] : Int), q) ∈ l'.OO ∧ Dr intV Value.bool W8 r q (none : Option (Int × Bool)) ∧ ¬ V r ∧ bMap W8 q Lq ∧ (∀ z, z ∈ Lq.map Prod.fst ↔ OL lv' i (part[p] : Int) z) ∧ (∀ x ∈ part.take p, ∀ y, ¬ OL lv' i (x : Int) y), ⟨_, V, T', lv', M', l', Lq, rfl, hS.kept gA, full, hq, hDr, hVr, mq.kept gA, fun z => by rw [OL_some hS.st.li]; exact iq z, hno⟩, ?_⟩
        clear hS hno full hL' hgk hq mq iq hDr rr gA hVr hr ea ec
        rintro m2 W8 ⟨V, T', lv', M', l', Lq, rfl, hS, full, hq, hDr, hVr, mq, iq, hno⟩
        have hL' := hS.st.hg.lev l' (List.mem_of_getElem? hS.st.li)
        rcases hDr.next (P := P) mq 0 with ⟨hnil, hrun⟩ | ⟨⟨y, v⟩, hy, W9, hrun, hD9, K9⟩
        · refine ⟨W8, .inl ⟨hrun, fun e => (by cases e), fun _ => ⟨by simp only [InK]; omega, part.length - (p + 1), by omega, p + 1, V, T', lv', M', l', by omega, by omega, by omega, hS, full, hnext lv' hno fun y hy => ?_⟩⟩⟩
          have := (iq y).2 hy
          rw [hnil] at this
          simp at this
        · have hVq : V q := hS.st.hg.inL l' (List.mem_of_getElem? hS.st.li) q (.inr (.inr (.inr (hL'.ot.qF _ hq).1)))
          have hS9 := hS.iter K9 hVr hr5
          have hqr : q ≠ r := fun e => hVr (e ▸ hVq)
          have mq9 : bMap W9 q Lq := mq.kp K9 hqr
          refine ⟨W9, .inr ⟨_, _, hrun, fun _ => ⟨y, v, W9, hD9.entry, ?_⟩, fun e => (by cases e)⟩⟩
          refine seek_calls hS9 (szl hS9) ((iq y).1 (List.mem_map_of_mem (f := Prod.fst) hy)) rfl (by rw [hS9.el i (Nat.le_refl _)]; exact hcx) full hq hD9 hVr mq9 iq (fun W' V2 T2 lv2 M2 l2 Lq2 c1 c2 c3 c4 c5 c6 c7 c8 c9 c10 => ?_) (fun W' V2 T2 lv2 M2 l2 c1 c2 c3 => ?_)
          · exact ⟨Lq2.length, c7, V2, T2, lv2, M2, l2, Lq2, rfl, c1, by rw [c10, c10]; exact full, c2, c3, c4, c5, c6, fun x hx y hy => hno x hx y (c8 _ _ hy)⟩
          · obtain ⟨d1, d2⟩ := toEnd c1
            exact ⟨true, rfl, T2, lv2, M2, ⟨d1, c1.tr, c1.ot, c1.lev, by rw [if_pos rfl]; exact hback _ _ _ c2⟩, d2, c1.len1, c1.len2, c3⟩
    · have hpe : p = part.length := by omega
      subst hpe
      rw [List.take_length] at hno
      obtain ⟨d1, d2⟩ := toEnd hS.st
      refine ⟨false, rfl, T', lv', M', ⟨d1, hS.st.tr, hS.st.ot, hS.st.lev, ?_⟩, d2, hS.st.len1, hS.st.len2, hS.iss⟩
      rw [if_neg (by simp)]
      refine hback _ _ _ (hS.inv.down fun e he => ?_)
      have hed := hS.inv.edge he
      have hpe : pairE e.1 e.2 = e := by unfold pairE; rw [Nat.min_eq_left (by omega), Nat.max_eq_right (by omega)]
      have hel := hS.el i (Nat.le_refl _)
      refine ⟨fun hc => hno e.1 ((mpart _).2 ⟨by omega, by rw [← hel]; exact hc⟩) (e.2 : Int) ((hS.st.ot i _ _).2 ?_), fun hc => hno e.2 ((mpart _).2 ⟨by omega, by rw [← hel]; exact hc⟩) (e.1 : Int) ((hS.st.ot i _ _).2 ?_)⟩
      · rw [pk_nat, hpe]; exact he
      · rw [pk_comm, pk_nat, hpe]; exact he
end
end Go.Proofs.Ytpfkpmapimonbaa
