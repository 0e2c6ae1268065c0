/- Own texts, packed: Z18, Z19, Z20. -/
import Derived.Test.YtpfkpmapimonbaaGTBg

/-! tour.Link: the walk. -/
namespace Go.Proofs.Ytpfkpmapimonbaa
open Go Go.V Go.RowKit
set_option linter.unusedVariables false
set_option linter.unusedSimpArgs false
set_option maxHeartbeats 4000000
set_option maxRecDepth 100000

section
variable {w w' : World} {base f g N : Nat} {S : Nat → Prop} {L : List Nd} {M : List (Arc × Nat)} {free : List Nat} {σ : Nat → List Nat} {lab : Nat → It} {E : List (Nat × Nat)}
/-- A forest in memory and what it is. -/
def FG (w : World) (base f g N : Nat) (S : Nat → Prop) (len : Nat) (σ : Nat → List Nat) (E : List (Nat × Nat)) : Prop :=
  ∃ (L : List Nd) (M : List (Arc × Nat)) (free : List Nat) (lab : Nat → It), L.length ≤ len ∧ FO w base f g N S L M free ∧ TG N L σ M free lab E
theorem FO.ptr (h : FO w base f g N S L M free) : w.cell? ⟨f, 0, none⟩ = some (.pointer (some ⟨g, 0, none⟩)) := by
  obtain ⟨mb, A, n, c, B, m, k, seed, hM, s, hS, c0, c1, c2, c3⟩ := h.open
  exact c0
theorem fjoin_calls (h : FO w base f g N S L M free) (hs : ArS L σ) (hL : L.length ≤ 2 ^ 20) {x y : Nat} (hx : x < L.length) (hy : y < L.length) (ne : σ x ≠ σ y) :
    Calls P 47 #[.pointer (some ⟨g, 0, none⟩), .int .i64 x, .int .i64 y] w fun ev w' => ev = .returned (.bool true) ∧ ∃ L', L'.length = L.length ∧ FO w' base f g N S L' M free ∧ ArS L' (joinS σ x y) ∧ Kp w w' S := by
  obtain ⟨mb, A, n, c, B, m, k, seed, hM, hS1, hS, c0, c1, c2, c3⟩ := h.open
  refine (join_calls21 hM.ar hs hL hx hy).mono fun ev w1 hh => ?_
  obtain ⟨rfl, L1, hl1, a1, a2, K1⟩ := hh
  obtain ⟨hM2, hS2, K2⟩ := FO.step hM hS1 hS a1 K1
  rw [if_neg ne] at a2
  exact ⟨by rw [decide_eq_true ne], L1, hl1, ⟨mb, A, n, c, B, m, k, seed, hM2, hS1, hS2⟩, a2, K2⟩
theorem link_calls (h : FO w base f g N S L M free) (hT : TG N L σ M free lab E) (hb : base ≤ w.heap.size) (hL : L.length + 2 ≤ 2 ^ 20) (u v : Int) :
    Calls P 15 #[.pointer (some ⟨f, 0, none⟩), .int .i64 u, .int .i64 v] w fun ev w' => ev = .returned (.bool (decide ((0 ≤ u ∧ u < N) ∧ (0 ≤ v ∧ v < N) ∧ σ u.toNat ≠ σ v.toNat))) ∧
      ∃ σ', FG w' base f g N (extS S w w') (L.length + 2) σ' (if (0 ≤ u ∧ u < N) ∧ (0 ≤ v ∧ v < N) ∧ σ u.toNat ≠ σ v.toNat then E ++ [pairE u.toNat v.toNat] else E) ∧ Kp w w' S ∧ (¬ ((0 ≤ u ∧ u < N) ∧ (0 ≤ v ∧ v < N) ∧ σ u.toNat ≠ σ v.toNat) → σ' = σ) := by
  apply vc15; unfold VC15; try (conv => zeta)
  have hle := hT.le
  have no : ∀ W, w.grownBy W none → ¬ ((0 ≤ u ∧ u < N) ∧ (0 ≤ v ∧ v < N) ∧ σ u.toNat ≠ σ v.toNat) → Ending.returned (.bool false) = Ending.returned (.bool (decide ((0 ≤ u ∧ u < N) ∧ (0 ≤ v ∧ v < N) ∧ σ u.toNat ≠ σ v.toNat))) ∧
      ∃ σ', FG W base f g N (extS S w W) (L.length + 2) σ' (if (0 ≤ u ∧ u < N) ∧ (0 ≤ v ∧ v < N) ∧ σ u.toNat ≠ σ v.toNat then E ++ [pairE u.toNat v.toNat] else E) ∧ Kp w W S ∧ (¬ ((0 ≤ u ∧ u < N) ∧ (0 ≤ v ∧ v < N) ∧ σ u.toNat ≠ σ v.toNat) → σ' = σ) := fun W gW hn => ⟨by rw [decide_eq_false hn], σ, ⟨L, M, free, lab, by omega, (h.kept gW).ext, by rw [if_neg hn]; exact hT⟩, Kp.of_none gW, fun _ => rfl⟩
  refine (fhas_calls h u).mono fun ev w1 hh => ?_
  obtain ⟨rfl, rfl⟩ := hh
  refine ⟨_, rfl, fun h1 => no _ (grown_refl _ _) (fun h' => (of_decide_eq_false h1) h'.1), fun h1 => (fhas_calls h v).mono fun ev w2 hh => ?_⟩
  obtain ⟨rfl, rfl⟩ := hh
  have hu : 0 ≤ u ∧ u < (N : Int) := by simpa using h1
  refine ⟨_, rfl, fun h2 => no _ (grown_refl _ _) (fun h' => (of_decide_eq_false h2) h'.2.1), fun h2 => ?_⟩
  have hv : 0 ≤ v ∧ v < (N : Int) := by simpa using h2
  obtain ⟨u, rfl⟩ : ∃ a : Nat, u = a := ⟨u.toNat, by omega⟩
  obtain ⟨v, rfl⟩ : ∃ a : Nat, v = a := ⟨v.toNat, by omega⟩
  simp only [Int.toNat_natCast] at no ⊢
  refine ⟨_, rfl, _, h.ptr, ?_⟩
  obtain ⟨mb, A, n, c, B, m, k, seed, hM, hS1, hS, _, _, _, _⟩ := h.open
  refine (same_calls hM.ar hT.ars (x := u) (y := v) (by omega) (by omega)).mono fun ev w3 hh => ?_
  obtain ⟨rfl, rfl⟩ := hh
  refine ⟨_, rfl, fun h3 => no _ (grown_refl _ _) (fun h' => h'.2.2 (of_decide_eq_true h3)), fun h3 => ?_⟩
  have ne : σ u ≠ σ v := of_decide_eq_false h3
  have yes : (0 ≤ (u : Int) ∧ (u : Int) < N) ∧ (0 ≤ (v : Int) ∧ (v : Int) < N) ∧ σ u ≠ σ v := ⟨hu, hv, ne⟩
  have huN : u < N := by omega
  have hvN : v < N := by omega
  -- both tours begin at the ends
  obtain ⟨p, q, hpq⟩ := List.append_of_mem (hT.ars.self (x := u) (by omega))
  refine (first_calls h hT.ars (by omega) (x := u) (by omega) hpq).mono fun ev w4 hh => ?_
  obtain ⟨rfl, L1, hl1, f1, s1, K1⟩ := hh
  have T1 := hT.turn huN hpq hl1 s1
  have hvu : v ∉ σ u := fun h' => ne (hT.ars.eq h').symm
  have e1u : replS σ (u :: q ++ p) u = u :: (q ++ p) := if_pos (by simp)
  have e1v : replS σ (u :: q ++ p) v = σ v := if_neg (fun h' => hvu (by rw [hpq]; simpa [or_comm, or_assoc, or_left_comm] using h'))
  obtain ⟨σ1, hσ1⟩ : ∃ σ1, σ1 = replS σ (u :: q ++ p) := ⟨_, rfl⟩
  rw [← hσ1] at s1 T1 e1u e1v
  obtain ⟨p', q', hpq'⟩ := List.append_of_mem (s1.self (x := v) (by omega))
  refine ⟨rfl, (first_calls f1 s1 (by omega) (x := v) (by omega) hpq').mono fun ev w5 hh => ?_⟩
  obtain ⟨rfl, L2, hl2, f2, s2, K2⟩ := hh
  have T2 := T1.turn hvN hpq' hl2 s2
  have huv1 : u ∉ σ1 v := fun h' => by
    have := s1.eq h'
    have h2 := s1.self (x := v) (by omega)
    rw [← this, e1u] at h2
    exact hvu (by rw [hpq]; simpa [or_comm, or_assoc, or_left_comm] using h2)
  have e2v : replS σ1 (v :: q' ++ p') v = v :: (q' ++ p') := if_pos (by simp)
  have e2u : replS σ1 (v :: q' ++ p') u = u :: (q ++ p) := by
    rw [show replS σ1 (v :: q' ++ p') u = σ1 u from if_neg (fun h' => huv1 (by rw [hpq']; simpa [or_comm, or_assoc, or_left_comm] using h')), e1u]
  obtain ⟨σ2, hσ2⟩ : ∃ σ2, σ2 = replS σ1 (v :: q' ++ p') := ⟨_, rfl⟩
  rw [← hσ2] at s2 T2 e2u e2v
  have hvu2 : v ∉ σ2 u := fun h' => by
    have h3 := s2.eq h'
    have h2 := s2.self (x := u) (by omega)
    rw [← h3, e2v] at h2
    exact huv1 (by rw [hpq']; simpa [or_comm, or_assoc, or_left_comm] using h2)
  have ne2 : σ2 u ≠ σ2 v := fun e => hvu2 (by rw [e]; exact s2.self (by omega))
  have K12 : Kp w3 w5 S := K1.then K2 (fun _ _ e => e)
  have gd := grown_drew (grown_refl w5 none)
  have f2d := f2.kept gd
  have L2e : L2.length = L.length := by omega
  refine ⟨rfl, fun W => W.cell? ⟨f, 0, none⟩ = some (.pointer (some ⟨g, 0, none⟩)), f2d.ptr, _, rfl, _, fun W hW => hW, ?_⟩
  obtain ⟨w6, hw6⟩ : ∃ w6, w6 = w5.drew := ⟨_, rfl⟩
  rw [← hw6] at gd f2d ⊢
  have K6 : Kp w3 w6 S := K12.step gd (fun q hq => by cases hq)
  have hfl := T2.free_len
  refine (fnode_calls f2d (Nat.le_trans hb K6.size) (a := ((u : Int), (v : Int))) ⟨⟨by omega, by omega⟩, ⟨by omega, by omega⟩⟩ (by omega) (by omega)).mono fun ev w7 hh => ?_
  obtain ⟨k1, L3, free3, rfl, f3, K7, hk1⟩ := hh
  refine ⟨_, rfl, f3.ptr, ?_⟩
  -- the first new node
  have a1 : ∀ z, z ≠ k1 → k1 ∉ σ2 z := s2.alone_not (by
    rcases hk1 with ⟨e, _⟩ | ⟨_, _, e, _⟩
    · exact .inl (T2.tour.fre.2 k1 (by rw [e]; simp)).2.2.1
    · exact .inr (by omega))
  have k1N : N ≤ k1 := by
    rcases hk1 with ⟨e, _⟩ | ⟨_, _, e, _⟩
    · exact (T2.tour.fre.2 k1 (by rw [e]; simp)).1
    · have := T2.le; omega
  have s3 : ArS L3 (nodeS σ2 k1) := by
    rcases hk1 with ⟨e, e'⟩ | ⟨_, _, e, r, e'⟩
    · rw [nodeS_id (T2.tour.fre.2 k1 (by rw [e]; simp)).2.2.1, e']; exact s2
    · rw [e, e']; exact s2.node
  have k1L : k1 < L3.length := by
    rcases hk1 with ⟨e, e'⟩ | ⟨_, _, e, r, e'⟩
    · rw [e']; exact (T2.tour.fre.2 k1 (by rw [e]; simp)).2.1
    · rw [e', e]; simp
  have l3 : L2.length ≤ L3.length ∧ L3.length ≤ L.length + 1 := by
    rcases hk1 with ⟨e, e'⟩ | ⟨_, _, e, r, e'⟩
    · rw [e']; omega
    · rw [e']; simp; omega
  have n1u : nodeS σ2 k1 u = σ2 u := if_neg (by omega)
  have n1v : nodeS σ2 k1 v = σ2 v := if_neg (by omega)
  have n1k : nodeS σ2 k1 k1 = [k1] := if_pos rfl
  have uU : u ∈ σ2 u := s2.self (by omega)
  have k1U : k1 ∉ σ2 u := a1 u (by omega)
  have k1V : k1 ∉ σ2 v := a1 v (by omega)
  refine (fjoin_calls f3 s3 (by omega) (x := u) (y := k1) (by omega) k1L (by rw [n1u, n1k]; intro e; exact k1U (by rw [e]; simp))).mono fun ev w8 hh => ?_
  obtain ⟨rfl, L4, hl4, f4, s4, K8⟩ := hh
  have g4 : joinS (nodeS σ2 k1) u k1 = replS (nodeS σ2 k1) (σ2 u ++ [k1]) := by
    have e : nodeS σ2 k1 = replS (nodeS σ2 k1) (σ2 u) := by
      conv => lhs; rw [s2.repl u]
      exact nodeS_repl k1U
    conv => lhs; rw [e]
    rw [joinS_repl uU k1U, n1k]
  rw [g4] at s4
  refine ⟨_, rfl, f4.ptr, _, rfl, _, f4.ptr, ?_⟩
  have vS : v ∉ σ2 u ++ [k1] := by simp [hvu2]; omega
  have e4u : replS (nodeS σ2 k1) (σ2 u ++ [k1]) u = σ2 u ++ [k1] := if_pos (by simp [uU])
  have e4v : replS (nodeS σ2 k1) (σ2 u ++ [k1]) v = σ2 v := by rw [show replS (nodeS σ2 k1) (σ2 u ++ [k1]) v = nodeS σ2 k1 v from if_neg vS, n1v]
  refine (fjoin_calls f4 s4 (by omega) (x := u) (y := v) (by omega) (by omega) (by rw [e4u, e4v]; intro e; exact vS (by rw [e]; exact s2.self (by omega)))).mono fun ev w9 hh => ?_
  obtain ⟨rfl, L5, hl5, f5, s5, K9⟩ := hh
  rw [joinS_repl (by simp [uU]) vS, n1v] at s5
  have gd9 := grown_drew (grown_refl w9 none)
  have f5d := f5.kept gd9
  refine ⟨_, rfl, fun W => W.cell? ⟨f, 0, none⟩ = some (.pointer (some ⟨g, 0, none⟩)), f5d.ptr, _, rfl, _, fun W hW => hW, ?_⟩
  obtain ⟨w10, hw10⟩ : ∃ w10, w10 = w9.drew := ⟨_, rfl⟩
  rw [← hw10] at gd9 f5d ⊢
  have K10' : Kp w6 w10 S := ((K7.then K8 (fun q hq e => e.elim id (fun h => by omega))).then K9 (fun q hq e => e.elim id (fun h => by have := K7.size; omega))).step gd9 (fun q hq => by cases hq)
  have K10 : Kp w3 w10 S := K6.then K10' (fun _ _ e => e)
  have free3len : free3.length ≤ 2 ^ 30 := by
    rcases hk1 with ⟨e, _⟩ | ⟨_, e, _⟩
    · rw [e] at hfl; simp at hfl; omega
    · rw [e]; simp
  refine (fnode_calls f5d (Nat.le_trans hb K10.size) (a := ((v : Int), (u : Int))) ⟨⟨by omega, by omega⟩, ⟨by omega, by omega⟩⟩ (by omega) free3len).mono fun ev w11 hh => ?_
  obtain ⟨k2, L6, free6, rfl, f6, K11, hk2⟩ := hh
  refine ⟨_, rfl, f6.ptr, ?_⟩
  -- the second new node
  have fr2 : k2 ∈ free3 → k2 ∈ free ∧ k2 ≠ k1 := by
    intro hm
    rcases hk1 with ⟨e, _⟩ | ⟨_, e, _⟩
    · refine ⟨by rw [e]; simp [hm], fun e2 => ?_⟩
      have := T2.tour.fre.1
      rw [e, List.nodup_append] at this
      exact this.2.2 k2 hm k1 (by simp) e2
    · rw [e] at hm; simp at hm
  have k2c : (k2 ∈ free ∧ k2 ≠ k1 ∧ k2 < L6.length ∧ k2 < L2.length) ∨ (k2 = L5.length ∧ L6.length = L5.length + 1) := by
    rcases hk2 with ⟨e, e'⟩ | ⟨_, _, e, r, e'⟩
    · left
      obtain ⟨h1, h2⟩ := fr2 (by rw [e]; simp)
      have := (T2.tour.fre.2 k2 h1).2.1
      exact ⟨h1, h2, by rw [e']; omega, this⟩
    · right; exact ⟨e, by rw [e']; simp⟩
  have k12 : k1 ≠ k2 := by
    rcases k2c with ⟨_, h, _⟩ | ⟨h, _⟩
    · exact h.symm
    · omega
  have a2 : ∀ z, z ≠ k2 → k2 ∉ σ2 z := s2.alone_not (by
    rcases k2c with ⟨h, _⟩ | ⟨h, _⟩
    · exact .inl (T2.tour.fre.2 k2 h).2.2.1
    · exact .inr (by omega))
  have k2N : N ≤ k2 := by
    rcases k2c with ⟨h, _⟩ | ⟨h, _⟩
    · exact (T2.tour.fre.2 k2 h).1
    · have := T2.le; omega
  have k2L : k2 < L6.length := by
    rcases k2c with ⟨_, _, h, _⟩ | ⟨h, h'⟩ <;> omega
  have l6 : L5.length ≤ L6.length ∧ L6.length ≤ L5.length + 1 := by
    rcases hk2 with ⟨e, e'⟩ | ⟨_, _, e, r, e'⟩
    · rw [e']; omega
    · rw [e']; simp
  have k2S : k2 ∉ σ2 u ++ [k1] ++ σ2 v := by
    simp only [List.mem_append, List.mem_singleton, not_or]
    exact ⟨⟨a2 u (by omega), k12.symm⟩, a2 v (by omega)⟩
  have s6 : ArS L6 (nodeS (replS (nodeS σ2 k1) (σ2 u ++ [k1] ++ σ2 v)) k2) := by
    rcases hk2 with ⟨e, e'⟩ | ⟨_, _, e, r, e'⟩
    · have hm := (fr2 (by rw [e]; simp)).1
      rw [nodeS_id, e']
      · exact s5
      · rw [show replS (nodeS σ2 k1) (σ2 u ++ [k1] ++ σ2 v) k2 = nodeS σ2 k1 k2 from if_neg k2S, show nodeS σ2 k1 k2 = σ2 k2 from if_neg k12.symm]
        exact (T2.tour.fre.2 k2 hm).2.2.1
    · rw [e, e']; exact s5.node
  rw [nodeS_repl k2S] at s6
  have uS : u ∈ σ2 u ++ [k1] ++ σ2 v := by simp [uU]
  have e6u : replS (nodeS (nodeS σ2 k1) k2) (σ2 u ++ [k1] ++ σ2 v) u = σ2 u ++ [k1] ++ σ2 v := if_pos uS
  have n2k : nodeS (nodeS σ2 k1) k2 k2 = [k2] := if_pos rfl
  have e6k : replS (nodeS (nodeS σ2 k1) k2) (σ2 u ++ [k1] ++ σ2 v) k2 = [k2] := by rw [show replS (nodeS (nodeS σ2 k1) k2) (σ2 u ++ [k1] ++ σ2 v) k2 = nodeS (nodeS σ2 k1) k2 k2 from if_neg k2S, n2k]
  refine (fjoin_calls f6 s6 (by omega) (x := u) (y := k2) (by omega) k2L (by rw [e6u, e6k]; intro e; exact k2S (by rw [e]; simp))).mono fun ev w12 hh => ?_
  obtain ⟨rfl, L7, hl7, f7, s7, K12'⟩ := hh
  rw [joinS_repl uS k2S, n2k] at s7
  have hf6 : free6.Nodup ∧ ∀ k ∈ free6, k ∈ free ∧ k ≠ k1 ∧ k ≠ k2 := by
    have hd3 : free3.Nodup ∧ ∀ k ∈ free3, k ∈ free ∧ k ≠ k1 := by
      rcases hk1 with ⟨e, _⟩ | ⟨_, e, _⟩
      · have := T2.tour.fre.1
        rw [e, List.nodup_append] at this
        exact ⟨this.1, fun k hk => ⟨by rw [e]; simp [hk], fun e2 => this.2.2 k hk k1 (by simp) e2⟩⟩
      · rw [e]; exact ⟨by simp, fun k hk => by simp at hk⟩
    rcases hk2 with ⟨e, _⟩ | ⟨_, e, _⟩
    · have := hd3.1
      rw [e, List.nodup_append] at this
      exact ⟨this.1, fun k hk => ⟨(hd3.2 k (by rw [e]; simp [hk])).1, (hd3.2 k (by rw [e]; simp [hk])).2, fun e2 => this.2.2 k hk k2 (by simp) e2⟩⟩
    · rw [e]; exact ⟨by simp, fun k hk => by simp at hk⟩
  have TF := T2.link (L' := L7) (k1 := k1) (k2 := k2) huN hvN e2u e2v ne2 k12 ⟨k1N, by omega⟩ ⟨k2N, by omega⟩ (by omega) a1 a2 hf6 s7
  have K13 : Kp w3 w12 S := (K10.then K11 (fun q hq e => e.elim id (fun h => by have := K6.size; omega))).then K12' (fun q hq e => by
    have h6 := K6.size
    have h7 := K7.size
    have h8 := K8.size
    have h9 := K9.size
    have h10 := K10.size
    rcases e with (e | e) | e
    · exact e
    · omega
    · omega)
  refine ⟨_, rfl, f7.ptr, by rw [decide_eq_true yes], _, ⟨L7, _, free6, _, by omega, f7.widen (fun q hq => ?_) (fun q hq => ?_), by rw [if_pos yes]; exact TF⟩, K13, fun h' => absurd yes h'⟩
  · have h6 := K6.size
    have h7 := K7.size
    have h8 := K8.size
    have h9 := K9.size
    have h10 := K10.size
    have h11 := K11.size
    have h12 := K12'.size
    have h10' := K10'.size
    have hg9 := gd9.size
    rcases hq with (hq | hq) | hq
    · exact .inl hq
    · exact .inr ⟨by omega, by omega⟩
    · exact .inr ⟨by omega, by omega⟩
  · rcases hq with hq | hq
    · exact Nat.lt_of_lt_of_le (hS q hq) K13.size
    · exact hq.2
end
end Go.Proofs.Ytpfkpmapimonbaa

/-! tour.Cut: the walk. -/
namespace Go.Proofs.Ytpfkpmapimonbaa
open Go Go.V Go.RowKit
set_option linter.unusedVariables false
set_option linter.unusedSimpArgs false
set_option maxHeartbeats 4000000
set_option maxRecDepth 100000

theorem lookA {w : World} {b : Nat} {M : List (Arc × Nat)} (h : MapA w b M) {k : Arc} (hk : okArc k) : Sem.run P (Instr.lookup 58 (.map (some b)) (arcV k) false) w = .ok (.int .i64 (match getK M k with | some x => (x : Int) | none => 0)) w := by
  have := MapAt.look keyA (mt := 58) (et := 3) Try.underlying58 (zero_int w) h hk false
  rw [this]
  cases getK M k <;> rfl
theorem lookA2 {w : World} {b : Nat} {M : List (Arc × Nat)} (h : MapA w b M) {k : Arc} (hk : okArc k) : Sem.run P (Instr.lookup 58 (.map (some b)) (arcV k) true) w = .ok (.tuple #[.int .i64 (match getK M k with | some x => (x : Int) | none => 0), .bool (getK M k).isSome]) w := by
  have := MapAt.look keyA (mt := 58) (et := 3) Try.underlying58 (zero_int w) h hk true
  rw [this]
  cases getK M k <;> rfl
/-- What the steps of a cut come to. -/
theorem fcut_steps {σ : Nat → List Nat} {p X q : List Nat} {a b : Nat} (hd : (p ++ a :: (X ++ b :: q)).Nodup) {σ1 σ2 σ3 σ4 : Nat → List Nat} (e1 : σ1 = if p = [] then σ else cutS σ p (a :: (X ++ b :: q))) (e2 : σ2 = cutS σ1 (a :: X) (b :: q)) (e3 : σ3 = cutS σ2 [a] X) (e4 : σ4 = if q = [] then σ3 else cutS σ3 [b] q) :
    (p = [] ∨ q = [] → σ4 = fcut σ p a X b q) ∧ ∀ x y, x ∈ p → y ∈ q → σ4 x = p ∧ σ4 y = q ∧ joinS σ4 x y = fcut σ p a X b q := by
  rw [List.nodup_append] at hd
  obtain ⟨dp, hd3, dpr⟩ := hd
  rw [List.nodup_cons] at hd3
  obtain ⟨daX, hd4⟩ := hd3
  rw [List.nodup_append] at hd4
  obtain ⟨dX, hd5, dXr⟩ := hd4
  rw [List.nodup_cons] at hd5
  obtain ⟨dbq, dq⟩ := hd5
  have aX : a ∉ X := fun h' => daX (by simp [h'])
  have ab : a ≠ b := fun h' => daX (by simp [h'])
  have aq : a ∉ q := fun h' => daX (by simp [h'])
  have ap : a ∉ p := fun h' => dpr a h' a (by simp) rfl
  have bp : b ∉ p := fun h' => dpr b h' b (by simp) rfl
  have bX : b ∉ X := fun h' => dXr b h' b (by simp) rfl
  have pX : ∀ z, z ∈ p → z ∉ X := fun z h1 h2 => dpr z h1 z (by simp [h2]) rfl
  have pq : ∀ z, z ∈ p → z ∉ q := fun z h1 h2 => dpr z h1 z (by simp [h2]) rfl
  have qX : ∀ z, z ∈ q → z ∉ X := fun z h1 h2 => dXr z h2 z (by simp [h1]) rfl
  -- each node's sequence at last, but for p and q
  have atX : ∀ z, z ∈ X → σ4 z = X := fun z hz => by
    have za : z ≠ a := fun e => aX (e ▸ hz)
    have zb : z ≠ b := fun e => bX (e ▸ hz)
    have zq : z ∉ q := fun h' => qX z h' hz
    have h3 : σ3 z = X := by rw [e3]; simp [cutS, za, hz]
    rw [e4]; split
    · exact h3
    · simp [cutS, zb, zq, h3]
  have atA : σ4 a = [a] := by
    have h3 : σ3 a = [a] := by rw [e3]; simp [cutS]
    rw [e4]; split
    · exact h3
    · simp [cutS, ab, aq, h3]
  have atB : σ4 b = [b] := by
    have h2 : σ2 b = b :: q := by rw [e2]; simp [cutS, ab.symm, bX]
    have h3 : σ3 b = b :: q := by rw [e3]; simp [cutS, ab.symm, bX, h2]
    rw [e4]; split
    · rename_i hq; rw [h3, hq]
    · simp [cutS]
  have atP : ∀ z, z ∈ p → σ4 z = p := fun z hz => by
    have za : z ≠ a := fun e => ap (e ▸ hz)
    have zb : z ≠ b := fun e => bp (e ▸ hz)
    have zq := pq z hz
    have zX := pX z hz
    have hp : p ≠ [] := fun e => by rw [e] at hz; simp at hz
    have h1 : σ1 z = p := by rw [e1, if_neg hp]; simp [cutS, hz]
    have h2 : σ2 z = p := by rw [e2]; simp [cutS, za, zX, zb, zq, h1]
    have h3 : σ3 z = p := by rw [e3]; simp [cutS, za, zX, h2]
    rw [e4]; split
    · exact h3
    · simp [cutS, zb, zq, h3]
  have atQ : ∀ z, z ∈ q → σ4 z = q := fun z hz => by
    have zb : z ≠ b := fun e => dbq (e ▸ hz)
    have hq : q ≠ [] := fun e => by rw [e] at hz; simp at hz
    rw [e4, if_neg hq]; simp [cutS, zb, hz]
  have atO : ∀ z, z ∉ p → z ≠ a → z ∉ X → z ≠ b → z ∉ q → σ4 z = σ z := fun z zp za zX zb zq => by
    have h1 : σ1 z = σ z := by
      rw [e1]; split
      · rfl
      · simp [cutS, zp, za, zX, zb, zq]
    have h2 : σ2 z = σ z := by rw [e2]; simp [cutS, za, zX, zb, zq, h1]
    have h3 : σ3 z = σ z := by rw [e3]; simp [cutS, za, zX, h2]
    rw [e4]; split
    · exact h3
    · simp [cutS, zb, zq, h3]
  have fin : ∀ τ : Nat → List Nat, (∀ z, z ∈ p → τ z = p ++ q) → (∀ z, z ∈ q → τ z = p ++ q) → (∀ z, z ∉ p → z ∉ q → τ z = σ4 z) → τ = fcut σ p a X b q := by
    intro τ h1 h2 h3
    funext z
    unfold fcut
    by_cases zp : z ∈ p
    · rw [if_pos (by simp [zp]), h1 z zp]
    by_cases zq : z ∈ q
    · rw [if_pos (by simp [zq]), h2 z zq]
    rw [if_neg (by simp [zp, zq]), h3 z zp zq]
    by_cases zX : z ∈ X
    · rw [if_pos zX, atX z zX]
    rw [if_neg zX]
    by_cases za : z = a
    · rw [if_pos za, za, atA]
    rw [if_neg za]
    by_cases zb : z = b
    · rw [if_pos zb, zb, atB]
    rw [if_neg zb, atO z zp za zX zb zq]
  refine ⟨fun h => fin σ4 (fun z hz => ?_) (fun z hz => ?_) (fun _ _ _ => rfl), fun x y hx hy => ⟨atP x hx, atQ y hy, fin _ (fun z hz => ?_) (fun z hz => ?_) (fun z h1 h2 => ?_)⟩⟩
  · rcases h with h | h
    · rw [h] at hz; simp at hz
    · rw [atP z hz, h]; simp
  · rcases h with h | h
    · rw [atQ z hz, h]; simp
    · rw [h] at hz; simp at hz
  · unfold joinS; rw [atP x hx, atQ y hy, if_pos (.inl hz)]
  · unfold joinS; rw [atP x hx, atQ y hy, if_pos (.inr hz)]
  · unfold joinS; rw [atP x hx, atQ y hy, if_neg (fun h' => h'.elim h1 h2)]
section
variable {w w' : World} {base f g N : Nat} {S : Nat → Prop} {L : List Nd} {M : List (Arc × Nat)} {free : List Nat} {σ : Nat → List Nat} {lab : Nat → It} {E : List (Nat × Nat)}
theorem fcutn_calls (h : FO w base f g N S L M free) (hs : ArS L σ) (hL : L.length ≤ 2 ^ 20) {x : Nat} (hx : x < L.length) {p q : List Nat} (hpq : σ x = p ++ x :: q) :
    Calls P 51 #[.pointer (some ⟨g, 0, none⟩), .int .i64 x] w fun ev w' => ev = .returned (.bool (decide (p ≠ []))) ∧ ∃ L', L'.length = L.length ∧ FO w' base f g N S L' M free ∧ ArS L' (if p = [] then σ else cutS σ p (x :: q)) ∧ Kp w w' S := by
  obtain ⟨mb, A, n, c, B, m, k, seed, hM, hS1, hS, c0, c1, c2, c3⟩ := h.open
  refine (cut_calls21 hM.ar hs hL hx hpq).mono fun ev w1 hh => ?_
  obtain ⟨rfl, L1, hl1, a1, a2, K1⟩ := hh
  obtain ⟨hM2, hS2, K2⟩ := FO.step hM hS1 hS a1 K1
  exact ⟨rfl, L1, hl1, ⟨mb, A, n, c, B, m, k, seed, hM2, hS1, hS2⟩, a2, K2⟩
theorem fat_calls (h : FO w base f g N S L M free) (hs : ArS L σ) (hL : L.length ≤ 2 ^ 20) {x i : Nat} (hx : x < L.length) : Calls P 50 #[.pointer (some ⟨g, 0, none⟩), .int .i64 x, .int .i64 i] w fun ev w' => ev = .returned (.int .i64 (match (σ x)[i]? with | some y => (y : Int) | none => -1)) ∧ w' = w := by
  obtain ⟨mb, A, n, c, B, m, k, seed, hM, hS1, hS, c0, c1, c2, c3⟩ := h.open
  exact at_calls hM.ar hs hL hx
theorem findex_calls (h : FO w base f g N S L M free) (hs : ArS L σ) (hL : L.length ≤ 2 ^ 20) {x : Nat} (hx : x < L.length) {p q : List Nat} (hpq : σ x = p ++ x :: q) : Calls P 49 #[.pointer (some ⟨g, 0, none⟩), .int .i64 x] w fun ev w' => ev = .returned (.int .i64 (p.length : Int)) ∧ w.grownBy w' none := by
  obtain ⟨mb, A, n, c, B, m, k, seed, hM, hS1, hS, c0, c1, c2, c3⟩ := h.open
  exact index_calls hM.ar hs hL hx hpq
theorem append_two {w : World} {base : Nat} {A : Option Addr} {n c : Nat} {xs ys : List Int} {a : Addr} (ho : OwnedK w base 3 1 A n c (i64s xs)) (ha : ∀ j u, (i64s ys)[j]? = some u → w.cell? (a.add j) = some u) (hn : n + ys.length ≤ 2 ^ 39) (hb : base ≤ w.heap.size) :
    ∃ (A' : Option Addr) (n' c' : Nat) (w' : World), Sem.run P (Builtin.append_ #[37, 37] 37 #[.slice A n c, .slice (some a) ys.length ys.length]) w = .ok (.slice A' n' c') w' ∧
      OwnedK w' base 3 1 A' n' c' (i64s (xs ++ ys)) ∧ w.grownBy w' (Value.slice A n c).ownBlock ∧ (∀ k, (Value.slice A' n' c').ownBlock = some k → (Value.slice A n c).ownBlock = some k ∨ w.heap.size ≤ k) := by
  obtain ⟨A', n', c', w', h1, h2, h3, h4, h5⟩ := ho.appends (ty := 37) elemI (by omega) (a := a) (m := ys.length) (cc := ys.length) (us := i64s ys) (by simp) ha (fun u hu => by obtain ⟨x, _, rfl⟩ := List.mem_map.1 hu; rfl) (by omega) hb
  refine ⟨A', n', c', w', h1, by simpa using h2, h4, fun k hk => ?_⟩
  rcases h5 with h | h
  · left; rw [← h]; exact hk
  · right; rw [h] at hk; cases hk; exact Nat.le_refl _
theorem FO.bound (h : FO w base f g N S L M free) : ∀ q, S q → q < w.heap.size := by
  obtain ⟨mb, A, n, c, B, m, k, seed, hM, hS1, hS, c0, c1, c2, c3⟩ := h.open
  exact hS
theorem cut_calls (h : FO w base f g N S L M free) (hT : TG N L σ M free lab E) (hb : base ≤ w.heap.size) (hL : L.length ≤ 2 ^ 20) {u v : Int} (hu : okI u) (hv : okI v) :
    Calls P 17 #[.pointer (some ⟨f, 0, none⟩), .int .i64 u, .int .i64 v] w fun ev w' => ev = .returned (.bool (decide ((0 ≤ u ∧ 0 ≤ v) ∧ pairE u.toNat v.toNat ∈ E))) ∧
      ∃ σ', FG w' base f g N (extS S w w') L.length σ' (if (0 ≤ u ∧ 0 ≤ v) ∧ pairE u.toNat v.toNat ∈ E then E.erase (pairE u.toNat v.toNat) else E) ∧ Kp w w' S ∧ (¬ ((0 ≤ u ∧ 0 ≤ v) ∧ pairE u.toNat v.toNat ∈ E) → σ' = σ) := by
  apply vc17; unfold VC17; try (conv => zeta)
  have hle := hT.le
  obtain ⟨mb, A, n, c, B, m, k, seed, hM, hS1, hS, c0, c1, c2, c3⟩ := h.open
  refine ⟨_, rfl, _, by rw [add_blk]; exact c2, _, _, lookA2 hM.mp (k := (u, v)) ⟨hu, hv⟩, fun hno => ?_, fun hyes => ?_⟩
  · have hn : ¬ ((0 ≤ u ∧ 0 ≤ v) ∧ pairE u.toNat v.toNat ∈ E) := by
      rintro ⟨⟨h0, h1⟩, h2⟩
      obtain ⟨k', hk'⟩ := (hT.edge.iff _ _).2 h2
      unfold arcOf at hk'
      rw [show ((u.toNat : Nat) : Int) = u by omega, show ((v.toNat : Nat) : Int) = v by omega] at hk'
      rw [hk'] at hno; cases hno
    exact ⟨by rw [decide_eq_false hn], σ, ⟨L, M, free, lab, Nat.le_refl _, h.ext, by rw [if_neg hn]; exact hT⟩, Kp.refl _ _, fun _ => rfl⟩
  obtain ⟨a0, ha0⟩ : ∃ a0, getK M (u, v) = some a0 := by
    cases e : getK M (u, v) with
    | none => rw [e] at hyes; exact absurd rfl hyes
    | some x => exact ⟨x, rfl⟩
  have hpos := hT.mnat _ ((getK_mem hT.mnod).1 ha0)
  obtain ⟨u, rfl⟩ : ∃ a : Nat, u = a := ⟨u.toNat, by have := hpos.1; simp only at this; omega⟩
  obtain ⟨v, rfl⟩ : ∃ a : Nat, v = a := ⟨v.toNat, by have := hpos.2; simp only at this; omega⟩
  simp only [Int.toNat_natCast]
  have hAa : arcOf M u v = some a0 := ha0
  have hE : pairE u v ∈ E := (hT.edge.iff u v).1 ⟨a0, hAa⟩
  obtain ⟨b0, hAb⟩ := (hT.edge.iff v u).2 (by rw [pairE_comm]; exact hE)
  have hb0 : getK M ((v : Int), (u : Int)) = some b0 := hAb
  have yes : (0 ≤ (u : Int) ∧ 0 ≤ (v : Int)) ∧ pairE u v ∈ E := ⟨⟨by omega, by omega⟩, hE⟩
  obtain ⟨aN, aL, la, huN, hvN, ua⟩ := hT.tour.arcs _ _ _ hAa
  obtain ⟨bN, bL, lb, _, _, ub'⟩ := hT.tour.arcs _ _ _ hAb
  have huv := (hT.tour.both hT.ars hAa).2.2
  have ub : b0 ∈ σ u := by rw [← huv]; exact ub'
  have hab : a0 ≠ b0 := fun e => by
    subst e
    rw [la] at lb; cases lb
    have := hT.edge.ok _ hE
    unfold pairE at this; simp at this
  rw [ha0]
  refine ⟨_, rfl, _, by rw [add_blk]; exact c2, _, lookA hM.mp (k := ((v : Int), (u : Int))) ⟨hv, hu⟩, ?_⟩
  rw [hb0]
  have gd := grown_drew (grown_refl w none)
  have hd := h.kept gd
  refine ⟨fun a b W => ∃ (x y ka kb : Nat) (p X q : List Nat), a = ka ∧ b = kb ∧ arcOf M x y = some ka ∧ arcOf M y x = some kb ∧ ((x = u ∧ y = v) ∨ (x = v ∧ y = u)) ∧ σ u = p ++ ka :: (X ++ kb :: q) ∧ w.grownBy W none, ⟨fun W => W.cell? ⟨f, 0, none⟩ = some (.pointer (some ⟨g, 0, none⟩)), hd.ptr, _, rfl, _, hd.ptr, ?_⟩, ?_⟩
  · obtain ⟨w1, hw1⟩ : ∃ w1, w1 = w.drew := ⟨_, rfl⟩
    rw [← hw1] at gd hd ⊢
    obtain ⟨p1, q1, hpq⟩ := List.append_of_mem ua
    have hpa : σ a0 = p1 ++ a0 :: q1 := by rw [hT.ars.eq ua, hpq]
    rw [hpq] at ub
    have ub2 : b0 ∈ p1 ∨ b0 ∈ q1 := by
      simp only [List.mem_append, List.mem_cons] at ub
      rcases ub with h | h | h
      · exact .inl h
      · exact absurd h.symm hab
      · exact .inr h
    obtain ⟨pb, qb, hpb⟩ : ∃ pb qb, σ u = pb ++ b0 :: qb := List.append_of_mem (by rw [hpq]; exact ub)
    have hpbb : σ b0 = pb ++ b0 :: qb := by rw [hT.ars.eq (show b0 ∈ σ u by rw [hpq]; exact ub), hpb]
    refine (findex_calls hd hT.ars hL aL hpa).mono fun ev w2 hh => ?_
    obtain ⟨rfl, g2⟩ := hh
    have hd2 := hd.kept g2
    refine ⟨_, rfl, hd2.ptr, _, rfl, _, fun W hW => hW, (findex_calls hd2 hT.ars hL bL hpbb).mono fun ev w3 hh => ?_⟩
    obtain ⟨rfl, g3⟩ := hh
    have g03 := grown_trans gd (grown_trans g2 g3)
    have hnd := hT.ars.nodup u
    refine ⟨_, rfl, (hd2.kept g3).ptr, fun hgt => ?_, fun hle' => ?_⟩
    · -- b comes first
      rcases ub2 with hm | hm
      · obtain ⟨p', X, e⟩ := List.append_of_mem hm
        refine ⟨v, u, b0, a0, p', X, q1, rfl, rfl, hAb, hAa, .inr ⟨rfl, rfl⟩, ?_, g03⟩
        rw [hpq, e]; simp
      · exfalso
        obtain ⟨X, q', e⟩ := List.append_of_mem hm
        have e2 : σ u = (p1 ++ a0 :: X) ++ b0 :: q' := by rw [hpq, e]; simp
        obtain ⟨e3, _⟩ := split_at (by rw [← hpb]; exact hnd) (hpb.symm.trans e2)
        rw [e3] at hgt
        simp at hgt
        omega
    · rcases ub2 with hm | hm
      · exfalso
        obtain ⟨p', X, e⟩ := List.append_of_mem hm
        have e2 : σ u = p' ++ b0 :: (X ++ a0 :: q1) := by rw [hpq, e]; simp
        obtain ⟨e3, _⟩ := split_at (by rw [← hpb]; exact hnd) (hpb.symm.trans e2)
        rw [e3] at hle'
        rw [e] at hle'
        simp at hle'
        omega
      · obtain ⟨X, q', e⟩ := List.append_of_mem hm
        exact ⟨u, v, a0, b0, p1, X, q', rfl, rfl, hAa, hAb, .inl ⟨rfl, rfl⟩, by rw [hpq, e], g03⟩
  · rintro a b W ⟨x, y, ka, kb, p, X, q, rfl, rfl, hka, hkb, hxy, hsp, gW⟩
    have hW := h.kept gW
    have kaL := (hT.tour.arcs _ _ _ hka).2.1
    have kbL := (hT.tour.arcs _ _ _ hkb).2.1
    have kau : ka ∈ σ u := by rw [hsp]; simp
    have kbu : kb ∈ σ u := by rw [hsp]; simp
    have hnd := hT.ars.nodup u
    rw [hsp] at hnd
    obtain ⟨_, ⟨z1, z1n, z1X⟩, ⟨z2, z2n, z2P⟩⟩ := hT.tour.cut hT.ars huN hsp hka hkb
    have hXne : X ≠ [] := fun e => by rw [e] at z1X; simp at z1X
    have hpa : σ ka = p ++ ka :: (X ++ kb :: q) := by rw [hT.ars.eq kau, hsp]
    have hpb : σ kb = (p ++ ka :: X) ++ kb :: q := by rw [hT.ars.eq kbu, hsp]; simp
    refine ⟨_, rfl, _, hW.ptr, (fat_calls hW hT.ars hL (x := ka) (i := 0) kaL).mono fun ev w1 hh => ?_⟩
    obtain ⟨rfl, rfl⟩ := hh
    refine ⟨_, rfl, _, rfl, _, hW.ptr, (fcutn_calls hW hT.ars hL kaL hpa).mono fun ev w2 hh => ?_⟩
    obtain ⟨rfl, L1, hl1, f1, s1, K1⟩ := hh
    obtain ⟨σ1, e1⟩ : ∃ σ1, σ1 = if p = [] then σ else cutS σ p (ka :: (X ++ kb :: q)) := ⟨_, rfl⟩
    rw [← e1] at s1
    have kap : ka ∉ p := fun h' => by rw [List.nodup_append] at hnd; exact hnd.2.2 ka h' ka (by simp) rfl
    have kbp : kb ∉ p := fun h' => by rw [List.nodup_append] at hnd; exact hnd.2.2 kb h' kb (by simp) rfl
    have h1b : σ1 kb = (ka :: X) ++ kb :: q := by
      rw [e1]
      split
      · rename_i hp; rw [hpb, hp]; rfl
      · unfold cutS; rw [if_neg kbp, if_pos (by simp)]; rfl
    refine ⟨_, rfl, _, rfl, _, f1.ptr, (fcutn_calls f1 s1 (by omega) (x := kb) (by omega) h1b).mono fun ev w3 hh => ?_⟩
    obtain ⟨rfl, L2, hl2, f2, s2, K2⟩ := hh
    rw [if_neg (by simp)] at s2
    obtain ⟨σ2, e2⟩ : ∃ σ2, σ2 = cutS σ1 (ka :: X) (kb :: q) := ⟨_, rfl⟩
    rw [← e2] at s2
    have h2a : σ2 ka = ka :: X := by rw [e2]; unfold cutS; rw [if_pos (by simp)]
    refine ⟨_, rfl, (alone_calls f2 s2 (by omega) (x := ka) (by omega) h2a).mono fun ev w4 hh => ?_⟩
    obtain ⟨rfl, L3, hl3, f3, s3, K3⟩ := hh
    rw [if_neg hXne] at s3
    obtain ⟨σ3, e3⟩ : ∃ σ3, σ3 = cutS σ2 [ka] X := ⟨_, rfl⟩
    rw [← e3] at s3
    have kab : kb ≠ ka := fun e => by
      rw [List.nodup_append, List.nodup_cons] at hnd
      exact hnd.2.1.1 (by rw [← e]; simp)
    have kbX : kb ∉ X := fun h' => by
      rw [List.nodup_append, List.nodup_cons, List.nodup_append] at hnd
      exact hnd.2.1.2.2.2 kb h' kb (by simp) rfl
    have h2b : σ2 kb = kb :: q := by rw [e2]; unfold cutS; rw [if_neg (by simp [kab, kbX]), if_pos (by simp)]
    have h3b : σ3 kb = kb :: q := by rw [e3]; unfold cutS; rw [if_neg (by simp [kab]), if_neg kbX, h2b]
    refine ⟨_, rfl, (alone_calls f3 s3 (by omega) (x := kb) (by omega) h3b).mono fun ev w5 hh => ?_⟩
    obtain ⟨rfl, L4, hl4, f4, s4, K4⟩ := hh
    obtain ⟨σ4, e4⟩ : ∃ σ4, σ4 = if q = [] then σ3 else cutS σ3 [kb] q := ⟨_, rfl⟩
    rw [← e4] at s4
    obtain ⟨fin1, fin2⟩ := fcut_steps hnd e1 e2 e3 e4
    have K14 : Kp w w5 S := ((((Kp.of_none gW).then K1 (fun _ _ e => e)).then K2 (fun _ _ e => e)).then K3 (fun _ _ e => e)).then K4 (fun _ _ e => e)
    have hJ : p = [] ∨ q = [] → ∃ L', L'.length = L.length ∧ FO w5 base f g N S L' M free ∧ ArS L' (fcut σ p ka X kb q) ∧ Kp w w5 S := fun hpq => ⟨L4, by omega, f4, by rw [← fin1 hpq]; exact s4, K14⟩
    refine ⟨_, rfl, fun W => ∃ L', L'.length = L.length ∧ FO W base f g N S L' M free ∧ ArS L' (fcut σ p ka X kb q) ∧ Kp w W S, ⟨fun hge => ⟨fun hne => ?_, fun heq => ?_⟩, fun hlt => ?_⟩, ?_⟩
    · -- both sides: they are joined
      obtain ⟨yq, q', rfl⟩ : ∃ yq q', q = yq :: q' := by
        cases q with
        | nil => simp at hge
        | cons yq q' => exact ⟨yq, q', rfl⟩
      obtain ⟨xp, p', rfl⟩ : ∃ xp p', p = xp :: p' := by
        cases p with
        | nil => rw [hpa] at hne; exact absurd rfl hne
        | cons xp p' => exact ⟨xp, p', rfl⟩
      have hat : (σ ka)[0]? = some xp := by rw [hpa]; rfl
      obtain ⟨j1, j2, j3⟩ := fin2 xp yq (by simp) (by simp)
      have xpL : xp < L4.length := by have := (hT.ars.lt (show xp ∈ σ u by rw [hsp]; simp)).1; omega
      have yqL : yq < L4.length := by have := (hT.ars.lt (show yq ∈ σ u by rw [hsp]; simp)).1; omega
      refine ⟨_, rfl, _, f4.ptr, ?_⟩
      rw [hat]
      refine (fjoin_calls f4 s4 (by omega) (x := xp) (y := yq) xpL yqL (by
        rw [j1, j2]; intro e
        rw [List.nodup_append] at hnd
        exact hnd.2.2 xp (by simp) xp (by simp [← e]) rfl)).mono fun ev w6 hh => ?_
      obtain ⟨rfl, L5, hl5, f5, s5, K5⟩ := hh
      exact ⟨_, rfl, L5, by omega, f5, by rw [← j3]; exact s5, K14.then K5 (fun _ _ e => e)⟩
    · refine hJ (.inl ?_)
      cases p with
      | nil => rfl
      | cons xp p' =>
        exfalso
        have hat : (σ ka)[0]? = some xp := by rw [hpa]; rfl
        rw [hat] at heq
        simp only at heq
        have : xp = ka := by omega
        exact kap (by rw [this]; simp)
    · refine hJ (.inr ?_)
      cases q with
      | nil => rfl
      | cons yq q' => simp at hlt
    · -- the map, the free nodes
      rintro w6 ⟨L5, hl5, f5, s5, K5⟩
      have TF := hT.cut (L' := L5) huN hsp hka hkb hxy hl5 s5
      obtain ⟨mb, A, n, c, B, m, k, seed, hM, hS1, hS, c0, c1, c2, c3⟩ := f5.open
      obtain ⟨w7, r1, r2, r3⟩ := MapAt.strike keyA (mt := 58) (et := 3) Try.underlying58 hM.mp (k := ((u : Int), (v : Int))) ⟨hu, hv⟩ 0
      obtain ⟨w8, t1, t2, t3⟩ := MapAt.strike keyA (mt := 58) (et := 3) Try.underlying58 r2 (k := ((v : Int), (u : Int))) ⟨hv, hu⟩ 0
      have K68 : Kp w6 w8 (fun q => q = mb) := ((Kp.of_grown r3).mono (fun q _ e => by cases e; rfl)).then ((Kp.of_grown t3).mono (fun q _ e => by cases e; rfl)) (fun _ _ e => e)
      have K67 : Kp w6 w7 (fun q => q = mb) := (Kp.of_grown r3).mono (fun q _ e => by cases e; rfl)
      have bf7 : w7.heap[f]? = some (.cells #[.pointer (some ⟨g, 0, none⟩), .int .i64 (N : Int), .map (some mb), .slice B m k] 60 (0, 0)) := by rw [K67.block _ (Array.getElem?_eq_some_iff.1 hM.blk).1 (fun e => map_ne hM.mp hM.blk e.symm)]; exact hM.blk
      have bf8 : w8.heap[f]? = some (.cells #[.pointer (some ⟨g, 0, none⟩), .int .i64 (N : Int), .map (some mb), .slice B m k] 60 (0, 0)) := by rw [K68.block _ (Array.getElem?_eq_some_iff.1 hM.blk).1 (fun e => map_ne hM.mp hM.blk e.symm)]; exact hM.blk
      have mneB : ∀ q, (Value.slice B m k).ownBlock = some q → ¬ (q = mb) := fun q hq e => by
        subst e
        obtain ⟨cur, h'⟩ := hM.fr.block_type q hq
        exact map_ne hM.mp h' rfl
      have mneA : ∀ q, (Value.slice A n c).ownBlock = some q → ¬ (q = mb) := fun q hq e => by
        subst e
        obtain ⟨cur, h'⟩ := hM.ar.own.block_type q hq
        exact map_ne hM.mp h' rfl
      have ar8 := hM.ar.kp K68 (fun e => map_ne hM.mp hM.ar.blk e.symm) mneA
      have fr8 := hM.fr.kp K68 mneB
      have gA := World.grownBy_alloc w8 (.cells #[.int .i64 (ka : Int), .int .i64 (kb : Int)] 3) none
      have rA : Row (w8.alloc (.cells #[.int .i64 (ka : Int), .int .i64 (kb : Int)] 3)) (some ⟨w8.heap.size, 0, none⟩) (i64s [(ka : Int), (kb : Int)]) := row_new w8 #[.int .i64 (ka : Int), .int .i64 (kb : Int)] 3
      obtain ⟨w9, hw9⟩ : ∃ w9, w9 = w8.alloc (.cells #[.int .i64 (ka : Int), .int .i64 (kb : Int)] 3) := ⟨_, rfl⟩
      have hsz := K5.size
      have hsz8 := K68.size
      have hfl := hT.free_len
      have hm : m = free.length := by have := hM.fr.cases.1; simp at this; omega
      obtain ⟨B', m', k', w10, p1, p2, p3, p4⟩ := append_two (xs := intsN free) (ys := [(ka : Int), (kb : Int)]) (a := ⟨w8.heap.size, 0, none⟩) (fr8.kept gA) (fun j u hj => by obtain ⟨a', q1, q2⟩ := rA j u hj; cases q1; exact q2) (by simp; omega) (by have := gA.size; omega)
      rw [← hw9] at p1 p3 p4 gA
      have hfrr : i64s (intsN free ++ [(ka : Int), (kb : Int)]) = i64s (intsN (free ++ [ka, kb])) := by simp
      rw [hfrr] at p2
      have bf9 := blk_keep bf8 gA
      have bf10 : w10.heap[f]? = some (.cells #[.pointer (some ⟨g, 0, none⟩), .int .i64 (N : Int), .map (some mb), .slice B m k] 60 (0, 0)) := by rw [p3.block _ (Array.getElem?_eq_some_iff.1 bf9).1 (fun e => own_far fr8 bf8 (by decide) e.symm)]; exact bf9
      have s3 := blk_set bf10 3 (.slice B' m' k')
      have K910 : Kp w8 w10 (fun q => some q = (Value.slice B m k).ownBlock) := (Kp.of_none gA).step p3 (fun q hq => .inr hq.symm)
      have KS : Kp w10 (w10.setCell ⟨f, 3, none⟩ (.slice B' m' k')) (fun q => q = f) := kset (Kp.refl w10 _) rfl
      have mp8 : MapA w8 mb (delK (delK M ((u : Int), (v : Int))) ((v : Int), (u : Int))) := t2
      have mp10 : MapA w10 mb (delK (delK M ((u : Int), (v : Int))) ((v : Int), (u : Int))) := mp8.kp K910 (fun e => mneB mb e.symm rfl)
      have ar10 := ar8.kp K910 (fun e => by
        obtain ⟨cur, h'⟩ := fr8.block_type g e.symm
        rw [ar8.blk] at h'; cases h') (fun q hq e => own_ne ar8.own fr8 (by decide) q hq e.symm)
      have hFin : FoM (w10.setCell ⟨f, 3, none⟩ (.slice B' m' k')) base f g mb A n c B' m' k' N L5 seed (delK (delK M ((u : Int), (v : Int))) ((v : Int), (u : Int))) (free ++ [ka, kb]) := ⟨by simpa using s3, ar10.kp KS (fun e => by subst e; rw [ar10.blk] at bf10; cases bf10) (fun q hq e => by subst e; exact own_far ar10.own bf10 (by decide) hq), mp10.kp KS (fun e => map_ne mp10 bf10 e), p2.kp KS (fun q hq e => by subst e; exact own_far p2 bf10 (by decide) hq)⟩
      have KF : Kp w (w10.setCell ⟨f, 3, none⟩ (.slice B' m' k')) S := ((K5.then K68 (fun q _ e => by rw [e]; exact hS1.2.2.1)).then K910 (fun q _ e => hS1.2.2.2.2 q e.symm)).then KS (fun q _ e => by rw [e]; exact hS1.1)
      refine ⟨_, rfl, _, by rw [add_blk]; exact c2, w7, r1, _, rfl, _, by rw [add_blk]; exact blk_cell bf7 2, w8, t1, _, rfl, _, _, _, by rw [add_blk]; exact blk_cell bf8 3, B', m', k', w10, by rw [← hw9]; exact p1, _, rfl, by rw [add_blk]; exact ⟨_, blk_cell bf10 3⟩, by rw [add_blk]; exact blk_free bf10 3, by rw [decide_eq_true yes], _, ⟨L5, _, _, lab, by omega, ?_, by rw [if_pos yes]; exact TF⟩, by rw [add_blk]; exact KF, fun h' => absurd yes h'⟩
      rw [add_blk]
      refine ⟨mb, A, n, c, B', m', k', seed, hFin, ⟨.inl hS1.1, .inl hS1.2.1, .inl hS1.2.2.1, fun q hq => .inl (hS1.2.2.2.1 q hq), fun q hq => ?_⟩, fun q hq => ?_⟩
      · rcases p4 q hq with e | e
        · exact .inl (hS1.2.2.2.2 q e)
        · refine .inr ⟨?_, hFin.fr.block_lt q hq⟩
          have := gA.size
          omega
      · rcases hq with hq | hq
        · exact Nat.lt_of_lt_of_le (h.bound q hq) KF.size
        · exact hq.2
end
end Go.Proofs.Ytpfkpmapimonbaa

/-! slices.IndexFunc, slices.DeleteFunc at a forest's vertices: the walks. -/
namespace Go.Proofs.Ytpfkpmapimonbaa
open Go Go.V Go.RowKit
set_option linter.unusedVariables false
set_option linter.unusedSimpArgs false
set_option maxHeartbeats 4000000
set_option maxRecDepth 100000

/-- The closure's place holds the forest, whose second cell is how many vertices it has. -/
def Env (W : World) (e f : Nat) (N : Nat) : Prop := (∃ t, t ≠ 3 ∧ W.heap[e]? = some (.cells #[.pointer (some ⟨f, 0, none⟩)] t (0, 0))) ∧ ∃ a b c t, t ≠ 3 ∧ W.heap[f]? = some (.cells #[a, .int .i64 (N : Int), b, c] t (0, 0))
section
variable {w w' : World} {e f N : Nat}
theorem part1_calls (h : Env w e f N) (x : Int) : Calls P 58 #[.int .i64 x, .pointer (some ⟨e, 0, none⟩)] w fun ev w' => ev = .returned (.bool (decide (x ≥ (N : Int)))) ∧ w' = w := by
  apply vc58; unfold VC58; try (conv => zeta)
  obtain ⟨⟨t, _, h1⟩, a, b, c, t', _, h2⟩ := h
  exact ⟨_, blk_cell h1 0, _, rfl, _, by rw [add_blk]; exact blk_cell h2 1, rfl, rfl⟩
theorem Env.kp {base n c : Nat} {A : Option Addr} {xs : List Int} (h : Env w e f N) (ho : OwnedK w base 3 1 A n c (i64s xs)) (hk : Kp w w' (fun q => some q = (Value.slice A n c).ownBlock)) : Env w' e f N := by
  obtain ⟨⟨t, n1, h1⟩, a, b, c, t', n2, h2⟩ := h
  refine ⟨⟨t, n1, ?_⟩, a, b, c, t', n2, ?_⟩
  · rw [hk.block _ (Array.getElem?_eq_some_iff.1 h1).1 (fun q => own_far ho h1 n1.symm q.symm)]; exact h1
  · rw [hk.block _ (Array.getElem?_eq_some_iff.1 h2).1 (fun q => own_far ho h2 n2.symm q.symm)]; exact h2
theorem indexFunc_calls {base n c : Nat} {A : Option Addr} {xs : List Int} (h : Env w e f N) (ho : OwnedK w base 3 1 A n c (i64s xs)) (hl : n ≤ 2 ^ 30) :
    Calls P 77 #[.slice A n c, .func (.func 58) #[] #[.pointer (some ⟨e, 0, none⟩)]] w fun ev w' => w' = w ∧ ((ev = .returned (.int .i64 (-1)) ∧ ∀ x ∈ xs, x < (N : Int)) ∨ ∃ i : Nat, i < xs.length ∧ ev = .returned (.int .i64 (i : Int)) ∧ (∀ j (hj : j < xs.length), j < i → xs[j] < (N : Int)) ∧ ∀ hi : i < xs.length, (N : Int) ≤ xs[i]) := by
  apply vc77p; unfold VC77p
  simp only [InK]
  have hn : n = xs.length := by have := ho.cases.1; simp at this; omega
  refine ⟨fun m i W => W = w ∧ ∃ p : Nat, i = p ∧ p ≤ xs.length ∧ m = xs.length - p ∧ ∀ j (hj : j < xs.length), j < p → xs[j] < (N : Int), ⟨_, rfl, 0, rfl, by omega, rfl, fun j hj h => by omega⟩, ?_⟩
  rintro m i W ⟨rfl, p, rfl, hp, rfl, hx⟩
  have tp : (p : Int).toNat = p := by omega
  rw [tp]
  refine ⟨fun hlt => ?_, fun hge => ⟨by trivial, .inl ⟨by trivial, fun x hm => ?_⟩⟩⟩
  · have lp : p < xs.length := by omega
    obtain ⟨a, e1, e2⟩ := ho.row p (.int .i64 xs[p]) (by simp [lp])
    refine ⟨a, e1, by omega, by omega, _, e2, (part1_calls h xs[p]).mono fun ev w1 hh => ?_⟩
    obtain ⟨rfl, rfl⟩ := hh
    refine ⟨_, rfl, fun hy => ⟨rfl, .inr ⟨p, lp, rfl, hx, fun _ => by simpa using hy⟩⟩, fun hno => ⟨by omega, xs.length - (p + 1), by omega, rfl, p + 1, by omega, by omega, rfl, fun j hj hjp => ?_⟩⟩
    by_cases e : j = p
    · subst e; simpa using hno
    · exact hx j hj (by omega)
  · obtain ⟨j, hj, rfl⟩ := List.mem_iff_getElem.1 hm
    exact hx j hj (by omega)
theorem clear_ints {base n c i : Nat} {A : Option Addr} {xs : List Int} (ho : OwnedK w base 3 1 A n c (i64s xs)) (hi : i < n) :
    ∃ w', Sem.run P (Builtin.clear_ #[37] 0 #[.slice (cutA A c i 1) (n - i) (c - i)]) w = .ok (.tuple #[]) w' ∧ OwnedK w' base 3 1 A i c (i64s (xs.take i)) ∧ w.grownBy w' (Value.slice A n c).ownBlock := by
  obtain ⟨h1, h2 | ⟨b, cur, rfl, h3, h4, h5, h6, h7, h8⟩⟩ := ho.cases
  · obtain ⟨_, rfl, _⟩ := h2; omega
  have hA : cutA (some (⟨b, 0, none⟩ : Addr)) c i 1 = some ⟨b, i, none⟩ := by
    unfold cutA
    rw [if_neg (by omega), Option.map_some, Nat.mul_one, add_blk]
  rw [hA]
  obtain ⟨w2, cur2, k1, k2, k3, k4, k5⟩ := clear_at (P := P) (t := 37) (e := 3) (i := (P.info? 3).getD default) (z := .int .i64 0) (ty := 0) (c := c - i) (n := n - i) (o := i) (by kernel_rfl) (by kernel_rfl) (by kernel_rfl) (by intro v hv; simp [Value.cells] at hv; rw [hv]; rfl) h6 (by omega) (by simp [Value.cells]; omega)
  refine ⟨w2, k1, OwnedK.of_block h3 k2 (by omega) h4 (by rw [k3, h7]) (by simp at h1 ⊢; omega) ?_, by simpa [Value.ownBlock] using k5⟩
  rw [Nat.mul_one, k4]
  have : cur.toList.take i = (cur.toList.take (n * 1)).take i := by rw [List.take_take]; congr 1; omega
  rw [this, h8]; simp
theorem deleteFunc_calls {base n c : Nat} {A : Option Addr} {xs : List Int} (h : Env w e f N) (ho : OwnedK w base 3 1 A n c (i64s xs)) (hl : n ≤ 2 ^ 30) :
    Calls P 56 #[.slice A n c, .func (.func 58) #[] #[.pointer (some ⟨e, 0, none⟩)]] w fun ev w' => ∃ k : Nat, ev = .returned (.slice A k c) ∧ OwnedK w' base 3 1 A k c (i64s (xs.filter fun x => !decide (x ≥ (N : Int)))) ∧ Kp w w' (fun q => some q = (Value.slice A n c).ownBlock) := by
  apply vc56p; unfold VC56p
  simp only [InK]
  have hn : n = xs.length := by have := ho.cases.1; simp at this; omega
  have hcap := owned_leM ho
  refine (indexFunc_calls h ho hl).mono fun ev w1 hh => ?_
  obtain ⟨rfl, hh⟩ := hh
  rcases hh with ⟨rfl, hall⟩ | ⟨i0, hi0, rfl, hlo, hhi⟩
  · refine ⟨_, rfl, fun _ => ⟨n, rfl, ?_, Kp.refl _ _⟩, fun hne => absurd rfl hne⟩
    rw [List.filter_eq_self.2 (fun x hx => by have := hall x hx; simp; omega)]; exact ho
  refine ⟨_, rfl, fun h' => by omega, fun _ => ⟨by omega, ?_⟩⟩
  refine ⟨fun m i j W => ∃ (p r : Nat) (R : List Int), i = r ∧ j = p ∧ p ≤ xs.length ∧ r < p ∧ m = xs.length - p ∧ R.length = xs.length ∧ R.take r = (xs.take p).filter (fun x => !decide (x ≥ (N : Int))) ∧ R.drop p = xs.drop p ∧ OwnedK W base 3 1 A n c (i64s R) ∧ Env W e f N ∧ Kp w1 W (fun q => some q = (Value.slice A n c).ownBlock),
    ⟨_, i0 + 1, i0, xs, rfl, by omega, by omega, by omega, rfl, rfl, ?_, rfl, ho, h, Kp.refl _ _⟩, ?_⟩
  · rw [List.take_add_one, List.getElem?_eq_getElem hi0, Option.toList_some, List.filter_append]
    have h1 : (xs.take i0).filter (fun x => !decide (x ≥ (N : Int))) = xs.take i0 := List.filter_eq_self.2 (fun x hx => by
      obtain ⟨j, hj, rfl⟩ := List.mem_iff_getElem.1 hx
      simp at hj
      have := hlo j (by omega) (by omega)
      simp; omega)
    rw [h1]
    have := hhi hi0
    simp [this]
  · rintro m i j W ⟨p, r, R, rfl, rfl, hp, hr, rfl, hRl, hRt, hRd, oW, eW, KW⟩
    have tp : (p : Int).toNat = p := by omega
    have tr : (r : Int).toNat = r := by omega
    rw [tp, tr]
    refine ⟨fun hlt => ?_, fun hge => ⟨⟨by omega, by omega⟩, ?_⟩⟩
    · have lp : p < xs.length := by omega
      have lR : p < R.length := by omega
      have hRp : R[p] = xs[p] := by
        have := congrArg (fun l => l[0]?) hRd
        simp only [List.getElem?_drop, Nat.add_zero] at this
        rw [List.getElem?_eq_getElem lR, List.getElem?_eq_getElem lp] at this
        exact Option.some.inj this
      obtain ⟨a, e1, e2⟩ := oW.row p (.int .i64 R[p]) (by simp [lR])
      rw [hRp] at e2
      have hnext : (xs.take (p + 1)).filter (fun x => !decide (x ≥ (N : Int))) = (xs.take p).filter (fun x => !decide (x ≥ (N : Int))) ++ [xs[p]].filter (fun x => !decide (x ≥ (N : Int))) := by
        rw [List.take_add_one, List.getElem?_eq_getElem lp, Option.toList_some, List.filter_append]
      have hd1 : R.drop (p + 1) = xs.drop (p + 1) := by
        have := congrArg (List.drop 1) hRd
        simpa [List.drop_drop, Nat.add_comm] using this
      refine ⟨a, e1, by omega, by omega, _, e2, (part1_calls eW xs[p]).mono fun ev w2 hh => ?_⟩
      obtain ⟨rfl, rfl⟩ := hh
      refine ⟨_, rfl, fun hno => ?_, fun hyes => ⟨by omega, xs.length - (p + 1), by omega, p + 1, r, R, rfl, by omega, by omega, by omega, rfl, hRl, ?_, hd1, oW, eW, KW⟩⟩
      · have hlt' : xs[p] < (N : Int) := by simpa using hno
        obtain ⟨b, q1, q2, _, q3, q4, q5, q6⟩ := own_put oW (k := r) (by simp; omega) (.int .i64 xs[p])
        rw [q1] at e1; cases e1
        have hset : (i64s R).set r (.int .i64 xs[p]) = i64s (R.set r xs[p]) := by simp [List.map_set]
        rw [hset] at q5
        have K1 : Kp w2 (w2.setCell ⟨b, r, none⟩ (.int .i64 xs[p])) (fun q => some q = (Value.slice A n c).ownBlock) := q6.mono (fun q _ e => by rw [e, q1]; rfl)
        refine ⟨_, q1, by omega, by omega, by rw [add_blk]; exact q3, by rw [add_blk]; exact q4, by omega, by omega, xs.length - (p + 1), by omega, p + 1, r + 1, R.set r xs[p], by omega, by omega, by omega, by omega, rfl, by simp [hRl], ?_, ?_, by rw [add_blk]; exact q5, by rw [add_blk]; exact eW.kp oW K1, by rw [add_blk]; exact KW.then K1 (fun _ _ e => e)⟩
        · rw [hnext, ← hRt, List.take_add_one, List.getElem?_set_self (by omega), Option.toList_some, List.take_set_of_le (Nat.le_refl _)]
          have : [xs[p]].filter (fun x => !decide (x ≥ (N : Int))) = [xs[p]] := List.filter_eq_self.2 (fun x hx => by simp at hx; subst hx; simp; omega)
          rw [this]
        · rw [List.drop_set_of_lt (by omega)]; exact hd1
      · rw [hnext, hRt]
        have hge' : (N : Int) ≤ xs[p] := by simpa using hyes
        have : [xs[p]].filter (fun x => !decide (x ≥ (N : Int))) = [] := List.filter_eq_nil_iff.2 (fun x hx => by simp at hx; subst hx; simp; omega)
        rw [this, List.append_nil]
    · have hpe : p = xs.length := by omega
      subst hpe
      obtain ⟨w3, r1, r2, r3⟩ := clear_ints (i := r) oW (by omega)
      rw [hRt, List.take_length] at r2
      exact ⟨w3, r1, ⟨by omega, by omega⟩, r, rfl, r2, KW.step r3 (fun q hq => .inr hq.symm)⟩
end
end Go.Proofs.Ytpfkpmapimonbaa
