/- Own texts, packed: J21, J22, J23, J24, J25, J26, J27, J28, J29. -/
import Derived.Test.YtpfkpmapimonbaaGHEg
import Derived.Test.YtpfkpmapimonbaaGHYg
import Derived.Test.YtpfkpmapimonbaaGTEg
import Derived.Test.YtpfkpmapimonbaaGHCg
import Derived.Test.YtpfkpmapimonbaaGHXg

/-! hdt.Graph.Tree: the walk. -/
namespace Go.Proofs.Ytpfkpmapimonbaa
open Go Go.V Go.RowKit
set_option linter.unusedVariables false
set_option linter.unusedSimpArgs false
set_option maxHeartbeats 8000000
set_option maxRecDepth 100000

section
variable {w w' : World} {base g N len c : Nat} {U : Nat → Prop} {T : Tp} {lv : List LV} {M : EMap} {deg : List Int} {F : Eds}
/-- What Tree has gathered. -/
structure TrI (w : World) (me r : Nat) (M : EMap) (m : Nat) (A : Option Addr) (n k : Nat) (W : World) : Prop where
  ex : ∃ (done : List Arc) (last : Option (Arc × Sta)) (Ts : Eds), IterAt arcV stV W r me M done last ∧ OwnedK W w.heap.size 35 2 A n k (prs Ts) ∧ done.Nodup ∧ (∀ p ∈ done, p ∈ M.map Prod.fst) ∧ m = M.length - done.length ∧ Ts.Nodup ∧ ∀ e, e ∈ Ts ↔ kI e ∈ done ∧ ∃ ℓ : Nat, getK M (kI e) = some ((ℓ : Int), true)
  gr : w.grownBy W none
theorem htree_calls (h : HS w base g N c U F) (hs : Sm N c) : Calls P 40 #[.pointer (some ⟨g, 0, none⟩)] w fun ev w' => ∃ (A : Option Addr) (n k : Nat) (Ts : Eds), ev = .returned (.slice A n k) ∧ OwnedK w' w.heap.size 35 2 A n k (prs Ts) ∧ Ts.Pairwise (fun a b => ltP a b = true) ∧ (∀ e ∈ Ts, e ∈ F) ∧ FrE N Ts ∧ (∀ x y, Cn Ts x y ↔ Cn F x y) ∧ w.grownBy w' none := by
  obtain ⟨⟨T, lv, M, deg, h1, h2, h3, h4, h5⟩, hnd⟩ := id h
  obtain ⟨s1, s2⟩ := hs
  apply vc40; unfold VC40; try (conv => zeta)
  refine ⟨_, rfl, _, by rw [add_blk]; exact blk_cell h1.hg.blk 2, ?_⟩
  obtain ⟨o, hr, hI⟩ := h1.hg.ed.range (P := P) Try.underlying70
  have g1 := World.grownBy_alloc w o none
  have s1' := sz_alloc w o
  obtain ⟨w1, hw1⟩ : ∃ w1, w1 = w.alloc o := ⟨_, rfl⟩
  rw [← hw1] at hr hI g1 s1'
  obtain ⟨r, hrr⟩ : ∃ r, r = w.heap.size := ⟨_, rfl⟩
  rw [← hrr] at hr hI
  have hmeb : T.me < r := by have := h1.hg.lt _ (h1.hg.inT _ (.inr (.inl rfl))); omega
  have hkeyE : ∀ x y : Arc, arcV x = arcV y → x = y := keyP.inj
  have hend0 : (EL lv 0).Nodup := by
    unfold EL
    split
    · next l hl => exact (h1.hg.lev l (List.mem_of_getElem? hl)).fg.nodup
    · exact List.nodup_nil
  have hE0 : (EL lv 0).length ≤ N := by
    unfold EL
    split
    · next l hl => exact (h1.hg.lev l (List.mem_of_getElem? hl)).fg.small
    · simp
  refine ⟨some ⟨r, 0, none⟩, w1, hr, fun m A n k W => TrI w T.me r M m A n k W, ⟨_, ⟨[], none, [], hI, OwnedK.nil _ _ _ _, List.nodup_nil, by simp, rfl, List.nodup_nil, by simp⟩, g1⟩, ?_⟩
  rintro m A n k W ⟨⟨done, last, Ts, iI, iO, iN, iS, rfl, iT, iE⟩, gW⟩
  have hTs : ∀ e ∈ Ts, e ∈ EL lv 0 := fun e he => by
    obtain ⟨_, ℓ, hl⟩ := (iE e).1 he
    exact (h1.inv.frt 0 e).2 ⟨ℓ, Nat.zero_le _, hl⟩
  have hTl : Ts.length ≤ N := Nat.le_trans (nd_len iT hTs) hE0
  have hnl : n = Ts.length := by have := iO.cases.1; rw [prs_length] at this; omega
  have gWs := gW.size
  have hMn : (M.map Prod.fst).Nodup := by
    obtain ⟨es, clock, since, seen, c0, _, _, _, _, _, _, h', _⟩ := iI
    exact h'
  have hob : ∀ q, (Value.slice A n k).ownBlock = some q → w.heap.size ≤ q := fun q hq => (World.ownsRow.lt iO q hq).1
  rcases iI.next (P := P) hkeyE 0 with ⟨hall, hrun⟩ | ⟨p, hp, hpn, W1, hrun, iI1, K1⟩
  · refine ⟨W, .inl ⟨hrun, fun e => (by cases e), fun _ => (sortF_calls iO (by omega)).mono fun ev W2 hh => ?_⟩⟩
    obtain ⟨rfl, o2, g2⟩ := hh
    have hmem : ∀ e, e ∈ Ts ↔ e ∈ EL lv 0 := fun e => ⟨hTs e, fun he => by
      obtain ⟨ℓ, _, hl⟩ := (h1.inv.frt 0 e).1 he
      exact (iE e).2 ⟨hall _ ((getK_mem hMn).1 hl), ℓ, hl⟩⟩
    have hp1 : (sortP Ts).Perm (EL lv 0) := (sortP_perm Ts).trans ((List.perm_ext_iff_of_nodup iT hend0).2 hmem)
    refine ⟨rfl, A, n, k, sortP Ts, rfl, o2, sortP_sorted iT, fun e he => ?_, fr_perm hp1.symm (h1.inv.fr 0), fun x y => ?_, ?_⟩
    · obtain ⟨ℓ, _, hl⟩ := (h1.inv.frt 0 e).1 (hp1.mem_iff.1 he)
      exact (h2 e).2 ⟨_, hl⟩
    · rw [← h1.inv.conn h2]
      exact Cn.congr fun e => hp1.mem_iff
    · exact grown_step gW g2 fun q hq => hob q hq
  · have hKr : Kp w W1 (fun q => w.heap.size ≤ q) := (Kp.of_none gW).then K1 (fun q _ e => by omega)
    have gW1 : w.grownBy W1 none := hKr.grown (fun q hq e => by omega)
    have iO1 : OwnedK W1 w.heap.size 35 2 A n k (prs Ts) := iO.kp K1 (fun q hq e => by
      subst e
      obtain ⟨cur, hc⟩ := iO.block_type _ hq
      obtain ⟨es, clock, since, seen, c0, _, _, _, _, hi, _⟩ := iI
      rw [hc] at hi; cases hi)
    obtain ⟨⟨k1, k2⟩, ⟨v1, v2⟩⟩ := p
    have hgk : getK M (k1, k2) = some (v1, v2) := (getK_mem hMn).2 hp
    obtain ⟨e, hke, he1, he2, ℓ, hℓ⟩ := h1.inv.keys _ _ hgk
    simp only at hℓ
    subst hℓ
    have hk1 : k1 = (e.1 : Int) := congrArg Prod.fst hke
    have hk2 : k2 = (e.2 : Int) := congrArg Prod.snd hke
    subst hk1 hk2
    have dn : (((e.1 : Int), (e.2 : Int)) :: done).Nodup := List.nodup_cons.2 ⟨hpn, iN⟩
    have ds : ∀ p ∈ ((e.1 : Int), (e.2 : Int)) :: done, p ∈ M.map Prod.fst := fun p hp' => by
      rcases List.mem_cons.1 hp' with h' | h'
      · rw [h']; exact List.mem_map_of_mem (f := Prod.fst) hp
      · exact iS p h'
    have dl := nd_len dn ds
    simp only [List.length_cons, List.length_map] at dl
    have gA := World.grownBy_alloc W1 (.cells #[.int .i64 0, .int .i64 0] 80) none
    have bA := heap_alloc_new W1 (.cells #[.int .i64 0, .int .i64 0] 80)
    have sA := sz_alloc W1 (.cells #[.int .i64 0, .int .i64 0] 80)
    refine ⟨W1, .inr ⟨_, _, hrun, fun _ => ⟨(e.1 : Int), (e.2 : Int), (ℓ : Int), v2, W1, iI1.entry, ?_⟩, fun e => (by cases e)⟩⟩
    obtain ⟨W2, hW2⟩ : ∃ W2, W2 = W1.alloc (.cells #[.int .i64 0, .int .i64 0] 80) := ⟨_, rfl⟩
    rw [← hW2] at gA bA sA ⊢
    have gB := World.grownBy_alloc W2 (.cells #[.int .i64 0, .bool false] 77) none
    have bB := heap_alloc_new W2 (.cells #[.int .i64 0, .bool false] 77)
    have sB := sz_alloc W2 (.cells #[.int .i64 0, .bool false] 77)
    obtain ⟨W3, hW3⟩ : ∃ W3, W3 = W2.alloc (.cells #[.int .i64 0, .bool false] 77) := ⟨_, rfl⟩
    rw [← hW3] at gB bB sB ⊢
    have bA3 := blk_keep bA gB
    have q1 := blk_set bA3 0 (.int .i64 (e.1 : Int))
    have q2 := blk_set q1 1 (.int .i64 (e.2 : Int))
    have r0 : ∀ (j : Nat) u (X : World), X.heap[W2.heap.size]? = _ → _ := fun j u X (hX : X.heap[W2.heap.size]? = some (.cells #[.int .i64 0, .bool false] 77 (0, 0))) => blk_far (p := ⟨W1.heap.size, j, none⟩) hX (by show W1.heap.size ≠ _; omega) u
    have p2 := r0 1 (.int .i64 (e.2 : Int)) _ (r0 0 (.int .i64 (e.1 : Int)) _ bB)
    have p3 := blk_set p2 0 (.int .i64 (ℓ : Int))
    have p4 := blk_set p3 1 (.bool v2)
    have q3 := blk_far (p := ⟨W2.heap.size, 0, none⟩) q2 (by show W2.heap.size ≠ _; omega) (.int .i64 (ℓ : Int))
    have q4 := blk_far (p := ⟨W2.heap.size, 1, none⟩) q3 (by show W2.heap.size ≠ _; omega) (.bool v2)
    refine ⟨⟨_, blk_cell bA3 0⟩, blk_free bA3 0, ⟨_, blk_cell q1 1⟩, blk_free q1 1, ⟨_, blk_cell p2 0⟩, blk_free p2 0, ⟨_, blk_cell p3 1⟩, blk_free p3 1, v2, by rw [blk_cell p4 1]; rfl, ?_⟩
    obtain ⟨W5, hW5⟩ : ∃ W5, W5 = (((W3.setCell ⟨W1.heap.size, 0, none⟩ (.int .i64 (e.1 : Int))).setCell ⟨W1.heap.size, 1, none⟩ (.int .i64 (e.2 : Int))).setCell ⟨W2.heap.size, 0, none⟩ (.int .i64 (ℓ : Int))).setCell ⟨W2.heap.size, 1, none⟩ (.bool v2) := ⟨_, rfl⟩
    have gS : W1.grownBy W5 none := by
      rw [hW5]
      exact (kset (kset (kset (kset (Kp.of_none (S := fun q => W1.heap.size ≤ q) (grown_trans gA gB)) (Nat.le_refl _)) (Nat.le_refl _)) (by omega)) (by omega)).grown (fun q hq e => by omega)
    rw [← hW5] at q4 ⊢
    have iI5 : IterAt arcV stV W5 r T.me M (((e.1 : Int), (e.2 : Int)) :: done) _ := iI1.kp (S := fun _ => False) (Kp.of_none gS) (fun h => h) (fun h => h)
    have iO5 : OwnedK W5 w.heap.size 35 2 A n k (prs Ts) := iO1.kp (S := fun _ => False) (Kp.of_none gS) (fun _ _ e => e)
    have g5 := grown_trans gW1 gS
    have g5s := g5.size
    have hnT : e ∉ Ts := fun he => hpn ((iE e).1 he).1
    refine ⟨fun ht => ?_, fun hf => ?_⟩
    · subst ht
      refine ⟨(e.1 : Int), by rw [blk_cell q4 0]; rfl, (e.2 : Int), by rw [blk_cell q4 1]; rfl, ?_⟩
      have gC := World.grownBy_alloc W5 (.cells #[.int .i64 (e.1 : Int), .int .i64 (e.2 : Int)] 35) none
      have rC : Row (W5.alloc (.cells #[.int .i64 (e.1 : Int), .int .i64 (e.2 : Int)] 35)) (some ⟨W5.heap.size, 0, none⟩) (prs [e]) := row_new W5 #[.int .i64 (e.1 : Int), .int .i64 (e.2 : Int)] 35
      obtain ⟨W6, hW6⟩ : ∃ W6, W6 = W5.alloc (.cells #[.int .i64 (e.1 : Int), .int .i64 (e.2 : Int)] 35) := ⟨_, rfl⟩
      rw [← hW6] at gC rC ⊢
      have gC6 := gC.size
      have iO6 : OwnedK W6 w.heap.size 35 2 A n k (prs Ts) := iO5.kp (S := fun _ => False) (Kp.of_none gC) (fun _ _ e => e)
      have iI6 := iI5.kp (S := fun _ => False) (Kp.of_none gC) (fun h => h) (fun h => h)
      obtain ⟨A', n', k', W7, r1, r2, r3, r4⟩ := append_prs iO6 rC (m := 1) (d := 1) rfl (fun e => by cases e) (by omega) (by omega)
      have hne : ∀ q, (Value.slice A n k).ownBlock = some q → q ≠ r ∧ q ≠ T.me := fun q hq => by
        obtain ⟨cur, hc⟩ := iO6.block_type _ hq
        obtain ⟨es, clock, since, seen, c0, hm', _, _, _, hi, _⟩ := iI6
        exact ⟨fun e => (by rw [e, hi] at hc; cases hc), fun e => (by rw [e, hm'] at hc; cases hc)⟩
      have K7 : Kp W6 W7 (fun q => some q = (Value.slice A n k).ownBlock) := Kp.of_grown r3
      refine ⟨A', n', k', W7, r1, _, ?_, ⟨_, _, Ts ++ [e], iI6.kp K7 (fun h => (hne _ h.symm).2 rfl) (fun h => (hne _ h.symm).1 rfl), r2, dn, ds, rfl, ?_, fun f => ?_⟩, grown_step (grown_trans g5 gC) r3 fun q hq => hob q hq⟩
      · simp only [List.length_cons]; omega
      · rw [List.nodup_append]
        refine ⟨iT, by simp, fun x hx y hy => ?_⟩
        simp only [List.mem_singleton] at hy
        subst hy
        exact fun e => hnT (e ▸ hx)
      · rw [List.mem_append, iE, List.mem_singleton, List.mem_cons]
        constructor
        · rintro (⟨h', h''⟩ | h')
          · exact ⟨.inr h', h''⟩
          · subst h'; exact ⟨.inl rfl, ℓ, hgk⟩
        · rintro ⟨h' | h', h''⟩
          · exact .inr (kI_inj h')
          · exact .inl ⟨h', h''⟩
    · subst hf
      refine ⟨_, ?_, ⟨_, _, Ts, iI5, iO5, dn, ds, rfl, iT, fun f => ?_⟩, g5⟩
      · simp only [List.length_cons]; omega
      · rw [iE, List.mem_cons]
        refine ⟨fun h => ⟨.inr h.1, h.2⟩, fun h => ⟨h.1.elim (fun h' => ?_) id, h.2⟩⟩
        obtain ⟨ℓ', hl'⟩ := h.2
        rw [h', hgk] at hl'; cases hl'
end
end Go.Proofs.Ytpfkpmapimonbaa

/-! A graph of hdt beside a graph of the reference. -/
namespace Go.Proofs.Ytpfkpmapimonbaa
open Go Go.V Go.RowKit
set_option linter.unusedVariables false
set_option linter.unusedSimpArgs false
set_option maxHeartbeats 8000000
set_option maxRecDepth 100000

/-- The two graphs; S: their blocks. -/
structure HB (w0 W : World) (g r N c : Nat) (F E : Eds) (S : Nat → Prop) : Prop where
  ex : ∃ (U T : Nat → Prop) (A : Option Addr) (n cc : Nat), HS W w0.heap.size g N c U F ∧ GR W w0.heap.size r N T A n cc E ∧ (∀ q, U q → ¬ T q) ∧ (∀ q, U q → S q) ∧ (∀ q, T q → S q)
  sl : ∀ q, S q → w0.heap.size ≤ q ∧ q < W.heap.size
  gr : w0.grownBy W none
  rg : RgE N E
section
variable {w0 W W' : World} {g r N c : Nat} {F E : Eds} {S : Nat → Prop}
theorem HB.hs (h : HB w0 W g r N c F E S) : ∃ U, HS W w0.heap.size g N c U F := by obtain ⟨U, T, A, n, cc, h1, _⟩ := h.ex; exact ⟨U, h1⟩
theorem HB.wg (h : HB w0 W g r N c F E S) : ∃ T A n cc, GR W w0.heap.size r N T A n cc E := by obtain ⟨U, T, A, n, cc, h1, h2, _⟩ := h.ex; exact ⟨T, A, n, cc, h2⟩
theorem HB.kept (h : HB w0 W g r N c F E S) (hg : W.grownBy W' none) : HB w0 W' g r N c F E S := by
  obtain ⟨⟨U, T, A, n, cc, h1, h2, h3, h4, h5⟩, h6, h7, h8⟩ := h
  exact ⟨⟨U, T, A, n, cc, h1.kept hg, h2.kept hg, h3, h4, h5⟩, fun q hq => ⟨(h6 q hq).1, Nat.lt_of_lt_of_le (h6 q hq).2 hg.size⟩, grown_trans h7 hg, h8⟩
theorem HB.grown (h : HB w0 W g r N c F E S) (K : Kp W W' S) : w0.grownBy W' none :=
  ((Kp.of_none (S := fun q => w0.heap.size ≤ q) h.gr).then K fun q _ e => (h.sl q e).1).grown fun q hq e => by omega
theorem HB.slx (h : HB w0 W g r N c F E S) (K : Kp W W' S) : ∀ q, extS S W W' q → w0.heap.size ≤ q ∧ q < W'.heap.size := fun q hq => by
  have := h.gr.size
  have := K.size
  rcases hq with e | e
  · have := h.sl q e; omega
  · omega
theorem HB.frg (h : HB w0 W g r N c F E S) : RgE N F := by obtain ⟨U, h1⟩ := h.hs; exact h1.rg
theorem HB.nd (h : HB w0 W g r N c F E S) : F.Nodup := by obtain ⟨U, h1⟩ := h.hs; exact h1.2
theorem HB.small (h : HB w0 W g r N c F E S) (hN : N ≤ 1000) : F.length ≤ 1000 * 1000 := Nat.le_trans (eds_small h.nd h.frg) (Nat.mul_le_mul hN hN)
theorem rg_ite {p : Prop} [Decidable p] {E : Eds} {e : Nat × Nat} (hE : RgE N E) (hp : p → e.1 < e.2 ∧ e.2 < N) : RgE N (if p then E ++ [e] else E) := by
  by_cases h : p
  · rw [if_pos h]
    intro x hx
    rcases List.mem_append.1 hx with h' | h'
    · exact hE x h'
    · rw [List.mem_singleton] at h'; subst h'; exact hp h
  · rw [if_neg h]; exact hE
theorem rg_er {p : Prop} [Decidable p] {E : Eds} {e : Nat × Nat} (hE : RgE N E) : RgE N (if p then E.erase e else E) := by
  by_cases h : p
  · rw [if_pos h]; exact fun x hx => hE x (List.mem_of_mem_erase hx)
  · rw [if_neg h]; exact hE
theorem hb_gadd (h : HB w0 W g r N c F E S) (hs : Sm N c) {u v : Int} (hu : okI u) (hv : okI v) : Calls P 29 #[.pointer (some ⟨g, 0, none⟩), .int .i64 u, .int .i64 v] W fun ev W' => ev = .returned (.bool (decide ((0 ≤ u ∧ u < N) ∧ (0 ≤ v ∧ v < N) ∧ u ≠ v ∧ pairE u.toNat v.toNat ∉ F))) ∧
    HB w0 W' g r N (c + 1) (if (0 ≤ u ∧ u < N) ∧ (0 ≤ v ∧ v < N) ∧ u ≠ v ∧ pairE u.toNat v.toNat ∉ F then F ++ [pairE u.toNat v.toNat] else F) E (extS S W W') ∧ Kp W W' S := by
  obtain ⟨U, T, A, n, cc, h1, h2, h3, h4, h5⟩ := h.ex
  refine (hadd_calls h1 hs hu hv).mono fun ev W' hh => ?_
  obtain ⟨rfl, a1, K⟩ := hh
  have KS : Kp W W' S := K.mono fun q _ e => h4 q e
  refine ⟨rfl, ⟨⟨_, T, A, n, cc, a1, h2.kp K (fun q hq e => h3 q e hq), fun q hq hT => ?_, fun q hq => hq.imp (h4 q) id, fun q hq => .inl (h5 q hq)⟩, h.slx KS, h.grown KS, h.rg⟩, KS⟩
  rcases hq with e | e
  · exact h3 q e hT
  · have := h2.lt q hT; omega
theorem hb_gdrop (h : HB w0 W g r N c F E S) (hs : Sm N c) {u v : Int} (hu : okI u) (hv : okI v) : Calls P 31 #[.pointer (some ⟨g, 0, none⟩), .int .i64 u, .int .i64 v] W fun ev W' => ev = .returned (.bool (decide ((0 ≤ u ∧ 0 ≤ v) ∧ pairE u.toNat v.toNat ∈ F))) ∧
    HB w0 W' g r N (c + 1) (if (0 ≤ u ∧ 0 ≤ v) ∧ pairE u.toNat v.toNat ∈ F then F.erase (pairE u.toNat v.toNat) else F) E (extS S W W') ∧ Kp W W' S := by
  obtain ⟨U, T, A, n, cc, h1, h2, h3, h4, h5⟩ := h.ex
  refine (hdrop_calls h1 hs hu hv).mono fun ev W' hh => ?_
  obtain ⟨rfl, a1, K⟩ := hh
  have KS : Kp W W' S := K.mono fun q _ e => h4 q e
  refine ⟨rfl, ⟨⟨_, T, A, n, cc, a1, h2.kp K (fun q hq e => h3 q e hq), fun q hq hT => ?_, fun q hq => hq.imp (h4 q) id, fun q hq => .inl (h5 q hq)⟩, h.slx KS, h.grown KS, h.rg⟩, KS⟩
  rcases hq with e | e
  · exact h3 q e hT
  · have := h2.lt q hT; omega
theorem hb_wadd (h : HB w0 W g r N c F E S) (hN : N ≤ 1000) (hl : E.length ≤ 1000 * 1000) (u v : Int) : Calls P 30 #[.pointer (some ⟨r, 0, none⟩), .int .i64 u, .int .i64 v] W fun ev W' => ev = .returned (.bool (decide ((0 ≤ u ∧ u < N) ∧ (0 ≤ v ∧ v < N) ∧ u ≠ v ∧ pairE u.toNat v.toNat ∉ E))) ∧
    HB w0 W' g r N c F (if (0 ≤ u ∧ u < N) ∧ (0 ≤ v ∧ v < N) ∧ u ≠ v ∧ pairE u.toNat v.toNat ∉ E then E ++ [pairE u.toNat v.toNat] else E) (extS S W W') ∧ Kp W W' S := by
  obtain ⟨U, T, A, n, cc, h1, h2, h3, h4, h5⟩ := h.ex
  refine (gadd_calls h2 h.gr.size u v (by omega) (by omega)).mono fun ev W' hh => ?_
  obtain ⟨rfl, A', n', c', a1, K⟩ := hh
  have KS : Kp W W' S := K.mono fun q _ e => h5 q e
  refine ⟨rfl, ⟨⟨U, _, A', n', c', h1.kp K (fun q hq e => h3 q hq e), a1, fun q hq hT => ?_, fun q hq => .inl (h4 q hq), fun q hq => hq.imp (h5 q) id⟩, h.slx KS, h.grown KS, rg_ite h.rg fun hp => ?_⟩, KS⟩
  · rcases hT with e | e
    · exact h3 q hq e
    · have := h1.lt q hq; omega
  · unfold pairE; simp only; omega
theorem hb_wdrop (h : HB w0 W g r N c F E S) (hd : E.Nodup) (hl : E.length ≤ 1000 * 1000) (u v : Int) : Calls P 18 #[.pointer (some ⟨r, 0, none⟩), .int .i64 u, .int .i64 v] W fun ev W' => ev = .returned (.bool (decide ((0 ≤ u ∧ 0 ≤ v) ∧ pairE u.toNat v.toNat ∈ E))) ∧
    HB w0 W' g r N c F (if (0 ≤ u ∧ 0 ≤ v) ∧ pairE u.toNat v.toNat ∈ E then E.erase (pairE u.toNat v.toNat) else E) (extS S W W') ∧ Kp W W' S := by
  obtain ⟨U, T, A, n, cc, h1, h2, h3, h4, h5⟩ := h.ex
  refine (gdrop_calls h2 h.gr.size hd u v (by omega)).mono fun ev W' hh => ?_
  obtain ⟨rfl, A', n', c', a1, K⟩ := hh
  have KS : Kp W W' S := K.mono fun q _ e => h5 q e
  refine ⟨rfl, ⟨⟨U, _, A', n', c', h1.kp K (fun q hq e => h3 q hq e), a1, fun q hq hT => ?_, fun q hq => .inl (h4 q hq), fun q hq => hq.imp (h5 q) id⟩, h.slx KS, h.grown KS, rg_er h.rg⟩, KS⟩
  rcases hT with e | e
  · exact h3 q hq e
  · have := h1.lt q hq; omega
/-- Both get an edge. -/
theorem hb_add (h : HB w0 W g r N c F F S) (hs : Sm N c) {u v : Int} (hu : okI u) (hv : okI v) : Calls P 29 #[.pointer (some ⟨g, 0, none⟩), .int .i64 u, .int .i64 v] W fun ev W1 => ∃ b : Bool, ev = .returned (.bool b) ∧ Calls P 30 #[.pointer (some ⟨r, 0, none⟩), .int .i64 u, .int .i64 v] W1 fun ev W2 => ev = .returned (.bool b) ∧ ∃ F' S', HB w0 W2 g r N (c + 1) F' F' S' := by
  have hsm := h.small hs.1
  refine (hb_gadd h hs hu hv).mono fun ev W1 hh => ?_
  obtain ⟨rfl, h1, K1⟩ := hh
  refine ⟨_, rfl, (hb_wadd h1 hs.1 hsm u v).mono fun ev W2 hh => ?_⟩
  obtain ⟨rfl, h2, K2⟩ := hh
  exact ⟨rfl, _, _, h2⟩
/-- Both lose an edge. -/
theorem hb_drop (h : HB w0 W g r N c F F S) (hs : Sm N c) {u v : Int} (hu : okI u) (hv : okI v) : Calls P 31 #[.pointer (some ⟨g, 0, none⟩), .int .i64 u, .int .i64 v] W fun ev W1 => ∃ b : Bool, ev = .returned (.bool b) ∧ Calls P 18 #[.pointer (some ⟨r, 0, none⟩), .int .i64 u, .int .i64 v] W1 fun ev W2 => ev = .returned (.bool b) ∧ ∃ F' S', HB w0 W2 g r N (c + 1) F' F' S' := by
  have hsm := h.small hs.1
  refine (hb_gdrop h hs hu hv).mono fun ev W1 hh => ?_
  obtain ⟨rfl, h1, K1⟩ := hh
  refine ⟨_, rfl, (hb_wdrop h1 h.nd hsm u v).mono fun ev W2 hh => ?_⟩
  obtain ⟨rfl, h2, K2⟩ := hh
  exact ⟨rfl, _, _, h2⟩
/-! What the reference answers. -/
theorem cn_comp {E : Eds} {x y : Nat} (hx : x < N) (hy : y < N) : compS N E x = compS N E y ↔ Cn E x y := by
  constructor
  · intro e
    have := compS_self (N := N) (E := E) hy
    rw [← e] at this
    exact ((mem_compS hx).1 this).2
  · intro h
    exact (compS_eq ((mem_compS hx).2 ⟨hy, h⟩)).symm
variable {base n cc : Nat} {T : Nat → Prop} {A : Option Addr}
theorem wconn_calls (h : GR W base r N T A n cc E) (hR : RgE N E) (hN : N ≤ 1000) (hl : E.length ≤ 1000 * 1000) (u v : Int) : Calls P 20 #[.pointer (some ⟨r, 0, none⟩), .int .i64 u, .int .i64 v] W fun ev W' => ∃ b : Bool, ev = .returned (.bool b) ∧ (b = true ↔ inN N u ∧ inN N v ∧ Cn E u.toNat v.toNat) ∧ W.grownBy W' none := by
  refine (gconnectedC_calls h rfl hR (by omega) (by omega) u v).mono fun ev W' hh => ?_
  obtain ⟨rfl, g1⟩ := hh
  refine ⟨_, rfl, ?_, g1⟩
  rw [decide_eq_true_iff]
  constructor
  · rintro ⟨a, b, e⟩
    exact ⟨a, b, (cn_comp (by omega) (by omega)).1 e⟩
  · rintro ⟨a, b, e⟩
    have a' := a; have b' := b
    obtain ⟨a1, a2⟩ := a
    obtain ⟨b1, b2⟩ := b
    exact ⟨a', b', (cn_comp (by omega) (by omega)).2 e⟩
theorem wpart_calls (h : GR W base r N T A n cc E) (hR : RgE N E) (hN : N ≤ 1000) (hl : E.length ≤ 1000 * 1000) (u : Int) : Calls P 22 #[.pointer (some ⟨r, 0, none⟩), .int .i64 u] W fun ev W' => ∃ (A : Option Addr) (m k : Nat), ev = .returned (.slice A m k) ∧ ((if inN N u then ((partC N E u.toNat).length : Int) else 0) = (m : Int)) ∧ W.grownBy W' none := by
  refine (gpartC_calls h rfl hR (by omega) (by omega) u).mono fun ev W' hh => ?_
  obtain ⟨A', m, k, rfl, o1, g1⟩ := hh
  refine ⟨A', m, k, rfl, ?_, g1⟩
  have h1 := o1.cases.1
  unfold partN at h1
  by_cases hc : inN N u
  · rw [if_pos hc]; rw [if_pos (show 0 ≤ u ∧ u < (N : Int) from hc)] at h1
    unfold partC
    simp at h1; omega
  · rw [if_neg hc]; rw [if_neg (show ¬ (0 ≤ u ∧ u < (N : Int)) from hc)] at h1; simp at h1; omega
theorem wcount_calls (h : GR W base r N T A n cc E) (hR : RgE N E) (hN : N ≤ 1000) (hl : E.length ≤ 1000 * 1000) : Calls P 26 #[.pointer (some ⟨r, 0, none⟩)] W fun ev W' => ev = .returned (.int .i64 (cntC N E : Int)) ∧ W.grownBy W' none :=
  gcountC_calls h rfl hR (by omega) (by omega)
theorem rnew_calls {w : World} {base : Nat} (hb : base ≤ w.heap.size) (n : Int) : Calls P 14 #[.int .i64 n] w fun ev w' => ev = .returned (.pointer (some ⟨w.heap.size, 0, none⟩)) ∧ GR w' base w.heap.size (nOf n) (fun q => q = w.heap.size) none 0 0 [] ∧ w.grownBy w' none := by
  apply vc14; unfold VC14; try (conv => zeta)
  simp only [mnE, mxE]
  have hNe : (min (max n 0) 65536 : Int) = (nOf n : Int) := by unfold nOf; omega
  rw [hNe]
  have g4 := World.grownBy_alloc w (.cells #[.int .i64 (nOf n : Int), .slice none 0 0] 34) none
  have b4 := heap_alloc_new w (.cells #[.int .i64 (nOf n : Int), .slice none 0 0] 34)
  exact ⟨by trivial, ⟨b4, OwnedK.nil _ _ _ _, rfl, fun q hq => (by cases hq), fun q hq => by rw [hq]; exact (Array.getElem?_eq_some_iff.1 b4).1⟩, g4⟩
/-- Both anew. -/
theorem hb_new {w w1 : World} (g1 : w.grownBy w1 none) (m sd : Int) : Calls P 28 #[.int .i64 m, .int .u64 sd] w1 fun ev w2 => ∃ g : Nat, ev = .returned (.pointer (some ⟨g, 0, none⟩)) ∧ Calls P 14 #[.int .i64 m] w2 fun ev w3 => ∃ r : Nat, ev = .returned (.pointer (some ⟨r, 0, none⟩)) ∧ ∃ S, HB w w3 g r (nOf m) 0 [] [] S := by
  refine (hnew_calls g1.size m sd).mono fun ev w2 hh => ?_
  obtain ⟨g, rfl, h2, g2⟩ := hh
  refine ⟨g, rfl, (rnew_calls (Nat.le_trans g1.size g2.size) m).mono fun ev w3 hh => ?_⟩
  obtain ⟨rfl, h3, g3⟩ := hh
  have s1 := g1.size
  have s2 := g2.size
  have s3 := h3.lt _ rfl
  refine ⟨_, rfl, fun q => w1.heap.size ≤ q ∧ q < w3.heap.size, ⟨_, _, _, _, _, h2.kept g3, h3, fun q hq e => ?_, fun q hq => ⟨hq.1, ?_⟩, fun q hq => ?_⟩, fun q hq => ⟨Nat.le_trans s1 hq.1, hq.2⟩, grown_trans g1 (grown_trans g2 g3), fun e he => by cases he⟩
  · have := hq.2; omega
  · have := hq.2; omega
  · subst hq; exact ⟨s2, s3⟩
/-- How many edges a tree has. -/
theorem tree_len {Ts F : Eds} (h1 : FrE N Ts) (h2 : ∀ x y, Cn Ts x y ↔ Cn F x y) : Ts.length + cntC N F = N := by
  rw [← cnt_congr (E := Ts) (F := F) fun x y _ _ => h2 x y]
  unfold FrE at h1; omega
end
end Go.Proofs.Ytpfkpmapimonbaa

/-! archipelagolaw23: known, forest: the walks. -/
namespace Go.Proofs.Ytpfkpmapimonbaa
open Go Go.V Go.RowKit
set_option linter.unusedVariables false
set_option linter.unusedSimpArgs false
set_option maxHeartbeats 8000000
set_option maxRecDepth 100000

theorem row_pr {w : World} {A : Option Addr} {E : Eds} (h : Row w A (prs E)) {x : Nat} (hx : x < E.length) : ∃ a, A = some a ∧ w.cell? (a.add (x * 2)) = some (.int .i64 (E[x].1 : Int)) ∧ w.cell? (Addr.add (a.add (x * 2)) 1) = some (.int .i64 (E[x].2 : Int)) := by
  obtain ⟨a, e1, e2⟩ := h (x * 2 + 0) (.int .i64 (E[x].1 : Int)) (by rw [prs_get E x hx 0 (by omega)]; rfl)
  obtain ⟨b, f1, f2⟩ := h (x * 2 + 1) (.int .i64 (E[x].2 : Int)) (by rw [prs_get E x hx 1 (by omega)]; rfl)
  rw [e1] at f1; cases f1
  exact ⟨a, e1, e2, by rw [add_add]; exact f2⟩
theorem forest_calls {w : World} {base r N n cc tn tc : Nat} {T : Nat → Prop} {A tA : Option Addr} {E Ts : Eds} (h : GR w base r N T A n cc E) (hR : RgE N E) (hN : N ≤ 1000) (hl : E.length ≤ 1000 * 1000) (hrow : Row w tA (prs Ts)) (htn : tn = Ts.length) (hs : Ts.Pairwise fun a b => ltP a b = true) (hsub : ∀ e ∈ Ts, e ∈ E) (hf : FrE N Ts) (hc : ∀ x y, Cn Ts x y ↔ Cn E x y) :
    Calls P 39 #[.slice tA tn tc, .pointer (some ⟨r, 0, none⟩)] w fun ev w' => ev = .returned (.bool true) ∧ w.grownBy w' none := by
  apply vc39; unfold VC39; try (conv => zeta)
  simp only [InK]
  refine ⟨_, rfl, _, blk_cell h.blk 0, (rnew_calls (Nat.le_refl _) (N : Int)).mono fun ev w1 hh => ?_⟩
  obtain ⟨rfl, h1, g1⟩ := hh
  have hnN : nOf (N : Int) = N := by unfold nOf; omega
  rw [hnN] at h1
  obtain ⟨x, hx⟩ : ∃ x, x = w.heap.size := ⟨_, rfl⟩
  rw [← hx] at h1 ⊢
  have hRT : RgE N Ts := fun e he => hR e (hsub e he)
  have hnd : Ts.Nodup := hs.imp fun {a b} hab e => by rw [e, ltP_swo.irrefl] at hab; cases hab
  have hTl : Ts.length ≤ N := by unfold FrE at hf; omega
  refine ⟨_, rfl, fun m i W => ∃ (j : Nat) (Tx : Nat → Prop) (A' : Option Addr) (n' c' : Nat), i = (j : Int) ∧ j ≤ Ts.length ∧ m = Ts.length - j ∧ GR W x x N Tx A' n' c' (Ts.take j) ∧ (∀ q, Tx q → w.heap.size ≤ q) ∧ w.grownBy W none, ⟨_, 0, _, _, _, _, rfl, by omega, rfl, h1, fun q hq => by omega, g1⟩, ?_⟩
  rintro m i W ⟨j, Tx, A', n', c', rfl, hj, rfl, hG, hTx, gW⟩
  have tj : (j : Int).toNat = j := by omega
  rw [tj]
  have gWs := gW.size
  refine ⟨fun hlt => ?_, fun hge => ?_⟩
  · have lj : j < Ts.length := by omega
    have hej := hRT _ (List.getElem_mem lj)
    have gd := grown_drew (grown_refl W none)
    obtain ⟨W0, hW0⟩ : ∃ W0, W0 = W.drew := ⟨_, rfl⟩
    rw [← hW0] at gd ⊢
    have cell : ∀ W', w.grownBy W' none → ∀ k (hk : k < Ts.length), ∃ a, tA = some a ∧ W'.cell? (a.add (k * 2)) = some (.int .i64 (Ts[k].1 : Int)) ∧ W'.cell? (Addr.add (a.add (k * 2)) 1) = some (.int .i64 (Ts[k].2 : Int)) := fun W' hW' k hk => row_pr (hrow.kept_none hW') hk
    have g0 := grown_trans gW gd
    obtain ⟨a, ea, c1, c2⟩ := cell W0 g0 j lj
    have a0 : 0 ≤ (j : Int) := by omega
    have a1 : (j : Int) < (tn : Int) := by omega
    have z0 : (0 : Int) ≤ 0 ∧ (0 : Int) < 2 := by omega
    have z1 : (0 : Int) ≤ 1 ∧ (1 : Int) < 2 := by omega
    refine ⟨a, ea, a0, a1, z0, _, c1, a, ea, a0, a1, z1, _, c2, fun h' => absurd h' (by omega), fun _ => ⟨a, ea, a0, a1, z0, _, c1, a, ea, a0, a1, z1, _, c2, ?_⟩⟩
    have hG0 := h.kept g0
    refine (ghas_calls hG0 (Ts[j].1 : Int) (Ts[j].2 : Int) (by omega)).mono fun ev W1 hh => ?_
    obtain ⟨rfl, g2⟩ := hh
    have g02 := grown_trans g0 g2
    have t1 : ((Ts[j].1 : Nat) : Int).toNat = Ts[j].1 := by omega
    have t2 : ((Ts[j].2 : Nat) : Int).toNat = Ts[j].2 := by omega
    have hpe : pairE Ts[j].1 Ts[j].2 = Ts[j] := by unfold pairE; rw [Nat.min_eq_left (by omega), Nat.max_eq_right (by omega)]
    obtain ⟨a', ea', d1, d2⟩ := cell W1 g02 j lj
    rw [ea] at ea'; cases ea'
    refine ⟨_, rfl, fun h' => absurd (of_decide_eq_false h') (fun hn => hn ⟨by omega, by rw [t1, t2, hpe]; exact hsub _ (List.getElem_mem lj)⟩), fun _ => ⟨a, ea, a0, a1, z0, _, d1, a, ea, a0, a1, z1, _, d2, ?_⟩⟩
    have hR' : RgE N (Ts.take j) := fun e he => hRT e (List.mem_of_mem_take he)
    have hG1 := hG.kept (grown_trans gd g2)
    have g02s := g02.size
    refine (glinkC_calls hG1 rfl hR' (by simp; omega) (by omega) (by omega) (Ts[j].1 : Int) (Ts[j].2 : Int)).mono fun ev W2 hh => ?_
    obtain ⟨rfl, A2, n2, c2', h2, K2⟩ := hh
    have hnm : Ts[j] ∉ Ts.take j := fun hm => by
      obtain ⟨k, hk, e⟩ := List.getElem_of_mem hm
      have hkj : k < j := by simp at hk; omega
      rw [List.getElem_take] at e
      exact absurd ((List.getElem_inj hnd).1 e) (by omega)
    have hncn : ¬ Cn (Ts.take j) Ts[j].1 Ts[j].2 := fr_sub hRT hf (fun e he => List.mem_of_mem_take he) (List.getElem_mem lj) hnm
    have hyes : (0 ≤ (Ts[j].1 : Int) ∧ (Ts[j].1 : Int) < N) ∧ (0 ≤ (Ts[j].2 : Int) ∧ (Ts[j].2 : Int) < N) ∧ compS N (Ts.take j) ((Ts[j].1 : Nat) : Int).toNat ≠ compS N (Ts.take j) ((Ts[j].2 : Nat) : Int).toNat := by
      rw [t1, t2]
      exact ⟨⟨by omega, by omega⟩, ⟨by omega, by omega⟩, fun e => hncn ((cn_comp (by omega) (by omega)).1 e)⟩
    rw [if_pos hyes, t1, t2, hpe, ← List.take_succ_eq_append_getElem lj] at h2
    have g2s : w.grownBy W2 none := ((Kp.of_none (S := fun q => w.heap.size ≤ q) g02).then K2 fun q _ e => hTx q e).grown fun q hq e => by omega
    have hnext : (-9223372036854775808 ≤ (j : Int) + 1 ∧ (j : Int) + 1 ≤ 9223372036854775807) ∧ ∃ m_1 : Nat, m_1 < Ts.length - j ∧ ∃ (k : Nat) (Tx : Nat → Prop) (A' : Option Addr) (n' c' : Nat), (j : Int) + 1 = (k : Int) ∧ k ≤ Ts.length ∧ m_1 = Ts.length - k ∧ GR W2 x x N Tx A' n' c' (Ts.take k) ∧ (∀ q, Tx q → w.heap.size ≤ q) ∧ w.grownBy W2 none :=
      ⟨by omega, Ts.length - (j + 1), by omega, j + 1, _, A2, n2, c2', by omega, by omega, rfl, h2, fun q hq => hq.elim (hTx q) (fun e => by omega), g2s⟩
    refine ⟨_, rfl, fun h' => absurd hyes (of_decide_eq_false h'), fun _ => ⟨fun hpos => ?_, fun _ => hnext⟩⟩
    have lj1 : j - 1 < Ts.length := by omega
    obtain ⟨a', ea', f1, f2⟩ := cell W2 g2s j lj
    rw [ea] at ea'; cases ea'
    obtain ⟨a', ea', p1, p2⟩ := cell W2 g2s (j - 1) lj1
    rw [ea] at ea'; cases ea'
    have tj1 : ((j : Int) - 1).toNat = j - 1 := by omega
    rw [tj1]
    have b0 : 0 ≤ (j : Int) - 1 := by omega
    have b1 : (j : Int) - 1 < (tn : Int) := by omega
    have b2 : -9223372036854775808 ≤ (j : Int) - 1 ∧ (j : Int) - 1 ≤ 9223372036854775807 := by omega
    have hlt' := List.pairwise_iff_getElem.1 hs (j - 1) j lj1 lj (by omega)
    unfold ltP at hlt'
    have hlt' := of_decide_eq_true hlt'
    exact ⟨a, ea, a0, a1, z0, _, f1, b2, a, ea, b0, b1, z0, _, p1, fun h' => absurd h' (by omega), fun _ => ⟨a, ea, a0, a1, z0, _, f1, b2, a, ea, b0, b1, z0, _, p1, fun h' => ⟨a, ea, a0, a1, z1, _, f2, b2, a, ea, b0, b1, z1, _, p2, fun h'' => absurd h'' (by omega), fun _ => hnext⟩, fun _ => hnext⟩⟩
  · have hje : j = Ts.length := by omega
    subst hje
    rw [List.take_length] at hG
    refine (wcount_calls hG hRT hN (by omega)).mono fun ev W1 hh => ?_
    obtain ⟨rfl, g2⟩ := hh
    refine ⟨_, rfl, (wcount_calls (h.kept (grown_trans gW g2)) hR hN hl).mono fun ev W2 hh => ?_⟩
    obtain ⟨rfl, g3⟩ := hh
    refine ⟨_, rfl, ?_, grown_trans gW (grown_trans g2 g3)⟩
    rw [decide_eq_true]
    rw [cnt_congr (E := Ts) (F := E) fun x y _ _ => hc x y]
theorem cn4 : Cn [(1, 2), (0, 2)] 0 1 := (Cn.of_mem (E := [(1, 2), (0, 2)]) (a := 0) (b := 2) (by simp)).trans (Cn.of_mem (E := [(1, 2), (0, 2)]) (a := 1) (b := 2) (by simp)).symm
theorem part4 : (partC 4 [(1, 2), (0, 2)] 0).length = 3 := by
  have h3 : ∀ x, Cn [(1, 2), (0, 2)] 0 x ↔ x < 3 := fun x => by
    constructor
    · intro h
      exact (Cn.closed (S := fun x => x < 3) (fun e he => by simp at he; rcases he with rfl | rfl <;> simp) h).1 (by omega)
    · intro h
      have : x = 0 ∨ x = 1 ∨ x = 2 := by omega
      rcases this with rfl | rfl | rfl
      · exact .refl _
      · exact cn4
      · exact .of_mem (by simp)
  have : partC 4 [(1, 2), (0, 2)] 0 = (List.range 4).filter fun x => decide (x < 3) := by
    unfold partC verts
    exact List.filter_congr fun x hx => decide_eq_decide.2 (by rw [mem_compS (by omega), h3]; exact ⟨fun h => h.2, fun h => ⟨by omega, h⟩⟩)
  rw [this]; decide
theorem cn4b : ¬ Cn [(0, 2)] 1 2 := fun h => by
  have := (Cn.closed (S := fun x => x = 1) (fun e he => by simp at he; subst he; simp) h).1 rfl
  omega
theorem cnt4 : cntC 4 [(0, 2)] = 3 := by
  have h0 : FrE 4 [] := by unfold FrE; rw [cnt_nil]; rfl
  have h1 := fr_add (N := 4) (a := 0) (b := 2) (by omega) (by omega) h0 (fun h => by have := h.nil; omega)
  unfold FrE at h1
  simp at h1; omega
theorem known23_calls {w : World} : Calls P 27 #[] w fun ev w' => ev = .returned (.bool true) ∧ w.grownBy w' none := by
  apply vc27; unfold VC27; try (conv => zeta)
  refine (hnew_calls (Nat.le_refl _) 4 7).mono fun ev w1 hh => ?_
  obtain ⟨g, rfl, h1, g1⟩ := hh
  have hN4 : nOf 4 = 4 := by decide
  rw [hN4] at h1
  have ok : ∀ x : Int, 0 ≤ x → x ≤ 5 → okI x := fun x _ _ => by unfold okI; omega
  have sm : ∀ c : Nat, c ≤ 10 → Sm 4 c := fun c _ => ⟨by omega, by omega⟩
  have S0 : Kp w w1 (fun q => w.heap.size ≤ q) := Kp.of_none g1
  refine ⟨_, rfl, fun h => (by cases h), fun _ => ?_⟩
  refine (hadd_calls h1 (sm 0 (by omega)) (ok 0 (by omega) (by omega)) (ok 1 (by omega) (by omega))).mono fun ev w2 hh => ?_
  obtain ⟨rfl, h2, K2⟩ := hh
  rw [if_pos (by decide)] at h2
  have e2 : ([] : Eds) ++ [pairE (0 : Int).toNat (1 : Int).toNat] = [(0, 1)] := by decide
  rw [e2] at h2
  refine ⟨_, rfl, (hadd_calls h2 (sm 1 (by omega)) (ok 1 (by omega) (by omega)) (ok 2 (by omega) (by omega))).mono fun ev w3 hh => ?_⟩
  obtain ⟨rfl, h3, K3⟩ := hh
  rw [if_pos (by decide)] at h3
  have e3 : ([(0, 1)] : Eds) ++ [pairE (1 : Int).toNat (2 : Int).toNat] = [(0, 1), (1, 2)] := by decide
  rw [e3] at h3
  refine ⟨_, rfl, (hadd_calls h3 (sm 2 (by omega)) (ok 2 (by omega) (by omega)) (ok 0 (by omega) (by omega))).mono fun ev w4 hh => ?_⟩
  obtain ⟨rfl, h4, K4⟩ := hh
  rw [if_pos (by decide)] at h4
  have e4 : ([(0, 1), (1, 2)] : Eds) ++ [pairE (2 : Int).toNat (0 : Int).toNat] = [(0, 1), (1, 2), (0, 2)] := by decide
  rw [e4] at h4
  refine ⟨_, rfl, (hadd_calls h4 (sm 3 (by omega)) (ok 0 (by omega) (by omega)) (ok 2 (by omega) (by omega))).mono fun ev w5 hh => ?_⟩
  obtain ⟨rfl, h5, K5⟩ := hh
  rw [if_neg (by decide)] at h5
  refine ⟨_, rfl, (hdrop_calls h5 (sm 4 (by omega)) (ok 1 (by omega) (by omega)) (ok 0 (by omega) (by omega))).mono fun ev w6 hh => ?_⟩
  obtain ⟨rfl, h6, K6⟩ := hh
  rw [if_pos (by decide)] at h6
  have e6 : ([(0, 1), (1, 2), (0, 2)] : Eds).erase (pairE (1 : Int).toNat (0 : Int).toNat) = [(1, 2), (0, 2)] := by decide
  rw [e6] at h6
  refine ⟨_, rfl, (hconn_calls h6 (sm 5 (by omega)) 0 1).mono fun ev w7 hh => ?_⟩
  obtain ⟨r7, rfl, hr7, rfl⟩ := hh
  have hr7 : r7 = true := hr7.2 ⟨⟨by omega, by omega⟩, ⟨by omega, by omega⟩, cn4⟩
  refine ⟨_, rfl, (hsize_calls h6 (sm 5 (by omega)) 0).mono fun ev w8 hh => ?_⟩
  obtain ⟨rfl, rfl⟩ := hh
  rw [if_pos (show inN 4 0 from ⟨by omega, by omega⟩), show (0 : Int).toNat = 0 from rfl, part4]
  refine ⟨_, rfl, (hdrop_calls h6 (sm 5 (by omega)) (ok 2 (by omega) (by omega)) (ok 1 (by omega) (by omega))).mono fun ev w9 hh => ?_⟩
  obtain ⟨rfl, h9, K9⟩ := hh
  rw [if_pos (by decide)] at h9
  have e9 : ([(1, 2), (0, 2)] : Eds).erase (pairE (2 : Int).toNat (1 : Int).toNat) = [(0, 2)] := by decide
  rw [e9] at h9
  have gA : w.grownBy w9 none := by
    have S1 := S0.then K2 fun q _ e => e.1
    have lt2 := h2.lt; have lt3 := h3.lt; have lt4 := h4.lt; have lt5 := h5.lt; have lt6 := h6.lt
    exact ((((((S0.then K2 fun q _ e => e.1).then K3 fun q hq e => (lt2 q e).1).then K4 fun q hq e => (lt3 q e).1).then K5 fun q hq e => (lt4 q e).1).then K6 fun q hq e => (lt5 q e).1).then K9 fun q hq e => (lt6 q e).1).grown fun q hq e => by omega
  refine ⟨_, rfl, fun _ => ⟨fun _ => ⟨fun _ => ⟨fun _ => ⟨fun _ => ⟨fun _ => ⟨fun _ => ⟨fun _ => ?_, fun h => absurd h (by decide)⟩, fun h => absurd rfl h⟩, fun h => absurd (hr7.symm.trans h) (by decide)⟩, fun h => absurd h (by decide)⟩, fun h => absurd (by decide) h⟩, fun h => absurd h (by decide)⟩, fun h => absurd h (by decide)⟩, fun h => absurd h (by decide)⟩
  refine (hconn_calls h9 (sm 6 (by omega)) 1 2).mono fun ev w10 hh => ?_
  obtain ⟨r10, rfl, hr10, rfl⟩ := hh
  have hr10 : r10 = false := by
    cases r10 with
    | false => rfl
    | true => exact absurd (hr10.1 rfl).2.2 cn4b
  refine ⟨_, rfl, fun _ => (hcount_calls h9 (sm 6 (by omega))).mono fun ev w11 hh => ?_, fun h => absurd hr10 h⟩
  obtain ⟨rfl, g11⟩ := hh
  have h11 := h9.kept g11
  rw [cnt4]
  refine ⟨_, rfl, fun _ => (hhas_calls h11 (ok 2 (by omega) (by omega)) (ok 0 (by omega) (by omega))).mono fun ev w12 hh => ?_, fun h => absurd rfl h⟩
  obtain ⟨rfl, g12⟩ := hh
  have h12 := h11.kept g12
  refine ⟨_, rfl, fun _ => (hhas_calls h12 (ok 0 (by omega) (by omega)) (ok 1 (by omega) (by omega))).mono fun ev w13 hh => ?_, fun h => absurd h (by decide)⟩
  obtain ⟨rfl, g13⟩ := hh
  have h13 := h12.kept g13
  refine ⟨_, rfl, fun _ => (hdegree_calls h13 2).mono fun ev w14 hh => ?_, fun h => absurd (by decide) h⟩
  obtain ⟨rfl, rfl⟩ := hh
  refine ⟨_, rfl, fun _ => (htree_calls h13 (sm 6 (by omega))).mono fun ev w15 hh => ?_, fun h => absurd (by decide) h⟩
  obtain ⟨A, n, k, Ts, rfl, o15, t1, t2, t3, t4, g15⟩ := hh
  have hl := tree_len t3 t4
  rw [cnt4] at hl
  have hn := o15.cases.1
  rw [prs_length] at hn
  refine ⟨_, _, _, rfl, ?_, grown_trans gA (grown_trans g11 (grown_trans g12 (grown_trans g13 g15)))⟩
  rw [decide_eq_true (by omega)]
end Go.Proofs.Ytpfkpmapimonbaa

/-! archipelagolaw23.HdtPlays: the walk. -/
namespace Go.Proofs.Ytpfkpmapimonbaa
open Go Go.V Go.RowKit
set_option linter.unusedVariables false
set_option linter.unusedSimpArgs false
set_option maxHeartbeats 8000000
set_option maxRecDepth 100000

/-- The tree of the one is a forest of the other. -/
theorem hb_forest {w0 W : World} {g r N c : Nat} {F : Eds} {S : Nat → Prop} (h : HB w0 W g r N c F F S) (hs : Sm N c) :
    Calls P 40 #[.pointer (some ⟨g, 0, none⟩)] W fun ev W1 => ∃ (A : Option Addr) (n k : Nat), ev = .returned (.slice A n k) ∧ Calls P 39 #[.slice A n k, .pointer (some ⟨r, 0, none⟩)] W1 fun ev W2 => ev = .returned (.bool true) ∧ W.grownBy W2 none := by
  obtain ⟨U, h1⟩ := h.hs
  obtain ⟨T, A, n, cc, h2⟩ := h.wg
  refine (htree_calls h1 hs).mono fun ev W1 hh => ?_
  obtain ⟨A1, n1, k1, Ts, rfl, o1, t1, t2, t3, t4, g1⟩ := hh
  have hn := o1.cases.1
  rw [prs_length] at hn
  refine ⟨A1, n1, k1, rfl, (forest_calls (h2.kept g1) h.rg hs.1 (h.small hs.1) o1.row (by omega) t1 t2 t3 t4).mono fun ev W2 hh => ?_⟩
  exact ⟨hh.1, grown_trans g1 hh.2⟩
theorem walkHdtPlays {w : World} {n k sd : Int} {A : Option Addr} {m c : Nat} {l : List ActV} (hn : okI n) (hk : 0 ≤ k ∧ k ≤ 255) (hsd : 0 ≤ sd ∧ sd ≤ 18446744073709551615) (hrow : Row w A (acts l)) (hm : m = l.length) (hb : ∀ x ∈ l, okAct x) :
    Calls P 7 #[.int .i64 n, .int .u8 k, .int .u64 sd, .slice A m c] w fun ev w' => ev = .returned (.bool true) ∧ w.grownBy w' none := by
  apply vc7; unfold VC7; try (conv => zeta)
  simp only [InK]
  refine known23_calls.mono fun ev w1 hh => ?_
  obtain ⟨rfl, g1⟩ := hh
  refine ⟨true, rfl, fun h => (by cases h), fun _ => ⟨fun _ => ⟨by trivial, g1⟩, fun h80 => ⟨⟨by omega, by omega⟩, by omega, ?_⟩⟩⟩
  refine ⟨fun mm W => W = w1 ∧ nOf mm ≤ 12, ⟨fun h0 => ⟨rfl, by unfold nOf; omega⟩, fun h0 => ⟨rfl, by unfold nOf; omega⟩⟩, ?_⟩
  rintro mm w2 ⟨rfl, hmm⟩
  refine (hb_new g1 mm sd).mono fun ev w3 hh => ?_
  obtain ⟨g, rfl, hc3⟩ := hh
  refine ⟨_, rfl, hc3.mono fun ev w4 hh => ?_⟩
  obtain ⟨r, rfl, S4, hP4⟩ := hh
  obtain ⟨N, hN⟩ : ∃ N, N = nOf mm := ⟨_, rfl⟩
  rw [← hN] at hP4 hmm
  refine ⟨_, rfl, fun q i W => ∃ (j : Nat) (F : Eds) (S : Nat → Prop), i = j ∧ j ≤ l.length ∧ q = l.length - j ∧ HB w W g r N j F F S, ⟨_, 0, [], S4, rfl, by omega, rfl, hP4⟩, ?_⟩
  rintro q i W ⟨j, F, S, rfl, hj, rfl, hP⟩
  have tj : (j : Int).toNat = j := by omega
  rw [tj]
  refine ⟨fun hlt => ?_, fun hge => ?_⟩
  · have lj : j < l.length := by omega
    have hsm : Sm N j := ⟨by omega, by omega⟩
    have hsm1 : Sm N (j + 1) := ⟨by omega, by omega⟩
    obtain ⟨ok1, ok2, ok3, ok4⟩ := hb _ (List.getElem_mem lj)
    have gd := grown_drew (grown_refl W none)
    have hPd := hP.kept gd
    obtain ⟨W0, hW0⟩ : ∃ W0, W0 = W.drew := ⟨_, rfl⟩
    rw [← hW0] at gd hPd ⊢
    have rowAt : ∀ W', w.grownBy W' none → ∃ a, A = some a ∧ W'.cell? (a.add (j * 4)) = some (.int .u8 l[j].wh) ∧ W'.cell? (Addr.add (a.add (j * 4)) 1) = some (.int .u8 l[j].u) ∧ W'.cell? (Addr.add (a.add (j * 4)) 2) = some (.int .u8 l[j].v) ∧ W'.cell? (Addr.add (a.add (j * 4)) 3) = some (.int .i64 l[j].raw) := fun W' hg => act_at (hrow.kept_none hg) lj
    obtain ⟨a, e0, f0, f1, f2, f3⟩ := rowAt W0 hPd.gr
    refine ⟨a, e0, by omega, by omega, _, f1, ⟨by omega, by omega⟩, by omega, a, e0, by omega, by omega, _, f2, ⟨by omega, by omega⟩, by omega, fun u W' => W' = W0 ∧ okI u, ⟨a, e0, by omega, by omega, _, f1, fun h250 => ⟨a, e0, by omega, by omega, _, f3, rfl, ok4⟩, fun h250 => ⟨rfl, by unfold okI; omega⟩⟩, ?_⟩
    rintro u W6 ⟨rfl, hu⟩
    have hv : okI (l[j].v % 12) := by unfold okI; omega
    refine ⟨fun u v W' => okI u ∧ okI v ∧ ∃ F' S', HB w W' g r N (j + 1) F' F' S', ⟨a, e0, by omega, by omega, _, f0, ⟨by omega, by omega⟩, fun hlink => ?_, fun hcut => ?_⟩, ?_⟩
    · refine (hb_add hPd hsm hu hv).mono fun ev W7 hh => ?_
      obtain ⟨b, rfl, hc⟩ := hh
      refine ⟨b, rfl, hc.mono fun ev W8 hh => ?_⟩
      obtain ⟨rfl, F8, S8, hP8⟩ := hh
      exact ⟨b, rfl, _, fun w => run_neB21 _ _ _ _ w, fun h => (by simp at h), fun _ => ⟨hu, hv, F8, S8, hP8⟩⟩
    · obtain ⟨T, A4, n4, c4, hG⟩ := hPd.wg
      have hn4 := hG.len
      refine ⟨fun u v W' => okI u ∧ okI v ∧ W6.grownBy W' none, ⟨_, rfl, _, _, _, by rw [add_blk]; exact blk_cell hG.blk 1, fun hpos => ⟨a, e0, by omega, by omega, _, f2, fun h100 => ?_, fun h100 => ⟨hu, hv, grown_refl _ _⟩⟩, fun hpos => ⟨hu, hv, grown_refl _ _⟩⟩, ?_⟩
      · -- an edge that is there
        have gd6 := grown_drew (grown_refl W6 none)
        obtain ⟨W9, hW9⟩ : ∃ W9, W9 = W6.drew := ⟨_, rfl⟩
        rw [← hW9] at gd6 ⊢
        have hG9 := hG.kept gd6
        have gw9 := grown_trans hPd.gr gd6
        have m1 := Int.emod_nonneg l[j].u (show (n4 : Int) ≠ 0 by omega)
        have m2 := Int.emod_lt_of_pos l[j].u (show (0 : Int) < (n4 : Int) by omega)
        obtain ⟨x, hx⟩ : ∃ x : Nat, l[j].u % (n4 : Int) = (x : Int) := ⟨(l[j].u % (n4 : Int)).toNat, by omega⟩
        rw [hx] at m1 m2
        have lx : x < F.length := by omega
        have tx : (x : Int).toNat = x := by omega
        obtain ⟨a9, q1, q2, q3⟩ := hG9.cell lx
        have cG : ∀ W', W9.grownBy W' none → W'.cell? (Addr.add ⟨r, 0, none⟩ 1) = some (.slice A4 n4 c4) := fun W' hg => by rw [add_blk]; exact blk_cell (hG9.kept hg).blk 1
        have cE : ∀ W', W9.grownBy W' none → W'.cell? (a9.add (x * 2)) = some (.int .i64 (F[x].1 : Int)) ∧ W'.cell? (Addr.add (a9.add (x * 2)) 1) = some (.int .i64 (F[x].2 : Int)) := fun W' hg => by
          obtain ⟨b9, s1, s2, s3⟩ := (hG9.kept hg).cell lx
          rw [q1] at s1; cases s1
          exact ⟨s2, s3⟩
        have cA : ∀ W', W9.grownBy W' none → W'.cell? (Addr.add (a.add (j * 4)) 1) = some (.int .u8 l[j].u) ∧ W'.cell? (Addr.add (a.add (j * 4)) 2) = some (.int .u8 l[j].v) := fun W' hg => by
          obtain ⟨b9, s1, s2, s3, s4, s5⟩ := rowAt W' (grown_trans gw9 hg)
          rw [e0] at s1; cases s1
          exact ⟨s3, s4⟩
        have gA := World.grownBy_alloc W9 (.cells #[.int .i64 0, .int .i64 0] 35) none
        have bA := heap_alloc_new W9 (.cells #[.int .i64 0, .int .i64 0] 35)
        have s1 := blk_set bA 0 (.int .i64 (F[x].1 : Int))
        have s2 := blk_set s1 1 (.int .i64 (F[x].2 : Int))
        have gS : W9.grownBy (((W9.alloc (.cells #[.int .i64 0, .int .i64 0] 35)).setCell ⟨W9.heap.size, 0, none⟩ (.int .i64 (F[x].1 : Int))).setCell ⟨W9.heap.size, 1, none⟩ (.int .i64 (F[x].2 : Int))) none := (kset (kset (Kp.of_none (S := fun q => W9.heap.size ≤ q) gA) (Nat.le_refl _)) (Nat.le_refl _)).grown (fun q hq e => by omega)
        refine ⟨fun W' => W9.grownBy W' none, grown_refl _ _, _, rfl, A4, n4, c4, cG, a, e0, by omega, by omega, _, fun W' hg => (cA W' hg).1, by omega, _, rfl, A4, n4, c4, cG, ⟨by omega, by omega⟩, a9, q1, by omega, by omega, (F[x].1 : Int), ?_, (F[x].2 : Int), ?_, gA, ⟨_, blk_cell bA 0⟩, blk_free bA 0, ⟨_, blk_cell s1 1⟩, blk_free s1 1, gS, ?_⟩
        · intro W' hg; rw [hx, tx]; exact (cE W' hg).1
        · intro W' hg; rw [hx, tx]; exact (cE W' hg).2
        have gSd := grown_drew gS
        obtain ⟨W10, hW10⟩ : ∃ W10, W10 = (((W9.alloc (.cells #[.int .i64 0, .int .i64 0] 35)).setCell ⟨W9.heap.size, 0, none⟩ (.int .i64 (F[x].1 : Int))).setCell ⟨W9.heap.size, 1, none⟩ (.int .i64 (F[x].2 : Int))).drew := ⟨_, rfl⟩
        have b10 : W10.heap[W9.heap.size]? = some (.cells #[.int .i64 (F[x].1 : Int), .int .i64 (F[x].2 : Int)] 35 (0, 0)) := by rw [hW10]; exact s2
        rw [← hW10] at gSd ⊢
        have hEx : F[x].1 < N ∧ F[x].2 < N := by
          have := hPd.rg _ (List.getElem_mem lx); omega
        have pickE : ∀ y : Int, 0 ≤ y → y < 2 → ∃ z : Int, W10.cell? (Addr.add ⟨W9.heap.size, 0, none⟩ y.toNat) = some (.int .i64 z) ∧ okI z := fun y y0 y2 => by
          have : y = 0 ∨ y = 1 := by omega
          rcases this with rfl | rfl
          · exact ⟨(F[x].1 : Int), by rw [add_blk]; exact blk_cell b10 0, by unfold okI; omega⟩
          · exact ⟨(F[x].2 : Int), by rw [add_blk]; exact blk_cell b10 1, by unfold okI; omega⟩
        obtain ⟨z1, y1, y1ok⟩ := pickE (l[j].v % 2) (by omega) (by omega)
        obtain ⟨z2, y2, y2ok⟩ := pickE (1 - l[j].v % 2) (by omega) (by omega)
        exact ⟨a, e0, by omega, by omega, _, (cA W10 gSd).2, ⟨by omega, by omega⟩, ⟨by omega, by omega⟩, z1, y1, a, e0, by omega, by omega, _, (cA W10 gSd).2, ⟨by omega, by omega⟩, ⟨by omega, by omega⟩, ⟨by omega, by omega⟩, z2, y2, y1ok, y2ok, grown_trans gd6 gSd⟩
      · rintro u1 v1 W9 ⟨hu1, hv1, g9⟩
        refine (hb_drop (hPd.kept g9) hsm hu1 hv1).mono fun ev W10 hh => ?_
        obtain ⟨b, rfl, hc⟩ := hh
        refine ⟨b, rfl, hc.mono fun ev W11 hh => ?_⟩
        obtain ⟨rfl, F11, S11, hP11⟩ := hh
        exact ⟨b, rfl, _, fun w => run_neB21 _ _ _ _ w, fun h => (by simp at h), fun _ => ⟨hu1, hv1, F11, S11, hP11⟩⟩
    · -- the answers
      rintro u2 v2 W12 ⟨hu2, hv2, F2, S2, hP2⟩
      have hl2 := hP2.small hsm1.1
      obtain ⟨U2, hH2⟩ := hP2.hs
      obtain ⟨T2, A2, n2, c2, hG2⟩ := hP2.wg
      refine (hconn_calls hH2 hsm1 u2 v2).mono fun ev W13 hh => ?_
      obtain ⟨b1, rfl, hb1, rfl⟩ := hh
      refine ⟨_, rfl, (wconn_calls hG2 hP2.rg hsm1.1 hl2 u2 v2).mono fun ev W14 hh => ?_⟩
      obtain ⟨b2, rfl, hb2, g14⟩ := hh
      have hbb : b1 = b2 := by rw [Bool.eq_iff_iff, hb1, hb2]
      refine ⟨_, rfl, _, fun w => run_neB21 _ _ _ _ w, fun h => (by simp [hbb] at h), fun _ => ?_⟩
      refine (hhas_calls (hH2.kept g14) hu2 hv2).mono fun ev W15 hh => ?_
      obtain ⟨rfl, g15⟩ := hh
      have g2 := grown_trans g14 g15
      refine ⟨_, rfl, (ghas_calls (hG2.kept g2) u2 v2 (by omega)).mono fun ev W16 hh => ?_⟩
      obtain ⟨rfl, g16⟩ := hh
      have g3 := grown_trans g2 g16
      refine ⟨_, rfl, _, fun w => run_neB21 _ _ _ _ w, fun h => (by simp at h), fun _ => ?_⟩
      refine (hsize_calls (hH2.kept g3) hsm1 u2).mono fun ev W17 hh => ?_
      obtain ⟨rfl, rfl⟩ := hh
      refine ⟨_, rfl, (wpart_calls (hG2.kept g3) hP2.rg hsm1.1 hl2 u2).mono fun ev W18 hh => ?_⟩
      obtain ⟨A18, n18, c18, rfl, hn18, g18⟩ := hh
      have g4 := grown_trans g3 g18
      refine ⟨_, _, _, rfl, fun h => absurd hn18 h, fun _ => (hdegree_calls (hH2.kept g4) v2).mono fun ev W19 hh => ?_⟩
      obtain ⟨rfl, rfl⟩ := hh
      refine ⟨_, rfl, (gdegree_calls (hG2.kept g4) hP2.rg (by omega) v2).mono fun ev W20 hh => ?_⟩
      obtain ⟨rfl, g20⟩ := hh
      have g5 := grown_trans g4 g20
      refine ⟨_, rfl, fun h => absurd rfl h, fun _ => (hcount_calls (hH2.kept g5) hsm1).mono fun ev W21 hh => ?_⟩
      obtain ⟨rfl, g21⟩ := hh
      have g6 := grown_trans g5 g21
      refine ⟨_, rfl, (wcount_calls (hG2.kept g6) hP2.rg hsm1.1 hl2).mono fun ev W22 hh => ?_⟩
      obtain ⟨rfl, g22⟩ := hh
      have g7 := grown_trans g6 g22
      have hP7 := hP2.kept g7
      refine ⟨_, rfl, fun h => absurd rfl h, fun _ => ⟨⟨by omega, by omega⟩, fun h8 => ?_, fun h8 => ⟨by omega, l.length - (j + 1), by omega, j + 1, F2, S2, by omega, by omega, rfl, hP7⟩⟩⟩
      refine (hb_forest hP7 hsm1).mono fun ev W23 hh => ?_
      obtain ⟨A9, n9, k9, rfl, hc9⟩ := hh
      refine ⟨A9, n9, k9, rfl, hc9.mono fun ev W24 hh => ?_⟩
      obtain ⟨rfl, g24⟩ := hh
      exact ⟨true, rfl, fun h => (by cases h), fun _ => ⟨by omega, l.length - (j + 1), by omega, j + 1, F2, S2, by omega, by omega, rfl, hP7.kept g24⟩⟩
  · have hsm : Sm N j := ⟨by omega, by omega⟩
    refine (hb_forest hP hsm).mono fun ev W23 hh => ?_
    obtain ⟨A9, n9, k9, rfl, hc9⟩ := hh
    refine ⟨A9, n9, k9, rfl, hc9.mono fun ev W24 hh => ?_⟩
    obtain ⟨rfl, g24⟩ := hh
    exact ⟨true, rfl, rfl, grown_trans hP.gr g24⟩
end Go.Proofs.Ytpfkpmapimonbaa

/-! archipelagolaw23.HdtSeeds: the walk. -/
namespace Go.Proofs.Ytpfkpmapimonbaa
open Go Go.V Go.RowKit
set_option linter.unusedVariables false
set_option linter.unusedSimpArgs false
set_option maxHeartbeats 8000000
set_option maxRecDepth 100000

/-- Two graphs of the same edges. -/
structure H2 (w0 W : World) (x y N c : Nat) (F : Eds) : Prop where
  ex : ∃ U V : Nat → Prop, HS W w0.heap.size x N c U F ∧ HS W w0.heap.size y N c V F ∧ ∀ q, U q → ¬ V q
  gr : w0.grownBy W none
section
variable {w0 W W' : World} {x y N c : Nat} {F : Eds}
theorem H2.kept (h : H2 w0 W x y N c F) (hg : W.grownBy W' none) : H2 w0 W' x y N c F := by
  obtain ⟨⟨U, V, h1, h2, h3⟩, h4⟩ := h
  exact ⟨⟨U, V, h1.kept hg, h2.kept hg, h3⟩, grown_trans h4 hg⟩
theorem two_step {W1 W2 : World} {F' : Eds} {U V : Nat → Prop} (h : w0.grownBy W none) (h1 : HS W w0.heap.size x N c U F) (h2 : HS W w0.heap.size y N c V F) (h3 : ∀ q, U q → ¬ V q) (a1 : HS W1 w0.heap.size x N (c + 1) (extS U W W1) F') (K1 : Kp W W1 U) (a2 : HS W2 w0.heap.size y N (c + 1) (extS V W1 W2) F') (K2 : Kp W1 W2 V) : H2 w0 W2 x y N (c + 1) F' := by
  have l2 := h2.lt
  have l1 := h1.lt
  have s1 := K1.size
  refine ⟨⟨_, _, a1.kp K2 (fun q hq e => ?_), a2, fun q hq e => ?_⟩, ?_⟩
  · rcases hq with hq | hq
    · exact h3 q hq e
    · have := l2 q e; omega
  · rcases e with e | e
    · rcases hq with hq | hq
      · exact h3 q hq e
      · have := l2 q e; omega
    · rcases hq with hq | hq
      · have := l1 q hq; omega
      · omega
  · exact (((Kp.of_none (S := fun q => w0.heap.size ≤ q) h).then K1 fun q _ e => (l1 q e).1).then K2 fun q _ e => (l2 q e).1).grown fun q hq e => by omega
theorem h2_add (h : H2 w0 W x y N c F) (hs : Sm N c) {u v : Int} (hu : okI u) (hv : okI v) : Calls P 29 #[.pointer (some ⟨x, 0, none⟩), .int .i64 u, .int .i64 v] W fun ev W1 => ∃ b : Bool, ev = .returned (.bool b) ∧ Calls P 29 #[.pointer (some ⟨y, 0, none⟩), .int .i64 u, .int .i64 v] W1 fun ev W2 => ev = .returned (.bool b) ∧ ∃ F', H2 w0 W2 x y N (c + 1) F' := by
  obtain ⟨⟨U, V, h1, h2, h3⟩, h4⟩ := h
  refine (hadd_calls h1 hs hu hv).mono fun ev W1 hh => ?_
  obtain ⟨rfl, a1, K1⟩ := hh
  refine ⟨_, rfl, (hadd_calls (h2.kp K1 fun q hq e => h3 q e hq) hs hu hv).mono fun ev W2 hh => ?_⟩
  obtain ⟨rfl, a2, K2⟩ := hh
  exact ⟨rfl, _, two_step h4 h1 h2 h3 a1 K1 a2 K2⟩
theorem h2_drop (h : H2 w0 W x y N c F) (hs : Sm N c) {u v : Int} (hu : okI u) (hv : okI v) : Calls P 31 #[.pointer (some ⟨x, 0, none⟩), .int .i64 u, .int .i64 v] W fun ev W1 => ∃ b : Bool, ev = .returned (.bool b) ∧ Calls P 31 #[.pointer (some ⟨y, 0, none⟩), .int .i64 u, .int .i64 v] W1 fun ev W2 => ev = .returned (.bool b) ∧ ∃ F', H2 w0 W2 x y N (c + 1) F' := by
  obtain ⟨⟨U, V, h1, h2, h3⟩, h4⟩ := h
  refine (hdrop_calls h1 hs hu hv).mono fun ev W1 hh => ?_
  obtain ⟨rfl, a1, K1⟩ := hh
  refine ⟨_, rfl, (hdrop_calls (h2.kp K1 fun q hq e => h3 q e hq) hs hu hv).mono fun ev W2 hh => ?_⟩
  obtain ⟨rfl, a2, K2⟩ := hh
  exact ⟨rfl, _, two_step h4 h1 h2 h3 a1 K1 a2 K2⟩
end
theorem walkHdtSeeds {w : World} {sa sb : Int} {A : Option Addr} {m c : Nat} {l : List ActV} (hsa : 0 ≤ sa ∧ sa ≤ 18446744073709551615) (hsb : 0 ≤ sb ∧ sb ≤ 18446744073709551615) (hrow : Row w A (acts l)) (hm : m = l.length) (hb : ∀ x ∈ l, okAct x) :
    Calls P 10 #[.int .u64 sa, .int .u64 sb, .slice A m c] w fun ev w' => ev = .returned (.bool true) ∧ w.grownBy w' none := by
  apply vc10; unfold VC10; try (conv => zeta)
  simp only [InK]
  refine known23_calls.mono fun ev w1 hh => ?_
  obtain ⟨rfl, g1⟩ := hh
  refine ⟨true, rfl, fun h => (by cases h), fun _ => ⟨fun _ => ⟨by trivial, g1⟩, fun h90 => ?_⟩⟩
  refine (hnew_calls g1.size 9 sa).mono fun ev w2 hh => ?_
  obtain ⟨x, rfl, h2, g2⟩ := hh
  have g12 := grown_trans g1 g2
  refine ⟨_, rfl, (hnew_calls g12.size 9 sb).mono fun ev w3 hh => ?_⟩
  obtain ⟨y, rfl, h3, g3⟩ := hh
  have hN9 : nOf 9 = 9 := by decide
  rw [hN9] at h2 h3
  have hP3 : H2 w w3 x y 9 0 [] := ⟨⟨_, _, h2.kept g3, h3, fun q hq e => by have := hq.2; have := e.1; omega⟩, grown_trans g12 g3⟩
  refine ⟨_, rfl, fun q i W => ∃ (j : Nat) (F : Eds), i = j ∧ j ≤ l.length ∧ q = l.length - j ∧ H2 w W x y 9 j F, ⟨_, 0, [], rfl, by omega, rfl, hP3⟩, ?_⟩
  rintro q i W ⟨j, F, rfl, hj, rfl, hP⟩
  have tj : (j : Int).toNat = j := by omega
  rw [tj]
  refine ⟨fun hlt => ?_, fun hge => ⟨by trivial, hP.gr⟩⟩
  have lj : j < l.length := by omega
  have hsm : Sm 9 j := ⟨by omega, by omega⟩
  have hsm1 : Sm 9 (j + 1) := ⟨by omega, by omega⟩
  obtain ⟨ok1, ok2, ok3, ok4⟩ := hb _ (List.getElem_mem lj)
  have gd := grown_drew (grown_refl W none)
  have hPd := hP.kept gd
  obtain ⟨W0, hW0⟩ : ∃ W0, W0 = W.drew := ⟨_, rfl⟩
  rw [← hW0] at gd hPd ⊢
  have rowAt : ∀ W', w.grownBy W' none → ∃ a, A = some a ∧ W'.cell? (a.add (j * 4)) = some (.int .u8 l[j].wh) ∧ W'.cell? (Addr.add (a.add (j * 4)) 1) = some (.int .u8 l[j].u) ∧ W'.cell? (Addr.add (a.add (j * 4)) 2) = some (.int .u8 l[j].v) ∧ W'.cell? (Addr.add (a.add (j * 4)) 3) = some (.int .i64 l[j].raw) := fun W' hg => act_at (hrow.kept_none hg) lj
  obtain ⟨a, e0, f0, f1, f2, f3⟩ := rowAt W0 hPd.gr
  have hu : okI (l[j].u % 9) := by unfold okI; omega
  have hv : okI (l[j].v % 9) := by unfold okI; omega
  refine ⟨a, e0, by omega, by omega, _, f1, ⟨by omega, by omega⟩, by omega, a, e0, by omega, by omega, _, f2, ⟨by omega, by omega⟩, by omega, fun W' => ∃ F', H2 w W' x y 9 (j + 1) F', ⟨a, e0, by omega, by omega, _, f0, ⟨by omega, by omega⟩, fun hadd => ?_, fun hdrop => ?_⟩, ?_⟩
  · refine (h2_add hPd hsm hu hv).mono fun ev W7 hh => ?_
    obtain ⟨b, rfl, hc⟩ := hh
    refine ⟨b, rfl, hc.mono fun ev W8 hh => ?_⟩
    obtain ⟨rfl, F8, hP8⟩ := hh
    exact ⟨b, rfl, _, fun w => run_neB21 _ _ _ _ w, fun h => (by simp at h), fun _ => ⟨F8, hP8⟩⟩
  · refine (h2_drop hPd hsm hu hv).mono fun ev W7 hh => ?_
    obtain ⟨b, rfl, hc⟩ := hh
    refine ⟨b, rfl, hc.mono fun ev W8 hh => ?_⟩
    obtain ⟨rfl, F8, hP8⟩ := hh
    exact ⟨b, rfl, _, fun w => run_neB21 _ _ _ _ w, fun h => (by simp at h), fun _ => ⟨F8, hP8⟩⟩
  · rintro W9 ⟨F2, hP9⟩
    have gd9 := grown_drew (grown_refl W9 none)
    have hP2 := hP9.kept gd9
    obtain ⟨W1, hW1⟩ : ∃ W1, W1 = W9.drew := ⟨_, rfl⟩
    rw [← hW1] at gd9 hP2 ⊢
    have cellC : ∀ W', W1.grownBy W' none → W'.cell? (a.add (j * 4)) = some (.int .u8 l[j].wh) := fun W' hg => by
      obtain ⟨a', e', c0, _⟩ := rowAt W' (grown_trans hP2.gr hg)
      rw [e0] at e'; cases e'
      exact c0
    obtain ⟨⟨U, V, hX, hY, hUV⟩, gr2⟩ := hP2
    refine ⟨fun W' => W1.grownBy W' none, grown_refl _ _, a, e0, by omega, by omega, _, cellC W1 (grown_refl _ _), ⟨by omega, by omega⟩, by omega, ?_⟩
    refine (hconn_calls hX hsm1 (l[j].v % 9) (l[j].wh % 9)).mono fun ev W10 hh => ?_
    obtain ⟨b1, rfl, hb1, rfl⟩ := hh
    refine ⟨_, rfl, grown_refl _ _, a, e0, by omega, by omega, _, fun W' hg => cellC W' hg, ⟨by omega, by omega⟩, by omega, (hconn_calls hY hsm1 (l[j].v % 9) (l[j].wh % 9)).mono fun ev W11 hh => ?_⟩
    obtain ⟨b2, rfl, hb2, rfl⟩ := hh
    have hbb : b1 = b2 := by rw [Bool.eq_iff_iff, hb1, hb2]
    refine ⟨_, rfl, grown_refl _ _, _, fun w => run_neB21 _ _ _ _ w, fun h => (by simp [hbb] at h), fun _ => ?_⟩
    refine (hsize_calls hX hsm1 (l[j].u % 9)).mono fun ev W12 hh => ?_
    obtain ⟨rfl, rfl⟩ := hh
    refine ⟨_, rfl, grown_refl _ _, (hsize_calls hY hsm1 (l[j].u % 9)).mono fun ev W13 hh => ?_⟩
    obtain ⟨rfl, rfl⟩ := hh
    refine ⟨_, rfl, grown_refl _ _, fun h => absurd rfl h, fun _ => ?_⟩
    refine (hcount_calls hX hsm1).mono fun ev W14 hh => ?_
    obtain ⟨rfl, g14⟩ := hh
    refine ⟨_, rfl, g14, (hcount_calls (hY.kept g14) hsm1).mono fun ev W15 hh => ?_⟩
    obtain ⟨rfl, g15⟩ := hh
    have g3' := grown_trans g14 g15
    refine ⟨_, rfl, g3', fun h => absurd rfl h, fun _ => ?_⟩
    refine (hdegree_calls (hX.kept g3') (l[j].u % 9)).mono fun ev W16 hh => ?_
    obtain ⟨rfl, rfl⟩ := hh
    refine ⟨_, rfl, g3', (hdegree_calls (hY.kept g3') (l[j].u % 9)).mono fun ev W17 hh => ?_⟩
    obtain ⟨rfl, rfl⟩ := hh
    refine ⟨_, rfl, g3', fun h => absurd rfl h, fun _ => ?_⟩
    refine (htree_calls (hX.kept g3') hsm1).mono fun ev W18 hh => ?_
    obtain ⟨A1, n1, k1, T1, rfl, o1, _, _, t3, t4, g18⟩ := hh
    have g4 := grown_trans g3' g18
    refine ⟨_, _, _, rfl, g4, (htree_calls (hY.kept g4) hsm1).mono fun ev W19 hh => ?_⟩
    obtain ⟨A2, n2, k2, T2, rfl, o2, _, _, s3, s4, g19⟩ := hh
    have l1 := tree_len t3 t4
    have l2 := tree_len s3 s4
    have q1 := o1.cases.1
    have q2 := o2.cases.1
    rw [prs_length] at q1 q2
    have g5 := grown_trans g4 g19
    exact ⟨_, _, _, rfl, g5, fun h => absurd (show (n1 : Int) = (n2 : Int) by omega) h, fun _ => ⟨by omega, l.length - (j + 1), by omega, j + 1, F2, by omega, by omega, rfl, ⟨⟨U, V, hX.kept g5, hY.kept g5, hUV⟩, grown_trans gr2 g5⟩⟩⟩
end Go.Proofs.Ytpfkpmapimonbaa

/-! archipelagolaw23.HdtGrids: the walk. -/
namespace Go.Proofs.Ytpfkpmapimonbaa
open Go Go.V Go.RowKit
set_option linter.unusedVariables false
set_option linter.unusedSimpArgs false
set_option maxHeartbeats 8000000
set_option maxRecDepth 100000

section
variable {w0 W W' : World} {g r N c : Nat} {F E : Eds} {S : Nat → Prop}
/-- An edge that is new to one. -/
theorem hb_gadd1 (h : HB w0 W g r N c F E S) (hs : Sm N c) {a b : Nat} (hab : a < b) (hb : b < N) (hn : (a, b) ∉ F) {u v : Int} (hu : u = a) (hv : v = b) : Calls P 29 #[.pointer (some ⟨g, 0, none⟩), .int .i64 u, .int .i64 v] W fun ev W' => ev = .returned (.bool true) ∧
    HB w0 W' g r N (c + 1) (F ++ [(a, b)]) E (extS S W W') ∧ Kp W W' S := by
  subst hu hv
  obtain ⟨s1, s2⟩ := id hs
  have t1 : ((a : Nat) : Int).toNat = a := by omega
  have t2 : ((b : Nat) : Int).toNat = b := by omega
  have hp : pairE ((a : Nat) : Int).toNat ((b : Nat) : Int).toNat = (a, b) := by rw [t1, t2]; unfold pairE; rw [Nat.min_eq_left (by omega), Nat.max_eq_right (by omega)]
  refine (hb_gadd h hs (okI_nat (N := N) (n := a) (by omega) (by omega)) (okI_nat (N := N) (n := b) (by omega) (by omega))).mono fun ev W1 hh => ?_
  obtain ⟨rfl, h1, K⟩ := hh
  rw [hp] at h1 ⊢
  have hy : (0 ≤ (a : Int) ∧ (a : Int) < N) ∧ (0 ≤ (b : Int) ∧ (b : Int) < N) ∧ (a : Int) ≠ b ∧ (a, b) ∉ F := ⟨by omega, by omega, by omega, hn⟩
  rw [if_pos hy] at h1
  rw [decide_eq_true hy]
  exact ⟨rfl, h1, K⟩
theorem hb_wadd1 (h : HB w0 W g r N c F E S) (hN : N ≤ 1000) (hl : E.length ≤ 1000 * 1000) {a b : Nat} (hab : a < b) (hb : b < N) (hn : (a, b) ∉ E) {u v : Int} (hu : u = a) (hv : v = b) : Calls P 30 #[.pointer (some ⟨r, 0, none⟩), .int .i64 u, .int .i64 v] W fun ev W' => ev = .returned (.bool true) ∧
    HB w0 W' g r N c F (E ++ [(a, b)]) (extS S W W') ∧ Kp W W' S := by
  subst hu hv
  have t1 : ((a : Nat) : Int).toNat = a := by omega
  have t2 : ((b : Nat) : Int).toNat = b := by omega
  have hp : pairE ((a : Nat) : Int).toNat ((b : Nat) : Int).toNat = (a, b) := by rw [t1, t2]; unfold pairE; rw [Nat.min_eq_left (by omega), Nat.max_eq_right (by omega)]
  refine (hb_wadd h hN hl (a : Int) (b : Int)).mono fun ev W1 hh => ?_
  obtain ⟨rfl, h1, K⟩ := hh
  rw [hp] at h1 ⊢
  have hy : (0 ≤ (a : Int) ∧ (a : Int) < N) ∧ (0 ≤ (b : Int) ∧ (b : Int) < N) ∧ (a : Int) ≠ b ∧ (a, b) ∉ E := ⟨by omega, by omega, by omega, hn⟩
  rw [if_pos hy] at h1
  rw [decide_eq_true hy]
  exact ⟨rfl, h1, K⟩
/-- An edge that is there, of both. -/
theorem hb_gdrop1 (h : HB w0 W g r N c F E S) (hs : Sm N c) {e : Nat × Nat} (he : e ∈ F) {u v : Int} (huv : (u = e.1 ∧ v = e.2) ∨ (u = e.2 ∧ v = e.1)) : Calls P 31 #[.pointer (some ⟨g, 0, none⟩), .int .i64 u, .int .i64 v] W fun ev W' => ev = .returned (.bool true) ∧
    HB w0 W' g r N (c + 1) (F.erase e) E (extS S W W') ∧ Kp W W' S := by
  have hr := h.frg e he
  obtain ⟨s1, s2⟩ := id hs
  have hp : pairE u.toNat v.toNat = e := by
    obtain ⟨a, b⟩ := e
    simp only at hr huv
    unfold pairE
    rcases huv with ⟨rfl, rfl⟩ | ⟨rfl, rfl⟩
    · rw [Nat.min_eq_left (by omega), Nat.max_eq_right (by omega)]; simp
    · rw [Nat.min_eq_right (by omega), Nat.max_eq_left (by omega)]; simp
  refine (hb_gdrop h hs (u := u) (v := v) (by unfold okI; omega) (by unfold okI; omega)).mono fun ev W1 hh => ?_
  obtain ⟨rfl, h1, K⟩ := hh
  rw [hp] at h1 ⊢
  have hy : (0 ≤ u ∧ 0 ≤ v) ∧ e ∈ F := ⟨by omega, he⟩
  rw [if_pos hy] at h1
  rw [decide_eq_true hy]
  exact ⟨rfl, h1, K⟩
theorem hb_wdrop1 (h : HB w0 W g r N c F E S) (hd : E.Nodup) (hl : E.length ≤ 1000 * 1000) {e : Nat × Nat} (he : e ∈ E) {u v : Int} (huv : (u = e.1 ∧ v = e.2) ∨ (u = e.2 ∧ v = e.1)) : Calls P 18 #[.pointer (some ⟨r, 0, none⟩), .int .i64 u, .int .i64 v] W fun ev W' => ev = .returned (.bool true) ∧
    HB w0 W' g r N c F (E.erase e) (extS S W W') ∧ Kp W W' S := by
  have hr := h.rg e he
  have hp : pairE u.toNat v.toNat = e := by
    obtain ⟨a, b⟩ := e
    simp only at hr huv
    unfold pairE
    rcases huv with ⟨rfl, rfl⟩ | ⟨rfl, rfl⟩
    · rw [Nat.min_eq_left (by omega), Nat.max_eq_right (by omega)]; simp
    · rw [Nat.min_eq_right (by omega), Nat.max_eq_left (by omega)]; simp
  refine (hb_wdrop h hd hl u v).mono fun ev W1 hh => ?_
  obtain ⟨rfl, h1, K⟩ := hh
  rw [hp] at h1 ⊢
  have hy : (0 ≤ u ∧ 0 ≤ v) ∧ e ∈ E := ⟨by omega, he⟩
  rw [if_pos hy] at h1
  rw [decide_eq_true hy]
  exact ⟨rfl, h1, K⟩
/-- A block that is neither's. -/
theorem HB.far (h : HB w0 W g r N c F E S) {b : Nat} (hb : W.heap.size ≤ b) : ¬ S b := fun e => by have := (h.sl b e).2; omega
theorem far_ext {b : Nat} (h : ¬ S b) (hb : b < W.heap.size) : ¬ extS S W W' b := fun e => e.elim h (fun e => by omega)
theorem blk_kp {w w' : World} {T : Nat → Prop} {b : Nat} {o : Obj} (h : w.heap[b]? = some o) (K : Kp w w' T) (hT : ¬ T b) : w'.heap[b]? = some o := by rw [K.block _ (Array.getElem?_eq_some_iff.1 h).1 hT]; exact h
end
theorem walkHdtGrids {w : World} {n sd : Int} {A : Option Addr} {m c : Nat} {l : List Int} (hn : 0 ≤ n ∧ n ≤ 255) (hsd : 0 ≤ sd ∧ sd ≤ 18446744073709551615) (hrow : Row w A (l.map (Value.int .u8))) (hm : m = l.length) (hb : ∀ x ∈ l, 0 ≤ x ∧ x ≤ 255) :
    Calls P 9 #[.int .u8 n, .int .u64 sd, .slice A m c] w fun ev w' => ev = .returned (.bool true) ∧ w.grownBy w' none := by
  apply vc9; unfold VC9; try (conv => zeta)
  simp only [InK]
  refine known23_calls.mono fun ev w1 hh => ?_
  obtain ⟨rfl, g1⟩ := hh
  refine ⟨true, rfl, fun h => (by cases h), fun _ => ⟨fun _ => ⟨by trivial, g1⟩, fun h60 => ?_⟩⟩
  obtain ⟨k, hk⟩ : ∃ k : Nat, n % 20 + 2 = (k : Int) := ⟨(n % 20 + 2).toNat, by omega⟩
  have hk2 : 2 ≤ k ∧ k ≤ 21 := by omega
  refine ⟨⟨by omega, by omega⟩, by omega, by omega, by omega, ?_⟩
  rw [hk]
  have hN2 : nOf (2 * (k : Int)) = 2 * k := by unfold nOf; omega
  refine (hb_new g1 (2 * (k : Int)) sd).mono fun ev w2 hh => ?_
  obtain ⟨g, rfl, hc2⟩ := hh
  refine ⟨_, rfl, by omega, hc2.mono fun ev w3 hh => ?_⟩
  obtain ⟨r, rfl, S3, hP3⟩ := hh
  rw [hN2] at hP3
  have fin : ∀ W c F S, HB w W g r (2 * k) c F F S → c ≤ 200 → Calls P 40 #[.pointer (some ⟨g, 0, none⟩)] W fun ev W1 => ∃ (A : Option Addr) (n k1 : Nat), ev = .returned (.slice A n k1) ∧ ((-9223372036854775808 ≤ 2 * (k : Int) ∧ 2 * (k : Int) ≤ 9223372036854775807) ∧ Calls P 38 #[.pointer (some ⟨g, 0, none⟩)] W1 fun ev W2 => ∃ x : Int, ev = .returned (.int .i64 x) ∧ ((-9223372036854775808 ≤ 2 * (k : Int) - x ∧ 2 * (k : Int) - x ≤ 9223372036854775807) ∧ (Ending.returned (.bool (decide ((n : Int) = 2 * (k : Int) - x))) = .returned (.bool true) ∧ w.grownBy W2 none))) := by
    intro W c F S hP hc
    have hsm : Sm (2 * k) c := ⟨by omega, by omega⟩
    obtain ⟨U, hH⟩ := hP.hs
    refine (htree_calls hH hsm).mono fun ev W1 hh => ?_
    obtain ⟨A1, n1, k1, Ts, rfl, o1, _, _, t3, t4, g1⟩ := hh
    have q1 := o1.cases.1
    rw [prs_length] at q1
    have hl := tree_len t3 t4
    refine ⟨A1, n1, k1, rfl, by omega, (hcount_calls (hH.kept g1) hsm).mono fun ev W2 hh => ?_⟩
    obtain ⟨rfl, g2⟩ := hh
    refine ⟨_, rfl, by omega, ?_, grown_trans hP.gr (grown_trans g1 g2)⟩
    rw [decide_eq_true (by omega)]
  refine ⟨_, rfl, fun q i W => ∃ (j c : Nat) (F : Eds) (S : Nat → Prop), i = j ∧ j ≤ k ∧ q = k - j ∧ c ≤ 3 * j ∧ HB w W g r (2 * k) c F F S ∧ ∀ e ∈ F, e.2 < j ∨ (k ≤ e.2 ∧ e.2 < j + k), ⟨_, 0, 0, [], S3, rfl, by omega, rfl, by omega, hP3, fun e he => by cases he⟩, ?_⟩
  rintro q i W ⟨j, c, F, S, rfl, hj, rfl, hc, hP, hF⟩
  refine ⟨fun hlt => ?_, fun hge => ?_⟩
  · have hn1 : (j, j + k) ∉ F := fun hm => by have := hF _ hm; simp only at this; omega
    refine ⟨by omega, (hb_gadd1 hP ⟨by omega, by omega⟩ (a := j) (b := j + k) (by omega) (by omega) hn1 rfl (by omega)).mono fun ev W1 hh => ?_⟩
    obtain ⟨rfl, h1, K1⟩ := hh
    have hs1 := hP.small (show 2 * k ≤ 1000 by omega)
    refine ⟨true, rfl, fun h => (by cases h), fun _ => ⟨by omega, (hb_wadd1 h1 (by omega) hs1 (a := j) (b := j + k) (by omega) (by omega) hn1 rfl (by omega)).mono fun ev W2 hh => ?_⟩⟩
    obtain ⟨rfl, h2, K2⟩ := hh
    refine ⟨true, rfl, fun h => (by cases h), fun _ => ⟨fun hpos => ?_, fun hz => ?_⟩⟩
    · have hs2 := h2.small (show 2 * k ≤ 1000 by omega)
      have hn2 : (j - 1, j) ∉ F ++ [(j, j + k)] := fun hm => by
        rcases List.mem_append.1 hm with h' | h'
        · have := hF _ h'; simp only at this; omega
        · simp only [List.mem_singleton, Prod.mk.injEq] at h'; omega
      refine ⟨by omega, (hb_gadd1 h2 ⟨by omega, by omega⟩ (a := j - 1) (b := j) (by omega) (by omega) hn2 (by omega) rfl).mono fun ev W3 hh => ?_⟩
      obtain ⟨rfl, h3, K3⟩ := hh
      have hn3 : (j - 1 + k, j + k) ∉ (F ++ [(j, j + k)]) ++ [(j - 1, j)] := fun hm => by
        rcases List.mem_append.1 hm with h' | h'
        · rcases List.mem_append.1 h' with h' | h'
          · have := hF _ h'; simp only at this; omega
          · simp only [List.mem_singleton, Prod.mk.injEq] at h'; omega
        · simp only [List.mem_singleton, Prod.mk.injEq] at h'; omega
      refine ⟨true, rfl, fun h => (by cases h), fun _ => ⟨by omega, by omega, by omega, (hb_gadd1 h3 ⟨by omega, by omega⟩ (a := j - 1 + k) (b := j + k) (by omega) (by omega) hn3 (by omega) (by omega)).mono fun ev W4 hh => ?_⟩⟩
      obtain ⟨rfl, h4, K4⟩ := hh
      refine ⟨true, rfl, fun h => (by cases h), fun _ => ⟨by omega, (hb_wadd1 h4 (by omega) hs2 (a := j - 1) (b := j) (by omega) (by omega) hn2 (by omega) rfl).mono fun ev W5 hh => ?_⟩⟩
      obtain ⟨rfl, h5, K5⟩ := hh
      have hs3 : ((F ++ [(j, j + k)]) ++ [(j - 1, j)]).length ≤ 1000 * 1000 := Nat.le_trans (by simp) (h5.small (show 2 * k ≤ 1000 by omega))
      refine ⟨true, rfl, fun h => (by cases h), fun _ => ⟨by omega, by omega, by omega, (hb_wadd1 h5 (by omega) hs3 (a := j - 1 + k) (b := j + k) (by omega) (by omega) hn3 (by omega) (by omega)).mono fun ev W6 hh => ?_⟩⟩
      obtain ⟨rfl, h6, K6⟩ := hh
      refine ⟨true, rfl, fun h => (by cases h), fun _ => ⟨by omega, k - (j + 1), by omega, j + 1, c + 1 + 1 + 1, _, _, by omega, by omega, rfl, by omega, h6, fun e he => ?_⟩⟩
      simp only [List.mem_append, List.mem_singleton] at he
      rcases he with ((he | rfl) | rfl) | rfl
      · have := hF _ he; omega
      · simp only; omega
      · simp only; omega
      · simp only; omega
    · refine ⟨by omega, k - (j + 1), by omega, j + 1, c + 1, _, _, by omega, by omega, rfl, by omega, h2, fun e he => ?_⟩
      simp only [List.mem_append, List.mem_singleton] at he
      rcases he with he | rfl
      · have := hF _ he; omega
      · simp only; omega
  · refine ⟨fun q i W => ∃ (j c : Nat) (F : Eds) (S : Nat → Prop), i = j ∧ j ≤ l.length ∧ q = l.length - j ∧ c ≤ 63 + j ∧ HB w W g r (2 * k) c F F S, ⟨_, 0, c, F, S, rfl, by omega, rfl, by omega, hP⟩, ?_⟩
    clear hP hF hc hP3 hc2
    rintro q i W ⟨j, c, F, S, rfl, hj, rfl, hc, hP⟩
    refine ⟨fun hlt => ?_, fun hge => fin W c F S hP (by omega)⟩
    have lj : j < l.length := by omega
    have hbj := hb _ (List.getElem_mem lj)
    have tj : (j : Int).toNat = j := by omega
    rw [tj]
    obtain ⟨T, A4, n4, c4, hG⟩ := hP.wg
    have hn4 := hG.len
    refine ⟨_, rfl, _, _, _, by rw [add_blk]; exact blk_cell hG.blk 1, fun hpos => ?_, fun hno => fin W c F S hP (by omega)⟩
    have gd := grown_drew (grown_refl W none)
    have hPd := hP.kept gd
    obtain ⟨W9, hW9⟩ : ∃ W9, W9 = W.drew := ⟨_, rfl⟩
    rw [← hW9] at gd hPd ⊢
    have hG9 := hG.kept gd
    have gw9 := hPd.gr
    have m1 := Int.emod_nonneg l[j] (show (n4 : Int) ≠ 0 by omega)
    have m2 := Int.emod_lt_of_pos l[j] (show (0 : Int) < (n4 : Int) by omega)
    obtain ⟨x, hx⟩ : ∃ x : Nat, l[j] % (n4 : Int) = (x : Int) := ⟨(l[j] % (n4 : Int)).toNat, by omega⟩
    rw [hx] at m1 m2
    have lx : x < F.length := by omega
    have tx : (x : Int).toNat = x := by omega
    obtain ⟨a9, q1, q2, q3⟩ := hG9.cell lx
    obtain ⟨aA, eA, fA⟩ := hrow j (.int .u8 l[j]) (by rw [List.getElem?_map, List.getElem?_eq_getElem lj]; rfl)
    have cG : ∀ W', W9.grownBy W' none → W'.cell? (Addr.add ⟨r, 0, none⟩ 1) = some (.slice A4 n4 c4) := fun W' hg => by rw [add_blk]; exact blk_cell (hG9.kept hg).blk 1
    have cE : ∀ W', W9.grownBy W' none → W'.cell? (a9.add (x * 2)) = some (.int .i64 (F[x].1 : Int)) ∧ W'.cell? (Addr.add (a9.add (x * 2)) 1) = some (.int .i64 (F[x].2 : Int)) := fun W' hg => by
      obtain ⟨b9, s1, s2, s3⟩ := (hG9.kept hg).cell lx
      rw [q1] at s1; cases s1
      exact ⟨s2, s3⟩
    have cA : ∀ W', W9.grownBy W' none → W'.cell? (aA.add j) = some (.int .u8 l[j]) := fun W' hg => by
      obtain ⟨b, e1, e2⟩ := (hrow.kept_none (grown_trans gw9 hg)) j (.int .u8 l[j]) (by rw [List.getElem?_map, List.getElem?_eq_getElem lj]; rfl)
      rw [eA] at e1; cases e1
      exact e2
    have gA := World.grownBy_alloc W9 (.cells #[.int .i64 0, .int .i64 0] 35) none
    have bA := heap_alloc_new W9 (.cells #[.int .i64 0, .int .i64 0] 35)
    have s1 := blk_set bA 0 (.int .i64 (F[x].1 : Int))
    have s2 := blk_set s1 1 (.int .i64 (F[x].2 : Int))
    have gS : W9.grownBy (((W9.alloc (.cells #[.int .i64 0, .int .i64 0] 35)).setCell ⟨W9.heap.size, 0, none⟩ (.int .i64 (F[x].1 : Int))).setCell ⟨W9.heap.size, 1, none⟩ (.int .i64 (F[x].2 : Int))) none := (kset (kset (Kp.of_none (S := fun q => W9.heap.size ≤ q) gA) (Nat.le_refl _)) (Nat.le_refl _)).grown (fun q hq e => by omega)
    refine ⟨fun W' => W9.grownBy W' none, grown_refl _ _, _, rfl, A4, n4, c4, cG, aA, eA, by omega, by omega, _, cA, by omega, _, rfl, A4, n4, c4, cG, ⟨by omega, by omega⟩, a9, q1, by omega, by omega, (F[x].1 : Int), ?_, (F[x].2 : Int), ?_, gA, ⟨_, blk_cell bA 0⟩, blk_free bA 0, ⟨_, blk_cell s1 1⟩, blk_free s1 1, gS, ?_⟩
    · intro W' hg; rw [hx, tx]; exact (cE W' hg).1
    · intro W' hg; rw [hx, tx]; exact (cE W' hg).2
    have gSd := grown_drew gS
    obtain ⟨b, hbE⟩ : ∃ b, b = W9.heap.size := ⟨_, rfl⟩
    obtain ⟨W10, hW10⟩ : ∃ W10, W10 = (((W9.alloc (.cells #[.int .i64 0, .int .i64 0] 35)).setCell ⟨W9.heap.size, 0, none⟩ (.int .i64 (F[x].1 : Int))).setCell ⟨W9.heap.size, 1, none⟩ (.int .i64 (F[x].2 : Int))).drew := ⟨_, rfl⟩
    have b10 : W10.heap[b]? = some (.cells #[.int .i64 (F[x].1 : Int), .int .i64 (F[x].2 : Int)] 35 (0, 0)) := by rw [hW10, hbE]; exact s2
    rw [← hW10] at gSd ⊢
    rw [← hbE]
    have hP10 := hPd.kept gSd
    have hSb : ¬ S b := hPd.far (by omega)
    have hbl : b < W10.heap.size := (Array.getElem?_eq_some_iff.1 b10).1
    have hfx : F[x] ∈ F := List.getElem_mem lx
    have hsm : Sm (2 * k) c := ⟨by omega, by omega⟩
    have hsm1 : Sm (2 * k) (c + 1) := ⟨by omega, by omega⟩
    have z0 : (0 : Int) ≤ 0 ∧ (0 : Int) < 2 := by omega
    have z1 : (0 : Int) ≤ 1 ∧ (1 : Int) < 2 := by omega
    have hs1 := hP10.small hsm.1
    refine ⟨fun W' => W'.heap[b]? = some (.cells #[.int .i64 (F[x].1 : Int), .int .i64 (F[x].2 : Int)] 35 (0, 0)), b10, z0, _, blk_cell b10 0, z1, _, blk_cell b10 1, (hb_gdrop1 hP10 hsm hfx (.inl ⟨rfl, rfl⟩)).mono fun ev W11 hh => ?_⟩
    obtain ⟨rfl, h11, K11⟩ := hh
    have b11 := blk_kp b10 K11 hSb
    have hSb1 : ¬ extS S W10 W11 b := far_ext hSb hbl
    refine ⟨true, rfl, b11, fun h => (by cases h), fun _ => ⟨z0, _, blk_cell b11 0, z1, _, blk_cell b11 1, (hb_wdrop1 h11 hP10.nd hs1 hfx (.inl ⟨rfl, rfl⟩)).mono fun ev W12 hh => ?_⟩⟩
    obtain ⟨rfl, h12, K12⟩ := hh
    have b12 := blk_kp b11 K12 hSb1
    obtain ⟨U, hH⟩ := h12.hs
    obtain ⟨T5, A5, n5, c5, hW⟩ := h12.wg
    have hs2 := h12.small hsm.1
    refine ⟨true, rfl, b12, fun h => (by cases h), fun _ => (hcount_calls hH hsm1).mono fun ev W13 hh => ?_⟩
    obtain ⟨rfl, g13⟩ := hh
    refine ⟨_, rfl, blk_keep b12 g13, (wcount_calls (hW.kept g13) h12.rg hsm.1 hs2).mono fun ev W14 hh => ?_⟩
    obtain ⟨rfl, g14⟩ := hh
    have g2 := grown_trans g13 g14
    have b14 := blk_keep b12 g2
    refine ⟨_, rfl, b14, fun h => absurd rfl h, fun _ => ⟨z0, _, blk_cell b14 0, z1, _, blk_cell b14 1, (hconn_calls (hH.kept g2) hsm1 _ _).mono fun ev W15 hh => ?_⟩⟩
    obtain ⟨b1, rfl, hb1, rfl⟩ := hh
    refine ⟨_, rfl, b14, z0, _, fun W' hW' => blk_cell hW' 0, z1, _, fun W' hW' => blk_cell hW' 1, (wconn_calls (hW.kept g2) h12.rg hsm.1 hs2 _ _).mono fun ev W16 hh => ?_⟩
    obtain ⟨b2, rfl, hb2, g16⟩ := hh
    have hbb : b1 = b2 := by rw [Bool.eq_iff_iff, hb1, hb2]
    have g3 := grown_trans g2 g16
    have b16 := blk_keep b12 g3
    refine ⟨_, rfl, b16, _, fun w => run_neB21 _ _ _ _ w, fun h => (by simp [hbb] at h), fun _ => ⟨z0, _, blk_cell b16 0, (hsize_calls (hH.kept g3) hsm1 _).mono fun ev W17 hh => ?_⟩⟩
    obtain ⟨rfl, rfl⟩ := hh
    refine ⟨_, rfl, b16, z0, _, fun W' hW' => blk_cell hW' 0, (wpart_calls (hW.kept g3) h12.rg hsm.1 hs2 _).mono fun ev W18 hh => ?_⟩
    obtain ⟨A18, n18, c18, rfl, hn18, g18⟩ := hh
    have g4 := grown_trans g3 g18
    exact ⟨_, _, _, rfl, blk_keep b12 g4, fun h => absurd hn18 h, fun _ => ⟨by omega, l.length - (j + 1), by omega, j + 1, c + 1, _, _, by omega, by omega, rfl, by omega, h12.kept g4⟩⟩
end Go.Proofs.Ytpfkpmapimonbaa

/-! archipelagolaw23.HdtWhole: the walk. -/
namespace Go.Proofs.Ytpfkpmapimonbaa
open Go Go.V Go.RowKit
set_option linter.unusedVariables false
set_option linter.unusedSimpArgs false
set_option maxHeartbeats 8000000
set_option maxRecDepth 100000

/-- An edge that is new to one, the greater vertex first. -/
theorem hb_gadd2 {w0 W : World} {g r N c : Nat} {F E : Eds} {S : Nat → Prop} (h : HB w0 W g r N c F E S) (hs : Sm N c) {a b : Nat} (hab : a < b) (hb : b < N) (hn : (a, b) ∉ F) : Calls P 29 #[.pointer (some ⟨g, 0, none⟩), .int .i64 (b : Int), .int .i64 (a : Int)] W fun ev W' => ev = .returned (.bool true) ∧
    HB w0 W' g r N (c + 1) (F ++ [(a, b)]) E (extS S W W') ∧ Kp W W' S := by
  obtain ⟨s1, s2⟩ := id hs
  have t1 : ((a : Nat) : Int).toNat = a := by omega
  have t2 : ((b : Nat) : Int).toNat = b := by omega
  have hp : pairE ((b : Nat) : Int).toNat ((a : Nat) : Int).toNat = (a, b) := by rw [t1, t2]; unfold pairE; rw [Nat.min_eq_right (by omega), Nat.max_eq_left (by omega)]
  refine (hb_gadd h hs (okI_nat (N := N) (n := b) (by omega) (by omega)) (okI_nat (N := N) (n := a) (by omega) (by omega))).mono fun ev W1 hh => ?_
  obtain ⟨rfl, h1, K⟩ := hh
  rw [hp] at h1 ⊢
  have hy : (0 ≤ (b : Int) ∧ (b : Int) < N) ∧ (0 ≤ (a : Int) ∧ (a : Int) < N) ∧ (b : Int) ≠ a ∧ (a, b) ∉ F := ⟨by omega, by omega, by omega, hn⟩
  rw [if_pos hy] at h1
  rw [decide_eq_true hy]
  exact ⟨rfl, h1, K⟩
theorem walkHdtWhole {w : World} {n sd : Int} {A : Option Addr} {m c : Nat} {l : List Int} (hn : 0 ≤ n ∧ n ≤ 255) (hsd : 0 ≤ sd ∧ sd ≤ 18446744073709551615) (hrow : Row w A (l.map (Value.int .u8))) (hm : m = l.length) (hb : ∀ x ∈ l, 0 ≤ x ∧ x ≤ 255) :
    Calls P 11 #[.int .u8 n, .int .u64 sd, .slice A m c] w fun ev w' => ev = .returned (.bool true) ∧ w.grownBy w' none := by
  apply vc11; unfold VC11; try (conv => zeta)
  simp only [InK]
  refine known23_calls.mono fun ev w1 hh => ?_
  obtain ⟨rfl, g1⟩ := hh
  obtain ⟨k, hk⟩ : ∃ k : Nat, n % 7 + 2 = (k : Int) := ⟨(n % 7 + 2).toNat, by omega⟩
  have hk2 : 2 ≤ k ∧ k ≤ 8 := by omega
  refine ⟨true, rfl, fun h => (by cases h), fun _ => ⟨⟨by omega, by omega⟩, by omega, by omega, ?_⟩⟩
  rw [hk]
  have hN2 : nOf (k : Int) = k := by unfold nOf; omega
  refine (hb_new g1 (k : Int) sd).mono fun ev w2 hh => ?_
  obtain ⟨g, rfl, hc2⟩ := hh
  refine ⟨_, rfl, hc2.mono fun ev w3 hh => ?_⟩
  obtain ⟨r, rfl, S3, hP3⟩ := hh
  rw [hN2] at hP3
  have len : ∀ {W : World} {c : Nat} {F : Eds} {S : Nat → Prop}, HB w W g r k c F F S → F.length ≤ 64 := fun h => Nat.le_trans (eds_small h.nd h.frg) (Nat.mul_le_mul hk2.2 hk2.2)
  refine ⟨_, rfl, fun q i W => ∃ (j : Nat) (F : Eds) (S : Nat → Prop), i = j ∧ j ≤ k ∧ q = k - j ∧ HB w W g r k F.length F F S ∧ ∀ e ∈ F, e.1 < j, ⟨_, 0, [], S3, rfl, by omega, rfl, hP3, fun e he => by cases he⟩, ?_⟩
  rintro q i W ⟨j, F, S, rfl, hj, rfl, hP, hF⟩
  refine ⟨fun hlt => ⟨by omega, ?_⟩, fun hge => ?_⟩
  · refine ⟨fun q i W => ∃ (v : Nat) (F : Eds) (S : Nat → Prop), i = v ∧ v ≤ k ∧ j < v ∧ q = k - v ∧ HB w W g r k F.length F F S ∧ ∀ e ∈ F, e.1 < j ∨ (e.1 = j ∧ e.2 < v), ⟨_, j + 1, F, S, by omega, by omega, by omega, rfl, hP, fun e he => .inl (hF e he)⟩, ?_⟩
    clear hP hF
    rintro q i W ⟨v, F, S, rfl, hv, hjv, rfl, hP, hF⟩
    refine ⟨fun hlt => ?_, fun hge => ⟨by omega, k - (j + 1), by omega, j + 1, F, S, by omega, by omega, rfl, hP, fun e he => by have := hF e he; omega⟩⟩
    have hnm : (j, v) ∉ F := fun hm => by have := hF _ hm; simp only at this; omega
    have h64 := len hP
    refine (hb_gadd2 hP ⟨by omega, by omega⟩ hjv (by omega) hnm).mono fun ev W1 hh => ?_
    obtain ⟨rfl, h1, K1⟩ := hh
    refine ⟨true, rfl, fun h => (by cases h), fun _ => (hb_wadd1 h1 (by omega) (by omega) hjv (by omega) hnm rfl rfl).mono fun ev W2 hh => ?_⟩
    obtain ⟨rfl, h2, K2⟩ := hh
    have hlen : (F ++ [(j, v)]).length = F.length + 1 := by simp
    refine ⟨true, rfl, fun h => (by cases h), fun _ => ⟨by omega, k - (v + 1), by omega, v + 1, F ++ [(j, v)], _, by omega, by omega, by omega, rfl, by rw [hlen]; exact h2, fun e he => ?_⟩⟩
    rcases List.mem_append.1 he with he | he
    · have := hF e he; omega
    · rw [List.mem_singleton] at he; subst he; exact .inr ⟨rfl, Nat.lt_succ_self _⟩
  · have h64 := len hP
    refine ⟨fun q i W => ∃ (j c : Nat) (F : Eds) (S : Nat → Prop), i = j ∧ j + F.length ≤ 64 ∧ q = F.length ∧ c + F.length ≤ 128 ∧ HB w W g r k c F F S, ⟨_, 0, F.length, F, S, rfl, by omega, rfl, by omega, hP⟩, ?_⟩
    clear hP hF hP3 hc2 h64
    rintro q i W ⟨j, c, F, S, rfl, hj, rfl, hc, hP⟩
    obtain ⟨T, A4, n4, c4, hG⟩ := hP.wg
    have hn4 := hG.len
    have hsm : Sm k c := ⟨by omega, by omega⟩
    have hsm1 : Sm k (c + 1) := ⟨by omega, by omega⟩
    refine ⟨_, rfl, _, _, _, by rw [add_blk]; exact blk_cell hG.blk 1, fun hpos => ?_, fun hno => ?_⟩
    · refine ⟨fun i W' => ∃ x : Nat, i = x ∧ x < F.length ∧ W.grownBy W' none, ⟨fun hl => ?_, fun hl => ⟨0, rfl, by omega, grown_refl _ _⟩⟩, ?_⟩
      · have gd := grown_drew (grown_refl W none)
        obtain ⟨W9, hW9⟩ : ∃ W9, W9 = W.drew := ⟨_, rfl⟩
        rw [← hW9] at gd ⊢
        have m1 := Int.emod_nonneg (j : Int) (show (m : Int) ≠ 0 by omega)
        have m2 := Int.emod_lt_of_pos (j : Int) (show (0 : Int) < (m : Int) by omega)
        obtain ⟨y, hy⟩ : ∃ y : Nat, (j : Int) % (m : Int) = (y : Int) := ⟨((j : Int) % (m : Int)).toNat, by omega⟩
        rw [hy] at m1 m2 ⊢
        have ly : y < l.length := by omega
        have ty : (y : Int).toNat = y := by omega
        rw [ty]
        have hby := hb _ (List.getElem_mem ly)
        obtain ⟨aA, eA, fA⟩ := (hrow.kept_none (grown_trans hP.gr gd)) y (.int .u8 l[y]) (by rw [List.getElem?_map, List.getElem?_eq_getElem ly]; rfl)
        have p1 := Int.emod_nonneg l[y] (show (n4 : Int) ≠ 0 by omega)
        have p2 := Int.emod_lt_of_pos l[y] (show (0 : Int) < (n4 : Int) by omega)
        exact ⟨⟨by omega, by omega⟩, aA, eA, by omega, by omega, l[y], fA, by omega, _, rfl, A4, n4, c4, by rw [add_blk]; exact blk_cell (hG.kept gd).blk 1, ⟨by omega, by omega⟩, (l[y] % (n4 : Int)).toNat, by omega, by omega, gd⟩
      · rintro i W9 ⟨x, rfl, lx, gd⟩
        have tx : (x : Int).toNat = x := by omega
        rw [tx]
        have hPd := hP.kept gd
        have hG9 := hG.kept gd
        obtain ⟨a9, q1, q2, q3⟩ := hG9.cell lx
        have gA := World.grownBy_alloc W9 (.cells #[.int .i64 0, .int .i64 0] 35) none
        have bA := heap_alloc_new W9 (.cells #[.int .i64 0, .int .i64 0] 35)
        have s1 := blk_set bA 0 (.int .i64 (F[x].1 : Int))
        have s2 := blk_set s1 1 (.int .i64 (F[x].2 : Int))
        have gS : W9.grownBy (((W9.alloc (.cells #[.int .i64 0, .int .i64 0] 35)).setCell ⟨W9.heap.size, 0, none⟩ (.int .i64 (F[x].1 : Int))).setCell ⟨W9.heap.size, 1, none⟩ (.int .i64 (F[x].2 : Int))) none := (kset (kset (Kp.of_none (S := fun q => W9.heap.size ≤ q) gA) (Nat.le_refl _)) (Nat.le_refl _)).grown (fun q hq e => by omega)
        have gSd := grown_drew gS
        refine ⟨_, rfl, A4, n4, c4, by rw [add_blk]; exact blk_cell hG9.blk 1, a9, q1, by omega, by omega, (F[x].1 : Int), q2, (F[x].2 : Int), q3, ⟨_, blk_cell bA 0⟩, blk_free bA 0, ⟨_, blk_cell s1 1⟩, blk_free s1 1, ?_⟩
        obtain ⟨b, hbE⟩ : ∃ b, b = W9.heap.size := ⟨_, rfl⟩
        obtain ⟨W10, hW10⟩ : ∃ W10, W10 = (((W9.alloc (.cells #[.int .i64 0, .int .i64 0] 35)).setCell ⟨W9.heap.size, 0, none⟩ (.int .i64 (F[x].1 : Int))).setCell ⟨W9.heap.size, 1, none⟩ (.int .i64 (F[x].2 : Int))).drew := ⟨_, rfl⟩
        have b10 : W10.heap[b]? = some (.cells #[.int .i64 (F[x].1 : Int), .int .i64 (F[x].2 : Int)] 35 (0, 0)) := by rw [hW10, hbE]; exact s2
        rw [← hW10] at gSd ⊢
        rw [← hbE]
        have hP10 := hPd.kept gSd
        have hSb : ¬ S b := hPd.far (by omega)
        have hbl : b < W10.heap.size := (Array.getElem?_eq_some_iff.1 b10).1
        have hfx : F[x] ∈ F := List.getElem_mem lx
        have hle : (F.erase F[x]).length + 1 = F.length := by rw [List.length_erase_of_mem hfx]; omega
        have z0 : (0 : Int) ≤ 0 ∧ (0 : Int) < 2 := by omega
        have z1 : (0 : Int) ≤ 1 ∧ (1 : Int) < 2 := by omega
        have hs1 := hP10.small hsm.1
        refine ⟨fun W' => W'.heap[b]? = some (.cells #[.int .i64 (F[x].1 : Int), .int .i64 (F[x].2 : Int)] 35 (0, 0)), b10, z1, _, blk_cell b10 1, z0, _, blk_cell b10 0, (hb_gdrop1 hP10 hsm hfx (.inr ⟨rfl, rfl⟩)).mono fun ev W11 hh => ?_⟩
        obtain ⟨rfl, h11, K11⟩ := hh
        have b11 := blk_kp b10 K11 hSb
        have hSb1 : ¬ extS S W10 W11 b := far_ext hSb hbl
        refine ⟨true, rfl, b11, fun h => (by cases h), fun _ => ⟨z0, _, blk_cell b11 0, z1, _, blk_cell b11 1, (hb_wdrop1 h11 hP10.nd hs1 hfx (.inl ⟨rfl, rfl⟩)).mono fun ev W12 hh => ?_⟩⟩
        obtain ⟨rfl, h12, K12⟩ := hh
        have b12 := blk_kp b11 K12 hSb1
        obtain ⟨U, hH⟩ := h12.hs
        obtain ⟨T5, A5, n5, c5, hW⟩ := h12.wg
        have hs2 := h12.small hsm.1
        refine ⟨true, rfl, b12, fun h => (by cases h), fun _ => (hcount_calls hH hsm1).mono fun ev W13 hh => ?_⟩
        obtain ⟨rfl, g13⟩ := hh
        refine ⟨_, rfl, blk_keep b12 g13, (wcount_calls (hW.kept g13) h12.rg hsm.1 hs2).mono fun ev W14 hh => ?_⟩
        obtain ⟨rfl, g14⟩ := hh
        have g2 := grown_trans g13 g14
        have b14 := blk_keep b12 g2
        refine ⟨_, rfl, b14, fun h => absurd rfl h, fun _ => ⟨z0, _, blk_cell b14 0, (hdegree_calls (hH.kept g2) _).mono fun ev W15 hh => ?_⟩⟩
        obtain ⟨rfl, rfl⟩ := hh
        refine ⟨_, rfl, b14, z0, _, fun W' hW' => blk_cell hW' 0, (gdegree_calls (hW.kept g2) h12.rg (by omega) _).mono fun ev W16 hh => ?_⟩
        obtain ⟨rfl, g16⟩ := hh
        have g3 := grown_trans g2 g16
        have b16 := blk_keep b12 g3
        refine ⟨_, rfl, b16, fun h => absurd rfl h, fun _ => ⟨z1, _, blk_cell b16 1, (hsize_calls (hH.kept g3) hsm1 _).mono fun ev W17 hh => ?_⟩⟩
        obtain ⟨rfl, rfl⟩ := hh
        refine ⟨_, rfl, b16, z1, _, fun W' hW' => blk_cell hW' 1, (wpart_calls (hW.kept g3) h12.rg hsm.1 hs2 _).mono fun ev W18 hh => ?_⟩
        obtain ⟨A18, n18, c18, rfl, hn18, g18⟩ := hh
        have g4 := grown_trans g3 g18
        exact ⟨_, _, _, rfl, blk_keep b12 g4, fun h => absurd hn18 h, fun _ => ⟨by omega, (F.erase F[x]).length, by omega, j + 1, c + 1, _, _, by omega, by omega, rfl, by omega, h12.kept g4⟩⟩
    · have hF0 : F = [] := List.length_eq_zero_iff.1 (by omega)
      subst hF0
      obtain ⟨U, hH⟩ := hP.hs
      refine (hcount_calls hH hsm).mono fun ev W1 hh => ?_
      obtain ⟨rfl, g1'⟩ := hh
      rw [cnt_nil]
      refine ⟨_, rfl, fun _ => (htree_calls (hH.kept g1') hsm).mono fun ev W2 hh => ?_, fun h => absurd rfl h⟩
      obtain ⟨A1, n1, k1, Ts, rfl, o1, _, _, t3, t4, g2⟩ := hh
      have q1 := o1.cases.1
      rw [prs_length] at q1
      have hl := tree_len t3 t4
      rw [cnt_nil] at hl
      refine ⟨_, _, _, rfl, ?_, grown_trans hP.gr (grown_trans g1' g2)⟩
      rw [decide_eq_true (by omega)]
end Go.Proofs.Ytpfkpmapimonbaa

/-! A ring of edges, some of them gone: its parts. Plain Lean; no program. -/
namespace Go.Proofs.Ytpfkpmapimonbaa
open Go.V
set_option linter.unusedVariables false
set_option linter.unusedSimpArgs false

/-- The next one of a ring. -/
def sc (k t : Nat) : Nat := if t + 1 = k then 0 else t + 1
def reE (k t : Nat) : Nat × Nat := pairE t (sc k t)
theorem sc_cases (k t : Nat) : (t + 1 = k ∧ sc k t = 0) ∨ (t + 1 ≠ k ∧ sc k t = t + 1) := by
  unfold sc; split
  · exact .inl ⟨by assumption, rfl⟩
  · exact .inr ⟨by assumption, rfl⟩
theorem sc_lt {k t : Nat} (hk : 3 ≤ k) (ht : t < k) : sc k t < k ∧ sc k t ≠ t := by
  rcases sc_cases k t with ⟨h1, h2⟩ | ⟨h1, h2⟩ <;> rw [h2] <;> omega
theorem sc_int {k t : Nat} (ht : t < k) : ((t : Int) + 1) % (k : Int) = ((sc k t : Nat) : Int) := by
  rcases sc_cases k t with ⟨h1, h2⟩ | ⟨h1, h2⟩ <;> rw [h2]
  · rw [show (t : Int) + 1 = (k : Int) by omega, Int.emod_self]; rfl
  · rw [Int.emod_eq_of_lt (by omega) (by omega)]; omega
theorem re_inj {k t c : Nat} (hk : 3 ≤ k) (ht : t < k) (hc : c < k) (h : reE k t = reE k c) : t = c := by
  unfold reE pairE at h
  simp only [Prod.mk.injEq] at h
  rcases sc_cases k t with ⟨h1, h2⟩ | ⟨h1, h2⟩ <;> rcases sc_cases k c with ⟨h3, h4⟩ | ⟨h3, h4⟩ <;> rw [h2, h4] at h <;> omega
theorem re_rg {k t : Nat} (hk : 3 ≤ k) (ht : t < k) : (reE k t).1 < (reE k t).2 ∧ (reE k t).2 < k := by
  unfold reE pairE
  simp only
  rcases sc_cases k t with ⟨h1, h2⟩ | ⟨h1, h2⟩ <;> rw [h2] <;> omega
/-- Where two edges are gone, the ends of each are parted. -/
theorem ring_sep {k c c0 : Nat} {F : Eds} (hk : 3 ≤ k) (hc : c < k) (h0 : c0 < k) (hne : c ≠ c0) (hF : ∀ e ∈ F, ∃ t, t < k ∧ t ≠ c ∧ t ≠ c0 ∧ e = reE k t) : ¬ Cn F c (sc k c) := by
  have key : ∀ S : Nat → Prop, (∀ t, t < k → t ≠ c → t ≠ c0 → (S t ↔ S (sc k t))) → S c → ¬ S (sc k c) → ¬ Cn F c (sc k c) := fun S hS h1 h2 hcn => by
    refine h2 ((Cn.closed (S := S) (fun e he => ?_) hcn).1 h1)
    obtain ⟨t, q1, q2, q3, rfl⟩ := hF e he
    have := hS t q1 q2 q3
    unfold reE pairE
    simp only
    rcases Nat.le_total t (sc k t) with hle | hle
    · rw [Nat.min_eq_left hle, Nat.max_eq_right hle]; exact this
    · rw [Nat.min_eq_right hle, Nat.max_eq_left hle]; exact this.symm
  by_cases hlt : c0 < c
  · refine key (fun x => c0 < x ∧ x ≤ c) (fun t q1 q2 q3 => ?_) ⟨hlt, Nat.le_refl _⟩ ?_
    · rcases sc_cases k t with ⟨h1, h2⟩ | ⟨h1, h2⟩ <;> rw [h2] <;> omega
    · rcases sc_cases k c with ⟨h1, h2⟩ | ⟨h1, h2⟩ <;> rw [h2] <;> omega
  · refine key (fun x => x ≤ c ∨ c0 < x) (fun t q1 q2 q3 => ?_) (.inl (Nat.le_refl _)) ?_
    · rcases sc_cases k t with ⟨h1, h2⟩ | ⟨h1, h2⟩ <;> rw [h2] <;> omega
    · rcases sc_cases k c with ⟨h1, h2⟩ | ⟨h1, h2⟩ <;> rw [h2] <;> omega
/-- Where an edge is gone, the rest is a forest. -/
theorem ring_fr {k c0 : Nat} (hk : 3 ≤ k) (h0 : c0 < k) : ∀ (n : Nat) (F : Eds), F.length = n → F.Nodup → (∀ e ∈ F, ∃ t, t < k ∧ t ≠ c0 ∧ e = reE k t) → FrE k F := by
  intro n
  induction n with
  | zero =>
    intro F hl _ _
    have : F = [] := List.length_eq_zero_iff.1 hl
    subst this
    unfold FrE; rw [cnt_nil]; rfl
  | succ n ih =>
    intro F hl hn hF
    have hne : F ≠ [] := fun e => by subst e; simp at hl
    have hs := List.dropLast_concat_getLast hne
    obtain ⟨F', hF'⟩ : ∃ F', F' = F.dropLast := ⟨_, rfl⟩
    obtain ⟨e, he⟩ : ∃ e, e = F.getLast hne := ⟨_, rfl⟩
    rw [← hF', ← he] at hs
    rw [← hs] at hn hF hl ⊢
    rw [List.nodup_append] at hn
    obtain ⟨n1, _, n3⟩ := hn
    have hf := ih F' (by simpa using hl) n1 (fun x hx => hF x (by simp [hx]))
    obtain ⟨t, q1, q2, q3⟩ := hF e (by simp)
    have hsep := ring_sep (F := F') hk q1 h0 q2 (fun x hx => by
      obtain ⟨t', p1, p2, p3⟩ := hF x (by simp [hx])
      refine ⟨t', p1, fun e' => ?_, p2, p3⟩
      subst e'
      exact n3 x hx e (by simp) (by rw [p3, q3]))
    have hr := re_rg hk q1
    rw [← q3] at hr
    have hnc : ¬ Cn F' e.1 e.2 := fun h => by
      rw [q3] at h
      exact hsep (Cn.pair.1 h)
    exact fr_add (N := k) (a := e.1) (b := e.2) (by omega) hr.2 hf hnc
theorem walk_up {F : Eds} {a : Nat} : ∀ (d : Nat), (∀ t, a ≤ t → t < a + d → Cn F t (t + 1)) → Cn F a (a + d) := by
  intro d
  induction d with
  | zero => intro _; exact .refl _
  | succ d ih => intro h; exact (ih fun t h1 h2 => h t h1 (by omega)).trans (h (a + d) (by omega) (by omega))
/-- Where all edges but one are there, all is one part. -/
theorem ring_all {k c : Nat} {F : Eds} (hk : 3 ≤ k) (hc : c < k) (hF : ∀ t, t < k → t ≠ c → reE k t ∈ F) : ∀ x, x < k → Cn F 0 x := by
  have st : ∀ t, t < k → t ≠ c → Cn F t (sc k t) := fun t h1 h2 => Cn.pair.1 (Cn.of_mem (hF t h1 h2))
  have up : ∀ t, t + 1 < k → t ≠ c → Cn F t (t + 1) := fun t h1 h2 => by
    have := st t (by omega) h2
    rcases sc_cases k t with ⟨h3, h4⟩ | ⟨h3, h4⟩
    · omega
    · rw [h4] at this; exact this
  intro x hx
  by_cases hxc : x ≤ c
  · have := walk_up (F := F) (a := 0) x (fun t _ h2 => up t (by omega) (by omega))
    rw [Nat.zero_add] at this; exact this
  · have h1 := walk_up (F := F) (a := x) (k - 1 - x) (fun t h1 h2 => up t (by omega) (by omega))
    rw [show x + (k - 1 - x) = k - 1 by omega] at h1
    have h2 := st (k - 1) (by omega) (by omega)
    rcases sc_cases k (k - 1) with ⟨h3, h4⟩ | ⟨h3, h4⟩
    · rw [h4] at h2; exact (h1.trans h2).symm
    · omega
theorem cnt_all {N : Nat} {E : Eds} (hN : 0 < N) (h : cntC N E = 1) {x y : Nat} (hx : x < N) (hy : y < N) : Cn E x y := Classical.byContradiction fun hn => by
  have h1 := cnt_add hx hy hn
  have h2 := cnt_pos (E := E ++ [(x, y)]) hN
  omega
/-- A ring of which just the marked edges are there. -/
def RelR (k : Nat) (bs : List Bool) (F : Eds) : Prop := ∀ e, e ∈ F ↔ ∃ t, t < k ∧ bs[t]? = some true ∧ e = reE k t
/-- How many parts it has. -/
theorem ring_cnt {k : Nat} {bs : List Bool} {F : Eds} (hk : 3 ≤ k) (hb : bs.length = k) (hn : F.Nodup) (hF : RelR k bs F) (hR : RgE k F) : ((cntC k F : Nat) : Int) = max ((k : Int) - (F.length : Int)) 1 := by
  have hp := cnt_pos (N := k) (E := F) (by omega)
  by_cases hall : ∀ t, t < k → bs[t]? = some true
  · have h1 := cnt_one (N := k) (E := F) (by omega) (ring_all (c := 0) hk (by omega) fun t h1 _ => (hF _).2 ⟨t, h1, hall t h1, rfl⟩)
    have h2 := fr_ge hR
    omega
  · obtain ⟨c0, h0⟩ := Classical.not_forall.1 hall
    obtain ⟨q1, q2⟩ := Classical.not_imp.1 h0
    have := ring_fr hk q1 F.length F rfl hn (fun e he => by
      obtain ⟨t, p1, p2, p3⟩ := (hF e).1 he
      exact ⟨t, p1, fun e' => q2 (e' ▸ p2), p3⟩)
    unfold FrE at this
    omega
/-- When the ends of an edge are connected. -/
theorem ring_cn {k : Nat} {bs : List Bool} {F : Eds} (hk : 3 ≤ k) (hb : bs.length = k) (hn : F.Nodup) (hF : RelR k bs F) {c : Nat} (hc : c < k) : Cn F c (sc k c) ↔ (bs[c]? = some true ∨ F.length + 1 = k) := by
  by_cases hbc : bs[c]? = some true
  · exact ⟨fun _ => .inl hbc, fun _ => Cn.pair.1 (Cn.of_mem ((hF _).2 ⟨c, hc, hbc, rfl⟩))⟩
  · have hfr := ring_fr hk hc F.length F rfl hn (fun e he => by
      obtain ⟨t, p1, p2, p3⟩ := (hF e).1 he
      exact ⟨t, p1, fun e' => hbc (e' ▸ p2), p3⟩)
    unfold FrE at hfr
    constructor
    · intro h
      have hall : ∀ t, t < k → t ≠ c → reE k t ∈ F := fun t h1 h2 => Classical.byContradiction fun hno => by
        refine ring_sep (F := F) hk hc h1 (fun e => h2 e.symm) (fun e he => ?_) h
        obtain ⟨t', p1, p2, p3⟩ := (hF e).1 he
        refine ⟨t', p1, fun e' => hbc (e' ▸ p2), fun e' => ?_, p3⟩
        subst e'
        exact hno (p3 ▸ he)
      have := cnt_one (N := k) (E := F) (by omega) (ring_all hk hc hall)
      right; omega
    · intro h
      have h1 : F.length + 1 = k := h.resolve_left hbc
      exact cnt_all (N := k) (by omega) (by omega) hc (sc_lt hk hc).1
theorem ring_put {k : Nat} {bs : List Bool} {F : Eds} (hk : 3 ≤ k) (hb : bs.length = k) (hF : RelR k bs F) {c : Nat} (hc : c < k) : RelR k (bs.set c true) (F ++ [reE k c]) := fun e => by
  rw [List.mem_append, hF, List.mem_singleton]
  constructor
  · rintro (⟨t, h1, h2, h3⟩ | rfl)
    · refine ⟨t, h1, ?_, h3⟩
      rw [List.getElem?_set]
      split
      · rw [if_pos (by omega)]
      · exact h2
    · exact ⟨c, hc, by rw [List.getElem?_set, if_pos rfl, if_pos (by omega)], rfl⟩
  · rintro ⟨t, h1, h2, h3⟩
    by_cases e' : c = t
    · subst e'; exact .inr h3
    · rw [List.getElem?_set_ne e'] at h2; exact .inl ⟨t, h1, h2, h3⟩
theorem ring_take {k : Nat} {bs : List Bool} {F : Eds} (hk : 3 ≤ k) (hb : bs.length = k) (hn : F.Nodup) (hF : RelR k bs F) {c : Nat} (hc : c < k) : RelR k (bs.set c false) (F.erase (reE k c)) := fun e => by
  rw [hn.mem_erase_iff, hF]
  constructor
  · rintro ⟨h0, t, h1, h2, h3⟩
    refine ⟨t, h1, ?_, h3⟩
    rw [List.getElem?_set_ne (fun e' => h0 (by rw [h3, e']))]; exact h2
  · rintro ⟨t, h1, h2, h3⟩
    by_cases e' : c = t
    · subst e'
      rw [List.getElem?_set, if_pos rfl, if_pos (by omega)] at h2; cases h2
    · rw [List.getElem?_set_ne e'] at h2
      exact ⟨fun h4 => e' (re_inj hk hc h1 (by rw [← h4, h3])), t, h1, h2, h3⟩
end Go.Proofs.Ytpfkpmapimonbaa

/-! archipelagolaw23.HdtRings: the walk. -/
namespace Go.Proofs.Ytpfkpmapimonbaa
open Go Go.V Go.RowKit
set_option linter.unusedVariables false
set_option linter.unusedSimpArgs false
set_option maxHeartbeats 8000000
set_option maxRecDepth 100000

/-- A ring, and which of its edges are there. -/
structure RG (w0 W : World) (g k c b : Nat) (bs rs : List Bool) (F : Eds) : Prop where
  ex : ∃ U : Nat → Prop, HS W w0.heap.size g k c U F ∧ ¬ U b
  ar : OwnedK W w0.heap.size 4 1 (some ⟨b, 0, none⟩) k k (boolsV bs)
  bl : bs.length = k
  rl : rs.length = k
  rel : RelR k rs F
  gr : w0.grownBy W none
section
variable {w0 W W' : World} {g k c b : Nat} {bs rs : List Bool} {F : Eds}
theorem RG.kept (h : RG w0 W g k c b bs rs F) (hg : W.grownBy W' none) : RG w0 W' g k c b bs rs F := by
  obtain ⟨⟨U, h1, h2⟩, h3, h4, h5, h6, h7⟩ := h
  exact ⟨⟨U, h1.kept hg, h2⟩, h3.kp (S := fun _ => False) (Kp.of_none hg) (fun _ _ e => e), h4, h5, h6, grown_trans h7 hg⟩
theorem RG.cell (h : RG w0 W g k c b bs rs F) {j : Nat} (hj : j < bs.length) : W.cell? (Addr.add ⟨b, 0, none⟩ j) = some (.bool bs[j]) := by
  obtain ⟨a, e1, e2⟩ := h.ar.row j (.bool bs[j]) (by rw [List.getElem?_map, List.getElem?_eq_getElem hj]; rfl)
  cases e1; exact e2
theorem RG.lt (h : RG w0 W g k c b bs rs F) : b < W.heap.size := h.ar.block_lt b rfl
/-- The graph alone has changed. -/
theorem RG.graph {U : Nat → Prop} {F' : Eds} {rs' : List Bool} {c' : Nat} (h : RG w0 W g k c b bs rs F) (h1 : HS W w0.heap.size g k c U F) (hU : ¬ U b) (h2 : HS W' w0.heap.size g k c' (extS U W W') F') (K : Kp W W' U) (hl : rs'.length = k) (hr : RelR k rs' F') : RG w0 W' g k c' b bs rs' F' := by
  have hlt := h.lt
  have l1 := h1.lt
  refine ⟨⟨_, h2, fun e => e.elim hU (fun e => by omega)⟩, h.ar.kp K (fun q hq e => ?_), h.bl, hl, hr, ?_⟩
  · cases hq; exact hU e
  · exact ((Kp.of_none (S := fun q => w0.heap.size ≤ q) h.gr).then K fun q _ e => (l1 q e).1).grown fun q hq e => by omega
/-- The marks alone have changed. -/
theorem RG.mark (h : RG w0 W g k c b bs rs F) {j : Nat} (hj : j < k) (x : Bool) : (∃ uv_ : Value, W.cell? (Addr.add ⟨b, 0, none⟩ j) = some uv_) ∧ W.frozen? (Addr.add ⟨b, 0, none⟩ j) = false ∧ RG w0 (W.setCell (Addr.add ⟨b, 0, none⟩ j) (.bool x)) g k c b (bs.set j x) rs F := by
  obtain ⟨⟨U, h1, h2⟩, h3, h4, h5, h6, h7⟩ := h
  obtain ⟨b', e1, e2, _, e3, e4, e5, e6⟩ := own_put h3 (k := j) (by simp; omega) (.bool x)
  cases e1
  have hset : (boolsV bs).set j (.bool x) = boolsV (bs.set j x) := by simp [List.map_set]
  rw [hset] at e5
  rw [add_blk]
  refine ⟨e3, e4, ⟨U, h1.kp e6 (fun q hq e => h2 (e ▸ hq)), h2⟩, e5, by simpa using h4, h5, h6, ?_⟩
  exact ((Kp.of_none (S := fun q => w0.heap.size ≤ q) h7).then e6 fun q _ e => by omega).grown fun q hq e => by omega
end
theorem hrise_calls {w : World} {x : Int} (hx : 0 < x) {A : Option Addr} {c : Nat} (hr : Row w A [.int .i64 0, .int .i64 x]) : Calls P 41 #[.slice A 2 c] w fun ev w' => ev = .returned (.bool true) ∧ w.grownBy w' none := by
  apply vc41; unfold VC41; try (conv => zeta)
  simp only [InK]
  refine ⟨fun m i W => (i = 1 ∧ m = 1 ∨ i = 2 ∧ m = 0) ∧ w.grownBy W none, ⟨1, .inl ⟨rfl, rfl⟩, grown_refl _ _⟩, ?_⟩
  rintro m i W ⟨hi, gW⟩
  refine ⟨fun hlt => ?_, fun _ => ⟨by trivial, gW⟩⟩
  have hi1 : i = 1 ∧ m = 1 := by omega
  obtain ⟨rfl, rfl⟩ := hi1
  have g2 := grown_drew gW
  obtain ⟨a, e1, e2⟩ := (hr.kept_none g2) 1 (.int .i64 x) rfl
  obtain ⟨a', e1', e3⟩ := (hr.kept_none g2) 0 (.int .i64 0) rfl
  rw [e1] at e1'; cases e1'
  exact ⟨a, e1, by omega, by omega, _, e2, by omega, a, e1, by omega, by omega, _, e3, fun h => absurd h (by omega), fun _ => ⟨by omega, 0, by omega, .inr ⟨rfl, rfl⟩, g2⟩⟩
theorem walkHdtRings {w : World} {n sd : Int} {A : Option Addr} {m c : Nat} {l : List Int} (hn : 0 ≤ n ∧ n ≤ 255) (hsd : 0 ≤ sd ∧ sd ≤ 18446744073709551615) (hrow : Row w A (l.map (Value.int .u8))) (hm : m = l.length) (hb : ∀ x ∈ l, 0 ≤ x ∧ x ≤ 255) :
    Calls P 8 #[.int .u8 n, .int .u64 sd, .slice A m c] w fun ev w' => ev = .returned (.bool true) ∧ w.grownBy w' none := by
  apply vc8; unfold VC8; try (conv => zeta)
  simp only [InK, mxE]
  refine known23_calls.mono fun ev w1 hh => ?_
  obtain ⟨rfl, g1⟩ := hh
  refine ⟨true, rfl, fun h => (by cases h), fun _ => ⟨fun _ => ⟨by trivial, g1⟩, fun h60 => ?_⟩⟩
  obtain ⟨k, hk⟩ : ∃ k : Nat, n % 30 + 3 = (k : Int) := ⟨(n % 30 + 3).toNat, by omega⟩
  have hk2 : 3 ≤ k ∧ k ≤ 32 := by omega
  refine ⟨⟨by omega, by omega⟩, by omega, by omega, ?_⟩
  rw [hk]
  have hNk : nOf (k : Int) = k := by unfold nOf; omega
  refine (hnew_calls g1.size (k : Int) sd).mono fun ev w2 hh => ?_
  obtain ⟨g, rfl, h2, g2⟩ := hh
  rw [hNk] at h2
  have smk : ∀ c, c ≤ 200 → Sm k c := fun c hc => ⟨by omega, by omega⟩
  have okn : ∀ t : Nat, t < k → okI (t : Int) := fun t ht => by unfold okI; omega
  -- the ring is laid
  refine ⟨_, rfl, fun q i W => ∃ (j : Nat) (F : Eds) (U : Nat → Prop), i = j ∧ j ≤ k ∧ q = k - j ∧ HS W w.heap.size g k j U F ∧ F.length = j ∧ (∀ e, e ∈ F ↔ ∃ t, t < j ∧ e = reE k t) ∧ w.grownBy W none, ⟨_, 0, [], _, rfl, by omega, rfl, h2, rfl, fun e => by simp, grown_trans g1 g2⟩, ?_⟩
  rintro q i W ⟨j, F, U, rfl, hj, rfl, hH, hFl, hF, gW⟩
  refine ⟨fun hlt => ⟨by omega, ⟨by omega, by omega⟩, ?_⟩, fun hge => ?_⟩
  · have lj : j < k := by omega
    have hsc := sc_lt hk2.1 lj
    rw [sc_int lj]
    have tj : ((j : Nat) : Int).toNat = j := by omega
    have ts : ((sc k j : Nat) : Int).toNat = sc k j := by omega
    have hnm : reE k j ∉ F := fun hm => by
      obtain ⟨t, h1, h2⟩ := (hF _).1 hm
      have := re_inj hk2.1 lj (by omega) h2
      omega
    refine (hadd_calls hH (smk j (by omega)) (okn j lj) (okn _ hsc.1)).mono fun ev W1 hh => ?_
    obtain ⟨rfl, h3, K3⟩ := hh
    have hy : (0 ≤ (j : Int) ∧ (j : Int) < k) ∧ (0 ≤ ((sc k j : Nat) : Int) ∧ ((sc k j : Nat) : Int) < k) ∧ (j : Int) ≠ ((sc k j : Nat) : Int) ∧ pairE ((j : Nat) : Int).toNat ((sc k j : Nat) : Int).toNat ∉ F := by
      rw [tj, ts]
      exact ⟨by omega, by omega, by omega, hnm⟩
    rw [if_pos hy, tj, ts] at h3
    rw [decide_eq_true hy]
    have hl := hH.lt
    refine ⟨true, rfl, fun h => (by cases h), fun _ => ⟨by omega, k - (j + 1), by omega, j + 1, F ++ [reE k j], _, by omega, by omega, rfl, h3, by simp [hFl], fun e => ?_, ?_⟩⟩
    · rw [List.mem_append, hF, List.mem_singleton]
      constructor
      · rintro (⟨t, h1, h2⟩ | h1)
        · exact ⟨t, by omega, h2⟩
        · exact ⟨j, by omega, h1⟩
      · rintro ⟨t, h1, h2⟩
        by_cases e' : t = j
        · subst e'; exact .inr h2
        · exact .inl ⟨t, by omega, h2⟩
    · exact ((Kp.of_none (S := fun q => w.heap.size ≤ q) gW).then K3 fun q _ e => (hl q e).1).grown fun q hq e => by omega
  have hjk : j = k := by omega
  subst hjk
  -- the marks
  obtain ⟨w3, r1, r2, r3⟩ := run_made (P := P) (w := W) elemB1 (by omega) (m := j) (by omega)
  have o3 : OwnedK w3 w.heap.size 4 1 (some ⟨W.heap.size, 0, none⟩) j j (boolsV (List.replicate j false)) := by
    have := r2.ownsRow (base := w.heap.size) gW.size (by simp only [maxLen]; omega)
    simpa [OwnedK] using this
  refine ⟨_, _, _, w3, r1, ?_⟩
  have hUl := hH.lt
  obtain ⟨b, hbE⟩ : ∃ b, b = W.heap.size := ⟨_, rfl⟩
  rw [← hbE] at o3 ⊢
  have hUb : ¬ U b := fun e => by have := (hUl b e).2; omega
  have hrelT : RelR j (List.replicate j true) F := fun e => by
    rw [hF]
    constructor
    · rintro ⟨t, h1, h2⟩; exact ⟨t, h1, by rw [List.getElem?_replicate, if_pos h1], h2⟩
    · rintro ⟨t, h1, _, h2⟩; exact ⟨t, h1, h2⟩
  have h0 : RG w w3 g j j b (List.replicate j false) (List.replicate j true) F := ⟨⟨U, hH.kept r3, hUb⟩, o3, by simp, by simp, hrelT, grown_trans gW r3⟩
  refine ⟨fun q i W => ∃ (t : Nat) (bs : List Bool), i = t ∧ t ≤ j ∧ q = j - t ∧ RG w W g j j b bs (List.replicate j true) F ∧ ∀ s, s < t → bs[s]? = some true, ⟨_, 0, _, rfl, by omega, rfl, h0, fun s hs => by omega⟩, ?_⟩
  clear h0 o3 r1 r2 r3 gW hUl hUb
  rintro q i W2 ⟨t, bs, rfl, ht, rfl, hG, hbs⟩
  refine ⟨fun hlt => ?_, fun hge => ?_⟩
  · have lt : t < j := by omega
    have tt : ((t : Nat) : Int).toNat = t := by omega
    rw [tt]
    obtain ⟨p1, p2, p3⟩ := hG.mark lt true
    refine ⟨_, rfl, by omega, by omega, p1, p2, by omega, j - (t + 1), by omega, t + 1, bs.set t true, by omega, by omega, rfl, p3, fun s hs => ?_⟩
    have hbl := hG.bl
    rw [List.getElem?_set]
    by_cases e : t = s
    · rw [if_pos e, if_pos (by omega)]
    · rw [if_neg e]; exact hbs s (by omega)
  have htj : t = j := by omega
  subst htj
  have hbT : bs = List.replicate t true := by
    apply List.ext_getElem?
    intro s
    by_cases hs : s < t
    · rw [hbs s hs, List.getElem?_replicate, if_pos hs]
    · rw [List.getElem?_eq_none (by have := hG.bl; omega), List.getElem?_eq_none (by simp; omega)]
  rw [hbT] at hG
  -- the story
  refine ⟨fun q left i W => ∃ (p c : Nat) (bs : List Bool) (F : Eds), left = (F.length : Int) ∧ i = p ∧ p ≤ l.length ∧ q = l.length - p ∧ c ≤ 32 + p ∧ RG w W g t c b bs bs F, ⟨_, 0, t, _, F, by omega, rfl, by omega, rfl, by omega, hG⟩, ?_⟩
  clear hG hbs hbT hrelT hF hFl hH hj
  rintro q left i W3 ⟨p, c, bs, F, rfl, rfl, hp, rfl, hc, hG⟩
  have tp : ((p : Nat) : Int).toNat = p := by omega
  rw [tp]
  have hsm := smk c (by omega)
  have hsm1 := smk (c + 1) (by omega)
  refine ⟨fun hlt => ?_, fun hge => ?_⟩
  · have lp : p < l.length := by omega
    have hbp := hb _ (List.getElem_mem lp)
    obtain ⟨aA, eA, fA⟩ := (hrow.kept_none hG.gr) p (.int .u8 l[p]) (by rw [List.getElem?_map, List.getElem?_eq_getElem lp]; rfl)
    have m1 := Int.emod_nonneg l[p] (show (t : Int) ≠ 0 by omega)
    have m2 := Int.emod_lt_of_pos l[p] (show (0 : Int) < (t : Int) by omega)
    obtain ⟨x, hx⟩ : ∃ x : Nat, l[p] % (t : Int) = (x : Int) := ⟨(l[p] % (t : Int)).toNat, by omega⟩
    refine ⟨aA, eA, by omega, by omega, l[p], fA, by omega, ⟨by omega, by omega⟩, ?_⟩
    rw [hx] at m1 m2 ⊢
    have lx : x < t := by omega
    have tx : ((x : Nat) : Int).toNat = x := by omega
    rw [tx, sc_int lx]
    have hsc := sc_lt hk2.1 lx
    have ts : ((sc t x : Nat) : Int).toNat = sc t x := by omega
    have hbl := hG.bl
    obtain ⟨U, hH, hU⟩ := hG.ex
    have hFl := Nat.le_trans (eds_small hH.2 hH.rg) (Nat.mul_le_mul hk2.2 hk2.2)
    have lb : x < bs.length := by omega
    refine ⟨fun left W' => ∃ F' : Eds, left = (F'.length : Int) ∧ RG w W' g t (c + 1) b bs (bs.set x (!bs[x])) F', ⟨_, rfl, by omega, by omega, bs[x], hG.cell lb, fun hT => ?_, fun hFa => ?_⟩, ?_⟩
    · have hmem : reE t x ∈ F := (hG.rel _).2 ⟨x, lx, by rw [List.getElem?_eq_getElem lb, hT], rfl⟩
      have hpe : pairE ((sc t x : Nat) : Int).toNat ((x : Nat) : Int).toNat = reE t x := by rw [ts, tx, pairE_comm]; rfl
      refine ⟨by omega, by omega, ⟨by omega, by omega⟩, (hdrop_calls hH hsm (okn _ hsc.1) (okn x lx)).mono fun ev W4 hh => ?_⟩
      obtain ⟨rfl, h4, K4⟩ := hh
      rw [hpe] at h4 ⊢
      have hy : (0 ≤ ((sc t x : Nat) : Int) ∧ 0 ≤ ((x : Nat) : Int)) ∧ reE t x ∈ F := ⟨by omega, hmem⟩
      rw [if_pos hy] at h4
      rw [decide_eq_true hy]
      have hle : (F.erase (reE t x)).length + 1 = F.length := by rw [List.length_erase_of_mem hmem]; have := List.length_pos_of_mem hmem; omega
      refine ⟨true, rfl, fun h => (by cases h), fun _ => ⟨F.erase (reE t x), by omega, hG.graph hH hU h4 K4 (by simpa using hbl) ?_⟩⟩
      rw [hT]
      exact ring_take hk2.1 hbl hH.2 hG.rel lx
    · have hnm : reE t x ∉ F := fun hm => by
        obtain ⟨s, h1, h2, h3⟩ := (hG.rel _).1 hm
        have := re_inj hk2.1 lx h1 h3
        subst this
        rw [List.getElem?_eq_getElem lb, hFa] at h2; cases h2
      have hpe : pairE ((x : Nat) : Int).toNat ((sc t x : Nat) : Int).toNat = reE t x := by rw [ts, tx]; rfl
      refine ⟨by omega, by omega, ⟨by omega, by omega⟩, (hadd_calls hH hsm (okn x lx) (okn _ hsc.1)).mono fun ev W4 hh => ?_⟩
      obtain ⟨rfl, h4, K4⟩ := hh
      rw [hpe] at h4 ⊢
      have hy : (0 ≤ ((x : Nat) : Int) ∧ ((x : Nat) : Int) < t) ∧ (0 ≤ ((sc t x : Nat) : Int) ∧ ((sc t x : Nat) : Int) < t) ∧ ((x : Nat) : Int) ≠ ((sc t x : Nat) : Int) ∧ reE t x ∉ F := ⟨by omega, by omega, by omega, hnm⟩
      rw [if_pos hy] at h4
      rw [decide_eq_true hy]
      refine ⟨true, rfl, fun h => (by cases h), fun _ => ⟨F ++ [reE t x], by simp, hG.graph hH hU h4 K4 (by simpa using hbl) ?_⟩⟩
      rw [hFa]
      exact ring_put hk2.1 hbl hG.rel lx
    · rintro left W4 ⟨F4, rfl, hG4⟩
      obtain ⟨p1, p2, p3⟩ := hG4.mark lx (!bs[x])
      have hdb : decide (bs[x] = false) = !bs[x] := by cases bs[x] <;> rfl
      refine ⟨_, rfl, by omega, by omega, bs[x], hG4.cell lb, _, rfl, by omega, by omega, p1, p2, ?_⟩
      rw [hdb]
      obtain ⟨W5, hW5⟩ : ∃ W5, W5 = W4.setCell (Addr.add ⟨b, 0, none⟩ x) (.bool (!bs[x])) := ⟨_, rfl⟩
      rw [← hW5] at p3 ⊢
      have gd := grown_drew (grown_refl W5 none)
      have hG6 := p3.kept gd
      obtain ⟨W6, hW6⟩ : ∃ W6, W6 = W5.drew := ⟨_, rfl⟩
      rw [← hW6] at gd hG6 ⊢
      obtain ⟨bs', hbs'⟩ : ∃ bs', bs' = bs.set x (!bs[x]) := ⟨_, rfl⟩
      rw [← hbs'] at hG6
      have lb' : x < bs'.length := by have := hG6.bl; omega
      have hbx : bs'[x] = !bs[x] := by
        have : bs'[x]? = some (!bs[x]) := by rw [hbs', List.getElem?_set, if_pos rfl, if_pos lb]
        rw [List.getElem?_eq_getElem lb'] at this
        exact Option.some.inj this
      obtain ⟨U6, hH6, hU6⟩ := hG6.ex
      have hcnt := ring_cnt hk2.1 hG6.rl hH6.2 hG6.rel hH6.rg
      have hcn := ring_cn hk2.1 hG6.rl hH6.2 hG6.rel lx
      have hFl6 := Nat.le_trans (eds_small hH6.2 hH6.rg) (Nat.mul_le_mul hk2.2 hk2.2)
      refine ⟨fun W' => W6.grownBy W' none, grown_refl _ _, (hcount_calls hH6 hsm1).mono fun ev W7 hh => ?_⟩
      obtain ⟨rfl, g7⟩ := hh
      refine ⟨_, rfl, g7, by omega, fun h => absurd hcnt h, fun _ => (htree_calls (hH6.kept g7) hsm1).mono fun ev W8 hh => ?_⟩
      obtain ⟨A1, n1, k1, Ts, rfl, o1, _, _, t3, t4, g8⟩ := hh
      have q1 := o1.cases.1
      rw [prs_length] at q1
      have hl := tree_len t3 t4
      have g78 := grown_trans g7 g8
      refine ⟨_, _, _, rfl, g78, (hcount_calls (hH6.kept g78) hsm1).mono fun ev W9 hh => ?_⟩
      obtain ⟨rfl, g9⟩ := hh
      have g79 := grown_trans g78 g9
      refine ⟨_, rfl, g79, by omega, fun h => absurd (show (n1 : Int) = (t : Int) - (cntC t F4 : Int) by omega) h, fun _ => ⟨by omega, ⟨by omega, by omega⟩, (hconn_calls (hH6.kept g79) hsm1 _ _).mono fun ev W10 hh => ?_⟩⟩
      obtain ⟨b1, rfl, hb1, rfl⟩ := hh
      rw [tx, ts, hcn, List.getElem?_eq_getElem lb', hbx] at hb1
      have hin : inN t ((x : Nat) : Int) ∧ inN t ((sc t x : Nat) : Int) := ⟨⟨by omega, by omega⟩, ⟨by omega, by omega⟩⟩
      have done : (-9223372036854775808 ≤ (p : Int) + 1 ∧ (p : Int) + 1 ≤ 9223372036854775807) ∧ ∃ m_5 : Nat, m_5 < l.length - p ∧ ∃ (p_1 c : Nat) (bs : List Bool) (F : Eds), (F4.length : Int) = (F.length : Int) ∧ (p : Int) + 1 = (p_1 : Int) ∧ p_1 ≤ l.length ∧ m_5 = l.length - p_1 ∧ c ≤ 32 + p_1 ∧ RG w W10 g t c b bs bs F := by
        have hGf := hG6.kept g79
        exact ⟨by omega, l.length - (p + 1), by omega, p + 1, c + 1, bs', F4, rfl, by omega, by omega, rfl, by omega, hGf⟩
      refine ⟨b1, rfl, g79, _, rfl, by omega, by omega, !bs[x], fun W' hW' => ?_, fun hT => ?_, fun hFa => ?_⟩
      · have := (hG6.kept hW').cell lb'
        rw [hbx] at this; exact this
      · have hbb : b1 = true := hb1.2 ⟨hin.1, hin.2, .inl (by rw [hT])⟩
        exact ⟨_, fun w => run_neB21 _ _ _ _ w, fun h => (by simp [hbb] at h), fun _ => done⟩
      · have hbb : b1 = decide ((F4.length : Int) = (t : Int) - 1) := by
          rw [Bool.eq_iff_iff, hb1, decide_eq_true_iff, hFa]
          constructor
          · rintro ⟨_, _, h | h⟩
            · cases h
            · omega
          · intro h; exact ⟨hin.1, hin.2, .inr (by omega)⟩
        exact ⟨by omega, _, fun w => run_neB21 _ _ _ _ w, fun h => (by simp [hbb] at h), fun _ => done⟩
  · obtain ⟨U, hH, hU⟩ := hG.ex
    refine (hsize_calls hH hsm 0).mono fun ev W4 hh => ?_
    obtain ⟨rfl, rfl⟩ := hh
    rw [if_pos (show inN t 0 from ⟨by omega, by omega⟩)]
    have hpos : 0 < (partC t F (0 : Int).toNat).length := List.length_pos_of_mem ((mem_partC (N := t) (E := F) (u := 0) (x := 0) (by omega)).2 ⟨by omega, .refl _⟩)
    have gA := World.grownBy_alloc W4 (.cells #[.int .i64 0, .int .i64 ((partC t F (0 : Int).toNat).length : Int)] 3) none
    have rA : Row (W4.alloc (.cells #[.int .i64 0, .int .i64 ((partC t F (0 : Int).toNat).length : Int)] 3)) (some ⟨W4.heap.size, 0, none⟩) [.int .i64 0, .int .i64 ((partC t F (0 : Int).toNat).length : Int)] := row_new W4 #[.int .i64 0, .int .i64 ((partC t F (0 : Int).toNat).length : Int)] 3
    refine ⟨_, rfl, (hrise_calls (by omega) rA).mono fun ev W5 hh => ?_⟩
    obtain ⟨rfl, g5⟩ := hh
    exact ⟨true, rfl, rfl, grown_trans hG.gr (grown_trans gA g5)⟩
end Go.Proofs.Ytpfkpmapimonbaa
