/- archipelagolaw5.MergeMany, MergeScales: the walks. -/
import Derived.Test.YtgjkmakhomefkaaL8
import Derived.Test.YtgjkmakhomefkaaS8
import Derived.Maps.AppendAt
namespace Go.Proofs.Ytgjkmakhomefkaa
open Go Go.V Go.RowKit
set_option linter.unusedVariables false
set_option linter.unusedSimpArgs false
set_option maxHeartbeats 2000000
set_option maxRecDepth 100000

theorem append_int_at {w : World} {base : Nat} {A : Option Addr} {n c : Nat} {xs : List Int} {x : Int} (ho : Owned w base 3 A n c (ints xs)) (hn : n ≤ 2 ^ 30) (hb : base ≤ w.heap.size) :
    ∃ (A' : Option Addr) (n' c' : Nat) (w' : World), Sem.run P (Builtin.append_ #[22, 22] 22 #[.slice A n c, .slice (some ⟨w.heap.size, 0, none⟩) 1 1]) (w.alloc (.cells #[.int .i64 x] 3)) = .ok (.slice A' n' c') w' ∧
      Owned w' base 3 A' n' c' (ints (xs ++ [x])) ∧ w.grownBy w' (Value.slice A n c).ownBlock ∧ ((Value.slice A' n' c').ownBlock = (Value.slice A n c).ownBlock ∨ ∃ g, (Value.slice A' n' c').ownBlock = some g ∧ w.heap.size ≤ g) := by
  have g := World.grownBy_alloc w (.cells #[.int .i64 x] 3) none
  have b : (w.alloc (.cells #[.int .i64 x] 3)).cell? ⟨w.heap.size, 0, none⟩ = some (.int .i64 x) := by simp
  obtain ⟨i, h1, h2, h3, h4, h5, h6⟩ := elem22.ex
  obtain ⟨v', w', hr, hown, hg, _, hat⟩ := run_append_own_at (P := P) (w.alloc (.cells #[.int .i64 x] 3)) base 22 22 3 i (.int .i64 0) 1 8 h1 h2 h3 h4 h5 (by rw [h6]; rfl) (by omega) _ n (ints xs) (ho.kept g) ⟨w.heap.size, 0, none⟩ 1 1 [.int .i64 x] rfl (by
      intro j u hj
      cases j with
      | zero => simp at hj; subst hj; simp [Addr.add]
      | succ j => simp at hj) (by simp [Value.oneCell']) (by simp only [maxLen]; omega) (by omega) (Nat.le_trans hb g.size)
  have hat' : v'.ownBlock = (Value.slice A n c).ownBlock ∨ ∃ g, v'.ownBlock = some g ∧ w.heap.size ≤ g := by
    rcases hat with h | h
    · exact .inl h
    · exact .inr ⟨_, h, g.size⟩
  have hlist : ints (xs ++ [x]) = ints xs ++ [.int .i64 x] := by simp [ints]
  rw [← hlist] at hown
  rcases hown.2 with ⟨rfl, hz⟩ | ⟨g', cap, cur, rfl, r⟩
  · omega
  · exact ⟨_, _, _, w', hr, hown, grown_trans (grown_none g) hg, hat'⟩

theorem blocks_apart {w : World} {base : Nat} {e : TypeId} {A : Option Addr} {n c : Nat} {xs : List Value} {r : Option Nat} {w' : World} (ho : Owned w base e A n c xs) (hg : w.grownBy w' r) (h : (Value.slice A n c).ownBlock = none ∨ (Value.slice A n c).ownBlock ≠ r) : Owned w' base e A n c xs :=
  World.ownsRow.kept ho hg h

/-- The two lists of counts. -/
def prods (k : Int) (l : List Int) : List Int := l.map fun x => x * (x % (k + 1))

theorem prod_bound {k x : Int} (hk : 0 ≤ k ∧ k ≤ 255) (h : 0 ≤ x ∧ x ≤ 65535) : 0 ≤ x * (x % (k + 1)) ∧ x * (x % (k + 1)) ≤ 65535 * 255 := by
  have h1 := Int.emod_nonneg x (show k + 1 ≠ 0 by omega)
  have h2 := Int.emod_lt_of_pos x (show 0 < k + 1 by omega)
  exact ⟨Int.mul_nonneg h.1 h1, Int.mul_le_mul h.2 (by omega) h1 (by omega)⟩

theorem walkScales {w : World} {A : Option Addr} {n c : Nat} {l : List Int} {k t : Int} (hrow : Row w A (u16s l)) (hn : n = l.length) (hb : ∀ x ∈ l, 0 ≤ x ∧ x ≤ 65535) (hk : 0 ≤ k ∧ k ≤ 255) (ht : 0 ≤ t ∧ t ≤ 255) :
    Calls P 7 #[.slice A n c, .int .u8 k, .int .u8 t] w fun ev w' => ev = .returned (.bool true) ∧ w.grownBy w' none := by
  apply vc7; unfold VC7
  refine known_calls.mono fun ev w1 hh => ?_
  obtain ⟨rfl, g1⟩ := hh
  refine ⟨true, rfl, fun h => absurd h (by simp), fun _ => ⟨fun _ => ⟨rfl, g1⟩, fun h40 => ?_⟩⟩
  have h40 : n ≤ 40 := by omega
  simp only [InK]
  have hrow1 := hrow.kept_none g1
  refine ⟨fun ms aA an ac bA bn bc i w2 => ∃ j : Nat, i = (j : Int) ∧ j ≤ l.length ∧ ms = l.length - j ∧ Owned w2 w1.heap.size 3 aA an ac (ints (prods k (l.take j))) ∧ Owned w2 w1.heap.size 3 bA bn bc (ints ((prods k (l.take j)).map (· * (t + 1)))) ∧
      ((Value.slice aA an ac).ownBlock = none ∨ (Value.slice aA an ac).ownBlock ≠ (Value.slice bA bn bc).ownBlock) ∧ w1.grownBy w2 none,
    ⟨_, 0, rfl, by omega, rfl, World.ownsRow_nil _ _ _ _, World.ownsRow_nil _ _ _ _, .inl rfl, grown_refl _ _⟩, ?_⟩
  rintro ms aA an ac bA bn bc i w2 ⟨j, rfl, hj, rfl, oa, ob, hab, g2⟩
  have hla : (prods k (l.take j)).length = j := by simp [prods]; omega
  have han : an = j := by rw [oa.cases.1]; simp [ints, hla]
  have hbn : bn = j := by rw [ob.cases.1]; simp [ints, hla]
  refine ⟨fun hlt => ?_, fun hge => ?_⟩
  · have l1 : j < l.length := by omega
    obtain ⟨a, ha, ha2⟩ := (hrow1.kept_none (grown_drew g2)) j (.int .u16 l[j]) (by simp [l1])
    have hx := hb l[j] (List.getElem_mem l1)
    have hp := prod_bound hk hx
    have h1 := Int.emod_nonneg l[j] (show k + 1 ≠ 0 by omega)
    have h2 := Int.emod_lt_of_pos l[j] (show 0 < k + 1 by omega)
    have hnext : prods k (l.take (j + 1)) = prods k (l.take j) ++ [l[j] * (l[j] % (k + 1))] := by
      rw [List.take_succ_eq_append_getElem l1]; simp only [prods, List.map_append, List.map_cons, List.map_nil]
    generalize hz : l[j] * (l[j] % (k + 1)) = z at *
    have hq : 0 ≤ z * (t + 1) := Int.mul_nonneg hp.1 (by omega)
    have hq2 : z * (t + 1) ≤ 65535 * 255 * 256 := Int.mul_le_mul hp.2 (by omega) (by omega) (by omega)
    have gd := grown_drew (grown_refl w2 none)
    obtain ⟨A3, n3, c3, w3, e1, e2, e3, e4⟩ := append_int_at (x := z) (oa.kept gd) (by omega) (show w1.heap.size ≤ w2.drew.heap.size from g2.size)
    have g3 := grown_own (grown_drew g2) e3 (oa.kept gd).block_ge
    have ob3 : Owned w3 w1.heap.size 3 bA bn bc (ints ((prods k (l.take j)).map (· * (t + 1)))) := by
      refine blocks_apart (ob.kept gd) e3 ?_
      rcases hab with h | h
      · rw [h]
        cases (Value.slice bA bn bc).ownBlock <;> simp
      · right; exact fun hh => h hh.symm
    obtain ⟨A4, n4, c4, w4, f1, f2, f3, f4⟩ := append_int_at (x := z * (t + 1)) ob3 (by omega) g3.size
    have g4 := grown_own g3 f3 ob3.block_ge
    -- where the first row lies now
    have hblt : ∀ g, (Value.slice bA bn bc).ownBlock = some g → g < w2.heap.size := fun g hg => (World.ownsRow.lt ob g hg).2
    have halt : ∀ g, (Value.slice A3 n3 c3).ownBlock = some g → g < w3.heap.size := fun g hg => (World.ownsRow.lt e2 g hg).2
    have hne : (Value.slice A3 n3 c3).ownBlock = none ∨ (Value.slice A3 n3 c3).ownBlock ≠ (Value.slice bA bn bc).ownBlock := by
      rcases e4 with h | ⟨g, h, hge⟩
      · rw [h]; exact hab
      · right
        intro hh
        rw [h] at hh
        have h5 : w2.heap.size ≤ g := hge
        have := hblt g hh.symm
        omega
    refine ⟨a, ha, by omega, by omega, l[j], ha2, by omega, a, ha, by omega, by omega, l[j], ha2, by omega, by omega, ⟨by omega, by omega⟩, by omega, ?_⟩
    rw [hz]
    refine ⟨by omega, A3, n3, c3, w3, e1, by omega, by omega, by omega, A4, n4, c4, w4, f1, by omega, l.length - (j + 1), by omega, j + 1, by omega, by omega, rfl, ?_, ?_, ?_, g4⟩
    · rw [hnext]
      exact blocks_apart e2 f3 hne
    · rw [hnext, List.map_append]
      exact f2
    · rcases f4 with h | ⟨g, h, hge⟩
      · rw [h]; exact hne
      · rcases hne with h' | h'
        · exact .inl h'
        · right
          intro hh
          rw [h] at hh
          have := halt g hh
          omega
  · have hjl : j = l.length := by omega
    subst hjl
    rw [List.take_length] at oa ob hla
    have hxb : ∀ x ∈ prods k l, 0 ≤ x ∧ x ≤ 1099511627776 ∧ x * (t + 1) ≤ 1099511627776 := by
      intro x hx
      obtain ⟨y, hy, rfl⟩ := List.mem_map.1 hx
      have h1 := prod_bound hk (hb y hy)
      have h2 : (y * (y % (k + 1))) * (t + 1) ≤ 65535 * 255 * 256 := Int.mul_le_mul h1.2 (by omega) (by omega) (by omega)
      exact ⟨h1.1, by omega, by omega⟩
    have law15 := law_scales (t := t + 1) (by omega) (most := 15) hxb
    have law9 := law_scales (t := t + 1) (by omega) (most := 9) hxb
    have hml : (prods k l).length = ((prods k l).map (· * (t + 1))).length := by simp
    refine (lengths_calls oa.row (by omega)).mono fun ev w3 hh => ?_
    obtain ⟨A3, n3, c3, rfl, o3, g3⟩ := hh
    refine ⟨_, _, _, rfl, ?_⟩
    refine (lengths_calls (ob.row.kept_none g3) (by omega)).mono fun ev w4 hh => ?_
    obtain ⟨A4, n4, c4, rfl, o4, g4⟩ := hh
    rw [law15] at o4
    refine ⟨_, _, _, rfl, ?_⟩
    have hb3 : n3 ≤ 2 ^ 60 := by
      rw [o3.cases.1]; simp only [ints, List.length_map]
      unfold lensL; split
      · simp
      · split
        · simp
        · rw [addL_length]; simp; omega
    refine (ints_calls (o3.row.kept_none g4) o4.row (by rw [o3.cases.1]; simp [ints]) (by rw [o4.cases.1]; simp [ints]) hb3).mono fun ev w5 hh => ?_
    obtain ⟨rfl, g5⟩ := hh
    refine ⟨_, rfl, fun _ => ?_, fun h => absurd h (by simp)⟩
    have gA := grown_trans (grown_trans g3 g4) g5
    refine (lengths_calls (oa.row.kept_none gA) (by omega)).mono fun ev w6 hh => ?_
    obtain ⟨A6, n6, c6, rfl, o6, g6⟩ := hh
    refine ⟨_, _, _, rfl, ?_⟩
    refine (lengths_calls ((ob.row.kept_none gA).kept_none g6) (by omega)).mono fun ev w7 hh => ?_
    obtain ⟨A7, n7, c7, rfl, o7, g7⟩ := hh
    rw [law9] at o7
    refine ⟨_, _, _, rfl, ?_⟩
    have hb6 : n6 ≤ 2 ^ 60 := by
      rw [o6.cases.1]; simp only [ints, List.length_map]
      unfold lensL; split
      · simp
      · split
        · simp
        · rw [addL_length]; simp; omega
    refine (ints_calls (o6.row.kept_none g7) o7.row (by rw [o6.cases.1]; simp [ints]) (by rw [o7.cases.1]; simp [ints]) hb6).mono fun ev w8 hh => ?_
    obtain ⟨rfl, g8⟩ := hh
    refine ⟨_, rfl, ?_, grown_trans (grown_trans (grown_trans (grown_trans (grown_trans g1 g2) gA) g6) g7) g8⟩
    simp

theorem ones_set (k j : Nat) (h : j < k) : (List.replicate j (1 : Int) ++ List.replicate (k - j) 0).set j 1 = List.replicate (j + 1) 1 ++ List.replicate (k - (j + 1)) 0 := by
  have : List.replicate (k - j) (0 : Int) = 0 :: List.replicate (k - (j + 1)) 0 := by
    rw [show k - j = (k - (j + 1)) + 1 by omega, List.replicate_succ]
  rw [this, List.set_append_right _ _ (by simp), List.length_replicate, Nat.sub_self, List.set_cons_zero, List.replicate_succ']
  simp

theorem walkMany {w : World} {n m : Int} (h0 : 0 ≤ n ∧ n ≤ 65535) (hm : 0 ≤ m ∧ m ≤ 255) : Calls P 6 #[.int .u16 n, .int .u8 m] w fun ev w' => ev = .returned (.bool true) ∧ w.grownBy w' none := by
  apply vc6; unfold VC6
  refine known_calls.mono fun ev w1 hh => ?_
  obtain ⟨rfl, g1⟩ := hh
  refine ⟨true, rfl, fun h => absurd h (by simp), fun _ => ?_⟩
  obtain ⟨k, hk⟩ : ∃ k : Nat, n % 300 = (k : Int) := ⟨(n % 300).toNat, by omega⟩
  obtain ⟨M, hM⟩ : ∃ M : Nat, m % 10 + 1 = (M : Int) := ⟨(m % 10 + 1).toNat, by omega⟩
  have hkb : k < 300 := by omega
  have hMb : 1 ≤ M ∧ M ≤ 10 := by omega
  rw [hk, hM]
  simp only [InK]
  obtain ⟨w2, hr, o2, g2⟩ := run_made (P := P) (w := w1) elem22 (by omega) (m := k) (by omega)
  have o2 : Own w2 w1.heap.size 3 k (ints (List.replicate k 0)) := by simpa [ints] using o2
  refine ⟨by omega, by omega, _, _, _, w2, hr, ?_⟩
  refine ⟨fun ms i w3 => ∃ j : Nat, i = (j : Int) ∧ j ≤ k ∧ ms = k - j ∧ Own w3 w1.heap.size 3 k (ints (List.replicate j 1 ++ List.replicate (k - j) 0)) ∧ w1.grownBy w3 none, ⟨_, 0, rfl, by omega, rfl, by simpa using o2, g2⟩, ?_⟩
  rintro ms i w3 ⟨j, rfl, hj, rfl, o3, g3⟩
  refine ⟨fun hlt => ?_, fun hge => ?_⟩
  · have l1 : j < k := by omega
    have hlen : (List.replicate j (1 : Int) ++ List.replicate (k - j) 0).length = k := by simp; omega
    have hc := o3.cell (j := j) (u := .int .i64 ((List.replicate j (1 : Int) ++ List.replicate (k - j) 0)[j]'(by omega))) (by rw [ints, List.getElem?_map, List.getElem?_eq_getElem (by omega)]; rfl)
    have hs := o3.set (j := j) (by rw [ints, List.length_map]; omega) (.int .i64 1)
    have tj : (j : Int).toNat = j := by omega
    refine ⟨_, rfl, by omega, by omega, ⟨_, by rw [tj]; exact hc⟩, o3.notFrozen (add_block _ _), by omega, k - (j + 1), by omega, j + 1, by omega, by omega, rfl, ?_, ?_⟩
    · rw [tj, ← ones_set k j l1]
      refine cast ?_ hs
      congr 1
      simp [ints, List.map_set]
    · exact grown_own g3 (grown_set (grown_refl _ _) (add_block _ _) _) (by intro q hq; cases hq; exact Nat.le_refl _)
  have hjk : j = k := by omega
  subst hjk
  have o3 : Own w3 w1.heap.size 3 j (ints (List.replicate j 1)) := by simpa using o3
  have e1 : mostL (M : Int) = M := mostL_of (by omega)
  refine ⟨by omega, by omega, by omega, ?_⟩
  refine (lengths_calls (xs := List.replicate j 1) o3.row (by simp)).mono fun ev w4 hh => ?_
  obtain ⟨A4, n4, c4, rfl, o4, g4⟩ := hh
  have gA := grown_trans (grown_trans g1 g3) g4
  have hn4 : n4 = (lensL (List.replicate j 1) (M : Int)).length := by rw [o4.cases.1]; simp [ints]
  have hcoins := coins_ones j
  have tM : (M : Int).toNat = M := by omega
  have hmin : min M 64 = M := by omega
  rw [tM, hmin]
  obtain ⟨q, hq⟩ : ∃ q : Nat, q = 2 ^ M := ⟨_, rfl⟩
  have eq : (1 : Int) * 2 ^ M = (q : Int) := by rw [hq]; simp
  have hqb : q ≤ 2 ^ 10 := by rw [hq]; exact two_pow_le hMb.2
  have hq2 : 2 ≤ q := by rw [hq]; have := two_pow_le hMb.1; omega
  rw [eq]
  refine ⟨_, _, _, rfl, fun h => ?_, fun h256 => ⟨by omega, fun h => ?_, fun hle => ?_⟩⟩
  · have hl : lensL (List.replicate j 1) (M : Int) = [] := by unfold lensL; rw [if_pos (by simp; omega)]
    rw [hl] at hn4
    refine ⟨?_, gA⟩
    simp [hn4]
  · have hl : lensL (List.replicate j 1) (M : Int) = [] := by unfold lensL; rw [if_neg (by simp; omega), if_pos (by rw [e1, hcoins]; omega)]
    rw [hl] at hn4
    refine ⟨?_, gA⟩
    simp [hn4]
  have hx256 : (List.replicate j (1 : Int)).length ≤ 256 := by simp; omega
  have hp1 : (coinsL (List.replicate j 1)).length ≤ 2 ^ mostL (M : Int) := by rw [e1, hcoins]; omega
  have hl4 := lensL_length hx256 hp1
  rw [hl4, List.length_replicate] at hn4
  subst hn4
  have hget : ∀ s, s < n4 → (lensL (List.replicate n4 1) (M : Int)).getD s 0 = ((chosen (List.replicate n4 1) M).count s : Int) := by
    intro s hs
    rw [lensL_get hx256 hp1 (by simpa using hs), e1]
  have hcf := count_facts (xs := List.replicate n4 1) (m := M) (by omega) (by rw [hcoins]; omega)
  have hpres : ∀ s, s < n4 → 0 < (List.replicate n4 (1 : Int)).getD s 0 := fun s hs => by simp [List.getD_eq_getElem?_getD, hs]
  generalize hcnt : (fun s => (chosen (List.replicate n4 1) M).count s) = cnt
  have hc : ∀ s, (chosen (List.replicate n4 1) M).count s = cnt s := fun s => by rw [← hcnt]
  simp only [hc] at hget hcf
  refine ⟨fun ms g i w5 => ∃ j : Nat, i = (j : Int) ∧ j ≤ n4 ∧ ms = n4 - j ∧ w5 = w4 ∧ (∀ s, s < j → (cnt s : Int) ≤ g) ∧ ((j = 0 ∧ g = 0) ∨ ∃ s, s < j ∧ g = (cnt s : Int)), ⟨_, 0, rfl, by omega, rfl, rfl, by omega, .inl ⟨rfl, rfl⟩⟩, ?_⟩
  rintro ms g i w5 ⟨j, rfl, hj, rfl, rfl, hg1, hg2⟩
  refine ⟨fun hlt => ?_, fun hge2 => ?_⟩
  · have l1 : j < n4 := by omega
    obtain ⟨a, ha1, ha2⟩ := row_at o4.row (j := j) (by rw [hl4]; simp; omega)
    refine ⟨a, ha1, by omega, by omega, _, ha2, by omega, n4 - (j + 1), by omega, j + 1, by omega, by omega, rfl, rfl, ?_, ?_⟩
    · intro s hs
      rw [hget j l1]
      by_cases e : s = j
      · subst e; unfold mx; split <;> omega
      · have := hg1 s (by omega); unfold mx; split <;> omega
    · rw [hget j l1]
      right
      unfold mx
      split
      · exact ⟨j, by omega, rfl⟩
      · rcases hg2 with ⟨h, h'⟩ | ⟨s, hs, h'⟩
        · exact ⟨j, by omega, by subst h'; omega⟩
        · exact ⟨s, by omega, h'⟩
  have hjn : j = n4 := by omega
  subst hjn
  -- how long it must be
  refine ⟨fun ms v w6 => ∃ t : Nat, v = (t : Int) ∧ t ≤ M ∧ ms = M - t ∧ w6 = w5 ∧ (t = 0 ∨ 2 ^ t < 2 * j), ⟨_, 0, rfl, by omega, rfl, rfl, .inl rfl⟩, ?_⟩
  rintro ms v w6 ⟨t, rfl, ht, rfl, rfl, ht2⟩
  have tt : (t : Int).toNat = t := by omega
  have hmt : min t 64 = t := by omega
  rw [tt, hmt]
  obtain ⟨z, hz⟩ : ∃ z : Nat, z = 2 ^ t := ⟨_, rfl⟩
  have ez : (1 : Int) * 2 ^ t = (z : Int) := by rw [hz]; simp
  have hzb : z ≤ 2 ^ 10 := by rw [hz]; exact two_pow_le (by omega)
  rw [ez]
  refine ⟨by omega, fun hlt => ?_, fun hnl => ?_⟩
  · have htM : t < M := by
      rcases Nat.lt_or_ge t M with h | h
      · exact h
      · exfalso
        have : t = M := by omega
        subst this; omega
    refine ⟨by omega, M - (t + 1), by omega, t + 1, by omega, by omega, rfl, rfl, .inr ?_⟩
    rw [Nat.pow_succ, ← hz]; omega
  · -- the greatest is as long
    have hzj : j ≤ z := by omega
    refine ⟨fun h1 => ⟨fun _ => ⟨?_, gA⟩, fun h => absurd rfl h⟩, fun h1 => ⟨fun _ => ⟨?_, gA⟩, fun h => absurd rfl h⟩⟩
    · have hj1 : j = 1 := by omega
      subst hj1
      have hone : lensL (List.replicate 1 1) (M : Int) = [1] := by
        have hc1 : coinsL (List.replicate 1 1) = [(1, [0])] := by decide +kernel
        rw [lensL_eq hx256 hp1]
        unfold chosen; rw [hc1]; rfl
      have h2 := hget 0 (by omega)
      rw [hone] at h2
      have hg : g = 1 := by
        rcases hg2 with ⟨h, _⟩ | ⟨s, hs, h'⟩
        · omega
        · have : s = 0 := by omega
          subst this
          simp at h2; omega
      simp [hg]
    · rcases Nat.lt_or_ge j 2 with hlt2 | hge3
      · have hj0 : j = 0 := by omega
        subst hj0
        have ht0 : t = 0 := by
          rcases ht2 with h | h
          · exact h
          · have := Nat.two_pow_pos t; omega
        have hg : g = 0 := by
          rcases hg2 with ⟨_, h⟩ | ⟨s, hs, _⟩
          · exact h
          · omega
        simp [hg, ht0]
      · have ht1 : 1 ≤ t := by
          rcases Nat.eq_zero_or_pos t with h | h
          · subst h; simp at hz; omega
          · exact h
        have ht3 : 2 ^ t < 2 * j := by
          rcases ht2 with h | h
          · omega
          · exact h
        have hlaw := law_many (k := j) (m := M) (w := t) hge3 (by omega) (by omega) (by omega) ht3 ht1
        simp only [hc] at hlaw
        obtain ⟨hup, s0, hs0, hlo⟩ := hlaw
        have b1 := hg1 s0 hs0
        have hg : g = (t : Int) := by
          rcases hg2 with ⟨h, _⟩ | ⟨s, hs, h'⟩
          · omega
          · have := hup s hs; omega
        simp [hg]
end Go.Proofs.Ytgjkmakhomefkaa
