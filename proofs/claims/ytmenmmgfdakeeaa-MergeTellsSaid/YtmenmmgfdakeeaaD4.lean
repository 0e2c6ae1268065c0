/- archipelagohelp.Ints, merge.Kraft, merge.Cost, archipelagolaw5.known: what they compute. -/
import Derived.Test.YtmenmmgfdakeeaaD3
import Derived.Test.YtmenmmgfdakeeaaXK
import Derived.Test.YtmenmmgfdakeeaaS7
import Derived.KernelRfl
namespace Go.Proofs.Ytmenmmgfdakeeaa
open Go Go.V Go.RowKit
set_option linter.unusedVariables false
set_option linter.unusedSimpArgs false
set_option maxHeartbeats 2000000
set_option maxRecDepth 100000

theorem row_alloc (w : World) (cs : Array Value) (t : TypeId) : Row (w.alloc (.cells cs t)) (some ⟨w.heap.size, 0, none⟩) cs.toList := by
  intro j u hj
  refine ⟨_, rfl, ?_⟩
  rw [add_lit, World.cell?_alloc_new]
  simpa using hj

theorem ints_calls {w : World} {A B : Option Addr} {n c m d : Nat} {xs ys : List Int} (hA : Row w A (ints xs)) (hB : Row w B (ints ys)) (hn : n = xs.length) (hm : m = ys.length) (hb : n ≤ 2 ^ 60) :
    Calls P 23 #[.slice A n c, .slice B m d] w fun ev w' => ev = .returned (.bool (decide (xs = ys))) ∧ w.grownBy w' none := by
  apply vc23; unfold VC23
  simp only [InK]
  refine ⟨fun h => ⟨?_, grown_refl _ _⟩, fun h => ?_⟩
  · have : xs ≠ ys := fun e => by subst e; omega
    simp [this]
  · have hl : xs.length = ys.length := by omega
    refine ⟨fun ms i w' => ∃ k : Nat, i = (k : Int) ∧ k ≤ xs.length ∧ ms = xs.length - k ∧ xs.take k = ys.take k ∧ w.grownBy w' none, ⟨_, 0, rfl, by omega, rfl, by simp, grown_refl _ _⟩, ?_⟩
    rintro ms i w' ⟨k, rfl, hk, rfl, ht, hg⟩
    refine ⟨fun hlt => ?_, fun hge => ?_⟩
    · have l1 : k < xs.length := by omega
      have l2 : k < ys.length := by omega
      obtain ⟨a, ha1, ha2⟩ := (hA.kept_none hg) k (.int .i64 xs[k]) (by simp [ints, l1])
      obtain ⟨b, hb1, hb2⟩ := (hB.kept_none hg) k (.int .i64 ys[k]) (by simp [ints, l2])
      refine ⟨a, ha1, by omega, by omega, xs[k], ha2, b, hb1, by omega, by omega, ys[k], hb2, fun hne => ⟨?_, grown_drew hg⟩, fun he => ?_⟩
      · have : xs ≠ ys := fun e => hne (by subst e; rfl)
        simp [this]
      · have he : xs[k] = ys[k] := Decidable.not_not.1 he
        refine ⟨by omega, xs.length - (k + 1), by omega, k + 1, by omega, by omega, rfl, ?_, grown_drew hg⟩
        rw [List.take_succ_eq_append_getElem l1, List.take_succ_eq_append_getElem l2, ht, he]
    · have : k = xs.length := by omega
      subst this
      have : xs = ys := by
        have h1 := ht
        rw [List.take_length, hl, List.take_length] at h1
        exact h1
      simp [this]
      exact hg

theorem kraft1_bound (x : Int) : 0 ≤ kraft1 x ∧ kraft1 x ≤ 2 ^ 14 := by
  unfold kraft1
  split
  · have h : (15 - x).toNat ≤ 14 := by omega
    have h1 := Nat.pow_le_pow_right (n := 2) (by omega) h
    obtain ⟨q, hq⟩ : ∃ q : Nat, q = 2 ^ (15 - x).toNat := ⟨_, rfl⟩
    have e1 : (2 : Int) ^ (15 - x).toNat = (q : Int) := by rw [hq]; simp
    rw [e1]
    omega
  · omega

theorem sum_snoc (l : List Int) (x : Int) : (l ++ [x]).sum = l.sum + x := by simp

theorem kraft_take_bound (xs : List Int) : 0 ≤ kraftL xs ∧ kraftL xs ≤ 2 ^ 14 * xs.length := by
  induction xs with
  | nil => simp [kraftL]
  | cons x xs ih =>
    have := kraft1_bound x
    simp only [kraftL, List.map_cons, List.sum_cons, List.length_cons] at *
    omega

theorem kraft_calls {w : World} {A : Option Addr} {n c : Nat} {xs : List Int} (hA : Row w A (ints xs)) (hn : n = xs.length) (hb : n ≤ 2 ^ 40) :
    Calls P 26 #[.slice A n c] w fun ev w' => ev = .returned (.int .i64 (kraftL xs)) ∧ w.grownBy w' none := by
  apply vc26; unfold VC26
  simp only [InK]
  refine ⟨fun ms s i w' => ∃ k : Nat, i = (k : Int) ∧ k ≤ xs.length ∧ ms = xs.length - k ∧ s = kraftL (xs.take k) ∧ w.grownBy w' none, ⟨_, 0, rfl, by omega, rfl, by simp [kraftL], grown_refl _ _⟩, ?_⟩
  rintro ms s i w' ⟨k, rfl, hk, rfl, rfl, hg⟩
  refine ⟨fun hlt => ?_, fun hge => ?_⟩
  · have l1 : k < xs.length := by omega
    obtain ⟨a, ha1, ha2⟩ := (hA.kept_none hg) k (.int .i64 xs[k]) (by simp [ints, l1])
    have hs : kraftL (xs.take (k + 1)) = kraftL (xs.take k) + kraft1 xs[k] := by
      rw [List.take_succ_eq_append_getElem l1]
      simp only [kraftL, List.map_append, List.sum_append, List.map_cons, List.map_nil, List.sum_cons, List.sum_nil]
      omega
    have b1 := kraft_take_bound (xs.take k)
    have hl : (xs.take k).length = k := by simp; omega
    rw [hl] at b1
    refine ⟨a, ha1, by omega, by omega, xs[k], ha2, fun h1 => ⟨fun h2 => ?_, fun h2 => ?_⟩, fun h1 => ?_⟩
    · have hv : kraft1 xs[k] = 2 ^ (15 - xs[k]).toNat := by unfold kraft1; rw [if_pos ⟨by omega, h2⟩]
      have hm : min (15 - xs[k]).toNat 64 = (15 - xs[k]).toNat := by omega
      have b2 := kraft1_bound xs[k]
      rw [hm, Int.one_mul, ← hv]
      exact ⟨by omega, by omega, by omega, by omega, xs.length - (k + 1), by omega, k + 1, by omega, by omega, rfl, hs.symm, hg⟩
    · have hv : kraft1 xs[k] = 0 := by unfold kraft1; rw [if_neg (by omega)]
      exact ⟨by omega, xs.length - (k + 1), by omega, k + 1, by omega, by omega, rfl, by rw [hs, hv]; omega, hg⟩
    · have hv : kraft1 xs[k] = 0 := by unfold kraft1; rw [if_neg (by omega)]
      exact ⟨by omega, xs.length - (k + 1), by omega, k + 1, by omega, by omega, rfl, by rw [hs, hv]; omega, hg⟩
  · have : k = xs.length := by omega
    subst this
    rw [List.take_length]
    exact ⟨rfl, hg⟩

theorem costL_bound : ∀ (cs ls : List Int) (B : Int), 0 ≤ B → (∀ l ∈ ls, 0 ≤ l ∧ l ≤ B) → 0 ≤ costL cs ls ∧ costL cs ls ≤ 1099511627776 * B * cs.length
  | [], ls, B, hB, h => by simp [costL]
  | c :: cs, [], B, hB, h => by
    simp only [costL]
    have : 0 ≤ 1099511627776 * B * ((c :: cs).length : Int) := Int.mul_nonneg (by omega) (by omega)
    omega
  | c :: cs, l :: ls, B, hB, h => by
    have ih := costL_bound cs ls B hB (fun x hx => h x (by simp [hx]))
    have hl := h l (by simp)
    have hc := manyL_bound c
    have h1 : 0 ≤ manyL c * l := Int.mul_nonneg hc.1 hl.1
    have h2 : manyL c * l ≤ 1099511627776 * B := Int.mul_le_mul hc.2 hl.2 hl.1 (by omega)
    have h3 : 1099511627776 * B * ((c :: cs).length : Int) = 1099511627776 * B * (cs.length : Int) + 1099511627776 * B := by
      rw [List.length_cons]; simp [Int.mul_add]
    simp only [costL]
    omega

theorem cost_calls {w : World} {A B : Option Addr} {n c m d : Nat} {xs ys : List Int} (hA : Row w A (ints xs)) (hB : Row w B (ints ys)) (hn : n = xs.length) (hm : m = ys.length) (hb : n ≤ 2 ^ 10) (hy : ∀ y ∈ ys, 0 ≤ y ∧ y ≤ 2 ^ 10) :
    Calls P 28 #[.slice A n c, .slice B m d] w fun ev w' => ev = .returned (.int .i64 (costL xs ys)) ∧ w.grownBy w' none := by
  apply vc28; unfold VC28
  have hmn : mn (n : Int) (m : Int) = ((min xs.length ys.length : Nat) : Int) := by unfold mn; split <;> omega
  rw [hmn]
  simp only [InK]
  refine ⟨fun ms s i w' => ∃ k : Nat, i = (k : Int) ∧ k ≤ min xs.length ys.length ∧ ms = min xs.length ys.length - k ∧ s = costL (xs.take k) (ys.take k) ∧ w.grownBy w' none, ⟨_, 0, rfl, by omega, rfl, by simp [costL], grown_refl _ _⟩, ?_⟩
  rintro ms s i w' ⟨k, rfl, hk, rfl, rfl, hg⟩
  refine ⟨fun hlt => ?_, fun hge => ?_⟩
  · have l1 : k < xs.length := by omega
    have l2 : k < ys.length := by omega
    obtain ⟨a, ha1, ha2⟩ := (hA.kept_none hg) k (.int .i64 xs[k]) (by simp [ints, l1])
    have b0 := costL_bound (xs.take k) (ys.take k) (2 ^ 10) (by omega) (fun y hy' => hy y (List.mem_of_mem_take hy'))
    have hl : ((xs.take k).length : Int) ≤ 2 ^ 10 := by simp; omega
    have hy' := hy ys[k] (List.getElem_mem l2)
    have hc := manyL_bound xs[k]
    have h1 : 0 ≤ manyL xs[k] * ys[k] := Int.mul_nonneg hc.1 hy'.1
    have h2 : manyL xs[k] * ys[k] ≤ 1099511627776 * 2 ^ 10 := Int.mul_le_mul hc.2 hy'.2 hy'.1 (by omega)
    have hs := costL_snoc xs ys k l1 l2
    have b1 : 1099511627776 * (2 ^ 10 : Int) * ((xs.take k).length : Int) ≤ 1099511627776 * 2 ^ 10 * 2 ^ 10 := Int.mul_le_mul_of_nonneg_left hl (by omega)
    refine ⟨fun w2 => w.grownBy w2 none, grown_drew hg, a, ha1, by omega, by omega, xs[k], ha2, ?_⟩
    refine many_calls ⟨_, rfl, grown_drew hg, ?_⟩
    obtain ⟨b, hb1, hb2⟩ := hB k (.int .i64 ys[k]) (by simp [ints, l2])
    have hrd : ∀ w2 : World, w.grownBy w2 none → w2.cell? (b.add (k : Int).toNat) = some (.int .i64 ys[k]) := by
      intro w2 h
      obtain ⟨b', e1, e2⟩ := (hB.kept_none h) k (.int .i64 ys[k]) (by simp [ints, l2])
      rw [hb1] at e1
      cases e1
      exact e2
    exact ⟨b, hb1, by omega, by omega, ys[k], hrd, by omega, by omega, by omega, min xs.length ys.length - (k + 1), by omega, k + 1, by omega, by omega, rfl, by omega, grown_drew hg⟩
  · have : k = min xs.length ys.length := by omega
    subst this
    rw [costL_take _ _ _ (Nat.le_refl _)]
    exact ⟨rfl, hg⟩

theorem known_calls {w : World} : Calls P 21 #[] w fun ev w' => ev = .returned (.bool true) ∧ w.grownBy w' none := by
  apply vc21; unfold VC21
  have c1 : lensL [1, 1, 2, 0] 15 = [2, 2, 1, 0] := by decide +kernel
  have c2 : lensL [0, 7] 3 = [0, 1] := by decide +kernel
  have c3 : lensL [1, 1, 1] 1 = [] := by decide +kernel
  have c4 : costL [1, 1, 2] [2, 2, 1, 0] = 6 := by decide +kernel
  have c5 : kraftL [2, 2, 1, 0] = 32768 := by decide +kernel
  refine (lengths_calls (xs := [1, 1, 2, 0]) (row_alloc w _ 3) rfl).mono fun ev w1 hh => ?_
  obtain ⟨A1, n1, d1, rfl, o1, g1⟩ := hh
  have g1 := grown_trans (World.grownBy_alloc w _ none) g1
  rw [c1] at o1
  refine ⟨A1, n1, d1, rfl, ?_⟩
  have r1 := o1.row
  have l1 : n1 = 4 := o1.cases.1
  refine (ints_calls (xs := [2, 2, 1, 0]) (ys := [2, 2, 1, 0]) (r1.kept_none (World.grownBy_alloc w1 _ none)) (row_alloc w1 _ 3) l1 rfl (by omega)).mono fun ev w2 hh => ?_
  obtain ⟨rfl, g2⟩ := hh
  have g2 := grown_trans (World.grownBy_alloc w1 _ none) g2
  refine ⟨true, rfl, fun _ => ?_, fun h => by cases h⟩
  refine (cost_calls (xs := [1, 1, 2]) (ys := [2, 2, 1, 0]) (row_alloc w2 _ 3) ((r1.kept_none g2).kept_none (World.grownBy_alloc w2 _ none)) rfl l1 (by decide) (by decide)).mono fun ev w3 hh => ?_
  obtain ⟨rfl, g3⟩ := hh
  have g3 := grown_trans (World.grownBy_alloc w2 _ none) g3
  rw [c4]
  refine ⟨6, rfl, fun _ => ?_, fun h => absurd rfl h⟩
  refine (kraft_calls (xs := [2, 2, 1, 0]) ((r1.kept_none g2).kept_none g3) l1 (by omega)).mono fun ev w4 hh => ?_
  obtain ⟨rfl, g4⟩ := hh
  rw [c5]
  refine ⟨32768, rfl, fun _ => ?_, fun h => absurd rfl h⟩
  refine (lengths_calls (xs := [0, 7]) (row_alloc w4 _ 3) rfl).mono fun ev w5 hh => ?_
  obtain ⟨A5, n5, d5, rfl, o5, g5⟩ := hh
  have g5 := grown_trans (World.grownBy_alloc w4 _ none) g5
  rw [c2] at o5
  refine ⟨A5, n5, d5, rfl, ?_⟩
  refine (ints_calls (xs := [0, 1]) (ys := [0, 1]) (o5.row.kept_none (World.grownBy_alloc w5 _ none)) (row_alloc w5 _ 3) o5.cases.1 rfl (by have : n5 = 2 := o5.cases.1; omega)).mono fun ev w6 hh => ?_
  obtain ⟨rfl, g6⟩ := hh
  have g6 := grown_trans (World.grownBy_alloc w5 _ none) g6
  refine ⟨true, rfl, fun _ => ?_, fun h => by cases h⟩
  refine (lengths_calls (xs := [1, 1, 1]) (row_alloc w6 _ 3) rfl).mono fun ev w7 hh => ?_
  obtain ⟨A7, n7, d7, rfl, o7, g7⟩ := hh
  have g7 := grown_trans (World.grownBy_alloc w6 _ none) g7
  rw [c3] at o7
  have l7 : n7 = 0 := o7.cases.1
  refine ⟨A7, n7, d7, rfl, ?_, grown_trans (grown_trans (grown_trans (grown_trans (grown_trans (grown_trans g1 g2) g3) g4) g5) g6) g7⟩
  simp [l7]
end Go.Proofs.Ytmenmmgfdakeeaa
