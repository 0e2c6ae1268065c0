/- archipelagoref5: clamp, Cost, Kraft: what they compute. -/
import Derived.Test.YtmenmmgfdakeeaaD5
namespace Go.Proofs.Ytmenmmgfdakeeaa
open Go Go.V Go.RowKit
set_option linter.unusedVariables false
set_option linter.unusedSimpArgs false
set_option maxHeartbeats 2000000
set_option maxRecDepth 100000

theorem clamp_calls {n : Int} {w : World} {R : Ending → World → Prop} (h : R (.returned (.int .i64 (manyL n))) w) : Calls P 85 #[.int .i64 n] w R := vc85 n w R h

theorem refCost_calls {w : World} {A B : Option Addr} {n c m d : Nat} {xs ys : List Int} (hA : Row w A (ints xs)) (hB : Row w B (ints ys)) (hn : n = xs.length) (hm : m = ys.length) (hb : n ≤ 2 ^ 10) (hy : ∀ y ∈ ys, 0 ≤ y ∧ y ≤ 2 ^ 10) :
    Calls P 29 #[.slice A n c, .slice B m d] w fun ev w' => ev = .returned (.int .i64 (costL xs ys)) ∧ w.grownBy w' none := by
  apply vc29; unfold VC29
  simp only [InK]
  refine ⟨fun ms s i w' => ∃ k : Nat, i = (k : Int) ∧ k ≤ min xs.length ys.length ∧ ms = min xs.length ys.length - k ∧ s = costL (xs.take k) (ys.take k) ∧ w.grownBy w' none, ⟨_, 0, rfl, by omega, rfl, by simp [costL], grown_refl _ _⟩, ?_⟩
  rintro ms s i w' ⟨k, rfl, hk, rfl, rfl, hg⟩
  have fin : min xs.length ys.length ≤ k → (Ending.returned (.int .i64 (costL (xs.take k) (ys.take k))) = .returned (.int .i64 (costL xs ys)) ∧ w.grownBy w' none) := by
    intro h
    rw [costL_take _ _ _ h]
    exact ⟨rfl, hg⟩
  refine ⟨fun hlt => ⟨fun hlt2 => ?_, fun hge => fin (by omega)⟩, fun hge => fin (by omega)⟩
  have l1 : k < xs.length := by omega
  have l2 : k < ys.length := by omega
  obtain ⟨a, ha1, ha2⟩ := (hA.kept_none hg) k (.int .i64 xs[k]) (by simp [ints, l1])
  have b0 := costL_bound (xs.take k) (ys.take k) (2 ^ 10) (by omega) (fun y hy' => hy y (List.mem_of_mem_take hy'))
  have hl : ((xs.take k).length : Int) ≤ 2 ^ 10 := by simp; omega
  have hy' := hy ys[k] (List.getElem_mem l2)
  have hc := manyL_bound xs[k]
  have h1 : 0 ≤ manyL xs[k] * ys[k] := Int.mul_nonneg hc.1 hy'.1
  have h2 : manyL xs[k] * ys[k] ≤ 1099511627776 * 2 ^ 10 := Int.mul_le_mul hc.2 hy'.2 hy'.1 (by omega)
  have hs := costL_snoc xs ys k l1 l2
  have b1 : 1099511627776 * (2 ^ 10 : Int) * ((xs.take k).length : Int) ≤ 1099511627776 * 2 ^ 10 * 2 ^ 10 := Int.mul_le_mul_of_nonneg_left hl (by omega)
  refine ⟨fun w2 => w.grownBy w2 none, grown_drew hg, a, ha1, by omega, by omega, xs[k], ha2, ?_⟩
  refine clamp_calls ⟨_, rfl, grown_drew hg, ?_⟩
  obtain ⟨b, hb1, hb2⟩ := hB k (.int .i64 ys[k]) (by simp [ints, l2])
  have hrd : ∀ w2 : World, w.grownBy w2 none → w2.cell? (b.add (k : Int).toNat) = some (.int .i64 ys[k]) := by
    intro w2 h
    obtain ⟨b', e1, e2⟩ := (hB.kept_none h) k (.int .i64 ys[k]) (by simp [ints, l2])
    rw [hb1] at e1
    cases e1
    exact e2
  exact ⟨b, hb1, by omega, by omega, ys[k], hrd, by omega, by omega, by omega, min xs.length ys.length - (k + 1), by omega, k + 1, by omega, by omega, rfl, by omega, grown_drew hg⟩
theorem refKraft_calls {w : World} {A : Option Addr} {n c : Nat} {xs : List Int} (hA : Row w A (ints xs)) (hn : n = xs.length) (hb : n ≤ 2 ^ 40) :
    Calls P 27 #[.slice A n c] w fun ev w' => ev = .returned (.int .i64 (kraftL xs)) ∧ w.grownBy w' none := by
  apply vc27; unfold VC27
  simp only [InK]
  refine ⟨fun ms s i w' => ∃ k : Nat, i = (k : Int) ∧ k ≤ xs.length ∧ ms = xs.length - k ∧ s = kraftL (xs.take k) ∧ w.grownBy w' none, ⟨_, 0, rfl, by omega, rfl, by simp [kraftL], grown_refl _ _⟩, ?_⟩
  rintro ms s i w' ⟨k, rfl, hk, rfl, rfl, hg⟩
  refine ⟨fun hlt => ?_, fun hge => ?_⟩
  · have l1 : k < xs.length := by omega
    obtain ⟨a, ha1, ha2⟩ := (hA.kept_none hg) k (.int .i64 xs[k]) (by simp [ints, l1])
    have hs : kraftL (xs.take (k + 1)) = kraftL (xs.take k) + kraft1 xs[k] := by
      rw [List.take_succ_eq_append_getElem l1]
      simp only [kraftL, List.map_append, List.sum_append, List.map_cons, List.map_nil, List.sum_cons, List.sum_nil]
      omega
    have b1 := kraft_take_bound (xs.take k)
    have hl : (xs.take k).length = k := by simp; omega
    rw [hl] at b1
    refine ⟨a, ha1, by omega, by omega, xs[k], ha2, fun h1 => ⟨a, ha1, by omega, by omega, xs[k], ha2, fun h2 => ?_, fun h2 => ?_⟩, fun h1 => ?_⟩
    · have hv : kraft1 xs[k] = 2 ^ (15 - xs[k]).toNat := by unfold kraft1; rw [if_pos ⟨by omega, h2⟩]
      have hm : min (15 - xs[k]).toNat 64 = (15 - xs[k]).toNat := by omega
      have b2 := kraft1_bound xs[k]
      exact ⟨a, ha1, by omega, by omega, xs[k], ha2, by rw [hm, Int.one_mul, ← hv]; exact ⟨by omega, by omega, by omega, by omega, xs.length - (k + 1), by omega, k + 1, by omega, by omega, rfl, hs.symm, hg⟩⟩
    · have hv : kraft1 xs[k] = 0 := by unfold kraft1; rw [if_neg (by omega)]
      exact ⟨by omega, xs.length - (k + 1), by omega, k + 1, by omega, by omega, rfl, by rw [hs, hv]; omega, hg⟩
    · have hv : kraft1 xs[k] = 0 := by unfold kraft1; rw [if_neg (by omega)]
      exact ⟨by omega, xs.length - (k + 1), by omega, k + 1, by omega, by omega, rfl, by rw [hs, hv]; omega, hg⟩
  · have : k = xs.length := by omega
    subst this
    rw [List.take_length]
    exact ⟨rfl, hg⟩
end Go.Proofs.Ytmenmmgfdakeeaa
