/- archipelagolaw5.MergeSkewed: the walk. -/
import Derived.Test.YtgjkmakhomefkaaD4
namespace Go.Proofs.Ytgjkmakhomefkaa
open Go Go.V Go.RowKit
set_option linter.unusedVariables false
set_option linter.unusedSimpArgs false
set_option maxHeartbeats 2000000
set_option maxRecDepth 100000

def twos (k : Nat) : List Int := (List.range k).map fun i : Nat => (2 : Int) ^ i
def skewed (k : Nat) : List Int := (List.range k).map fun i : Nat => mn ((k : Int) - i) ((k : Int) - 1)

theorem skewed_law : ∀ k : Fin 16, 2 ≤ k.val → lensL (twos k.val) 15 = skewed k.val := by decide +kernel

theorem append_int {w : World} {base : Nat} {A : Option Addr} {n c : Nat} {xs : List Int} {x : Int} (ho : Owned w base 3 A n c (ints xs)) (hn : n ≤ 2 ^ 30) (hb : base ≤ w.heap.size) :
    ∃ (A' : Option Addr) (n' c' : Nat) (w' : World), Sem.run P (Builtin.append_ #[22, 22] 22 #[.slice A n c, .slice (some ⟨w.heap.size, 0, none⟩) 1 1]) (w.alloc (.cells #[.int .i64 x] 3)) = .ok (.slice A' n' c') w' ∧
      Owned w' base 3 A' n' c' (ints (xs ++ [x])) ∧ w.grownBy w' (Value.slice A n c).ownBlock := by
  have g := World.grownBy_alloc w (.cells #[.int .i64 x] 3) none
  have b : (w.alloc (.cells #[.int .i64 x] 3)).cell? ⟨w.heap.size, 0, none⟩ = some (.int .i64 x) := by simp
  obtain ⟨A', n', c', w', h1, h2, h3⟩ := (ho.kept g).append1 (ty := 22) elem22 (by omega) (cc := 1) b rfl (by omega) (Nat.le_trans hb g.size)
  exact ⟨A', n', c', w', h1, by simpa [ints] using h2, grown_trans (grown_none g) h3⟩

theorem walkSkewed {n : Int} (h0 : 0 ≤ n) (h1 : n ≤ 255) {w : World} : Calls P 9 #[.int .u8 n] w fun ev w' => ev = .returned (.bool true) ∧ w.grownBy w' none := by
  apply vc9; unfold VC9
  refine known_calls.mono fun ev w1 hh => ?_
  obtain ⟨rfl, g1⟩ := hh
  refine ⟨true, rfl, fun h => absurd h (by simp), fun _ => ?_⟩
  obtain ⟨k, hk⟩ : ∃ k : Nat, n % 14 + 2 = (k : Int) := ⟨(n % 14 + 2).toNat, by omega⟩
  have hk2 : 2 ≤ k ∧ k < 16 := by omega
  rw [hk]
  simp only [InK]
  have hlaw : lensL (twos k) 15 = skewed k := skewed_law ⟨k, hk2.2⟩ hk2.1
  refine ⟨by omega, by omega, by omega, fun ms A c' d i w2 => ∃ j : Nat, i = (j : Int) ∧ j ≤ k ∧ ms = k - j ∧ Owned w2 w1.heap.size 3 A c' d (ints (twos j)) ∧ w1.grownBy w2 none, ⟨_, 0, rfl, by omega, rfl, World.ownsRow_nil _ _ _ _, grown_refl _ _⟩, ?_⟩
  rintro ms A c' d i w2 ⟨j, rfl, hj, rfl, ho, g2⟩
  have hc' : c' = j := by rw [ho.cases.1]; simp [ints, twos]
  refine ⟨fun hlt => ?_, fun hge => ?_⟩
  · have tj : (j : Int).toNat = j := by omega
    have hm : min j 64 = j := by omega
    rw [tj, hm, Int.one_mul]
    have hpow : (2 : Int) ^ j ≤ 2 ^ 15 ∧ (0 : Int) ≤ 2 ^ j := by
      have := Nat.pow_le_pow_right (n := 2) (by omega) (show j ≤ 15 by omega)
      obtain ⟨q, hq⟩ : ∃ q : Nat, q = 2 ^ j := ⟨_, rfl⟩
      have e1 : (2 : Int) ^ j = (q : Int) := by rw [hq]; simp
      rw [e1]; omega
    obtain ⟨A', n', c2, w3, e1, e2, e3⟩ := append_int (x := 2 ^ j) ho (by omega) g2.size
    refine ⟨⟨by omega, by omega⟩, A', n', c2, w3, e1, by omega, k - (j + 1), by omega, j + 1, by omega, by omega, rfl, ?_, grown_own g2 e3 ho.block_ge⟩
    have : twos (j + 1) = twos j ++ [2 ^ j] := by simp [twos, List.range_succ]
    rw [this]; exact e2
  · have : j = k := by omega
    subst this
    refine (lengths_calls (xs := twos j) ho.row (by simp [twos]; omega)).mono fun ev w3 hh => ?_
    obtain ⟨A3, n3, c3, rfl, o3, g3⟩ := hh
    rw [hlaw] at o3
    have hn3 : n3 = j := by rw [o3.cases.1]; simp [ints, skewed]
    refine ⟨A3, n3, c3, rfl, fun h => by omega, fun _ => ?_⟩
    refine ⟨fun ms i w4 => ∃ q : Nat, i = (q : Int) ∧ q ≤ j ∧ ms = j - q ∧ w4 = w3, ⟨_, 0, rfl, by omega, rfl, rfl⟩, ?_⟩
    rintro ms i w4 ⟨q, rfl, hq, rfl, rfl⟩
    refine ⟨fun hlt => ?_, fun hge2 => ⟨trivial, grown_trans (grown_trans g1 g2) g3⟩⟩
    have hq' : q < j := by omega
    obtain ⟨a, e1, e2⟩ := o3.row q (.int .i64 (mn ((j : Int) - q) ((j : Int) - 1))) (by simp [ints, skewed, hq'])
    exact ⟨a, e1, by omega, by omega, _, e2, by omega, by omega, fun h => absurd rfl h, fun _ => ⟨by omega, j - (q + 1), by omega, q + 1, by omega, by omega, rfl, rfl⟩⟩
end Go.Proofs.Ytgjkmakhomefkaa
