/- Own texts, packed: U1, U2, U3, U4, U5, U6, U7. -/
import Derived.Test.YtgahfcdmgdnjiaaGPg
import Derived.Test.YtgahfcdmgdnjiaaGOg
import Derived.Test.YtgahfcdmgdnjiaaGYg
import Derived.Test.YtgahfcdmgdnjiaaGZg

/-! adj.Put: the walk. -/
namespace Go.Proofs.Ytgahfcdmgdnjiaa
open Go Go.V Go.RowKit
set_option linter.unusedVariables false
set_option linter.unusedSimpArgs false
set_option maxHeartbeats 4000000
set_option maxRecDepth 100000

end Go.Proofs.Ytgahfcdmgdnjiaa

/-! adj.Read: the walk. -/
namespace Go.Proofs.Ytgahfcdmgdnjiaa
open Go Go.V Go.RowKit
set_option linter.unusedVariables false
set_option linter.unusedSimpArgs false
set_option maxHeartbeats 4000000
set_option maxRecDepth 100000

end Go.Proofs.Ytgahfcdmgdnjiaa

/-! math/bits.Len64, gamma.Put, gamma.Take: the walks. -/
namespace Go.Proofs.Ytgahfcdmgdnjiaa
open Go Go.V Go.RowKit
set_option linter.unusedVariables false
set_option linter.unusedSimpArgs false
set_option maxHeartbeats 4000000
set_option maxRecDepth 100000

abbrev len8tab : ByteArray := ⟨#[0, 1, 2, 2, 3, 3, 3, 3, 4, 4, 4, 4, 4, 4, 4, 4, 5, 5, 5, 5, 5, 5, 5, 5, 5, 5, 5, 5, 5, 5, 5, 5, 6, 6, 6, 6, 6, 6, 6, 6, 6, 6, 6, 6, 6, 6, 6, 6, 6, 6, 6, 6, 6, 6, 6, 6, 6, 6, 6, 6, 6, 6, 6, 6, 7, 7, 7, 7, 7, 7, 7, 7, 7, 7, 7, 7, 7, 7, 7, 7, 7, 7, 7, 7, 7, 7, 7, 7, 7, 7, 7, 7, 7, 7, 7, 7, 7, 7, 7, 7, 7, 7, 7, 7, 7, 7, 7, 7, 7, 7, 7, 7, 7, 7, 7, 7, 7, 7, 7, 7, 7, 7, 7, 7, 7, 7, 7, 7, 8, 8, 8, 8, 8, 8, 8, 8, 8, 8, 8, 8, 8, 8, 8, 8, 8, 8, 8, 8, 8, 8, 8, 8, 8, 8, 8, 8, 8, 8, 8, 8, 8, 8, 8, 8, 8, 8, 8, 8, 8, 8, 8, 8, 8, 8, 8, 8, 8, 8, 8, 8, 8, 8, 8, 8, 8, 8, 8, 8, 8, 8, 8, 8, 8, 8, 8, 8, 8, 8, 8, 8, 8, 8, 8, 8, 8, 8, 8, 8, 8, 8, 8, 8, 8, 8, 8, 8, 8, 8, 8, 8, 8, 8, 8, 8, 8, 8, 8, 8, 8, 8, 8, 8, 8, 8, 8, 8, 8, 8, 8, 8, 8, 8, 8, 8, 8, 8, 8, 8, 8, 8, 8, 8, 8, 8, 8, 8]⟩
theorem tab_all : ∀ k : Fin 256, (k.1 = 0 ∧ bt len8tab k.1 = 0) ∨ (0 < (bt len8tab k.1).toNat ∧ (bt len8tab k.1).toNat ≤ 8 ∧ 2 ^ ((bt len8tab k.1).toNat - 1) ≤ k.1 ∧ k.1 < 2 ^ (bt len8tab k.1).toNat) := by decide +kernel
theorem blen_unique {v n : Nat} (h0 : 0 < n) (h1 : 2 ^ (n - 1) ≤ v) (h2 : v < 2 ^ n) : blen v = n := by
  have hv : 0 < v := Nat.lt_of_lt_of_le (Nat.two_pow_pos _) h1
  obtain ⟨k1, k2⟩ := (blen_is v).2 hv
  have k3 := (blen_is v).1
  have a1 : blen v - 1 < n := (Nat.pow_lt_pow_iff_right (a := 2) (by omega)).1 (Nat.lt_of_le_of_lt k1 h2)
  have a2 : n - 1 < blen v := (Nat.pow_lt_pow_iff_right (a := 2) (by omega)).1 (Nat.lt_of_le_of_lt h1 k3)
  omega
theorem tab_is {k : Nat} (hk : k < 256) : bt len8tab k = (blen k : Int) ∧ blen k ≤ 8 := by
  have h8 : blen k ≤ 8 := blen_le (by omega)
  refine ⟨?_, h8⟩
  rcases tab_all ⟨k, hk⟩ with ⟨h1, h2⟩ | ⟨h1, h2, h3, h4⟩
  · simp only at h1 h2
    subst h1
    rw [h2, blen_zero]; rfl
  · simp only at h1 h2 h3 h4
    rw [blen_unique h1 h3 h4]; omega
theorem blen_shift {x : Nat} : ∀ {k : Nat}, 2 ^ k ≤ x → blen x = k + blen (x / 2 ^ k)
  | 0, h => by simp
  | k + 1, h => by
    have h' := h
    rw [Nat.pow_succ] at h
    have hp := Nat.two_pow_pos k
    have ih := blen_shift (x := x) (k := k) (by omega)
    have h2 : 2 ≤ x / 2 ^ k := by rw [Nat.le_div_iff_mul_le hp]; omega
    have e : x / 2 ^ k / 2 = x / 2 ^ (k + 1) := by rw [Nat.div_div_eq_div_mul, Nat.pow_succ]
    rw [ih, blen_pos (by omega), e]; omega
theorem len_leaf {w : World} {R : Ending → World → Prop} {y cI : Int} {k c b : Nat} (hy : y = (k : Int)) (hk : k < 256) (hc : cI = (c : Int)) (hc2 : c ≤ 56) (hb : b = c + blen k) (hR : R (.returned (.int .i64 (b : Int))) w) :
    InK .u8 y ∧ ((0 ≤ y ∧ y < (ByteArray.size len8tab : Int)) ∧ (InK .i64 (bt len8tab y.toNat) ∧ (InK .i64 (cI + bt len8tab y.toNat) ∧ R (.returned (.int .i64 (cI + bt len8tab y.toNat))) w))) := by
  have hs : (ByteArray.size len8tab : Int) = 256 := by kernel_rfl
  have ht := tab_is hk
  have hy2 : y.toNat = k := by omega
  rw [hy2, ht.1, hs, hc]
  simp only [InK]
  refine ⟨by omega, by omega, by omega, by omega, ?_⟩
  have : (c : Int) + (blen k : Int) = (b : Int) := by rw [hb]; simp
  rw [this]; exact hR
theorem len64_go {w : World} {R : Ending → World → Prop} {v : Nat} (hv : v < 2 ^ 64) (hR : R (.returned (.int .i64 (blen v : Int))) w) : Calls P 115 #[.int .u64 (v : Int)] w R := by
  apply vc115; unfold VC115; try (conv => zeta)
  have p32 : (2 : Int) ^ 32 = 4294967296 := rfl
  have p16 : (2 : Int) ^ 16 = 65536 := rfl
  have p8 : (2 : Int) ^ 8 = 256 := rfl
  simp only [p32, p16, p8]
  refine ⟨fun h1 => ⟨by omega, fun h2 => ⟨by omega, by simp only [InK]; omega, fun h3 => ⟨by omega, by simp only [InK]; omega, ?_⟩, fun h3 => ?_⟩, fun h2 => ⟨fun h3 => ⟨by omega, by simp only [InK]; omega, ?_⟩, fun h3 => ?_⟩⟩, fun h1 => ⟨fun h2 => ⟨by omega, by simp only [InK]; omega, fun h3 => ⟨by omega, by simp only [InK]; omega, ?_⟩, fun h3 => ?_⟩, fun h2 => ⟨fun h3 => ⟨by omega, by simp only [InK]; omega, ?_⟩, fun h3 => ?_⟩⟩⟩
  · refine len_leaf (k := v / 4294967296 / 65536 / 256) (c := 56) ?_ ?_ ?_ ?_ ?_ hR
    · omega
    · omega
    · rfl
    · omega
    ·
      have e0 := blen_shift (x := v) (k := 32) (by omega)
      have e1 := blen_shift (x := v / 4294967296) (k := 16) (by omega)
      have e2 := blen_shift (x := v / 4294967296 / 65536) (k := 8) (by omega)
      simp only [show (2 : Nat) ^ 32 = 4294967296 from rfl, show (2 : Nat) ^ 16 = 65536 from rfl, show (2 : Nat) ^ 8 = 256 from rfl] at *
      omega
  · refine len_leaf (k := v / 4294967296 / 65536) (c := 48) ?_ ?_ ?_ ?_ ?_ hR
    · omega
    · omega
    · rfl
    · omega
    ·
      have e0 := blen_shift (x := v) (k := 32) (by omega)
      have e1 := blen_shift (x := v / 4294967296) (k := 16) (by omega)
      simp only [show (2 : Nat) ^ 32 = 4294967296 from rfl, show (2 : Nat) ^ 16 = 65536 from rfl, show (2 : Nat) ^ 8 = 256 from rfl] at *
      omega
  · refine len_leaf (k := v / 4294967296 / 256) (c := 40) ?_ ?_ ?_ ?_ ?_ hR
    · omega
    · omega
    · rfl
    · omega
    ·
      have e0 := blen_shift (x := v) (k := 32) (by omega)
      have e1 := blen_shift (x := v / 4294967296) (k := 8) (by omega)
      simp only [show (2 : Nat) ^ 32 = 4294967296 from rfl, show (2 : Nat) ^ 16 = 65536 from rfl, show (2 : Nat) ^ 8 = 256 from rfl] at *
      omega
  · refine len_leaf (k := v / 4294967296) (c := 32) ?_ ?_ ?_ ?_ ?_ hR
    · omega
    · omega
    · rfl
    · omega
    ·
      have e0 := blen_shift (x := v) (k := 32) (by omega)
      simp only [show (2 : Nat) ^ 32 = 4294967296 from rfl, show (2 : Nat) ^ 16 = 65536 from rfl, show (2 : Nat) ^ 8 = 256 from rfl] at *
      omega
  · refine len_leaf (k := v / 65536 / 256) (c := 24) ?_ ?_ ?_ ?_ ?_ hR
    · omega
    · omega
    · rfl
    · omega
    ·
      have e0 := blen_shift (x := v) (k := 16) (by omega)
      have e1 := blen_shift (x := v / 65536) (k := 8) (by omega)
      simp only [show (2 : Nat) ^ 32 = 4294967296 from rfl, show (2 : Nat) ^ 16 = 65536 from rfl, show (2 : Nat) ^ 8 = 256 from rfl] at *
      omega
  · refine len_leaf (k := v / 65536) (c := 16) ?_ ?_ ?_ ?_ ?_ hR
    · omega
    · omega
    · rfl
    · omega
    ·
      have e0 := blen_shift (x := v) (k := 16) (by omega)
      simp only [show (2 : Nat) ^ 32 = 4294967296 from rfl, show (2 : Nat) ^ 16 = 65536 from rfl, show (2 : Nat) ^ 8 = 256 from rfl] at *
      omega
  · refine len_leaf (k := v / 256) (c := 8) ?_ ?_ ?_ ?_ ?_ hR
    · omega
    · omega
    · rfl
    · omega
    ·
      have e0 := blen_shift (x := v) (k := 8) (by omega)
      simp only [show (2 : Nat) ^ 32 = 4294967296 from rfl, show (2 : Nat) ^ 16 = 65536 from rfl, show (2 : Nat) ^ 8 = 256 from rfl] at *
      omega
  · refine len_leaf (k := v) (c := 0) ?_ ?_ ?_ ?_ ?_ hR
    · omega
    · omega
    · rfl
    · omega
    · omega
theorem len64_calls {w : World} {v : Nat} (hv : v < 2 ^ 64) : Calls P 115 #[.int .u64 (v : Int)] w fun ev w' => ev = .returned (.int .i64 (blen v : Int)) ∧ w' = w := len64_go hv ⟨rfl, rfl⟩
end Go.Proofs.Ytgahfcdmgdnjiaa

/-! gamma.Put, gamma.Take: the walks. -/
namespace Go.Proofs.Ytgahfcdmgdnjiaa
open Go Go.V Go.RowKit
set_option linter.unusedVariables false
set_option linter.unusedSimpArgs false
set_option maxHeartbeats 4000000
set_option maxRecDepth 100000

end Go.Proofs.Ytgahfcdmgdnjiaa

/-! delta.Put: the walk. -/
namespace Go.Proofs.Ytgahfcdmgdnjiaa
open Go Go.V Go.RowKit
set_option linter.unusedVariables false
set_option linter.unusedSimpArgs false
set_option maxHeartbeats 4000000
set_option maxRecDepth 100000

end Go.Proofs.Ytgahfcdmgdnjiaa

/-! delta's reader: num, event: the walks. -/
namespace Go.Proofs.Ytgahfcdmgdnjiaa
open Go Go.V Go.RowKit
set_option linter.unusedVariables false
set_option linter.unusedSimpArgs false
set_option maxHeartbeats 4000000
set_option maxRecDepth 100000

end Go.Proofs.Ytgahfcdmgdnjiaa

/-! delta.Read: the walk. -/
namespace Go.Proofs.Ytgahfcdmgdnjiaa
open Go Go.V Go.RowKit
set_option linter.unusedVariables false
set_option linter.unusedSimpArgs false
set_option maxHeartbeats 4000000
set_option maxRecDepth 100000

end Go.Proofs.Ytgahfcdmgdnjiaa
