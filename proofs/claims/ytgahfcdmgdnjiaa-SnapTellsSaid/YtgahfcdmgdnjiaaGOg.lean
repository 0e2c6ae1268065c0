/- Own texts, packed: O1, O2, O3. -/
import Derived.Test.YtgahfcdmgdnjiaaGNg
import Derived.Test.YtgahfcdmgdnjiaaGIg

/-! Edges as numbers: lists alone. -/
namespace Go.Proofs.Ytgahfcdmgdnjiaa
open Go Go.V Go.RowKit
set_option linter.unusedVariables false
set_option linter.unusedSimpArgs false

end Go.Proofs.Ytgahfcdmgdnjiaa

/-! Numbers in Elias's gamma; events as bits: lists alone. -/
namespace Go.Proofs.Ytgahfcdmgdnjiaa
open Go Go.V Go.RowKit
set_option linter.unusedVariables false
set_option linter.unusedSimpArgs false

/-- How many bits a number has. -/
def blen (v : Nat) : Nat := if v = 0 then 0 else 1 + blen (v / 2)
termination_by v
decreasing_by omega
theorem blen_pos {v : Nat} (h : 0 < v) : blen v = 1 + blen (v / 2) := by rw [blen, if_neg (by omega)]
theorem blen_zero : blen 0 = 0 := by rw [blen, if_pos rfl]
theorem blen_is (v : Nat) : v < 2 ^ blen v ∧ (0 < v → 2 ^ (blen v - 1) ≤ v ∧ 0 < blen v) := by
  induction v using Nat.strongRecOn with
  | _ v ih =>
    by_cases h : v = 0
    · subst h; rw [blen_zero]; simp
    · rw [blen_pos (by omega)]
      obtain ⟨h1, h2⟩ := ih (v / 2) (by omega)
      refine ⟨by rw [Nat.add_comm, Nat.pow_succ]; omega, fun _ => ⟨?_, by omega⟩⟩
      rw [Nat.add_sub_cancel_left]
      by_cases h0 : 0 < v / 2
      · obtain ⟨k1, k2⟩ := h2 h0
        obtain ⟨q, hq⟩ : ∃ q, blen (v / 2) = q + 1 := ⟨blen (v / 2) - 1, by omega⟩
        rw [hq, Nat.add_sub_cancel] at k1
        rw [hq, Nat.pow_succ]; omega
      · have : v / 2 = 0 := by omega
        rw [this, blen_zero]; omega
theorem blen_le {v k : Nat} (h : v < 2 ^ k) : blen v ≤ k := by
  by_cases h0 : 0 < v
  · obtain ⟨h1, h2⟩ := (blen_is v).2 h0
    have : blen v - 1 < k := (Nat.pow_lt_pow_iff_right (a := 2) (by omega)).1 (by omega)
    omega
  · have : v = 0 := by omega
    rw [this, blen_zero]; omega
end Go.Proofs.Ytgahfcdmgdnjiaa

/-! Blocks: lists alone. -/
namespace Go.Proofs.Ytgahfcdmgdnjiaa
open Go Go.V Go.RowKit
set_option linter.unusedVariables false
set_option linter.unusedSimpArgs false

end Go.Proofs.Ytgahfcdmgdnjiaa
