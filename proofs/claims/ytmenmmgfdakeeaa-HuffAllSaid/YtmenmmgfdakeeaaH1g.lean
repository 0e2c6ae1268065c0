/- Numbers in few bytes: lists alone. Plain Lean; no program. -/
import Derived.Test.YtmenmmgfdakeeaaGBg
namespace Go.V
set_option linter.unusedVariables false
set_option linter.unusedSimpArgs false

/-- A number's bytes. -/
def putV (v : Nat) : List Int := if v < 128 then [(v : Int)] else ((v % 128 + 128 : Nat) : Int) :: putV (v / 128)
termination_by v
decreasing_by omega

theorem putV_small {v : Nat} (h : v < 128) : putV v = [(v : Int)] := by unfold putV; rw [if_pos h]
theorem putV_big {v : Nat} (h : ¬ v < 128) : putV v = ((v % 128 + 128 : Nat) : Int) :: putV (v / 128) := by rw [putV, if_neg h]

theorem putV_bytes (v : Nat) : ∀ x ∈ putV v, 0 ≤ x ∧ x ≤ 255 := by
  induction v using Nat.strongRecOn with
  | _ v ih =>
    by_cases h : v < 128
    · rw [putV_small h]; intro x hx; have : x = (v : Int) := by simpa using hx
      omega
    · rw [putV_big h]
      intro x hx
      rcases List.mem_cons.1 hx with e | e
      · omega
      · exact ih _ (by omega) x e
theorem putV_pos (v : Nat) : 0 < (putV v).length := by
  by_cases h : v < 128
  · rw [putV_small h]; simp
  · rw [putV_big h]; simp

/-- A number out of bytes, no greater than 'most': the number, how many bytes, the error. -/
def takeG (most : Int) : List Int → Nat → Int → Int × Nat × Int
  | [], _, _ => (0, 0, 20)
  | c :: r, i, v => if (i = 9 ∧ c > 1) ∨ (i > 0 ∧ c = 0) then (0, 0, 21) else
    if c ≥ 128 then takeG most r (i + 1) (v + c % 128 * 2 ^ (7 * i)) else if v + c % 128 * 2 ^ (7 * i) > most then (0, 0, 22) else (v + c % 128 * 2 ^ (7 * i), i + 1, 0)
def takeV (most : Int) (b : List Int) : Int × Nat × Int := takeG most b 0 0

theorem takeG_put (most : Int) (rest : List Int) : ∀ (n i : Nat) (v : Int), (0 < i → 0 < n) → n * 2 ^ (7 * i) < 2 ^ 64 → v + n * 2 ^ (7 * i) ≤ most → takeG most (putV n ++ rest) i v = (v + n * 2 ^ (7 * i), i + (putV n).length, 0) := by
  intro n
  induction n using Nat.strongRecOn with
  | _ n ih =>
    intro i v hpos hfit hm
    have hp : 0 < 2 ^ (7 * i) := Nat.two_pow_pos _
    by_cases h : n < 128
    · rw [putV_small h]
      show takeG most ((n : Int) :: rest) i v = _
      unfold takeG
      have h9 : ¬ ((i = 9 ∧ (n : Int) > 1) ∨ (i > 0 ∧ (n : Int) = 0)) := by
        rintro (⟨e, e2⟩ | ⟨e, e2⟩)
        · subst e
          have : 2 * 2 ^ (7 * 9) ≤ n * 2 ^ (7 * 9) := Nat.mul_le_mul_right _ (by omega)
          omega
        · have := hpos e; omega
      have hmod : (n : Int) % 128 = (n : Int) := by omega
      rw [if_neg h9, if_neg (by omega), hmod, if_neg (by omega)]
      simp
    · rw [putV_big h]
      show takeG most (((n % 128 + 128 : Nat) : Int) :: (putV (n / 128) ++ rest)) i v = _
      unfold takeG
      have h9 : ¬ ((i = 9 ∧ ((n % 128 + 128 : Nat) : Int) > 1) ∨ (i > 0 ∧ ((n % 128 + 128 : Nat) : Int) = 0)) := by
        rintro (⟨e, e2⟩ | ⟨e, e2⟩)
        · subst e
          have : 128 * 2 ^ (7 * 9) ≤ n * 2 ^ (7 * 9) := Nat.mul_le_mul_right _ (by omega)
          omega
        · omega
      have hmod : ((n % 128 + 128 : Nat) : Int) % 128 = ((n % 128 : Nat) : Int) := by omega
      rw [if_neg h9, if_pos (by omega), hmod]
      have e1 : 2 ^ (7 * (i + 1)) = 128 * 2 ^ (7 * i) := by rw [show 7 * (i + 1) = 7 * i + 7 by omega, Nat.pow_add]; omega
      have e1' : (2 : Int) ^ (7 * (i + 1)) = 128 * 2 ^ (7 * i) := by rw [show 7 * (i + 1) = 7 * i + 7 by omega, Int.pow_add]; omega
      have e2 : n / 128 * (128 * 2 ^ (7 * i)) + n % 128 * 2 ^ (7 * i) = n * 2 ^ (7 * i) := by
        rw [← Nat.mul_assoc, ← Nat.add_mul]; congr 1; omega
      have e3 : v + ((n % 128 : Nat) : Int) * 2 ^ (7 * i) + ((n / 128 : Nat) : Int) * 2 ^ (7 * (i + 1)) = v + (n : Int) * 2 ^ (7 * i) := by
        rw [e1', ← Int.mul_assoc, Int.add_assoc, ← Int.add_mul]; congr 2; omega
      rw [ih (n / 128) (by omega) (i + 1) _ (fun _ => by omega) (by rw [e1]; omega) (by rw [e3]; exact hm), e3]
      simp; omega

/-- What was put is taken. -/
theorem takeV_put {most : Int} {n : Nat} (h : (n : Int) ≤ most) (h64 : n < 2 ^ 64) (rest : List Int) : takeV most (putV n ++ rest) = ((n : Int), (putV n).length, 0) := by
  have := takeG_put most rest n 0 0 (by omega) (by simpa using h64) (by simpa using h)
  simpa [takeV] using this

/-- What taking tells. -/
theorem takeG_is (most : Int) : ∀ (b : List Int) (i : Nat) (v : Int), (∀ x ∈ b, 0 ≤ x) → 0 ≤ v →
    ((takeG most b i v).2.2 = 0 ∧ i < (takeG most b i v).2.1 ∧ (takeG most b i v).2.1 ≤ i + b.length ∧ 0 ≤ (takeG most b i v).1 ∧ (takeG most b i v).1 ≤ most) ∨ ((takeG most b i v).2.2 ≠ 0 ∧ (takeG most b i v).2.1 = 0 ∧ (takeG most b i v).1 = 0)
  | [], i, v, _, _ => .inr ⟨by simp [takeG], rfl, rfl⟩
  | c :: r, i, v, h, hv => by
    have hc := h c (by simp)
    have hm : 0 ≤ c % 128 * 2 ^ (7 * i) := Int.mul_nonneg (Int.emod_nonneg _ (by omega)) (Int.le_of_lt (pow_pos' _))
    unfold takeG
    split
    · exact .inr ⟨by simp, rfl, rfl⟩
    · split
      · rcases takeG_is most r (i + 1) (v + c % 128 * 2 ^ (7 * i)) (fun x hx => h x (by simp [hx])) (by omega) with ⟨e1, e2, e3, e4⟩ | e
        · exact .inl ⟨e1, by omega, by simp; omega, e4⟩
        · exact .inr e
      · split
        · exact .inr ⟨by simp, rfl, rfl⟩
        · exact .inl ⟨rfl, by simp, by simp, by simp; omega, by simp; omega⟩
theorem takeV_is {most : Int} {b : List Int} (h : ∀ x ∈ b, 0 ≤ x) : ((takeV most b).2.2 = 0 ∧ 0 < (takeV most b).2.1 ∧ (takeV most b).2.1 ≤ b.length ∧ 0 ≤ (takeV most b).1 ∧ (takeV most b).1 ≤ most) ∨ ((takeV most b).2.2 ≠ 0 ∧ (takeV most b).2.1 = 0 ∧ (takeV most b).1 = 0) := by
  have := takeG_is most b 0 0 h (by omega)
  simpa [takeV] using this
end Go.V
