/- Bytes in fewer ones: lists alone. -/
import Derived.Test.YtmenmmgfdakeeaaG5g
import Derived.Test.YtmenmmgfdakeeaaH2g
namespace Go.Proofs.Ytmenmmgfdakeeaa
open Go Go.V Go.RowKit
set_option linter.unusedVariables false
set_option linter.unusedSimpArgs false
set_option maxHeartbeats 4000000
set_option maxRecDepth 100000

abbrev BytesB (b : List Int) : Prop := ∀ x ∈ b, 0 ≤ x ∧ x ≤ 255
abbrev symB (b : List Int) : List Nat := b.map Int.toNat
def lsB (b : List Int) : List Int := lensL (cntB b) 15
/-- The head's rows, from a symbol on. -/
def headR : List Int → Nat → Nat → List Int
  | [], _, _ => []
  | x :: l, s, nx => if 0 < x then putV (s - nx) ++ (putV x.toNat ++ headR l (s + 1) (s + 1)) else headR l (s + 1) nx
def putH (b : List Int) : List Int := if b = [] then putV 0 else putV b.length ++ (putV (posN (lsB b)) ++ (headR (lsB b) 0 0 ++ packB (encL (lsB b) (symB b))))

theorem m15 : mostL 15 = 15 := by decide

theorem cntB_get (b : List Int) {s : Nat} (hs : s < 256) : (cntB b).getD s 0 = ((symB b).count s : Int) := by
  rw [cntB, addL_get _ _ _ (by simpa using hs)]
  have : (List.replicate 256 (0 : Int)).getD s 0 = 0 := by
    rw [List.getD_eq_getElem?_getD, List.getElem?_replicate]; split <;> rfl
  simp only [symB]
  omega

theorem filter_sum (p : Nat → Bool) : ∀ n : Nat, (((List.range n).filter p).length : Int) = sumTo n (fun s => if p s = true then 1 else 0)
  | 0 => by simp [sumTo]
  | n + 1 => by
    rw [List.range_succ, List.filter_append, List.length_append]
    have := filter_sum p n
    simp only [sumTo]
    by_cases h : p n = true
    · simp [h]; omega
    · simp [h]; omega

theorem posL_coins {ls xs : List Int} (hl : ls.length = xs.length) (h : ∀ s, s < xs.length → (0 < ln ls s ↔ 0 < xs.getD s 0)) : (posL ls).length = (coinsL xs).length := by
  have h1 := filter_sum (fun s => decide (0 < ln ls s)) ls.length
  have h2 := coins_count xs
  have h3 : sumTo ls.length (fun s => if decide (0 < ln ls s) = true then (1 : Int) else 0) = PS xs (fun _ => 1) := by
    unfold PS; rw [hl]
    apply sumTo_congr; intro s hs
    have := h s hs
    by_cases e : 0 < ln ls s
    · rw [if_pos (by simpa using e), if_pos (this.1 e)]
    · have e2 : ¬ 0 < xs.getD s 0 := fun q => e (this.2 q)
      simp only [e, decide_false, if_neg e2, Bool.false_eq_true, if_false]
  show (((List.range ls.length).filter fun s => decide (0 < ln ls s)).length) = _
  omega

theorem coins_pos {xs : List Int} {s : Nat} (hs : s < xs.length) (hp : 0 < xs.getD s 0) : 1 ≤ (coinsL xs).length := by
  have h2 := coins_count xs
  have h3 := sumTo_delta (fun _ => (1 : Int)) hs
  have h5 : sumTo xs.length (fun j => if j = s then (1 : Int) else 0) ≤ PS xs (fun _ => 1) := by
    apply sumTo_le; intro i hi
    by_cases e1 : i = s
    · subst e1; simp only [hp, if_true]; omega
    · simp only [e1, if_false]; split <;> omega
  rw [h3] at h5
  omega

theorem lens_right {xs : List Int} (h : xs.length = 256) (h1 : 1 ≤ (coinsL xs).length) : rightL (lensL xs 15) = true := by
  have hcl := coinsL_length xs
  have hn : (coinsL xs).length ≤ 2 ^ mostL 15 := by rw [m15]; omega
  have hm : 1 ≤ mostL 15 := by rw [m15]; omega
  have hlen : (lensL xs 15).length = xs.length := lensL_length (by omega) hn
  have hle := fun s (hs : s < xs.length) => lens_le (most := 15) (by omega) hn hm hs
  rw [m15] at hle
  have hall : ∀ x ∈ lensL xs 15, 0 ≤ x ∧ x ≤ 15 := by
    intro x hx
    obtain ⟨s, hs, rfl⟩ := List.mem_iff_getElem.1 hx
    have := hle s (by omega)
    have e : (lensL xs 15).getD s 0 = (lensL xs 15)[s] := by simp [List.getD_eq_getElem?_getD, hs]
    omega
  unfold rightL
  have a1 : decide ((lensL xs 15).length ≤ 256) = true := by simp; omega
  have a2 : (lensL xs 15).all (fun x => decide (0 ≤ x ∧ x ≤ 15)) = true := by
    rw [List.all_eq_true]; intro x hx; simpa using hall x hx
  rw [a1, a2, Bool.true_and, Bool.true_and]
  by_cases h2 : 2 ≤ (coinsL xs).length
  · have := law_full (most := 15) (by omega) h2 hn hm (by rw [m15]; omega)
    simp [this]
  · have hone : (coinsL xs).length = 1 := by omega
    have hp := posL_coins hlen (fun s hs => (hle s hs).2.2)
    have hall1 : (lensL xs 15).all (fun x => decide (x ≤ 1)) = true := by
      rw [List.all_eq_true]; intro x hx
      obtain ⟨s, hs, rfl⟩ := List.mem_iff_getElem.1 hx
      have e : (lensL xs 15).getD s 0 = (lensL xs 15)[s] := by simp [List.getD_eq_getElem?_getD, hs]
      rw [← e, lensL_get (by omega) hn (by omega)]
      obtain ⟨c, hc⟩ := List.length_eq_one_iff.1 hone
      have hch : (chosen xs (mostL 15)).length = 1 := by
        unfold chosen
        rw [if_pos hone, hc]
        have := (coin_sym (xs := xs) (c := c) (by rw [hc]; simp)).1
        simp [this]
      have := List.count_le_length (a := s) (l := chosen xs (mostL 15))
      simp; omega
    rw [hall1, hp, hone]; simp

theorem lsB_facts {b : List Int} (h : BytesB b) (hne : b ≠ []) : (lsB b).length = 256 ∧ rightL (lsB b) = true ∧ (∀ x ∈ symB b, x < (lsB b).length ∧ 0 < ln (lsB b) x) ∧ (∀ v ∈ lsB b, 0 ≤ v ∧ v ≤ 15) := by
  have hl := cntB_length b
  have hsym : ∀ x ∈ symB b, x < 256 ∧ 0 < (cntB b).getD x 0 := by
    intro x hx
    obtain ⟨y, hy, rfl⟩ := List.mem_map.1 hx
    have := h y hy
    refine ⟨by omega, ?_⟩
    rw [cntB_get b (by omega)]
    have := List.count_pos_iff.2 hx
    omega
  have h1 : 1 ≤ (coinsL (cntB b)).length := by
    obtain ⟨y, t, rfl⟩ := List.exists_cons_of_ne_nil hne
    have := hsym y.toNat (by simp)
    exact coins_pos (s := y.toNat) (by omega) this.2
  have hr := lens_right hl h1
  have hcl := coinsL_length (cntB b)
  have hn : (coinsL (cntB b)).length ≤ 2 ^ mostL 15 := by rw [m15]; omega
  have hm : 1 ≤ mostL 15 := by rw [m15]; omega
  have hlen : (lsB b).length = 256 := by rw [lsB, lensL_length (by omega) hn, hl]
  have hle := fun s (hs : s < (cntB b).length) => lens_le (most := 15) (by omega) hn hm hs
  rw [m15] at hle
  refine ⟨hlen, hr, fun x hx => ⟨by have := hsym x hx; omega, ((hle x (by have := hsym x hx; omega)).2.2).2 (hsym x hx).2⟩, ?_⟩
  intro v hv
  obtain ⟨s, hs, rfl⟩ := List.mem_iff_getElem.1 hv
  have := hle s (by omega)
  have e : (lensL (cntB b) 15).getD s 0 = (lsB b)[s] := by
    show (lsB b).getD s 0 = _
    simp [List.getD_eq_getElem?_getD, hs]
  omega

/-- The next row of the head. -/
theorem head_step : ∀ (l : List Int) (s nx : Nat), nx ≤ s → 0 < posN l → ∃ (i : Nat) (x : Int), l[i]? = some x ∧ 0 < x ∧ (∀ j y, j < i → l[j]? = some y → ¬ 0 < y) ∧
    headR l s nx = putV (s + i - nx) ++ (putV x.toNat ++ headR (l.drop (i + 1)) (s + i + 1) (s + i + 1)) ∧ posN l = 1 + posN (l.drop (i + 1))
  | [], s, nx, _, h => by simp [posN] at h
  | x :: l, s, nx, hle, h => by
    by_cases hx : 0 < x
    · refine ⟨0, x, rfl, hx, fun j y hj => by omega, ?_, ?_⟩
      · simp [headR, hx]
      · simp [posN, hx]; omega
    · have hp : posN (x :: l) = posN l := by simp [posN, hx]
      obtain ⟨i, y, h1, h2, h3, h4, h5⟩ := head_step l (s + 1) nx (by omega) (by omega)
      refine ⟨i + 1, y, by simpa using h1, h2, ?_, ?_, ?_⟩
      · intro j z hj hz
        cases j with
        | zero => simp at hz; subst hz; exact hx
        | succ j => exact h3 j z (by omega) (by simpa using hz)
      · rw [headR, if_neg hx, h4]
        simp only [List.drop_succ_cons]
        rw [show s + 1 + i - nx = s + (i + 1) - nx by omega, show s + 1 + i + 1 = s + (i + 1) + 1 by omega]
      · rw [hp, h5]; simp
theorem head_end : ∀ (l : List Int) (s nx : Nat), posN l = 0 → headR l s nx = [] ∧ ∀ x ∈ l, ¬ 0 < x
  | [], s, nx, _ => by simp [headR]
  | x :: l, s, nx, h => by
    have hx : ¬ 0 < x := by intro hx; simp [posN, hx] at h
    have hp : posN l = 0 := by simpa [posN, hx] using h
    obtain ⟨h1, h2⟩ := head_end l (s + 1) nx hp
    refine ⟨by rw [headR, if_neg hx, h1], fun y hy => ?_⟩
    rcases List.mem_cons.1 hy with e | e
    · rw [e]; exact hx
    · exact h2 y e

/-- Lengths, as far as they are known. -/
def upto (ls : List Int) (k : Nat) : List Int := ls.take k ++ List.replicate (256 - k) 0
theorem upto_length {ls : List Int} {k : Nat} (hl : ls.length = 256) (hk : k ≤ 256) : (upto ls k).length = 256 := by simp [upto]; omega
theorem upto_get {ls : List Int} {k j : Nat} (hl : ls.length = 256) (hk : k ≤ 256) (hj : j < 256) : (upto ls k)[j]? = some (if j < k then ln ls j else 0) := by
  unfold upto
  by_cases h : j < k
  · rw [List.getElem?_append_left (by simp; omega), List.getElem?_take, if_pos h, if_pos h, ln, List.getD_eq_getElem?_getD, List.getElem?_eq_getElem (by omega)]; rfl
  · rw [List.getElem?_append_right (by simp; omega), List.getElem?_replicate, if_neg h, if_pos (by simp; omega)]
theorem upto_zero (ls : List Int) : upto ls 0 = List.replicate 256 0 := by simp [upto]
theorem upto_step {ls : List Int} {k i : Nat} {x : Int} (hl : ls.length = 256) (hr : ∀ v ∈ ls, 0 ≤ v) (hk : k ≤ 256) (hi : (ls.drop k)[i]? = some x) (hz : ∀ j y, j < i → (ls.drop k)[j]? = some y → ¬ 0 < y) : k + i < 256 ∧ (upto ls k).set (k + i) x = upto ls (k + i + 1) := by
  rw [List.getElem?_drop] at hi
  have hlt := (List.getElem?_eq_some_iff.1 hi).1
  refine ⟨by omega, ?_⟩
  apply List.ext_getElem?
  intro j
  by_cases hj : j < 256
  · rw [List.getElem?_set, upto_get hl hk hj, upto_get hl (by omega) hj]
    by_cases e : k + i = j
    · subst e
      rw [if_pos rfl, if_pos (by rw [upto_length hl hk]; omega), if_pos (by omega), ln, List.getD_eq_getElem?_getD, hi]; rfl
    · rw [if_neg e]
      by_cases h1 : j < k
      · rw [if_pos h1, if_pos (by omega)]
      · rw [if_neg h1]
        by_cases h2 : j < k + i + 1
        · rw [if_pos h2]
          have hjl : j < ls.length := by omega
          have := hz (j - k) ls[j] (by omega) (by rw [List.getElem?_drop, show k + (j - k) = j by omega]; simp [hjl])
          have h0 := hr ls[j] (List.getElem_mem hjl)
          have : ln ls j = ls[j] := by simp [ln, List.getD_eq_getElem?_getD, hjl]
          congr 1; omega
        · rw [if_neg h2]
  · rw [List.getElem?_eq_none (by rw [List.length_set, upto_length hl hk]; omega), List.getElem?_eq_none (by rw [upto_length hl (by omega)]; omega)]
theorem upto_end {ls : List Int} {k : Nat} (hl : ls.length = 256) (hr : ∀ v ∈ ls, 0 ≤ v) (hk : k ≤ 256) (hz : ∀ x ∈ ls.drop k, ¬ 0 < x) : upto ls k = ls := by
  apply List.ext_getElem?
  intro j
  by_cases hj : j < 256
  · rw [upto_get hl hk hj]
    have hjl : j < ls.length := by omega
    have e : ln ls j = ls[j] := by simp [ln, List.getD_eq_getElem?_getD, hjl]
    rw [List.getElem?_eq_getElem hjl, ← e]
    by_cases h : j < k
    · rw [if_pos h]
    · rw [if_neg h]
      have h0 := hr ls[j] (List.getElem_mem hjl)
      have hm : ls[j] ∈ ls.drop k := by
        rw [List.mem_iff_getElem?]
        exact ⟨j - k, by rw [List.getElem?_drop, show k + (j - k) = j by omega]; simp [hjl]⟩
      have := hz _ hm
      congr 1; omega
  · rw [List.getElem?_eq_none (by rw [upto_length hl hk]; omega), List.getElem?_eq_none (by omega)]

/-- What has the one behind the other begins as that. -/
theorem putV_pre {u v : Nat} {s t : List Int} (hu : u < 2 ^ 64) (hv : v < 2 ^ 64) (h : putV u ++ s = putV v ++ t) : u = v ∧ s = t := by
  have h1 := takeV_put (most := 2 ^ 64) (n := u) (by omega) hu s
  have h2 := takeV_put (most := 2 ^ 64) (n := v) (by omega) hv t
  rw [h] at h1
  rw [h1] at h2
  have : u = v := by have := congrArg Prod.fst h2; simp at this; omega
  subst this
  exact ⟨rfl, List.append_cancel_left h⟩
end Go.Proofs.Ytmenmmgfdakeeaa
