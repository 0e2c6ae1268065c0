/- archipelagolaw5.MergeBest: the walk; archipelagoref5.Cost. -/
import Derived.Test.YtgjkmakhomefkaaL8
import Derived.Test.YtgjkmakhomefkaaS9
import Derived.Test.YtgjkmakhomefkaaXB
namespace Go.Proofs.Ytgjkmakhomefkaa
open Go Go.V Go.RowKit
set_option linter.unusedVariables false
set_option linter.unusedSimpArgs false
set_option maxHeartbeats 2000000
set_option maxRecDepth 100000

theorem clamp_calls {n : Int} {w : World} {R : Ending → World → Prop} (h : R (.returned (.int .i64 (manyL n))) w) : Calls P 46 #[.int .i64 n] w R := vc46 n w R h

theorem refCost_calls {w : World} {A B : Option Addr} {n c m d : Nat} {xs ys : List Int} (hA : Row w A (ints xs)) (hB : Row w B (ints ys)) (hn : n = xs.length) (hm : m = ys.length) (hb : n ≤ 2 ^ 10) (hy : ∀ y ∈ ys, 0 ≤ y ∧ y ≤ 2 ^ 10) :
    Calls P 23 #[.slice A n c, .slice B m d] w fun ev w' => ev = .returned (.int .i64 (costL xs ys)) ∧ w.grownBy w' none := by
  apply vc23; unfold VC23
  simp only [InK]
  refine ⟨fun ms s i w' => ∃ k : Nat, i = (k : Int) ∧ k ≤ min xs.length ys.length ∧ ms = min xs.length ys.length - k ∧ s = costL (xs.take k) (ys.take k) ∧ w.grownBy w' none, ⟨_, 0, rfl, by omega, rfl, by simp [costL], grown_refl _ _⟩, ?_⟩
  rintro ms s i w' ⟨k, rfl, hk, rfl, rfl, hg⟩
  have fin : min xs.length ys.length ≤ k → (Ending.returned (.int .i64 (costL (xs.take k) (ys.take k))) = .returned (.int .i64 (costL xs ys)) ∧ w.grownBy w' none) := by
    intro h
    rw [costL_take _ _ _ h]
    exact ⟨rfl, hg⟩
  refine ⟨fun hlt => ⟨fun hlt2 => ?_, fun hge => fin (by omega)⟩, fun hge => fin (by omega)⟩
  have l1 : k < xs.length := by omega
  have l2 : k < ys.length := by omega
  obtain ⟨a, ha1, ha2⟩ := (hA.kept_none hg) k (.int .i64 xs[k]) (by simp [ints, l1])
  have b0 := costL_bound (xs.take k) (ys.take k) (2 ^ 10) (by omega) (fun y hy' => hy y (List.mem_of_mem_take hy'))
  have hl : ((xs.take k).length : Int) ≤ 2 ^ 10 := by simp; omega
  have hy' := hy ys[k] (List.getElem_mem l2)
  have hc := manyL_bound xs[k]
  have h1 : 0 ≤ manyL xs[k] * ys[k] := Int.mul_nonneg hc.1 hy'.1
  have h2 : manyL xs[k] * ys[k] ≤ 1099511627776 * 2 ^ 10 := Int.mul_le_mul hc.2 hy'.2 hy'.1 (by omega)
  have hs := costL_snoc xs ys k l1 l2
  have b1 : 1099511627776 * (2 ^ 10 : Int) * ((xs.take k).length : Int) ≤ 1099511627776 * 2 ^ 10 * 2 ^ 10 := Int.mul_le_mul_of_nonneg_left hl (by omega)
  refine ⟨fun w2 => w.grownBy w2 none, grown_drew hg, a, ha1, by omega, by omega, xs[k], ha2, ?_⟩
  refine clamp_calls ⟨_, rfl, grown_drew hg, ?_⟩
  obtain ⟨b, hb1, hb2⟩ := hB k (.int .i64 ys[k]) (by simp [ints, l2])
  have hrd : ∀ w2 : World, w.grownBy w2 none → w2.cell? (b.add (k : Int).toNat) = some (.int .i64 ys[k]) := by
    intro w2 h
    obtain ⟨b', e1, e2⟩ := (hB.kept_none h) k (.int .i64 ys[k]) (by simp [ints, l2])
    rw [hb1] at e1
    cases e1
    exact e2
  exact ⟨b, hb1, by omega, by omega, ys[k], hrd, by omega, by omega, by omega, min xs.length ys.length - (k + 1), by omega, k + 1, by omega, by omega, rfl, by omega, grown_drew hg⟩

/-- One length for all that there are, as far as j. -/
def flatL (xs : List Int) (f : Int) (j : Nat) : List Int := (List.range xs.length).map fun s : Nat => if s < j ∧ 0 < xs.getD s 0 then f else 0

theorem flatL_get {xs : List Int} {f : Int} {j s : Nat} (hs : s < xs.length) : (flatL xs f j).getD s 0 = if s < j ∧ 0 < xs.getD s 0 then f else 0 := by
  simp [flatL, List.getD_eq_getElem?_getD, hs]
theorem flatL_length (xs : List Int) (f : Int) (j : Nat) : (flatL xs f j).length = xs.length := by simp [flatL]
theorem flatL_zero (xs : List Int) (f : Int) : flatL xs f 0 = List.replicate xs.length 0 := by
  apply List.ext_getElem <;> simp [flatL]
theorem list_ext {a b : List Int} (h : a.length = b.length) (hg : ∀ s, s < a.length → a.getD s 0 = b.getD s 0) : a = b := by
  apply List.ext_getElem h
  intro i h1 h2
  have := hg i h1
  simpa [List.getD_eq_getElem?_getD, h1, h2] using this
theorem flatL_set {xs : List Int} {f : Int} {j : Nat} (hj : j < xs.length) (hp : 0 < xs.getD j 0) : (flatL xs f j).set j f = flatL xs f (j + 1) := by
  apply list_ext
  · simp [flatL]
  · intro s hs
    have hs' : s < xs.length := by simpa [flatL] using hs
    rw [flatL_get hs']
    have h1 : ((flatL xs f j).set j f).getD s 0 = if j = s then f else (flatL xs f j).getD s 0 := by
      simp only [List.getD_eq_getElem?_getD, List.getElem?_set, flatL_length]
      by_cases e : j = s
      · subst e; simp [hj]
      · simp [e]
    rw [h1, flatL_get hs']
    by_cases e : j = s
    · subst e; rw [if_pos rfl, if_pos ⟨by omega, hp⟩]
    · rw [if_neg e]
      have : s < j ↔ s < j + 1 := by omega
      simp only [this]
theorem flatL_skip {xs : List Int} {f : Int} {j : Nat} (hp : ¬ 0 < xs.getD j 0) : flatL xs f j = flatL xs f (j + 1) := by
  apply list_ext
  · simp [flatL]
  · intro s hs
    have hs' : s < xs.length := by simpa [flatL] using hs
    rw [flatL_get hs', flatL_get hs']
    by_cases e : s = j
    · subst e; rw [if_neg (fun h => hp h.2), if_neg (fun h => hp h.2)]
    · have : s < j ↔ s < j + 1 := by omega
      simp only [this]

theorem walkBest {w : World} {A : Option Addr} {n c : Nat} {l : List Int} {k i j : Int} (hrow : Row w A (u16s l)) (hn : n = l.length) (hb : ∀ x ∈ l, 0 ≤ x ∧ x ≤ 65535) (hk : 0 ≤ k ∧ k ≤ 255) (hi : 0 ≤ i ∧ i ≤ 255) (hj : 0 ≤ j ∧ j ≤ 255) :
    Calls P 5 #[.slice A n c, .int .u8 k, .int .u8 i, .int .u8 j] w fun ev w' => ev = .returned (.bool true) ∧ w.grownBy w' none := by
  apply vc5b; unfold VC5b
  refine known_calls.mono fun ev w1 hh => ?_
  obtain ⟨rfl, g1⟩ := hh
  refine ⟨true, rfl, fun h => absurd h (by simp), fun _ => ⟨fun _ => ⟨rfl, g1⟩, fun h40 => ⟨fun _ => ⟨rfl, g1⟩, fun hne0 => ?_⟩⟩⟩
  have h40 : n ≤ 40 := by omega
  refine (counts_calls (hrow.kept_none g1) hn hb hk (by omega)).mono fun ev w2 hh => ?_
  obtain ⟨A2, n2, c2, rfl, o2, g2⟩ := hh
  have hxl : (countsL k l).length = l.length := by simp [countsL]
  have hxb := counts_bound (k := k) hb
  generalize hxs : countsL k l = xs at *
  have hn2 : n2 = xs.length := by rw [o2.cases.1]; simp [ints]
  have hpos : 0 < xs.length := by omega
  simp only [InK]
  have e1 : mostL 15 = 15 := mostL_of (m := 15) (by omega)
  have hcl := coinsL_length xs
  have hx256 : xs.length ≤ 256 := by omega
  have hp1 : (coinsL xs).length ≤ 2 ^ mostL 15 := by rw [e1]; omega
  refine ⟨_, _, _, rfl, ?_⟩
  refine (lengths_calls o2.row hn2).mono fun ev w3 hh => ?_
  obtain ⟨A3, n3, c3, rfl, o3, g3⟩ := hh
  have hl3 := lensL_length hx256 hp1
  have hn3 : n3 = xs.length := by rw [o3.cases.1]; simp [ints, hl3]
  have gA := grown_trans (grown_trans g1 g2) g3
  have r2 := o2.row.kept_none g3
  obtain ⟨a, ha⟩ : ∃ a : Nat, i % (n2 : Int) = (a : Int) := ⟨(i % (n2 : Int)).toNat, by have := Int.emod_nonneg i (show (n2 : Int) ≠ 0 by omega); omega⟩
  obtain ⟨b, hbb⟩ : ∃ b : Nat, j % (n2 : Int) = (b : Int) := ⟨(j % (n2 : Int)).toNat, by have := Int.emod_nonneg j (show (n2 : Int) ≠ 0 by omega); omega⟩
  have ha' : a < xs.length := by have := Int.emod_lt_of_pos i (show 0 < (n2 : Int) by omega); omega
  have hb' : b < xs.length := by have := Int.emod_lt_of_pos j (show 0 < (n2 : Int) by omega); omega
  rw [ha, hbb]
  have gD : w3.grownBy w3.drew.drew none := grown_drew (grown_drew (grown_refl _ _))
  have rD := r2.kept_none gD
  have lD := o3.row.kept_none gD
  obtain ⟨pa, pa1, pa2⟩ := row_at rD ha'
  obtain ⟨pb, pb1, pb2⟩ := row_at rD hb'
  obtain ⟨qa, qa1, qa2⟩ := row_at lD (j := a) (by omega)
  obtain ⟨qb, qb1, qb2⟩ := row_at lD (j := b) (by omega)
  refine ⟨_, _, _, rfl, fun h => by omega, fun _ => ⟨by omega, by omega, by omega, by omega, fun w4 => w3.grownBy w4 none, ?_, ?_⟩⟩
  · refine ⟨pa, pa1, by omega, by omega, _, pa2, pb, pb1, by omega, by omega, _, pb2, fun hgt => ⟨pb, pb1, by omega, by omega, _, pb2, fun hpb => ⟨qa, qa1, by omega, by omega, _, qa2, qb, qb1, by omega, by omega, _, qb2, fun hbad => ?_, fun _ => gD⟩, fun _ => gD⟩, fun _ => gD⟩
    exfalso
    have := law_swap (most := 15) hx256 hp1 (by omega) (fun x hx => by have := hxb x hx; omega) ha' hb' hgt hpb
    omega
  · intro w4 g4
    have gB := grown_trans gA g4
    have r4 := r2.kept_none g4
    have l4 := o3.row.kept_none g4
    refine ⟨fun ms q i w5 => ∃ j : Nat, i = (j : Int) ∧ j ≤ xs.length ∧ ms = xs.length - j ∧ w5 = w4 ∧ q = sumTo j (fun s => if 0 < xs.getD s 0 then 1 else 0) ∧ 0 ≤ q ∧ q ≤ j, ⟨_, 0, rfl, by omega, rfl, rfl, rfl, by omega, by omega⟩, ?_⟩
    rintro ms q i w5 ⟨j, rfl, hj, rfl, rfl, rfl, hq0, hqj⟩
    refine ⟨fun hlt => ?_, fun hge => ?_⟩
    · have l1 : j < xs.length := by omega
      obtain ⟨a, ha1, ha2⟩ := row_at r4 l1
      refine ⟨a, ha1, by omega, by omega, _, ha2, fun h => ?_, fun h => ?_⟩
      · have h' : 0 < xs.getD j 0 := h
        refine ⟨by omega, by omega, xs.length - (j + 1), by omega, j + 1, by omega, by omega, rfl, rfl, ?_, by omega, by omega⟩
        simp only [sumTo, h', if_true]
      · have h' : ¬ 0 < xs.getD j 0 := h
        refine ⟨by omega, xs.length - (j + 1), by omega, j + 1, by omega, by omega, rfl, rfl, ?_, by omega, by omega⟩
        simp only [sumTo, h', if_false]; omega
    have hjx : j = xs.length := by omega
    subst hjx
    have hcount : sumTo xs.length (fun s => if 0 < xs.getD s 0 then 1 else 0) = ((coinsL xs).length : Int) := (coins_count xs).symm
    rw [hcount] at *
    refine ⟨fun ms v w6 => ∃ t : Nat, v = (t : Int) ∧ t ≤ 6 ∧ ms = 6 - t ∧ w6 = w5, ⟨_, 0, rfl, by omega, rfl, rfl⟩, ?_⟩
    rintro ms v w6 ⟨t, rfl, ht, rfl, rfl⟩
    have tt : (t : Int).toNat = t := by omega
    have hmt : min t 64 = t := by omega
    rw [tt, hmt]
    obtain ⟨z, hz⟩ : ∃ z : Nat, z = 2 ^ t := ⟨_, rfl⟩
    have ez : (1 : Int) * 2 ^ t = (z : Int) := by rw [hz]; simp
    have hzb : z ≤ 2 ^ 6 := by rw [hz]; exact two_pow_le ht
    rw [ez]
    refine ⟨by omega, fun hlt => ?_, fun hnl => ?_⟩
    · have ht6 : t < 6 := by
        rcases Nat.lt_or_ge t 6 with h | h
        · exact h
        · exfalso
          have : t = 6 := by omega
          subst this
          have : z = 64 := by rw [hz]
          omega
      exact ⟨by omega, 6 - (t + 1), by omega, t + 1, by omega, by omega, rfl, rfl⟩
    obtain ⟨f, hf⟩ : ∃ f : Nat, mx (t : Int) 1 = (f : Int) := ⟨(mx (t : Int) 1).toNat, by unfold mx; split <;> omega⟩
    have hf1 : 1 ≤ f ∧ f ≤ 15 ∧ t ≤ f := by unfold mx at hf; split at hf <;> omega
    rw [hf]
    obtain ⟨w7, hr, o7, g7⟩ := run_made (P := P) (w := w6) elem22 (by omega) (m := n2) (by omega)
    have o7 : Own w7 w6.heap.size 3 n2 (ints (flatL xs f 0)) := by rw [flatL_zero]; simpa [ints, hn2] using o7
    refine ⟨_, _, _, w7, hr, ?_⟩
    refine ⟨fun ms i w8 => ∃ j : Nat, i = (j : Int) ∧ j ≤ xs.length ∧ ms = xs.length - j ∧ Own w8 w6.heap.size 3 n2 (ints (flatL xs f j)) ∧ w6.grownBy w8 none, ⟨_, 0, rfl, by omega, rfl, o7, g7⟩, ?_⟩
    rintro ms i w8 ⟨j, rfl, hj2, rfl, o8, g8⟩
    refine ⟨fun hlt => ?_, fun hge2 => ?_⟩
    · have l1 : j < xs.length := by omega
      obtain ⟨a, ha1, ha2⟩ := row_at (r4.kept_none g8) l1
      have tj : (j : Int).toNat = j := by omega
      refine ⟨a, ha1, by omega, by omega, _, ha2, fun h => ?_, fun h => ?_⟩
      · have hc := o8.cell (j := j) (u := .int .i64 ((flatL xs f j)[j]'(by rw [flatL_length]; exact l1))) (by rw [ints, List.getElem?_map, List.getElem?_eq_getElem (by rw [flatL_length]; exact l1)]; rfl)
        have hs := o8.set (j := j) (by rw [ints, List.length_map, flatL_length]; exact l1) (.int .i64 (f : Int))
        refine ⟨_, rfl, by omega, by omega, ⟨_, by rw [tj]; exact hc⟩, o8.notFrozen (add_block _ _), by omega, xs.length - (j + 1), by omega, j + 1, by omega, by omega, rfl, ?_, ?_⟩
        · rw [tj, ← flatL_set l1 h]
          refine cast ?_ hs
          congr 1
          simp [ints, List.map_set]
        · exact grown_own g8 (grown_set (grown_refl _ _) (add_block _ _) _) (by intro q hq; cases hq; exact Nat.le_refl _)
      · refine ⟨by omega, xs.length - (j + 1), by omega, j + 1, by omega, by omega, rfl, ?_, g8⟩
        rw [← flatL_skip h]; exact o8
    have hjx : j = xs.length := by omega
    subst hjx
    have hlm := lens_mem hx256 hp1 (by omega) (by omega)
    have hfm : ∀ y ∈ flatL xs f xs.length, 0 ≤ y ∧ y ≤ 2 ^ 10 := by
      intro y hy
      obtain ⟨s, _, rfl⟩ := List.mem_map.1 hy
      split <;> omega
    have gC := grown_trans gB g8
    have r8 := r4.kept_none g8
    have l8 := l4.kept_none g8
    refine (cost_calls r8 l8 hn2 (by omega) (by omega) hlm).mono fun ev w9 hh => ?_
    obtain ⟨rfl, g9⟩ := hh
    refine ⟨_, rfl, ?_⟩
    refine (refCost_calls (r8.kept_none g9) (o8.row.kept_none g9) hn2 (by rw [flatL_length]; exact hn2) (by omega) hfm).mono fun ev w10 hh => ?_
    obtain ⟨rfl, g10⟩ := hh
    have hflat := law_flat (most := 15) hx256 hp1 (by omega) (f := f) (by omega) (by
      have : 2 ^ t ≤ 2 ^ f := two_pow_le hf1.2.2
      omega) (ys := flatL xs f xs.length) (flatL_length _ _ _) (fun s hs hp => by rw [flatL_get hs, if_pos ⟨hs, hp⟩])
    refine ⟨_, rfl, fun _ => ?_, fun h => absurd hflat h⟩
    have g11 := grown_trans g9 g10
    refine (cost_calls (r8.kept_none g11) (l8.kept_none g11) hn2 (by omega) (by omega) hlm).mono fun ev w11 hh => ?_
    obtain ⟨rfl, g12⟩ := hh
    refine ⟨_, rfl, ?_⟩
    refine (refCost_calls ((r8.kept_none g11).kept_none g12) ((l8.kept_none g11).kept_none g12) hn2 (by omega) (by omega) hlm).mono fun ev w12 hh => ?_
    obtain ⟨rfl, g13⟩ := hh
    refine ⟨_, rfl, ?_, grown_trans (grown_trans (grown_trans gC g11) g12) g13⟩
    simp
end Go.Proofs.Ytgjkmakhomefkaa
