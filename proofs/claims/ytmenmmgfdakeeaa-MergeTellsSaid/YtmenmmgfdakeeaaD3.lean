/- merge: add and Lengths: what they compute. -/
import Derived.Test.YtmenmmgfdakeeaaD2
namespace Go.Proofs.Ytmenmmgfdakeeaa
open Go Go.V Go.RowKit
set_option linter.unusedVariables false
set_option linter.unusedSimpArgs false
set_option maxHeartbeats 2000000

theorem cell_blk {w : World} {k j : Nat} {cur : Array Value} {e : TypeId} {fr : Nat × Nat} (h : w.heap[k]? = some (.cells cur e fr)) : w.cell? ((⟨k, 0, none⟩ : Addr).add j) = cur[j]? := by
  rw [add_lit, World.cell?, h]; rfl

theorem ItemAt.pos {w : World} {a : Addr} {c : Int} {s : List Nat} (h : ItemAt w a c s) : 0 < s.length := by
  induction h with
  | coin _ => simp
  | pack _ _ _ ih _ => simp; omega

theorem ItemAt.single {w : World} {a : Addr} {c : Int} {t : List Nat} (h : ItemAt w a c t) {s : Nat} (ht : t = [s]) : w.cell? (a.add 1) = some (.int .i64 (s : Int)) := by
  cases h with
  | coin h => cases ht; rw [cell_blk h]; rfl
  | pack h i1 i2 =>
    have := congrArg List.length ht
    have := i1.pos
    have := i2.pos
    simp at *; omega

abbrev ints (xs : List Int) : List Value := xs.map (Value.int .i64)

theorem addItem {w : World} {g cap : Nat} {a : Addr} {c : Int} {s : List Nat} (h : ItemAt w a c s) : ∀ {w' : World} {xs : List Int} {n : Nat} {B : Int}, KeepsItems w w' → Own w' g 3 cap (ints xs) → n = xs.length → (∀ i ∈ s, i < n) → (∀ v ∈ xs, 0 ≤ v ∧ v ≤ B) → 0 ≤ B → B + s.length ≤ 2 ^ 62 →
    Calls P 84 #[.pointer (some a), .slice (some ⟨g, 0, none⟩) n cap] w' fun ev w2 => ev = .returned (.tuple #[]) ∧ Own w2 g 3 cap (ints (addL s xs)) ∧ w'.grownBy w2 (some g) := by
  induction h with
  | @coin k c s y hk =>
    intro w' xs n B hkeep ho hn hs hx hB hBs
    have hb := hkeep _ _ hk
    apply vc84; unfold VC84
    simp only [InK]
    have hsn : s < xs.length := by have := hs s (by simp); omega
    have hrow := ho.cell (j := s) (u := .int .i64 xs[s]) (by simp [hsn])
    have hv := hx xs[s] (List.getElem_mem hsn)
    have ts : (s : Int).toNat = s := by omega
    refine ⟨_, rfl, by omega, none, by rw [cell_blk hb]; rfl, fun _ => ?_, fun h => absurd rfl h⟩
    refine ⟨_, rfl, (s : Int), by rw [cell_blk hb]; rfl, _, rfl, by omega, by omega, xs[s], by rw [ts]; exact hrow, by simp at hBs; omega, _, rfl, by omega, by omega, ⟨_, by rw [ts]; exact hrow⟩, ho.notFrozen (add_block _ _), trivial, ?_, grown_set (grown_refl _ _) (add_block _ _) _⟩
    rw [ts]
    have := ho.set (j := s) (by simpa using hsn) (.int .i64 (xs[s] + 1))
    refine cast ?_ this
    congr 1
    simp [addL, bump, hsn, List.map_set]
  | @pack k c1 c2 s1 s2 z p q hk h1 h2 ih1 ih2 =>
    intro w' xs n B hkeep ho hn hs hx hB hBs
    have hb := hkeep _ _ hk
    simp only [List.length_append] at hBs
    apply vc84; unfold VC84
    simp only [InK]
    refine ⟨_, rfl, by omega, some p, by rw [cell_blk hb]; rfl, fun h => absurd h (by simp), fun _ => ?_⟩
    refine ⟨_, rfl, some p, by rw [cell_blk hb]; rfl, some q, by rw [add_add, cell_blk hb]; rfl, ?_⟩
    refine ⟨fun m i w2 => w'.grownBy w2 (some g) ∧ ((i = 0 ∧ m = 2 ∧ Own w2 g 3 cap (ints xs)) ∨ (i = 1 ∧ m = 1 ∧ Own w2 g 3 cap (ints (addL s1 xs))) ∨ (i = 2 ∧ m = 0 ∧ Own w2 g 3 cap (ints (addL (s1 ++ s2) xs)))), ⟨2, grown_refl _ _, .inl ⟨rfl, rfl, ho⟩⟩, ?_⟩
    rintro m i w2 ⟨hg, hi⟩
    have hk2 := hkeep.trans (keeps_own ho (by decide) hg)
    refine ⟨fun hlt => ⟨by omega, fun h0 => ?_, fun h1 => ?_, trivial⟩, fun hge => ⟨trivial, ?_, hg⟩⟩
    · subst h0
      rcases hi with ⟨_, rfl, ho2⟩ | ⟨h, _⟩ | ⟨h, _⟩
      · refine (ih1 hk2 ho2 hn (fun i hi => hs i (by simp [hi])) hx hB (by omega)).mono fun ev w3 hh => ?_
        obtain ⟨e1, e2, e3⟩ := hh
        exact ⟨e1, by omega, 1, by omega, grown_trans hg e3, .inr (.inl ⟨rfl, rfl, e2⟩)⟩
      · omega
      · omega
    · subst h1
      rcases hi with ⟨h, _⟩ | ⟨_, rfl, ho2⟩ | ⟨h, _⟩
      · omega
      · refine (ih2 hk2 ho2 (by rw [addL_length]; exact hn) (fun i hi => hs i (by simp [hi])) (addL_bound s1 hx hB) (by omega) (by omega)).mono fun ev w3 hh => ?_
        obtain ⟨e1, e2, e3⟩ := hh
        exact ⟨e1, by omega, 0, by omega, grown_trans hg e3, .inr (.inr ⟨rfl, rfl, by rw [addL_append]; exact e2⟩)⟩
      · omega
    · rcases hi with ⟨h, _⟩ | ⟨h, _⟩ | ⟨_, _, ho2⟩
      · omega
      · omega
      · exact ho2

/-- What holds of the members of the lists. -/
def Fine (N : Nat) (k : Nat) (x : Coin) : Prop := 0 < x.1 ∧ x.1 ≤ 1099511627776 * 2 ^ k ∧ x.2.length ≤ 2 ^ k ∧ ∀ s ∈ x.2, s < N

theorem fine_lev (xs : List Int) : ∀ k, ∀ x ∈ lev (coinsL xs) k, Fine xs.length k x := by
  apply lev_mem
  · rintro k a b ⟨a1, a2, a3, a4⟩ ⟨b1, b2, b3, b4⟩
    have hp : 0 < 2 ^ k := Nat.two_pow_pos k
    refine ⟨by show 0 < a.1 + b.1; omega, ?_, ?_, ?_⟩
    · show a.1 + b.1 ≤ _
      rw [Int.pow_succ]; omega
    · show (a.2 ++ b.2).length ≤ _
      rw [List.length_append, Nat.pow_succ]; omega
    · intro s hs
      rcases List.mem_append.1 hs with e | e
      · exact a4 s e
      · exact b4 s e
  · intro k x hx
    obtain ⟨h1, h2, s, h3, h4⟩ := coinsL_mem hx
    have hp : 0 < 2 ^ k := Nat.two_pow_pos k
    have hp' : (1 : Int) ≤ 2 ^ k := by have : ((2 ^ k : Nat) : Int) = 2 ^ k := by simp
                                       omega
    refine ⟨h1, ?_, by rw [h3]; simp; omega, by rw [h3]; simpa using h4⟩
    have : (1099511627776 : Int) * 1 ≤ 1099511627776 * 2 ^ k := Int.mul_le_mul_of_nonneg_left hp' (by omega)
    omega

theorem lev_short (first : List Coin) : ∀ k, (lev first k).length ≤ 2 * first.length
  | 0 => by simp [lev]; omega
  | k + 1 => by
    have := lev_short first k
    simp only [lev, packedL, mergeC_length, packs_length]
    omega

theorem mostL_eq (most : Int) : mn (mx most 1) 15 = (mostL most : Int) ∧ 1 ≤ mostL most ∧ mostL most ≤ 15 := by
  unfold mostL mx mn
  split <;> split <;> omega

theorem lengths_calls {w : World} {A : Option Addr} {n c : Nat} {xs : List Int} {most : Int} (hrow : Row w A (ints xs)) (hn : n = xs.length) :
    Calls P 24 #[.slice A n c, .int .i64 most] w fun ev w' => ∃ (A' : Option Addr) (n' c' : Nat), ev = .returned (.slice A' n' c') ∧ Owned w' w.heap.size 3 A' n' c' (ints (lensL xs most)) ∧ w.grownBy w' none := by
  apply vc24; unfold VC24
  obtain ⟨hm, hm1, hm15⟩ := mostL_eq most
  rw [hm]
  simp only [InK]
  have tn : (mostL most : Int).toNat = mostL most := by omega
  have hmin : min (mostL most) 64 = mostL most := by omega
  rw [tn, hmin]
  have hpow : 2 ^ mostL most ≤ 2 ^ 15 := Nat.pow_le_pow_right (by omega) hm15
  obtain ⟨q, hq⟩ : ∃ q, q = 2 ^ mostL most := ⟨_, rfl⟩
  have hcast : (1 : Int) * 2 ^ mostL most = (q : Int) := by rw [hq]; simp
  rw [hcast]
  refine ⟨fun h => ⟨none, 0, 0, rfl, ?_, grown_refl _ _⟩, fun h => ?_⟩
  · have : lensL xs most = [] := by unfold lensL; rw [if_pos (by omega)]
    rw [this]; exact World.ownsRow_nil _ _ _ _
  · have h256 : xs.length ≤ 256 := by omega
    refine (coins_calls hrow hn (by omega)).mono fun ev w1 hh => ?_
    obtain ⟨A1, n1, c1, L, rfl, ho, hL, hLx, hg⟩ := hh
    have hn1 : n1 = (coinsL xs).length := by rw [ho.cases.1, ← hLx]; simp
    have hLl : L.length = (coinsL xs).length := by rw [← hLx]; simp
    refine ⟨A1, n1, c1, rfl, by omega, fun h2 => ?_, fun h2 => ?_⟩
    · refine ⟨none, 0, 0, rfl, ?_, hg⟩
      have : lensL xs most = [] := by unfold lensL; rw [if_neg (by omega), if_pos (by omega)]
      rw [this]; exact World.ownsRow_nil _ _ _ _
    · have hlens : lensL xs most = addL (chosen xs (mostL most)) (List.replicate xs.length 0) := by unfold lensL; rw [if_neg (by omega), if_neg (by omega)]
      obtain ⟨w2, hr, hown, hg2⟩ := run_made (P := P) (w := w1) elemInt (by omega) (m := n) (by omega)
      refine ⟨_, _, _, w2, hr, ?_⟩
      have hown : Own w2 w1.heap.size 3 n (ints (List.replicate xs.length 0)) := by
        simpa [ints, hn] using hown
      have fin : ∀ w3 ys, ys = lensL xs most → Own w3 w1.heap.size 3 n (ints ys) → w2.grownBy w3 (some w1.heap.size) → ∃ (A' : Option Addr) (n' c' : Nat), Ending.returned (.slice (some ⟨w1.heap.size, 0, none⟩) n n) = .returned (.slice A' n' c') ∧ Owned w3 w.heap.size 3 A' n' c' (ints (lensL xs most)) ∧ w.grownBy w3 none := by
        intro w3 ys hys h3 h4
        subst hys
        have h5 := h3.ownsRow hg.size (by simp only [maxLen]; omega)
        have : (ints (lensL xs most)).length = n := by rw [hlens]; simp [ints, addL_length, hn]
        rw [this] at h5
        exact ⟨_, _, _, rfl, h5, grown_own (grown_trans hg hg2) h4 (by intro k hk; cases hk; exact hg.size)⟩
      have hL2 : ∀ x ∈ L, Is w2 x := fun x hx => (hL x hx).keep (keeps_none hg2)
      have ho2 := ho.kept hg2
      refine ⟨fun h1 => ?_, fun h1 => ?_⟩
      · -- one symbol
        obtain ⟨x, rfl⟩ : ∃ x, L = [x] := List.length_eq_one_iff.1 (by omega)
        obtain ⟨a, h3, h4⟩ := ho2.row 0 (.pointer x.1) (by simp [ptrs])
        have ha0 : a.add 0 = a := by simp [Addr.add]
        rw [ha0] at h4
        have hcoin : coinsL xs = [x.2] := by rw [← hLx]; rfl
        obtain ⟨_, _, s, hs1, hs2⟩ := coinsL_mem (xs := xs) (x := x.2) (by rw [hcoin]; simp)
        obtain ⟨b, hb1, hb2⟩ := hL2 x (by simp)
        have hbs := hb2.single hs1
        have ts : (s : Int).toNat = s := by omega
        have hcell := hown.cell (j := s) (u := .int .i64 0) (by simp [ints, hs2])
        refine ⟨a, h3, by omega, by omega, x.1, h4, b, hb1, (s : Int), hbs, _, rfl, by omega, by omega, ⟨_, by rw [ts]; exact hcell⟩, hown.notFrozen (add_block _ _), ?_⟩
        rw [ts]
        have hset := hown.set (j := s) (by simpa [ints] using hs2) (.int .i64 1)
        refine fin _ ((List.replicate xs.length 0).set s 1) ?_ ?_ (grown_set (grown_refl _ _) (add_block _ _) _)
        · rw [hlens]
          have : chosen xs (mostL most) = [s] := by unfold chosen; rw [hcoin]; simp [hs1]
          rw [this]
          simp [addL, bump, hs2]
        · simpa [ints, List.map_set] using hset
      · refine ⟨by omega, ?_⟩
        -- list after list
        refine ⟨fun ms lA ln lc i w3 => ∃ (k : Nat) (O : List (Option Addr × Coin)), i = (k : Int) ∧ k ≤ mostL most - 1 ∧ ms = mostL most - 1 - k ∧ Owned w3 w.heap.size 127 lA ln lc (ptrs O) ∧ (∀ x ∈ O, Is w3 x) ∧ O.map Prod.snd = lev (coinsL xs) k ∧ w2.grownBy w3 none,
          ⟨_, 0, L, rfl, by omega, rfl, ho2, hL2, hLx, grown_refl _ _⟩, ?_⟩
        rintro ms lA ln lc i w3 ⟨k, O, rfl, hk, rfl, ho3, hO, hOk, hg3⟩
        have hOl : O.length = (lev (coinsL xs) k).length := by rw [← hOk]; simp
        have hls := lev_short (coinsL xs) k
        have hcl := coinsL_length xs
        have hln : ln = O.length := by rw [ho3.cases.1]; simp
        refine ⟨fun hlt => ?_, fun hge => ?_⟩
        · have hfine : ∀ x ∈ O, 0 ≤ x.2.1 ∧ x.2.1 ≤ 2 ^ 60 := by
            intro x hx
            have h := fine_lev xs k x.2 (by rw [← hOk]; exact List.mem_map_of_mem hx)
            have hp : (2 : Int) ^ k ≤ 2 ^ 15 := by
              have := Nat.pow_le_pow_right (n := 2) (by omega) (show k ≤ 15 by omega)
              have e1 : ((2 ^ k : Nat) : Int) = 2 ^ k := by simp
              have e2 : ((2 ^ 15 : Nat) : Int) = 2 ^ 15 := by simp
              omega
            have h2 := h.2.1
            exact ⟨by have := h.1; omega, by omega⟩
          have hnone : A1 = none → c1 = 0 ∧ n1 = 0 := by
            intro e
            rcases ho.cases.2 with ⟨_, h, h', _⟩ | ⟨g, h, _⟩
            · exact ⟨h', h⟩
            · rw [e] at h; cases h
          have hcap : n1 ≤ c1 := by
            rcases ho.cases.2 with ⟨_, h, h', _⟩ | ⟨g, _, _, _, h, _⟩
            · omega
            · exact h
          refine (packed_calls (C := L) (L := O) ((ho2.kept hg3).row) ho3.row (by omega) hln (fun x hx => (hL2 x hx).keep (keeps_none hg3)) hO hcap (fun e => (hnone e).1) (by omega) (by omega) hfine).mono fun ev w4 hh => ?_
          obtain ⟨A4, n4, c4, O4, rfl, q1, q2, q3, q4⟩ := hh
          have hsz : w.heap.size ≤ w3.heap.size := Nat.le_trans hg.size (Nat.le_trans hg2.size hg3.size)
          refine ⟨A4, n4, c4, rfl, by omega, mostL most - 1 - (k + 1), by omega, k + 1, O4, by omega, by omega, rfl, Owned.mono q1 hsz, q2, ?_, grown_trans hg3 q4⟩
          rw [q3, hLx, hOk]; rfl
        · have hk' : k = mostL most - 1 := by omega
          have hlong := lev_long hm1 (first := coinsL xs) (by omega)
          rw [← hk'] at hlong
          have hlc : ln ≤ lc := by
            rcases ho3.cases.2 with ⟨_, h, h', _⟩ | ⟨g, _, _, _, h, _⟩
            · omega
            · exact h
          have hmx : mx (2 * (n1 : Int) - 2) 0 = ((2 * (coinsL xs).length - 2 : Nat) : Int) := by unfold mx; split <;> omega
          rw [hmx]
          have tm : (((2 * (coinsL xs).length - 2 : Nat) : Int)).toNat = 2 * (coinsL xs).length - 2 := by omega
          rw [tm]
          refine ⟨by omega, by omega, by omega, ?_⟩
          have hchosen : chosen xs (mostL most) = ((lev (coinsL xs) k).take (2 * (coinsL xs).length - 2)).flatMap Prod.snd := by
            unfold chosen; rw [if_neg (by omega), hk']
          refine ⟨fun ms i w4 => ∃ (j : Nat) (ys : List Int), i = (j : Int) ∧ j ≤ 2 * (coinsL xs).length - 2 ∧ ms = 2 * (coinsL xs).length - 2 - j ∧ ys = addL (((lev (coinsL xs) k).take j).flatMap Prod.snd) (List.replicate xs.length 0) ∧ (∀ v ∈ ys, 0 ≤ v ∧ v ≤ 2 ^ 15 * (j : Int)) ∧
              Own w4 w1.heap.size 3 n (ints ys) ∧ w2.grownBy w4 (some w1.heap.size) ∧ w3.grownBy w4 (some w1.heap.size),
            ⟨_, 0, List.replicate xs.length 0, rfl, by omega, rfl, by simp [addL], by simp, hown.kept hg3 (by simp), grown_none hg3, grown_refl _ _⟩, ?_⟩
          rintro ms i w4 ⟨j, ys, rfl, hj, rfl, hys, hyb, ho4, hg4, hg34⟩
          have hyl : ys.length = n := by rw [hys, addL_length]; simp [hn]
          have ho3' : Own w3 w1.heap.size 3 n (ints (List.replicate xs.length 0)) := hown.kept hg3 (by simp)
          have hkeep := keeps_own ho3' (by decide) hg34
          refine ⟨fun hlt => ?_, fun hge2 => ?_⟩
          · have hjO : j < O.length := by omega
            -- the row of items is another block than the lengths
            have hrowne : Row w4 lA (ptrs O) := by
              refine Row.kept ho3.row hg34 ?_
              intro a ha e
              rcases ho3.cases.2 with ⟨h, _⟩ | ⟨g, h, _, _, _, hog⟩
              · rw [ha] at h; cases h
              · rw [ha] at h; cases h
                simp only [Option.some.injEq] at e
                subst e
                obtain ⟨cur, e1, _⟩ := hog
                obtain ⟨cur', e2, _⟩ := ho3'
                rw [e1] at e2
                cases e2
            obtain ⟨a, h3, h4⟩ := hrowne j _ (ptrs_get hjO)
            obtain ⟨b, hb1, hb2⟩ := hO _ (List.getElem_mem hjO)
            have hmem : O[j].2 ∈ lev (coinsL xs) k := by rw [← hOk]; exact List.mem_map_of_mem (List.getElem_mem hjO)
            obtain ⟨f1, f2, f3, f4⟩ := fine_lev xs k _ hmem
            have hpk : 2 ^ k ≤ 2 ^ 15 := Nat.pow_le_pow_right (by omega) (by omega)
            refine ⟨a, h3, by omega, by omega, O[j].1, h4, ?_⟩
            rw [hb1]
            refine (addItem hb2 hkeep ho4 (by omega) (fun i hi => by have := f4 i hi; omega) hyb (by omega) (by omega)).mono fun ev w5 hh => ?_
            obtain ⟨e1, e2, e3⟩ := hh
            refine ⟨e1, by omega, 2 * (coinsL xs).length - 2 - (j + 1), by omega, j + 1, addL O[j].2.2 ys, by omega, by omega, rfl, ?_, ?_, e2, grown_trans hg4 e3, grown_trans hg34 e3⟩
            · have hjl : j < (lev (coinsL xs) k).length := by omega
              have : (lev (coinsL xs) k)[j] = O[j].2 := by simp [← hOk]
              rw [hys, List.take_succ_eq_append_getElem hjl, List.flatMap_append, addL_append, this]
              simp
            · intro v hv
              have := addL_bound O[j].2.2 hyb (by omega) v hv
              omega
          · have hj' : j = 2 * (coinsL xs).length - 2 := by omega
            refine fin w4 ys ?_ ho4 hg4
            rw [hys, hlens, hchosen, hj']
end Go.Proofs.Ytmenmmgfdakeeaa
