/- Own texts, packed: F1, F2, F3, F4, F5, F6. -/
import Derived.Test.YtgahfcdmgdnjiaaGBg
import Derived.Test.YtgahfcdmgdnjiaaGFg
import Derived.Test.YtgahfcdmgdnjiaaGXg
import Derived.Test.YtgahfcdmgdnjiaaGEg
import Derived.Test.YtgahfcdmgdnjiaaGCg
import Derived.Test.YtgahfcdmgdnjiaaGGg

/-! Which lengths may be: both texts. Rows of numbers searched, cloned. -/
namespace Go.Proofs.Ytgahfcdmgdnjiaa
open Go Go.V Go.RowKit
set_option linter.unusedVariables false
set_option linter.unusedSimpArgs false
set_option maxHeartbeats 4000000
set_option maxRecDepth 100000

theorem index_calls {w : World} {A : Option Addr} {n c : Nat} {xs : List Int} {v : Int} (hr : Row w A (ints xs)) (hn : n = xs.length) (hb : n ≤ 2 ^ 40) :
    Calls P 147 #[.slice A n c, .int .i64 v] w fun ev w' => ∃ i : Int, ev = .returned (.int .i64 i) ∧ (0 ≤ i ↔ v ∈ xs) ∧ w.grownBy w' none := by
  apply vc147; unfold VC147; try (conv => zeta)
  simp only [InK]
  refine ⟨fun m i w' => ∃ j : Nat, i = (j : Int) ∧ j ≤ xs.length ∧ m = xs.length - j ∧ v ∉ xs.take j ∧ w.grownBy w' none, ⟨_, 0, rfl, by omega, rfl, by simp, grown_refl _ _⟩, ?_⟩
  rintro m i w' ⟨j, rfl, hj, rfl, hv, hg⟩
  refine ⟨fun hlt => ?_, fun hge => ?_⟩
  · have l1 : j < xs.length := by omega
    obtain ⟨a, ha1, ha2⟩ := (hr.kept_none hg) j (.int .i64 xs[j]) (by simp [ints, l1])
    refine ⟨a, ha1, by omega, by omega, _, ha2, fun he => ⟨_, rfl, ?_, hg⟩, fun hne => ⟨by omega, xs.length - (j + 1), by omega, j + 1, by omega, by omega, rfl, ?_, hg⟩⟩
    · rw [he]
      exact ⟨fun _ => List.getElem_mem l1, fun _ => by omega⟩
    · rw [List.take_succ_eq_append_getElem l1]
      simp only [List.mem_append, List.mem_singleton, not_or]
      exact ⟨hv, hne⟩
  · have : j = xs.length := by omega
    subst this
    rw [List.take_length] at hv
    exact ⟨_, rfl, ⟨fun h => by omega, fun h => absurd h hv⟩, hg⟩

theorem contains_calls {w : World} {A : Option Addr} {n c : Nat} {xs : List Int} {v : Int} (hr : Row w A (ints xs)) (hn : n = xs.length) (hb : n ≤ 2 ^ 40) :
    Calls P 131 #[.slice A n c, .int .i64 v] w fun ev w' => ev = .returned (.bool (xs.contains v)) ∧ w.grownBy w' none := by
  apply vc131; unfold VC131; try (conv => zeta)
  refine (index_calls hr hn hb).mono fun ev w' hh => ?_
  obtain ⟨i, rfl, hi, hg⟩ := hh
  refine ⟨i, rfl, ?_, hg⟩
  congr 2
  rw [Bool.eq_iff_iff, decide_eq_true_iff, List.contains_iff_mem]
  exact hi

theorem cloneInts_calls {w : World} {A : Option Addr} {n c : Nat} {l : List Int} (hr : Row w A (ints l)) (hn : n = l.length) (hl : l.length ≤ 2 ^ 40) :
    Calls P 95 #[.slice A n c] w fun ev w' => ∃ (A' : Option Addr) (n' c' : Nat), ev = .returned (.slice A' n' c') ∧ Owned w' w.heap.size 3 A' n' c' (ints l) ∧ w.grownBy w' none := by
  apply vc95; unfold VC95; try (conv => zeta)
  refine ⟨fun h => ?_, fun h => ?_⟩
  · subst h
    have : l = [] := by
      cases l with
      | nil => rfl
      | cons x l => obtain ⟨a, e, _⟩ := hr 0 _ rfl; cases e
    subst this
    exact ⟨none, 0, 0, rfl, World.ownsRow_nil _ _ _ _, grown_refl _ _⟩
  · obtain ⟨a, rfl⟩ : ∃ a, A = some a := by cases A with
      | none => exact absurd rfl h
      | some a => exact ⟨a, rfl⟩
    have hg := World.grownBy_alloc w (.cells #[] 3) none
    have ho : Owned (w.alloc (.cells #[] 3)) w.heap.size 3 (some ⟨w.heap.size, 0, none⟩) 0 0 [] := ⟨rfl, .inr ⟨w.heap.size, 0, #[], rfl, Nat.le_refl _, heap_alloc_new w _, Nat.le_refl _, Nat.zero_le _, rfl, rfl⟩⟩
    obtain ⟨A', n', c', w', h1, h2, h4⟩ := ho.appends (ty := 58) elemInt (by omega) (a := a) (m := n) (cc := c) (us := ints l) (by simp [hn]) (fun j u hj => by obtain ⟨b, e1, e2⟩ := (hr.kept_none hg) j u hj; cases e1; exact e2) (fun u hu => by obtain ⟨x, _, rfl⟩ := List.mem_map.1 hu; rfl) (by omega) hg.size
    exact ⟨A', n', c', w', h1, A', n', c', rfl, by simpa using h2, grown_own hg h4 ho.block_ge⟩

theorem right_calls {w : World} {A : Option Addr} {n c : Nat} {ls : List Int} (hr : Row w A (ints ls)) (hn : n = ls.length) (hb : n ≤ 2 ^ 20) :
    Calls P 94 #[.slice A n c] w fun ev w' => ev = .returned (.bool (rightL ls)) ∧ w.grownBy w' none := by
  apply vc94; unfold VC94; try (conv => zeta)
  simp only [InK]
  refine ⟨fun m s i w' => ∃ j : Nat, i = (j : Int) ∧ j ≤ ls.length ∧ m = ls.length - j ∧ (∀ x ∈ ls.take j, 0 ≤ x ∧ x ≤ 15) ∧ s = (posN (ls.take j) : Int) ∧ w.grownBy w' none, ⟨_, 0, rfl, by omega, rfl, by simp, by simp [posN], grown_refl _ _⟩, ?_⟩
  rintro m s i w' ⟨j, rfl, hj, rfl, hall, rfl, hg⟩
  have hpl := posN_le (ls.take j)
  have hlj : (ls.take j).length = j := by simp; omega
  refine ⟨fun hlt => ?_, fun hge => ?_⟩
  · have l1 : j < ls.length := by omega
    obtain ⟨a, ha1, ha2⟩ := (hr.kept_none hg) j (.int .i64 ls[j]) (by simp [ints, l1])
    refine ⟨a, ha1, by omega, by omega, _, ha2, fun h => ⟨by rw [rightL_bad (List.getElem_mem l1) (.inl h)], hg⟩, fun h => ⟨fun h' => ⟨by rw [rightL_bad (List.getElem_mem l1) (.inr (by omega))], hg⟩, fun h' => ?_⟩⟩
    have hmn : mn ls[j] 1 = if 0 < ls[j] then 1 else 0 := by unfold mn; split <;> split <;> omega
    have hst : (posN (ls.take j) : Int) + mn ls[j] 1 = (posN (ls.take (j + 1)) : Int) := by
      rw [List.take_succ_eq_append_getElem l1, posN_snoc, hmn]
      split <;> simp
    have hb1 : 0 ≤ mn ls[j] 1 ∧ mn ls[j] 1 ≤ 1 := by rw [hmn]; split <;> omega
    refine ⟨by omega, by omega, ls.length - (j + 1), by omega, j + 1, by omega, by omega, rfl, ?_, hst, hg⟩
    intro x hx
    rw [List.take_succ_eq_append_getElem l1] at hx
    rcases List.mem_append.1 hx with e | e
    · exact hall x e
    · have : x = ls[j] := by simpa using e
      omega
  · have : j = ls.length := by omega
    subst this
    rw [List.take_length] at hall hpl ⊢
    have hR := rightL_all hall
    refine ⟨fun h1 => ?_, fun h1 => ⟨fun h2 => ?_, fun h2 => ?_⟩⟩
    · have hp1 : posN ls = 1 := by omega
      refine (contains_calls (hr.kept_none hg) hn (by omega)).mono fun ev w2 hh => ?_
      obtain ⟨rfl, g2⟩ := hh
      have hg2 := grown_trans hg g2
      rw [one_iff hp1]
      refine ⟨_, rfl, fun h2 => ⟨fun h3 => ⟨?_, hg2⟩, fun h3 => ?_⟩, fun h2 => ⟨?_, hg2⟩⟩
      · rw [hR, h3]; simp [hp1]; omega
      · refine (kraft_calls (hr.kept_none hg2) hn (by omega)).mono fun ev w3 hh => ?_
        obtain ⟨rfl, g3⟩ := hh
        refine ⟨_, rfl, ?_, grown_trans hg2 g3⟩
        rw [hR, h3]
        have : ls.length ≤ 256 := by omega
        simp [this]
      · rw [hR]
        have : ¬ ls.length ≤ 256 := by omega
        simp [this]
    · refine (kraft_calls (hr.kept_none hg) hn (by omega)).mono fun ev w3 hh => ?_
      obtain ⟨rfl, g3⟩ := hh
      refine ⟨_, rfl, ?_, grown_trans hg g3⟩
      have : ls.length ≤ 256 := by omega
      have hp1 : ¬ posN ls = 1 := by omega
      rw [hR]
      simp [this, hp1]
    · refine ⟨?_, hg⟩
      have : ¬ ls.length ≤ 256 := by omega
      rw [hR]
      simp [this]

end Go.Proofs.Ytgahfcdmgdnjiaa

/-! The codes: both texts. -/
namespace Go.Proofs.Ytgahfcdmgdnjiaa
open Go Go.V Go.RowKit
set_option linter.unusedVariables false
set_option linter.unusedSimpArgs false
set_option maxHeartbeats 4000000
set_option maxRecDepth 100000

abbrev nI (l : List Nat) : List Int := l.map fun s : Nat => (s : Int)

theorem cmpCodes {w : World} {g : Nat} {lenv : Addr} {A : Option Addr} {n c : Nat} {ls : List Int} (hcell : w.cell? lenv = some (.slice A n c)) (hr : Row w A (ints ls)) (hn : n = ls.length) (h1 : lenv.block ≠ g) (h2 : ∀ a, A = some a → a.block ≠ g) {L : List Nat} (hL : ∀ s ∈ L, s < ls.length) :
    CmpOkI lenv w g (fun x => ln ls x.toNat) (nI L) := by
  intro w' hg x hx y hy
  obtain ⟨s, hs, rfl⟩ := List.mem_map.1 hx
  obtain ⟨t, ht, rfl⟩ := List.mem_map.1 hy
  have ls' := hL s hs
  have lt' := hL t ht
  have hc' : w'.drew.cell? lenv = some (.slice A n c) := hg.cell hcell (by simpa using h1)
  have hr' : Row w'.drew A (ints ls) := hr.kept (grown_drew hg) (fun a ha => by simpa using h2 a ha)
  show Calls P 134 #[.int .i64 (s : Int), .int .i64 (t : Int), .pointer (some lenv)] w' _
  apply vc134; unfold VC134; try (conv => zeta)
  obtain ⟨a, ha1, ha2⟩ := hr' s (.int .i64 ls[s]) (by simp [ints, ls'])
  obtain ⟨b, hb1, hb2⟩ := hr' t (.int .i64 ls[t]) (by simp [ints, lt'])
  have ts : (s : Int).toNat = s := by omega
  have tt : (t : Int).toNat = t := by omega
  rw [ts, tt]
  refine ⟨_, _, _, hc', a, ha1, by omega, by omega, _, ha2, _, _, _, hc', b, hb1, by omega, by omega, _, hb2, ?_⟩
  refine compare_calls.mono fun ev w2 hh => ?_
  obtain ⟨c, h3, h4, rfl⟩ := hh
  refine ⟨c, h3, c, rfl, ?_, grown_drew (grown_refl _ _)⟩
  rw [h4]
  show _ ↔ ln ls (s : Int).toNat < ln ls (t : Int).toNat
  rw [ts, tt, ln_mem ls', ln_mem lt']

theorem posL_pos {ls : List Int} (h : rightL ls = true) : ordL ls ≠ [] := by
  obtain ⟨h1, h2, h3⟩ := right_is h
  intro e
  have hp : posL ls = [] := by
    have := (ordL_perm ls).length_eq
    rw [e] at this
    exact List.eq_nil_of_length_eq_zero this.symm
  rcases h3 with h3 | h3
  · rw [hp] at h3; simp at h3
  · have := wS_ord h2
    rw [e, wS_nil] at this
    omega

theorem codes_calls {w : World} {A : Option Addr} {n c : Nat} {ls : List Int} (hr : Row w A (ints ls)) (hn : n = ls.length) (hb : n ≤ 2 ^ 20) :
    Calls P 96 #[.slice A n c] w fun ev w' => ∃ (A' : Option Addr) (n' c' : Nat), ev = .returned (.slice A' n' c') ∧ Owned w' w.heap.size 3 A' n' c' (ints (codesL ls)) ∧ w.grownBy w' none := by
  apply vc96; unfold VC96; try (conv => zeta)
  simp only [InK]
  have g1 := World.grownBy_alloc w (.cells #[.slice A n c] 58) none
  have h0 := heap_alloc_new w (.cells #[.slice A n c] 58)
  obtain ⟨w1, hw1⟩ : ∃ w1, w1 = w.alloc (.cells #[.slice A n c] 58) := ⟨_, rfl⟩
  rw [← hw1] at g1 h0 ⊢
  have hc1 : ∀ w', w1.grownBy w' none → w'.cell? ⟨w.heap.size, 0, none⟩ = some (.slice A n c) := by
    intro w' hg
    have := hg.block w.heap.size (Array.getElem?_eq_some_iff.1 h0).1 (by simp)
    rw [h0] at this
    exact blk_cell this 0
  have hr1 := hr.kept_none g1
  refine ⟨_, _, _, hc1 w1 (grown_refl _ _), ?_⟩
  refine (right_calls hr1 hn hb).mono fun ev w2 hh => ?_
  obtain ⟨rfl, g2⟩ := hh
  refine ⟨_, rfl, fun hf => ?_, fun ht => ?_⟩
  · refine ⟨none, 0, 0, rfl, ?_, grown_trans g1 g2⟩
    have : codesL ls = [] := by unfold codesL; rw [hf]; rfl
    rw [this]; exact World.ownsRow_nil _ _ _ _
  have hR : rightL ls = true := by simpa using ht
  obtain ⟨h256, hrng, _⟩ := right_is hR
  refine ⟨_, _, _, hc1 w2 g2, ?_⟩
  refine ⟨fun m Ao no co i w3 => ∃ j : Nat, i = (j : Int) ∧ j ≤ ls.length ∧ m = ls.length - j ∧ Owned w3 w2.heap.size 3 Ao no co (ints (nI ((List.range j).filter fun s => decide (0 < ln ls s)))) ∧ w2.grownBy w3 none,
    ⟨_, 0, rfl, by omega, rfl, World.ownsRow_nil _ _ _ _, grown_refl _ _⟩, ?_⟩
  rintro m Ao no co i w3 ⟨j, rfl, hj, rfl, ho, hg3⟩
  have tj : (j : Int).toNat = j := by omega
  rw [tj]
  have hlf : ((List.range j).filter fun s => decide (0 < ln ls s)).length ≤ j := by
    have := List.length_filter_le (fun s => decide (0 < ln ls s)) (List.range j)
    simpa using this
  have hno : no = ((List.range j).filter fun s => decide (0 < ln ls s)).length := by rw [ho.cases.1]; simp [ints]
  refine ⟨fun hlt => ?_, fun hge => ?_⟩
  · have l1 : j < ls.length := by omega
    obtain ⟨a, ha1, ha2⟩ := (hr1.kept_none (grown_trans g2 hg3)) j (.int .i64 ls[j]) (by simp [ints, l1])
    have hlj := ln_mem l1
    refine ⟨a, ha1, by omega, by omega, _, ha2, fun hp => ?_, fun hp => ⟨by omega, ls.length - (j + 1), by omega, j + 1, by omega, by omega, rfl, ?_, hg3⟩⟩
    · obtain ⟨A4, n4, c4, w4, e1, e2, e3⟩ := append_int (x := (j : Int)) ho (by omega) hg3.size
      refine ⟨A4, n4, c4, w4, e1, by omega, ls.length - (j + 1), by omega, j + 1, by omega, by omega, rfl, ?_, grown_own hg3 e3 ho.block_ge⟩
      have : nI ((List.range (j + 1)).filter fun s => decide (0 < ln ls s)) = nI ((List.range j).filter fun s => decide (0 < ln ls s)) ++ [(j : Int)] := by
        rw [List.range_succ, List.filter_append]
        have : decide (0 < ln ls j) = true := by rw [hlj]; simpa using hp
        simp [nI, List.filter_cons, this]
      rw [this]; exact e2
    · have : (List.range (j + 1)).filter (fun s => decide (0 < ln ls s)) = (List.range j).filter fun s => decide (0 < ln ls s) := by
        rw [List.range_succ, List.filter_append]
        have : decide (0 < ln ls j) = false := by rw [hlj]; simpa using hp
        simp [List.filter_cons, this]
      rw [this]; exact ho
  · have hj' : j = ls.length := by omega
    subst hj'
    have ho' : Owned w3 w2.heap.size 3 Ao no co (ints (nI (posL ls))) := ho
    have hne := posL_pos hR
    have hpl : (ordL ls).length = (posL ls).length := (ordL_perm ls).length_eq
    have hol : 0 < (ordL ls).length := List.length_pos_iff.2 hne
    have hno' : no = (posL ls).length := hno
    obtain ⟨_, h | ⟨g, rfl, hgb, hcm, hnc, hown⟩⟩ := ho'.cases
    · omega
    have hg13 := grown_trans g2 hg3
    have hc3 := hc1 w3 hg13
    have hr3 := hr1.kept_none hg13
    have hlt2 := g2.size
    have hs01 := (Array.getElem?_eq_some_iff.1 h0).1
    have hAblk : ∀ a, A = some a → a.block < w1.heap.size := by
      intro a ha
      obtain ⟨b, e1, e2⟩ := hr1.blk (by intro e; have : ls = [] := by simpa [ints] using e
                                        rw [this] at hol; simp [ordL, posL, inOrder] at hol)
      rw [ha] at e1; cases e1; exact e2
    have cmp := cmpCodes (g := g) hc3 hr3 hn (by show w.heap.size ≠ g; omega) (fun a ha => by have := hAblk a ha; omega) (L := posL ls) (fun s hs => (posL_mem.1 hs).1)
    refine (sortedI ⟨w.heap.size, 0, none⟩ hown cmp (by simp [nI]; omega) (by omega)).mono fun ev w4 hh => ?_
    obtain ⟨rfl, hown4, hg4⟩ := hh
    have hord : inOrder (fun x : Int => ln ls x.toNat) (nI (posL ls)) = nI (ordL ls) := inOrder_map (fun s : Nat => (s : Int)) (fun x : Int => ln ls x.toNat) (ln ls) (posL ls) (fun y _ => by simp)
    rw [hord] at hown4
    have hc4 : w4.cell? ⟨w.heap.size, 0, none⟩ = some (.slice A n c) := hg4.cell hc3 (by simp; omega)
    have hr4 : Row w4 A (ints ls) := hr3.kept hg4 (fun a ha => by have := hAblk a ha; simp; omega)
    refine ⟨rfl, _, _, _, hc4, ?_⟩
    obtain ⟨w5, hr5, hown5, hg5⟩ := run_made (P := P) (w := w4) elemInt (by omega) (m := n) (by omega)
    refine ⟨_, _, _, w5, hr5, ?_⟩
    have hglt : g < w4.heap.size := hown4.lt
    have hsz4 : w1.heap.size ≤ w4.heap.size := Nat.le_trans hg13.size hg4.size
    have rd : ∀ w6, w5.grownBy w6 (some w4.heap.size) → w6.cell? ⟨w.heap.size, 0, none⟩ = some (.slice A n c) ∧ Row w6 A (ints ls) ∧ Row w6 (some ⟨g, 0, none⟩) (ints (nI (ordL ls))) := by
      intro w6 hg6
      refine ⟨hg6.cell (hg5.cell hc4 (by simp)) (by simp; omega), (hr4.kept_none hg5).kept hg6 (fun a ha => by have := hAblk a ha; simp; omega), (hown4.row.kept_none hg5).kept hg6 (fun a ha => by cases ha; simp; omega)⟩
    refine ⟨fun m nx la i w6 => ∃ k : Nat, i = (k : Int) ∧ k ≤ (ordL ls).length ∧ m = (ordL ls).length - k ∧ nx = (foldC ls ((ordL ls).take k)).1 ∧ la = (foldC ls ((ordL ls).take k)).2.1 ∧ Own w6 w4.heap.size 3 n (ints (foldC ls ((ordL ls).take k)).2.2) ∧ w5.grownBy w6 (some w4.heap.size),
      ⟨_, 0, rfl, by omega, rfl, rfl, rfl, ?_, grown_refl _ _⟩, ?_⟩
    · simpa [foldC, ints, hn] using hown5
    rintro m nx la i w6 ⟨k, rfl, hk, rfl, rfl, rfl, ho6, hg6⟩
    have tk : (k : Int).toNat = k := by omega
    rw [tk]
    obtain ⟨q1, q2, q3⟩ := rd w6 hg6
    refine ⟨fun hlt => ?_, fun hge => ?_⟩
    · have lk : k < (ordL ls).length := by omega
      obtain ⟨b, hb1, hb2⟩ := q3 k (.int .i64 ((ordL ls)[k] : Int)) (by simp [ints, nI, lk])
      have hsplit : ordL ls = (ordL ls).take k ++ (ordL ls)[k] :: (ordL ls).drop (k + 1) := by rw [List.getElem_cons_drop, List.take_append_drop]
      obtain ⟨c1, c2, c3, c4, c5, c6, c7, c8, c9, c10, c11⟩ := code_step hR hsplit
      have htk : (ordL ls).take (k + 1) = (ordL ls).take k ++ [(ordL ls)[k]] := List.take_succ_eq_append_getElem lk
      generalize hs : (ordL ls)[k] = s at *
      obtain ⟨a, ha1, ha2⟩ := q2 s (.int .i64 ls[s]) (by simp [ints, c7])
      have hls : ls[s] = ln ls s := (ln_mem c7).symm
      rw [hls] at ha2
      have ts : (s : Int).toNat = s := by omega
      refine ⟨b, hb1, by omega, by omega, (s : Int), hb2, ?_⟩
      rw [ts]
      have mnx : min (ln ls s - (foldC ls ((ordL ls).take k)).2.1).toNat 64 = (ln ls s - (foldC ls ((ordL ls).take k)).2.1).toNat := by omega
      have hcell := ho6.cell (j := s) (u := .int .i64 ((foldC ls ((ordL ls).take k)).2.2[s]'(by omega))) (by simp [ints, c10, c7])
      refine ⟨_, _, _, q1, a, ha1, by omega, by omega, _, ha2, by omega, ?_⟩
      rw [mnx, c4]
      refine ⟨⟨by omega, by omega⟩, _, _, _, q1, a, ha1, by omega, by omega, _, ha2, _, rfl, by omega, by omega, ⟨_, hcell⟩, ho6.notFrozen (add_block _ _), by omega, by omega, (ordL ls).length - (k + 1), by omega, k + 1, by omega, by omega, rfl, ?_, ?_, ?_, grown_set hg6 (add_block _ _) _⟩
      · rw [htk, c11]
      · rw [htk, c11]
      · rw [htk, c11]
        have hset := ho6.set (j := s) (by simp [ints, c10, c7]) (.int .i64 (cd ls s))
        simpa [ints, List.map_set] using hset
    · have hk' : k = (ordL ls).length := by omega
      subst hk'
      rw [List.take_length] at ho6
      have hcl : (foldC ls (ordL ls)).2.2 = codesL ls := (codesL_right hR).2.symm
      rw [hcl] at ho6
      have hbase : w.heap.size ≤ w4.heap.size := Nat.le_trans g1.size hsz4
      have h5 := ho6.ownsRow hbase (by simp only [maxLen]; omega)
      have : (ints (codesL ls)).length = n := by simp [ints, codesL_length hR, hn]
      rw [this] at h5
      refine ⟨_, _, _, rfl, h5, ?_⟩
      have e1 := grown_own (grown_trans g1 hg13) hg4 (by intro q hq; cases hq; have := g1.size; omega)
      exact grown_own (grown_trans e1 hg5) hg6 (by intro q hq; cases hq; exact hbase)

end Go.Proofs.Ytgahfcdmgdnjiaa

/-! Tables of codes: what stands in memory; New. -/
namespace Go.Proofs.Ytgahfcdmgdnjiaa
open Go Go.V Go.RowKit
set_option linter.unusedVariables false
set_option linter.unusedSimpArgs false
set_option maxHeartbeats 4000000
set_option maxRecDepth 100000

def encKey (p : Int × Int) : Value := .agg #[.int .i64 p.1, .int .i64 p.2]
def okI64 (x : Int) : Prop := -9223372036854775808 ≤ x ∧ x ≤ 9223372036854775807
def okKey (p : Int × Int) : Prop := okI64 p.1 ∧ okI64 p.2
theorem wf_of_i64 {x : Int} (h : okI64 x) : (Lit.int .i64 x).wf = true := by
  have h1 : IntKind.i64.min = -9223372036854775808 := rfl
  have h2 : IntKind.i64.max = 9223372036854775807 := rfl
  obtain ⟨a, b⟩ := h
  simp only [Lit.wf, Bool.and_eq_true, decide_eq_true_eq]
  omega

theorem keyArr : WideMaps.ArrKey P 163 3 2 := by
  constructor <;> first | kernel_rfl | decide
theorem keyT : KeyT P 163 encKey okKey where
  law := deep_law (m := 3) (by omega) (by kernel_rfl) (by kernel_rfl) (by kernel_rfl)
  key := fun x hx => ⟨_, WideMaps.keyOf_pair keyArr (by kernel_rfl) ⟨P.types.size - 1, by kernel_rfl⟩ (wf_of_i64 hx.1) (wf_of_i64 hx.2)⟩
  inj := by
    rintro ⟨a, b⟩ ⟨c, d⟩ h
    simp [encKey] at h
    simp [h]

/-- A code and its length are a symbol's, of the first j. -/
def Sym (ls : List Int) (j : Nat) (p : Int × Int) (v : Int) : Prop := ∃ s : Nat, s < j ∧ 0 < ln ls s ∧ p = (cd ls s, ln ls s) ∧ v = (s : Int)

/-- A table in memory, all of it below a mark. -/
def TabAt (w : World) (top g : Nat) (ls : List Int) : Prop := ∃ (A1 : Option Addr) (n1 c1 : Nat) (A2 : Option Addr) (n2 c2 m : Nat) (L : List ((Int × Int) × Int)),
  w.heap[g]? = some (.cells #[.slice A1 n1 c1, .slice A2 n2 c2, .map (some m)] 161 (0, 0)) ∧ Row w A1 (ints ls) ∧ n1 = ls.length ∧ Row w A2 (ints (codesL ls)) ∧ n2 = ls.length ∧ MapAt encKey okKey (Value.int .i64) w m L ∧
  (∀ p v, getK L p = some v ↔ Sym ls ls.length p v) ∧ g < top ∧ m < top ∧ (∀ a, A1 = some a → a.block < top) ∧ (∀ a, A2 = some a → a.block < top)

theorem TabAt.kp {w w' : World} {S : Nat → Prop} {top g : Nat} {ls : List Int} (h : TabAt w top g ls) (hk : Kp w w' S) (hS : ∀ k, k < top → ¬ S k) : TabAt w' top g ls := by
  obtain ⟨A1, n1, c1, A2, n2, c2, m, L, h1, h2, h3, h4, h5, h6, h7, h8, h9, h10, h11⟩ := h
  exact ⟨A1, n1, c1, A2, n2, c2, m, L, by rw [hk.block g (Array.getElem?_eq_some_iff.1 h1).1 (hS g h8)]; exact h1, h2.kp hk (fun a ha _ => hS _ (h10 a ha)), h3, h4.kp hk (fun a ha _ => hS _ (h11 a ha)), h5, h6.kp hk (hS m h9), h7, h8, h9, h10, h11⟩
theorem owned_blk {w : World} {base : Nat} {e : TypeId} {A : Option Addr} {n c : Nat} {xs : List Value} (h : Owned w base e A n c xs) : ∀ a, A = some a → a.block < w.heap.size := by
  intro a ha
  rcases h.cases.2 with ⟨e, _⟩ | ⟨g, e, _, _, _, h⟩
  · rw [e] at ha; cases ha
  · rw [e] at ha; cases ha; exact h.lt

theorem new_calls {w : World} {A : Option Addr} {n c : Nat} {ls : List Int} (hr : Row w A (ints ls)) (hn : n = ls.length) (hb : n ≤ 2 ^ 20) :
    Calls P 69 #[.slice A n c] w fun ev w' => w.grownBy w' none ∧ ((rightL ls = false ∧ ev = .returned (.tuple #[.pointer none, .bool false])) ∨
      (rightL ls = true ∧ ∃ g, ev = .returned (.tuple #[.pointer (some ⟨g, 0, none⟩), .bool true]) ∧ TabAt w' w'.heap.size g ls)) := by
  apply vc69; unfold VC69; try (conv => zeta)
  refine (right_calls hr hn hb).mono fun ev w1 hh => ?_
  obtain ⟨rfl, g1⟩ := hh
  refine ⟨_, rfl, fun hf => ⟨g1, .inl ⟨hf, rfl⟩⟩, fun ht => ?_⟩
  have hR : rightL ls = true := by simpa using ht
  obtain ⟨h256, hrng, _⟩ := right_is hR
  refine (cloneInts_calls (hr.kept_none g1) hn (by omega)).mono fun ev w2 hh => ?_
  obtain ⟨A1, n1, c1, rfl, o1, g2⟩ := hh
  refine ⟨_, _, _, rfl, ?_⟩
  have g12 := grown_trans g1 g2
  refine (codes_calls (hr.kept_none g12) hn hb).mono fun ev w3 hh => ?_
  obtain ⟨A2, n2, c2, rfl, o2, g3⟩ := hh
  refine ⟨_, _, _, rfl, ?_⟩
  have g13 := grown_trans g12 g3
  have hn1 : n1 = ls.length := by rw [o1.cases.1]; simp [ints]
  have hn2 : n2 = ls.length := by rw [o2.cases.1]; simp [ints, codesL_length hR]
  have hm := World.grownBy_alloc w3 (.map #[] 0) none
  have hmap : MapAt encKey okKey (Value.int .i64) (w3.alloc (.map #[] 0)) w3.heap.size ([] : List ((Int × Int) × Int)) := MapAt.made w3
  obtain ⟨w4, hw4⟩ : ∃ w4, w4 = w3.alloc (.map #[] 0) := ⟨_, rfl⟩
  rw [← hw4] at hm hmap ⊢
  have hs4 : w4.heap.size = w3.heap.size + 1 := by rw [hw4]; simp
  have hg5 := World.grownBy_alloc w4 (.cells #[.slice A1 n1 c1, .slice A2 n2 c2, .map (some w3.heap.size)] 161) none
  have hb5 := heap_alloc_new w4 (.cells #[.slice A1 n1 c1, .slice A2 n2 c2, .map (some w3.heap.size)] 161)
  have hmap5 := hmap.kept hg5
  obtain ⟨w5, hw5⟩ : ∃ w5, w5 = w4.alloc (.cells #[.slice A1 n1 c1, .slice A2 n2 c2, .map (some w3.heap.size)] 161) := ⟨_, rfl⟩
  rw [← hw5] at hg5 hb5 hmap5 ⊢
  have hs5 : w5.heap.size = w4.heap.size + 1 := by rw [hw5]; simp
  have g35 := grown_trans hm hg5
  have hr5 := (hr.kept_none g13).kept_none g35
  have r1 := (o1.row.kept_none g3).kept_none g35
  have r2 := o2.row.kept_none g35
  have b1 : ∀ a, A1 = some a → a.block < w3.heap.size := fun a ha => Nat.lt_of_lt_of_le (owned_blk o1 a ha) g3.size
  have b2 : ∀ a, A2 = some a → a.block < w3.heap.size := fun a ha => owned_blk o2 a ha
  have hol : 0 < (ordL ls).length := List.length_pos_iff.2 (posL_pos hR)
  have bA : ∀ a, A = some a → a.block < w3.heap.size := by
    intro a ha
    obtain ⟨b, e1, e2⟩ := (hr.kept_none g13).blk (by intro e; have : ls = [] := by simpa [ints] using e
                                                     rw [this] at hol; simp [ordL, posL, inOrder] at hol)
    rw [ha] at e1; cases e1; exact e2
  simp only [InK]
  refine ⟨fun q i w6 => ∃ (j : Nat) (L : List ((Int × Int) × Int)), i = (j : Int) ∧ j ≤ ls.length ∧ q = ls.length - j ∧ MapAt encKey okKey (Value.int .i64) w6 w3.heap.size L ∧ (∀ p v, getK L p = some v ↔ Sym ls j p v) ∧ w5.grownBy w6 (some w3.heap.size),
    ⟨_, 0, [], rfl, by omega, rfl, hmap5, by intro p v; simp [getK, Sym], grown_refl _ _⟩, ?_⟩
  rintro q i w6 ⟨j, L, rfl, hj, rfl, hL, hsym, hg6⟩
  have tj : (j : Int).toNat = j := by omega
  rw [tj]
  have hb6 : w6.heap[w4.heap.size]? = some (.cells #[.slice A1 n1 c1, .slice A2 n2 c2, .map (some w3.heap.size)] 161 (0, 0)) := by
    rw [hg6.block w4.heap.size (Array.getElem?_eq_some_iff.1 hb5).1 (by simp; omega)]; exact hb5
  refine ⟨fun hlt => ?_, fun hge => ?_⟩
  · have l1 : j < ls.length := by omega
    obtain ⟨a, ha1, ha2⟩ := (hr5.kept hg6 (fun a ha => by have := bA a ha; simp; omega)) j (.int .i64 ls[j]) (by simp [ints, l1])
    have hlj : ls[j] = ln ls j := (ln_mem l1).symm
    rw [hlj] at ha2
    refine ⟨a, ha1, by omega, by omega, _, ha2, fun hp => ?_, fun hp => ⟨by omega, ls.length - (j + 1), by omega, j + 1, L, by omega, by omega, rfl, hL, ?_, hg6⟩⟩
    · have hd6 : w6.drew.heap[w4.heap.size]? = some (.cells #[.slice A1 n1 c1, .slice A2 n2 c2, .map (some w3.heap.size)] 161 (0, 0)) := hb6
      have hcl := codesL_length hR
      have r26 : Row w6.drew A2 (ints (codesL ls)) := r2.kept (grown_drew hg6) (fun a ha => by have := b2 a ha; simp; omega)
      obtain ⟨b, hb1, hb2⟩ := r26 j (.int .i64 (cd ls j)) (by simp [ints, cd, hcl, l1, List.getD_eq_getElem?_getD])
      have hcb := cd_lt hR ⟨l1, by omega⟩
      have hc0 := cd_nonneg hR j
      have hrj := hrng j
      have hp15 : (2 : Int) ^ (ln ls j).toNat ≤ 2 ^ 15 := by
        have e1 : ((2 ^ (ln ls j).toNat : Nat) : Int) = 2 ^ (ln ls j).toNat := by simp
        have := Nat.pow_le_pow_right (n := 2) (by omega) (show (ln ls j).toNat ≤ 15 by omega)
        omega
      have hLd : MapAt encKey okKey (Value.int .i64) w6.drew w3.heap.size L := hL
      obtain ⟨w7, e1, e2, e3⟩ := hLd.update (mt := 159) (et := 3) keyT (by kernel_rfl) (k := (cd ls j, ln ls j)) ⟨⟨by show _ ≤ cd ls j; omega, by show cd ls j ≤ _; omega⟩, ⟨by show _ ≤ ln ls j; omega, by show ln ls j ≤ _; omega⟩⟩ (j : Int)
      refine ⟨_, rfl, _, by rw [add_lit]; exact blk_cell hd6 2, _, rfl, _, _, _, by rw [add_lit]; exact blk_cell hd6 1, b, hb1, by omega, by omega, _, hb2, w7, e1, by omega, ls.length - (j + 1), by omega, j + 1, updK L (cd ls j, ln ls j) (j : Int), by omega, by omega, rfl, e2, ?_, grown_trans (grown_drew hg6) e3⟩
      intro p v
      rw [getK_upd]
      by_cases e : (cd ls j, ln ls j) = p
      · rw [if_pos e]
        constructor
        · intro h; cases h
          exact ⟨j, by omega, by omega, e.symm, rfl⟩
        · rintro ⟨s, s1, s2, s3, rfl⟩
          rw [s3] at e
          simp only [Prod.mk.injEq] at e
          have := cd_inj hR ⟨l1, by omega⟩ ⟨show s < ls.length by omega, s2⟩ e.2 e.1
          rw [this]
      · rw [if_neg e, hsym]
        constructor
        · rintro ⟨s, s1, r⟩; exact ⟨s, by omega, r⟩
        · rintro ⟨s, s1, s2, s3, s4⟩
          refine ⟨s, ?_, s2, s3, s4⟩
          by_cases h : s = j
          · subst h; exact absurd s3.symm e
          · omega
    · intro p v
      rw [hsym]
      constructor
      · rintro ⟨s, s1, r⟩; exact ⟨s, by omega, r⟩
      · rintro ⟨s, s1, s2, s3, s4⟩
        refine ⟨s, ?_, s2, s3, s4⟩
        by_cases h : s = j
        · subst h; omega
        · omega
  · have hj' : j = ls.length := by omega
    subst hj'
    refine ⟨grown_own (grown_trans g13 g35) hg6 (by intro k hk; cases hk; exact g13.size), .inr ⟨hR, w4.heap.size, rfl, A1, n1, c1, A2, n2, c2, w3.heap.size, L, hb6, ?_, hn1, ?_, hn2, hL, hsym, ?_, hL.lt, ?_, ?_⟩⟩
    · exact r1.kept hg6 (fun a ha => by have := b1 a ha; simp; omega)
    · exact r2.kept hg6 (fun a ha => by have := b2 a ha; simp; omega)
    · exact (Array.getElem?_eq_some_iff.1 hb6).1
    · intro a ha; have := b1 a ha; have := hg6.size; omega
    · intro a ha; have := b2 a ha; have := hg6.size; omega
end Go.Proofs.Ytgahfcdmgdnjiaa

/-! Symbols written: both texts. -/
namespace Go.Proofs.Ytgahfcdmgdnjiaa
open Go Go.V Go.RowKit
set_option linter.unusedVariables false
set_option linter.unusedSimpArgs false
set_option maxHeartbeats 4000000
set_option maxRecDepth 100000

theorem code_small {ls : List Int} (h : rightL ls = true) {s : Nat} (hs : s < ls.length) (h0 : ln ls s ≠ 0) : 0 < ln ls s ∧ ln ls s ≤ 15 ∧ 0 ≤ cd ls s ∧ cd ls s ≤ 32767 := by
  obtain ⟨_, hrng, _⟩ := right_is h
  have hb := hrng s
  have hc := cd_lt h ⟨hs, by omega⟩
  have hp15 : (2 : Int) ^ (ln ls s).toNat ≤ 2 ^ 15 := by
    have e1 : ((2 ^ (ln ls s).toNat : Nat) : Int) = 2 ^ (ln ls s).toNat := by simp
    have := Nat.pow_le_pow_right (n := 2) (by omega) (show (ln ls s).toNat ≤ 15 by omega)
    omega
  exact ⟨by omega, hb.2, cd_nonneg h s, by omega⟩

theorem validS_no {ls : List Int} {s : Int} (h : validS ls s = false) (bits : List Bool) : bits ++ bitsFor ls s = bits := by simp [bitsFor, h]

theorem putSym_calls {w : World} {top base g gw : Nat} {ls : List Int} {bits : List Bool} {s : Int} (hT : TabAt w top g ls) (hR : rightL ls = true) (hW : Wr w base gw bits) (hl : bits.length ≤ 2 ^ 30) (hbase : base ≤ w.heap.size) :
    Calls P 70 #[.pointer (some ⟨g, 0, none⟩), .pointer (some ⟨gw, 0, none⟩), .int .i64 s] w fun ev w' => ev = .returned (.bool (validS ls s)) ∧ Wr w' base gw (bits ++ bitsFor ls s) ∧ Kp w w' (TyS w base [146, 5]) := by
  obtain ⟨A1, n1, c1, A2, n2, c2, m, L, hb, r1, hn1, r2, hn2, _⟩ := hT
  apply vc70; unfold VC70; try (conv => zeta)
  have c0 : w.cell? ⟨g, 0, none⟩ = some (.slice A1 n1 c1) := blk_cell hb 0
  have hbd : w.drew.heap[g]? = some (.cells #[.slice A1 n1 c1, .slice A2 n2 c2, .map (some m)] 161 (0, 0)) := hb
  have no : validS ls s = false → Wr w base gw (bits ++ bitsFor ls s) ∧ Kp w w (TyS w base [146, 5]) := fun h => by
    rw [validS_no h]; exact ⟨hW, Kp.refl _ _⟩
  refine ⟨fun h => (by cases h), fun _ => ⟨fun h => ?_, fun h0 => ⟨_, rfl, _, _, _, c0, fun h => ?_, fun h1 => ⟨_, rfl, _, _, _, c0, ?_⟩⟩⟩⟩
  · have : validS ls s = false := by simp [validS]; omega
    rw [this]; exact ⟨rfl, by simpa [this] using no this⟩
  · have : validS ls s = false := by simp [validS]; omega
    rw [this]; exact ⟨rfl, by simpa [this] using no this⟩
  · obtain ⟨k, rfl⟩ : ∃ k : Nat, s = k := ⟨s.toNat, by omega⟩
    have tk : (k : Int).toNat = k := by omega
    have lk : k < ls.length := by omega
    obtain ⟨a, ha1, ha2⟩ := r1 k (.int .i64 ls[k]) (by simp [ints, lk])
    rw [show ls[k] = ln ls k from (ln_mem lk).symm] at ha2
    rw [tk]
    refine ⟨a, ha1, by omega, by omega, _, ha2, fun hz => ?_, fun hz => ?_⟩
    · have : validS ls (k : Int) = false := by simp [validS, hz]
      rw [this]; exact ⟨rfl, by simpa [this] using no this⟩
    · have hv : validS ls (k : Int) = true := by simp [validS, lk, hz]
      obtain ⟨b1, b2, b3, b4⟩ := code_small hR lk hz
      have hcl := codesL_length hR
      obtain ⟨b, hb1, hb2⟩ := r2 k (.int .i64 (cd ls k)) (by simp [ints, cd, hcl, lk, List.getD_eq_getElem?_getD])
      refine ⟨_, rfl, _, _, _, by rw [add_lit]; exact blk_cell hbd 1, b, hb1, by omega, by omega, _, hb2, ⟨by omega, by omega⟩, _, rfl, _, _, _, c0, a, ha1, by omega, by omega, _, ha2, ?_⟩
      obtain ⟨q, hq⟩ : ∃ q : Nat, ln ls k = (q : Int) := ⟨(ln ls k).toNat, by omega⟩
      rw [hq]
      have hWd : Wr w.drew base gw bits := hW.kept (grown_drew (grown_refl w none))
      refine (put_calls hWd (v := cd ls k) (n := q) (by omega) (by omega) hl hbase).mono fun ev w2 hh => ?_
      obtain ⟨rfl, h2, h3⟩ := hh
      refine ⟨rfl, by rw [hv], ?_, ⟨h3.os, h3.tape, h3.output, h3.size, h3.block⟩⟩
      have : bitsFor ls (k : Int) = bitsOf (cd ls k) q := by simp [bitsFor, hv, hq]
      rw [this]; exact h2

end Go.Proofs.Ytgahfcdmgdnjiaa

/-! Symbols read: both texts. -/
namespace Go.Proofs.Ytgahfcdmgdnjiaa
open Go Go.V Go.RowKit
set_option linter.unusedVariables false
set_option linter.unusedSimpArgs false
set_option maxHeartbeats 4000000
set_option maxRecDepth 100000

theorem or_i64 {v b : Int} (h0 : 0 ≤ v ∧ v ≤ 100000) (hb : 0 ≤ b ∧ b ≤ 1) : bop .or .i64 (v * 2 ^ 1) b = 2 * v + b := by
  obtain ⟨n, rfl⟩ : ∃ n : Nat, v = n := ⟨v.toNat, by omega⟩
  obtain ⟨m, rfl⟩ : ∃ n : Nat, b = n := ⟨b.toNat, by omega⟩
  have em : (n : Int) * 2 ^ 1 = ((n * 2 ^ 1 : Nat) : Int) := by simp
  rw [em]
  have e1 : (BitVec.ofInt 64 ((n * 2 ^ 1 : Nat) : Int)).toNat = n * 2 ^ 1 := ofInt_nat (by omega)
  have e2 : (BitVec.ofInt 64 (m : Int)).toNat = m := ofInt_nat (by omega)
  show IntKind.i64.wrap (((BitVec.ofInt 64 ((n * 2 ^ 1 : Nat) : Int) ||| BitVec.ofInt 64 (m : Int)).toNat : Nat) : Int) = _
  rw [BitVec.toNat_or, e1, e2, Nat.or_comm, or_nat (by omega)]
  have hz : InK .i64 (((m + n * 2 ^ 1 : Nat)) : Int) := by
    show (-9223372036854775808 : Int) ≤ _ ∧ _ ≤ (9223372036854775807 : Int)
    omega
  rw [wrap_in hz]
  omega

theorem drop_bits {l : List Int} {at_ : Nat} (h : at_ + 1 ≤ 8 * l.length) : (unpackB l).drop at_ = bitAt l at_ :: (unpackB l).drop (at_ + 1) := by
  have hl := unpackB_length l
  rw [List.drop_eq_getElem_cons (by omega)]
  congr 1
  simp [unpackB]
theorem valOf_one {l : List Int} {at_ : Nat} (h : at_ + 1 ≤ 8 * l.length) : valOf (((unpackB l).drop at_).take 1) = b2i (bitAt l at_) := by
  rw [drop_bits h]; simp [valOf]

/-- What a taking answers, and where the reader is then. -/
def takeR (ls : List Int) (l : List Int) (at_ : Nat) : Value × Nat := match takeC ls 15 0 0 ((unpackB l).drop at_) with
  | some (s, k) => (.tuple #[.int .i64 (s : Int), .bool true], at_ + k)
  | none => (.tuple #[.int .i64 0, .bool false], at_)

end Go.Proofs.Ytgahfcdmgdnjiaa

/-! Symbols read by a table. -/
namespace Go.Proofs.Ytgahfcdmgdnjiaa
open Go Go.V Go.RowKit
set_option linter.unusedVariables false
set_option linter.unusedSimpArgs false
set_option maxHeartbeats 4000000
set_option maxRecDepth 100000

theorem zero_int (w : World) : Sem.run P (zeroValue 3) w = .ok (.int .i64 0) w := by
  obtain ⟨i, h1, h2, h3, h4, h5, h6⟩ := elemInt.ex
  simp [zeroValue, typeInfo, program, Sem.run, h2, h3]

/-- Two cells are laid in a block. -/
theorem lay2 {w : World} {g : Nat} {x y u v : Value} {t : TypeId} (h : w.heap[g]? = some (.cells #[x, y] t (0, 0))) :
    (∃ z, w.cell? ⟨g, 0, none⟩ = some z) ∧ w.frozen? ⟨g, 0, none⟩ = false ∧ (∃ z, (w.setCell ⟨g, 0, none⟩ u).cell? ⟨g, 1, none⟩ = some z) ∧ (w.setCell ⟨g, 0, none⟩ u).frozen? ⟨g, 1, none⟩ = false ∧
    ((w.setCell ⟨g, 0, none⟩ u).setCell ⟨g, 1, none⟩ v).heap[g]? = some (.cells #[u, v] t (0, 0)) := by
  have h1 := blk_set h 0 u
  have h2 := blk_set h1 1 v
  exact ⟨⟨x, blk_cell h 0⟩, blk_free h 0, ⟨y, blk_cell h1 1⟩, blk_free h1 1, h2⟩

theorem take_look {ls : List Int} (hR : rightL ls = true) {L : List ((Int × Int) × Int)} (hsym : ∀ p v, getK L p = some v ↔ Sym ls ls.length p v) {n : Nat} (hn : 0 < n) (v : Int) : getK L (v, (n : Int)) = (findSym ls n v).map fun s : Nat => (s : Int) := by
  cases e : findSym ls n v with
  | some s =>
    obtain ⟨h1, h2, h3⟩ := (findSym_some hR hn).1 e
    exact (hsym _ _).2 ⟨s, h1, by omega, by rw [h2, h3], rfl⟩
  | none =>
    cases e2 : getK L (v, (n : Int)) with
    | none => rfl
    | some u =>
      obtain ⟨s, h1, h2, h3, h4⟩ := (hsym _ _).1 e2
      simp only [Prod.mk.injEq] at h3
      have := (findSym_some hR hn).2 ⟨h1, h3.2.symm, h3.1.symm⟩
      rw [e] at this; cases this

theorem takeSym_calls {w : World} {top gt g : Nat} {A : Option Addr} {n c : Nat} {l : List Int} {at_ : Nat} {ls : List Int} (hT : TabAt w top gt ls) (htop : top ≤ g) (h : RdAt w g A n c l at_) (hl : l.length ≤ 2 ^ 40) (hb : ∀ x ∈ l, 0 ≤ x ∧ x ≤ 255) (hR : rightL ls = true) :
    Calls P 99 #[.pointer (some ⟨gt, 0, none⟩), .pointer (some ⟨g, 0, none⟩)] w fun ev w' => ev = .returned (takeR ls l at_).1 ∧ RdAt w' g A n c l (takeR ls l at_).2 ∧ Kp w w' (fun k => k = g) := by
  apply vc99; unfold VC99; try (conv => zeta)
  simp only [InK]
  have hglt : g < w.heap.size := (Array.getElem?_eq_some_iff.1 h.blk).1
  have hn0 := heap_alloc_new w (.cells #[.slice none 0 0, .int .i64 0] 172)
  obtain ⟨k1, k2, k3, k4, k5⟩ := lay2 (u := .slice A n c) (v := .int .i64 (at_ : Int)) hn0
  refine ⟨fun h => (by simp at h), fun _ => ⟨_, rfl, _, _, _, blk_cell h.blk 0, _, by rw [add_lit]; exact blk_cell h.blk 1, k1, k2, k3, k4, ?_⟩⟩
  have hk0 : Kp w (((w.alloc (.cells #[.slice none 0 0, .int .i64 0] 172)).setCell ⟨w.heap.size, 0, none⟩ (.slice A n c)).setCell ⟨w.heap.size, 1, none⟩ (.int .i64 (at_ : Int))) (fun k => k = g) :=
    (((Kp.refl w (fun k => k = g)).alloc _).set (.inl (Nat.le_refl _)) _).set (.inl (Nat.le_refl _)) _
  obtain ⟨w0, hw0⟩ : ∃ w0, w0 = ((w.alloc (.cells #[.slice none 0 0, .int .i64 0] 172)).setCell ⟨w.heap.size, 0, none⟩ (.slice A n c)).setCell ⟨w.heap.size, 1, none⟩ (.int .i64 (at_ : Int)) := ⟨_, rfl⟩
  rw [← hw0] at k5 hk0 ⊢
  have hr0 : RdAt w0 g A n c l at_ := by
    have hke : Kp w w0 (fun _ => False) := by
      rw [hw0]
      exact (((Kp.refl w (fun _ => False)).alloc _).set (.inl (Nat.le_refl _)) _).set (.inl (Nat.le_refl _)) _
    exact h.kp hke (fun h => h) (fun _ _ => .inr (fun h => h))
  have hdrop : ∀ {α : Prop}, α → α := fun h => h
  -- what is kept of the copy and of the table
  have keep : ∀ w1, Kp w0 w1 (fun k => k = g) → w1.heap[w.heap.size]? = some (.cells #[.slice A n c, .int .i64 (at_ : Int)] 172 (0, 0)) := by
    intro w1 h1
    rw [h1.block w.heap.size (Array.getElem?_eq_some_iff.1 k5).1 (by omega)]; exact k5
  have tab : ∀ w1, Kp w w1 (fun k => k = g) → TabAt w1 top gt ls := fun w1 h1 => hT.kp h1 (fun k hk e => by omega)
  have back : ∀ (w2 : World) (j : Nat), RdAt w2 g A n c l (at_ + j) → Kp w0 w2 (fun k => k = g) → takeC ls 15 0 0 ((unpackB l).drop at_) = none → ∃ (x49A : Option Addr) (x49n x49c : Nat), w2.cell? ⟨w.heap.size, 0, none⟩ = some (.slice x49A x49n x49c) ∧ (∃ x49 : Int, w2.cell? ⟨w.heap.size, 1, none⟩ = some (.int .i64 x49) ∧ (∃ a50 : Addr, (some ⟨g, 0, none⟩ : Option Addr) = some a50 ∧ ((∃ u : Value, w2.cell? a50 = some u) ∧ w2.frozen? a50 = false ∧ ((∃ u : Value, (w2.setCell a50 (.slice x49A x49n x49c)).cell? (a50.add 1) = some u) ∧ (w2.setCell a50 (.slice x49A x49n x49c)).frozen? (a50.add 1) = false ∧
      (Ending.returned (.tuple #[.int .i64 0, .bool false]) = .returned (takeR ls l at_).1 ∧ RdAt ((w2.setCell a50 (.slice x49A x49n x49c)).setCell (a50.add 1) (.int .i64 x49)) g A n c l (takeR ls l at_).2 ∧ Kp w ((w2.setCell a50 (.slice x49A x49n x49c)).setCell (a50.add 1) (.int .i64 x49)) (fun k => k = g)))))) := by
    intro w2 j h2 hk ht
    have hcp := keep w2 hk
    obtain ⟨q1, q2, q3, q4, q5⟩ := lay2 (u := .slice A n c) (v := .int .i64 (at_ : Int)) h2.blk
    refine ⟨_, _, _, blk_cell hcp 0, _, blk_cell hcp 1, _, rfl, q1, q2, ?_⟩
    rw [add_lit]
    refine ⟨q3, q4, ?_, ?_, ((hk0.trans hk).set (.inr rfl) _).set (.inr rfl) _⟩
    · simp [takeR, ht]
    · refine ⟨by simpa [takeR, ht] using q5, ?_, h2.len, by simp only [takeR, ht]; exact h.le, h2.ne⟩
      exact h2.row.kpE (S := fun q => q = g) (((Kp.refl w2 (fun q => q = g)).set (.inr rfl) _).set (.inr rfl) _) (fun a ha => (h2.ne a ha).imp (fun e => by rw [e]; rfl) id)
  refine ⟨fun q v n' w1 => ∃ j : Nat, n' = (j : Int) ∧ j ≤ 15 ∧ q = 15 - j ∧ 0 ≤ v ∧ v < 2 ^ j ∧ at_ + j ≤ 8 * l.length ∧ takeC ls 15 0 0 ((unpackB l).drop at_) = takeC ls (15 - j) j v ((unpackB l).drop (at_ + j)) ∧ RdAt w1 g A n c l (at_ + j) ∧ Kp w0 w1 (fun k => k = g),
    ⟨_, 0, rfl, by omega, rfl, by omega, by simp, h.le, rfl, hr0, Kp.refl _ _⟩, ?_⟩
  rintro q v n' w1 ⟨j, rfl, hj, rfl, hv0, hv1, hle, htk, hr1, hk1⟩
  have hp15 : (2 : Int) ^ j ≤ 2 ^ 15 := by
    have e1 : ((2 ^ j : Nat) : Int) = 2 ^ j := by simp
    have := Nat.pow_le_pow_right (n := 2) (by omega) hj
    omega
  refine ⟨fun hlt => ?_, fun hge => ?_⟩
  · obtain ⟨r, hr⟩ : ∃ r, 15 - j = r + 1 := ⟨15 - j - 1, by omega⟩
    rw [hr] at htk
    refine (take_calls (k := 1) hr1 hl hb (by omega)).mono fun ev w2 hh => ?_
    obtain ⟨k2, hh | hh⟩ := hh
    · obtain ⟨hfit, rfl, hr2⟩ := hh
      refine ⟨_, _, rfl, fun h => (by cases h), fun _ => ?_⟩
      rw [valOf_one hfit]
      have hb01 := b2i_bound (bitAt l (at_ + j))
      rw [or_i64 ⟨hv0, by omega⟩ hb01]
      have hk12 := hk1.trans k2
      rw [drop_bits hfit] at htk
      have hunf : takeC ls (r + 1) j v (bitAt l (at_ + j) :: (unpackB l).drop (at_ + j + 1)) = match findSym ls (j + 1) (2 * v + b2i (bitAt l (at_ + j))) with
        | some s => some (s, j + 1)
        | none => takeC ls r (j + 1) (2 * v + b2i (bitAt l (at_ + j))) ((unpackB l).drop (at_ + j + 1)) := rfl
      rw [hunf] at htk
      obtain ⟨A1, n1, c1, A2, n2, c2, m, L, hbk, _, _, _, _, hL, hsym, _⟩ := tab w2 (hk0.trans hk12)
      have hlk := hL.look (mt := 159) (et := 3) keyT (by kernel_rfl) (zero_int w2) (k := (2 * v + b2i (bitAt l (at_ + j)), (j : Int) + 1)) ⟨⟨by show _ ≤ 2 * v + _; omega, by show 2 * v + _ ≤ _; omega⟩, ⟨by show _ ≤ (j : Int) + 1; omega, by show (j : Int) + 1 ≤ _; omega⟩⟩ true
      have hgk := take_look hR hsym (n := j + 1) (by omega) (2 * v + b2i (bitAt l (at_ + j)))
      rw [show ((j + 1 : Nat) : Int) = (j : Int) + 1 by omega] at hgk
      rw [hgk] at hlk
      refine ⟨⟨by omega, by omega, by omega⟩, by omega, _, rfl, _, by rw [add_lit]; exact blk_cell hbk 2, by omega, ?_⟩
      cases hf : findSym ls (j + 1) (2 * v + b2i (bitAt l (at_ + j))) with
      | some t =>
        rw [hf] at hlk htk
        refine ⟨(t : Int), true, hlk, fun _ => ?_, fun h => (by cases h)⟩
        have hTT : takeR ls l at_ = (.tuple #[.int .i64 (t : Int), .bool true], at_ + (j + 1)) := by simp [takeR, htk]
        rw [hTT]
        exact ⟨rfl, hr2, hk0.trans hk12⟩
      | none =>
        rw [hf] at hlk htk
        refine ⟨0, false, hlk, fun h => (by cases h), fun _ => ?_⟩
        have hv2 : 2 * v + b2i (bitAt l (at_ + j)) < 2 ^ (j + 1) := by rw [pow_succ']; omega
        refine ⟨by omega, 15 - (j + 1), by omega, j + 1, by omega, by omega, rfl, by omega, hv2, hfit, ?_, hr2, hk12⟩
        rw [htk, show 15 - (j + 1) = r by omega]; rfl
    · obtain ⟨hno, rfl, hr2⟩ := hh
      refine ⟨_, _, rfl, fun _ => ?_, fun h => absurd rfl h⟩
      refine back w2 j hr2 (hk1.trans k2) ?_
      rw [htk]
      have : (unpackB l).drop (at_ + j) = [] := List.drop_eq_nil_of_le (by rw [unpackB_length]; omega)
      rw [this]; rfl
  · have hj' : j = 15 := by omega
    subst hj'
    refine back w1 15 hr1 hk1 ?_
    rw [htk]; rfl
end Go.Proofs.Ytgahfcdmgdnjiaa
