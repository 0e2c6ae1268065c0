/- archipelagolaw5.MergeTells: the walk. -/
import Derived.Test.YtmenmmgfdakeeaaGFg
namespace Go.Proofs.Ytmenmmgfdakeeaa
open Go Go.V Go.RowKit
set_option linter.unusedVariables false
set_option linter.unusedSimpArgs false
set_option maxHeartbeats 4000000
set_option maxRecDepth 100000

theorem and_bound (x : Int) (m : Nat) (hm : m < 2 ^ 63) : 0 ≤ bop .and .i64 x (m : Int) ∧ bop .and .i64 x (m : Int) ≤ m := by
  have h1 : (BitVec.ofInt 64 x &&& BitVec.ofInt 64 (m : Int)).toNat ≤ m := by
    rw [BitVec.toNat_and]
    have : (BitVec.ofInt 64 (m : Int)).toNat = m := by
      rw [BitVec.toNat_ofInt]; omega
    rw [this]
    exact Nat.and_le_right
  have h2 : bop .and .i64 x (m : Int) = (((BitVec.ofInt 64 x &&& BitVec.ofInt 64 (m : Int)).toNat : Nat) : Int) := by
    show IntKind.i64.wrap (((BitVec.ofInt 64 x &&& BitVec.ofInt 64 (m : Int)).toNat : Nat) : Int) = _
    apply wrap_in
    constructor
    · show (-9223372036854775808 : Int) ≤ _
      omega
    · show _ ≤ (9223372036854775807 : Int)
      omega
  rw [h2]
  omega

theorem lensL_short (xs : List Int) (most : Int) : (lensL xs most).length ≤ xs.length := by
  unfold lensL
  split
  · simp
  · split
    · simp
    · rw [addL_length]; simp

theorem walkTells {w : World} {A B : Option Addr} {n c m d : Nat} {raw l : List Int} {most k : Int} (hraw : Row w A (ints raw)) (hn : n = raw.length) (hrb : ∀ x ∈ raw, -9223372036854775808 ≤ x ∧ x ≤ 9223372036854775807)
    (hmost : -9223372036854775808 ≤ most ∧ most ≤ 9223372036854775807) (hrow : Row w B (u16s l)) (hm : m = l.length) (hb : ∀ x ∈ l, 0 ≤ x ∧ x ≤ 65535) (hk : 0 ≤ k ∧ k ≤ 255) :
    Calls P 3 #[.slice A n c, .int .i64 most, .slice B m d, .int .u8 k] w fun ev w' => ev = .returned (.bool true) ∧ w.grownBy w' none := by
  apply vc3; unfold VC3
  refine known_calls.mono fun ev w1 hh => ?_
  obtain ⟨rfl, g1⟩ := hh
  refine ⟨true, rfl, fun h => absurd h (by simp), fun _ => ⟨fun _ => ⟨rfl, g1⟩, fun h40 => ⟨fun _ => ⟨rfl, g1⟩, fun h40' => ?_⟩⟩⟩
  refine (counts_calls (hrow.kept_none g1) hm hb hk (by omega)).mono fun ev w2 hh => ?_
  obtain ⟨A2, n2, c2, rfl, o2, g2⟩ := hh
  have hxl : (countsL k l).length = l.length := by simp [countsL]
  generalize hxs : countsL k l = xs at *
  have hn2 : n2 = xs.length := by rw [o2.cases.1]; simp [ints]
  simp only [InK]
  have hg2 := grown_trans g1 g2
  refine ⟨_, _, _, rfl, by omega, by omega, by omega, ?_⟩
  have gal := World.grownBy_alloc w2 (.cells #[.int .i64 most, .int .i64 (k % 17 - 1), .int .i64 15, .int .i64 5] 3) none
  have hrm : Row (w2.alloc (.cells #[.int .i64 most, .int .i64 (k % 17 - 1), .int .i64 15, .int .i64 5] 3)) (some ⟨w2.heap.size, 0, none⟩) (ints [most, k % 17 - 1, 15, 5]) := row_alloc w2 _ 3
  obtain ⟨w3, hw3⟩ : ∃ w3, w3 = w2.alloc (.cells #[.int .i64 most, .int .i64 (k % 17 - 1), .int .i64 15, .int .i64 5] 3) := ⟨_, rfl⟩
  rw [← hw3] at gal hrm ⊢
  have hr3 : Row w3 A (ints raw) := (hraw.kept_none hg2).kept_none gal
  have hx3 : Row w3 A2 (ints xs) := o2.row.kept_none gal
  have hg3 := grown_trans hg2 gal
  refine ⟨fun ms i w' => ∃ j : Nat, i = (j : Int) ∧ j ≤ 4 ∧ ms = 4 - j ∧ w3.grownBy w' none, ⟨_, 0, rfl, by omega, rfl, grown_refl _ _⟩, ?_⟩
  rintro ms i w4 ⟨j, rfl, hj, rfl, hg4⟩
  have tj : (j : Int).toNat = j := by omega
  rw [tj]
  refine ⟨fun hlt => ?_, fun hge => ?_⟩
  · have l4 : j < [most, k % 17 - 1, 15, 5].length := by simp; omega
    obtain ⟨a, ha1, ha2⟩ := (hrm.kept_none hg4) j (.int .i64 ([most, k % 17 - 1, 15, 5][j])) (by rw [List.getElem?_map, List.getElem?_eq_getElem l4]; rfl)
    refine ⟨a, ha1, by omega, by omega, _, ha2, ?_⟩
    generalize [most, k % 17 - 1, 15, 5][j] = z
    refine (lengths_calls (hx3.kept_none hg4) hn2).mono fun ev w5 hh => ?_
    obtain ⟨A5, n5, c5, rfl, o5, g5⟩ := hh
    refine ⟨_, _, _, rfl, ?_⟩
    have h45 := grown_trans hg4 g5
    refine (refLengths_calls (hx3.kept_none h45) hn2).mono fun ev w6 hh => ?_
    obtain ⟨A6, n6, c6, rfl, o6, g6⟩ := hh
    refine ⟨_, _, _, rfl, ?_⟩
    have hs := lensL_short xs z
    have e5 : n5 = (lensL xs z).length := by rw [o5.cases.1]; simp [ints]
    have e6 : n6 = (lensL xs z).length := by rw [o6.cases.1]; simp [ints]
    refine (ints_calls (o5.row.kept_none g6) o6.row e5 e6 (by omega)).mono fun ev w7 hh => ?_
    obtain ⟨rfl, g7⟩ := hh
    refine ⟨_, rfl, fun h => by simp at h, fun _ => ?_⟩
    have h47 := grown_trans h45 (grown_trans g6 g7)
    refine (lengths_calls (hr3.kept_none h47) hn).mono fun ev w8 hh => ?_
    obtain ⟨A8, n8, c8, rfl, o8, g8⟩ := hh
    refine ⟨_, _, _, rfl, ?_⟩
    have h48 := grown_trans h47 g8
    refine (refLengths_calls (hr3.kept_none h48) hn).mono fun ev w9 hh => ?_
    obtain ⟨A9, n9, c9, rfl, o9, g9⟩ := hh
    refine ⟨_, _, _, rfl, ?_⟩
    have hs' := lensL_short raw z
    have e8 : n8 = (lensL raw z).length := by rw [o8.cases.1]; simp [ints]
    have e9 : n9 = (lensL raw z).length := by rw [o9.cases.1]; simp [ints]
    refine (ints_calls (o8.row.kept_none g9) o9.row e8 e9 (by omega)).mono fun ev w10 hh => ?_
    obtain ⟨rfl, g10⟩ := hh
    exact ⟨_, rfl, fun h => by simp at h, fun _ => ⟨by omega, 4 - (j + 1), by omega, j + 1, by omega, by omega, rfl, grown_trans h48 (grown_trans g9 g10)⟩⟩
  · refine ⟨fun ms A' n' c' i w' => ∃ (j : Nat) (ys : List Int), i = (j : Int) ∧ j ≤ raw.length ∧ ms = raw.length - j ∧ Owned w' w4.heap.size 3 A' n' c' (ints ys) ∧ ys.length = j ∧ (∀ y ∈ ys, 0 ≤ y ∧ y ≤ 63) ∧ w4.grownBy w' none,
      ⟨_, 0, [], rfl, by omega, rfl, World.ownsRow_nil _ _ _ _, rfl, by simp, grown_refl _ _⟩, ?_⟩
    rintro ms A' n' c' i w5 ⟨q, ys, rfl, hq, rfl, o5, hyl, hyb, hg5⟩
    have h35 := grown_trans hg4 hg5
    have en' : n' = ys.length := by rw [o5.cases.1]; simp [ints]
    have tq : (q : Int).toNat = q := by omega
    rw [tq]
    refine ⟨fun hlt => ?_, fun hge2 => ?_⟩
    · have l1 : q < raw.length := by omega
      obtain ⟨a, ha1, ha2⟩ := (hr3.kept_none h35) q (.int .i64 raw[q]) (by simp [ints, l1])
      obtain ⟨A6, n6, c6, w6, e1, e2, e3⟩ := append_int (x := bop .and .i64 raw[q] 63) o5 (by omega) hg5.size
      refine ⟨a, ha1, by omega, by omega, _, ha2, A6, n6, c6, w6, e1, by omega, raw.length - (q + 1), by omega, q + 1, _, by omega, by omega, rfl, e2, by simp [hyl], ?_, grown_own hg5 e3 o5.block_ge⟩
      intro y hy
      rcases List.mem_append.1 hy with e | e
      · exact hyb y e
      · have : y = bop .and .i64 raw[q] 63 := by simpa using e
        rw [this]
        exact and_bound raw[q] 63 (by omega)
    · have hr5 := hr3.kept_none h35
      have hx5 := hx3.kept_none h35
      refine (kraft_calls hr5 hn (by omega)).mono fun ev w6 hh => ?_
      obtain ⟨rfl, g6⟩ := hh
      refine ⟨_, rfl, ?_⟩
      refine (refKraft_calls (hr5.kept_none g6) hn (by omega)).mono fun ev w7 hh => ?_
      obtain ⟨rfl, g7⟩ := hh
      refine ⟨_, rfl, fun _ => ?_, fun h => absurd rfl h⟩
      have h57 := grown_trans g6 g7
      refine (kraft_calls (o5.row.kept_none h57) en' (by omega)).mono fun ev w8 hh => ?_
      obtain ⟨rfl, g8⟩ := hh
      refine ⟨_, rfl, ?_⟩
      have h58 := grown_trans h57 g8
      refine (refKraft_calls (o5.row.kept_none h58) en' (by omega)).mono fun ev w9 hh => ?_
      obtain ⟨rfl, g9⟩ := hh
      refine ⟨_, rfl, fun _ => ?_, fun h => absurd rfl h⟩
      have h59 := grown_trans h58 g9
      refine (cost_calls (hx5.kept_none h59) (o5.row.kept_none h59) hn2 en' (by omega) (fun y hy => by have := hyb y hy; omega)).mono fun ev w10 hh => ?_
      obtain ⟨rfl, g10⟩ := hh
      refine ⟨_, rfl, ?_⟩
      have h510 := grown_trans h59 g10
      refine (refCost_calls (hx5.kept_none h510) (o5.row.kept_none h510) hn2 en' (by omega) (fun y hy => by have := hyb y hy; omega)).mono fun ev w11 hh => ?_
      obtain ⟨rfl, g11⟩ := hh
      refine ⟨_, rfl, by simp, ?_⟩
      exact grown_trans hg3 (grown_trans h35 (grown_trans h510 g11))
end Go.Proofs.Ytmenmmgfdakeeaa
