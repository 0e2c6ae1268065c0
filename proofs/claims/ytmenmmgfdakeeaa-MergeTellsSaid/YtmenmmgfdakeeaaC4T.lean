/- slices: SortStableFunc (the members pointers): what it leaves is the row in order. -/
import Derived.Test.YtmenmmgfdakeeaaC3T
namespace Go.Proofs.Ytmenmmgfdakeeaa
open Go Go.V
set_option linter.unusedVariables false
set_option linter.unusedSimpArgs false
set_option maxHeartbeats 2000000

theorem stableT  {w : World} {g cap : Nat} {key : (Option Addr) → Int} {X : List (Option Addr)} {n : Nat}
    (hown : Own w g 127 cap (X.map Value.pointer)) (hc : CmpOkT  w g key X) (hn : n = X.length) (hbig : n ≤ 2 ^ 58) :
    Calls P 153 #[.slice (some ⟨g, 0, none⟩) n cap, .int .i64 (n : Int), .func (.func 131) #[] #[]] w fun ev w' =>
      ev = .returned (.tuple #[]) ∧ Own w' g 127 cap ((inOrder key X).map Value.pointer) ∧ w.grownBy w' (some g) := by
  apply vc153
  unfold VC153
  simp only [InK]
  -- blocks of twenty
  refine ⟨fun ms a b w1 => ∃ X1 X2 U, X = X1 ++ X2 ∧ Full key 20 U ∧ SameK key U X1 ∧ a = X1.length ∧ b = a + 20 ∧ ms = X2.length ∧ Own w1 g 127 cap ((U ++ X2).map Value.pointer) ∧ w.grownBy w1 (some g),
    ⟨_, [], X, [], rfl, .nil, SameK.refl _, rfl, rfl, rfl, by simpa using hown, grown_refl _ _⟩, ?_⟩
  rintro ms a b w1 ⟨X1, X2, U, rfl, hU, hUX, rfl, rfl, rfl, ho1, hg1⟩
  have lU := hUX.length
  simp only [List.length_append] at hn
  refine ⟨fun hle => ?_, fun hgt => ?_⟩
  · have l1 : (X2.take 20).length = 20 := by simp; omega
    have hX2 : X2 = X2.take 20 ++ X2.drop 20 := (List.take_append_drop _ _).symm
    generalize X2.take 20 = Y at hX2 l1
    generalize X2.drop 20 = X3 at hX2
    subst hX2
    simp only [List.length_append] at hn
    refine (insertionT  (A := U) (X := Y) (B := X3) (key := key) (by simpa using ho1) ((hc.grown hg1).sub (by intro z hz; simp [hz])) (by simp; omega) (by omega) (by omega) (by omega)).mono fun ev w2 hh => ?_
    obtain ⟨k1, ⟨Z, z1, z2, z3⟩, k3⟩ := hh
    have lZ := z2.length
    refine ⟨k1, by omega, X3.length, by simp; omega, X1 ++ Y, X3, U ++ Z, by simp, .snoc hU (by omega) z1, hUX.append z2, by simp; omega, by omega, rfl, by simpa using z3, grown_trans hg1 k3⟩
  refine (insertionT  (A := U) (X := X2) (B := []) (key := key) (by simpa using ho1) ((hc.grown hg1).sub (by intro z hz; simp [hz])) (by simp; omega) (by omega) (by omega) (by omega)).mono fun ev w2 hh => ?_
  obtain ⟨k1, ⟨Z, z1, z2, z3⟩, k3⟩ := hh
  have lZ := z2.length
  refine ⟨k1, ?_⟩
  -- blocks twice as long, again and again
  refine ⟨fun ms s w3 => ∃ (k : Nat) (V : List (Option Addr)), s = k ∧ 0 < k ∧ ms = n - k ∧ Blk key k V ∧ SameK key V (X1 ++ X2) ∧ Own w3 g 127 cap (V.map Value.pointer) ∧ w.grownBy w3 (some g),
    ⟨_, 20, U ++ Z, rfl, by omega, rfl, hU.blk (.last (by omega) z1), hUX.append z2, by simpa using z3, grown_trans hg1 k3⟩, ?_⟩
  rintro ms s w3 ⟨k, V, rfl, hk, rfl, hV, hVX, ho3, hg3⟩
  have lV := hVX.length
  simp only [List.length_append] at lV
  refine ⟨fun hlt => ?_, fun hge => ?_⟩
  · refine ⟨by omega, ?_⟩
    refine ⟨fun ms a b w4 => ∃ V1 V2, Full key (k + k) V1 ∧ Blk key k V2 ∧ SameK key (V1 ++ V2) (X1 ++ X2) ∧ a = V1.length ∧ b = a + (k + k : Nat) ∧ ms = V2.length ∧ Own w4 g 127 cap ((V1 ++ V2).map Value.pointer) ∧ w.grownBy w4 (some g),
      ⟨_, [], V, .nil, hV, by simpa using hVX, rfl, by simp; omega, rfl, by simpa using ho3, hg3⟩, ?_⟩
    rintro ms a b w4 ⟨V1, V2, hV1, hV2, hs4, rfl, rfl, rfl, ho4, hg4⟩
    have l4 := hs4.length
    simp only [List.length_append] at l4
    refine ⟨fun hle => ?_, fun hgt => ?_⟩
    · obtain ⟨Y1, Y2, Y3, rfl, m1, m2, m3, m4, m5⟩ := hV2.cut2 hk (by omega)
      simp only [List.length_append] at l4
      refine ⟨by omega, ?_⟩
      refine (symMergeT  (n := n) (by omega) _ (A := V1) (X := Y1) (Y := Y2) (B := Y3) (key := key) (Nat.le_refl _) (by simpa using ho4) ((hc.grown hg4).sub (fun z hz => hs4.mem (by simp at hz ⊢; rcases hz with e | e <;> simp [e]))) m3 m4 (by omega) (by omega) (by simp; omega) (by omega) (by omega) (by omega)).mono fun ev w5 hh => ?_
      obtain ⟨q1, ⟨Z', y1, y2, y3⟩, q3⟩ := hh
      have lZ' := y2.length
      simp only [List.length_append] at lZ'
      refine ⟨q1, by omega, by omega, Y3.length, by simp; omega, V1 ++ Z', Y3, .snoc hV1 (by omega) y1, m5, ?_, by simp; omega, by omega, rfl, by simpa using y3, grown_trans hg4 q3⟩
      refine SameK.trans ?_ hs4
      have : SameK key (V1 ++ Z' ++ Y3) (V1 ++ (Y1 ++ Y2) ++ Y3) := ((SameK.refl _).append y2).append (SameK.refl _)
      simpa using this
    · refine ⟨by omega, fun hlt2 => ?_, fun hge2 => ?_⟩
      · obtain ⟨Y1, Y2, rfl, m1, m2, m3⟩ := hV2.cut (by omega)
        simp only [List.length_append] at l4
        refine (symMergeT  (n := n) (by omega) _ (A := V1) (X := Y1) (Y := Y2) (B := []) (key := key) (Nat.le_refl _) (by simpa using ho4) ((hc.grown hg4).sub (fun z hz => hs4.mem (by simp at hz ⊢; rcases hz with e | e <;> simp [e]))) m2 (m3.small hk (by omega)) (by omega) (by omega) (by simp; omega) (by omega) (by omega) (by omega)).mono fun ev w5 hh => ?_
        obtain ⟨q1, ⟨Z', y1, y2, y3⟩, q3⟩ := hh
        have lZ' := y2.length
        simp only [List.length_append] at lZ'
        refine ⟨q1, by omega, n - (k + k), by omega, k + k, V1 ++ Z', by omega, by omega, rfl, hV1.blk (.last (by omega) y1), ?_, by simpa using y3, grown_trans hg4 q3⟩
        exact ((SameK.refl _).append y2).trans hs4
      · refine ⟨by omega, n - (k + k), by omega, k + k, V1 ++ V2, by omega, by omega, rfl, hV1.blk (.last (by omega) (hV2.small hk (by omega))), hs4, ho4, hg4⟩
  · refine ⟨trivial, ?_, hg3⟩
    rw [← inOrder_of (hV.small hk (by omega)) hVX]
    exact ho3

theorem sortedT  {w : World} {g cap : Nat} {key : (Option Addr) → Int} {X : List (Option Addr)} {n : Nat}
    (hown : Own w g 127 cap (X.map Value.pointer)) (hc : CmpOkT  w g key X) (hn : n = X.length) (hbig : n ≤ 2 ^ 58) :
    Calls P 130 #[.slice (some ⟨g, 0, none⟩) n cap, .func (.func 131) #[] #[]] w fun ev w' =>
      ev = .returned (.tuple #[]) ∧ Own w' g 127 cap ((inOrder key X).map Value.pointer) ∧ w.grownBy w' (some g) := by
  apply vc130
  unfold VC130
  refine (stableT  hown hc hn hbig).mono fun ev w' hh => ?_
  exact ⟨hh.1, rfl, hh.2⟩
end Go.Proofs.Ytmenmmgfdakeeaa
