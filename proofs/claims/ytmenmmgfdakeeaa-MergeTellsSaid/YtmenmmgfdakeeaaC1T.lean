/- slices: swapRange, rotate (the members pointers): what they leave. -/
import Derived.Test.YtmenmmgfdakeeaaXS
import Derived.Test.YtmenmmgfdakeeaaM1
import Derived.Test.YtmenmmgfdakeeaaS1
namespace Go.Proofs.Ytmenmmgfdakeeaa
open Go Go.V
set_option linter.unusedVariables false
set_option linter.unusedSimpArgs false

theorem swapRangeT  {w : World} {g cap : Nat} {A X M Y B : List (Option Addr)} {n : Nat} {a b c : Int}
    (hown : Own w g 127 cap ((A ++ X ++ M ++ Y ++ B).map Value.pointer)) (hxy : X.length = Y.length) (hn : n = (A ++ X ++ M ++ Y ++ B).length) (hbig : n ≤ 2 ^ 62)
    (ha : a = A.length) (hb : b = A.length + X.length + M.length) (hc : c = X.length) :
    Calls P 197 #[.slice (some ⟨g, 0, none⟩) n cap, .int .i64 a, .int .i64 b, .int .i64 c, .func (.func 131) #[] #[]] w fun ev w' =>
      ev = .returned (.tuple #[]) ∧ Own w' g 127 cap ((A ++ Y ++ M ++ X ++ B).map Value.pointer) ∧ w.grownBy w' (some g) := by
  apply vc197
  unfold VC197
  have hlen : n = A.length + X.length + M.length + Y.length + B.length := by simp [hn]; omega
  refine ⟨fun m i w' => ∃ X1 X2 Y1 Y2, X = X1 ++ X2 ∧ Y = Y1 ++ Y2 ∧ X1.length = Y1.length ∧ i = X1.length ∧ m = X2.length ∧
    Own w' g 127 cap ((A ++ Y1 ++ X2 ++ M ++ X1 ++ Y2 ++ B).map Value.pointer) ∧ w.grownBy w' (some g), ⟨X.length, [], X, [], Y, rfl, rfl, rfl, rfl, rfl, by simpa using hown, grown_refl _ _⟩, ?_⟩
  rintro m i w' ⟨X1, X2, Y1, Y2, rfl, rfl, hl, rfl, rfl, ho, hg⟩
  have hl2 : X2.length = Y2.length := by simp at hxy; omega
  simp only [List.length_append] at hlen hb hc
  refine ⟨fun hlt => ?_, fun hge => ?_⟩
  · cases X2 with
    | nil => simp at hc; omega
    | cons x X2 =>
    cases Y2 with
    | nil => simp at hl2
    | cons y Y2 =>
    simp only [List.length_cons] at hlen hb hc hl2
    have e1 : (A ++ Y1 ++ (x :: X2) ++ M ++ X1 ++ (y :: Y2) ++ B).map Value.pointer = ((A ++ Y1 ++ (x :: X2) ++ M ++ X1).map Value.pointer) ++ Value.pointer y :: ((Y2 ++ B).map Value.pointer) := by simp
    have e2 : (A ++ Y1 ++ (x :: X2) ++ M ++ X1 ++ (y :: Y2) ++ B).map Value.pointer = ((A ++ Y1).map Value.pointer) ++ Value.pointer x :: ((X2 ++ M ++ X1 ++ (y :: Y2) ++ B).map Value.pointer) := by simp
    have j1 : (b + (X1.length : Int)).toNat = ((A ++ Y1 ++ (x :: X2) ++ M ++ X1).map Value.pointer).length := by simp; omega
    have j2 : (a + (X1.length : Int)).toNat = ((A ++ Y1).map Value.pointer).length := by simp; omega
    have o1 := (ho.drew.set_mid e2 j2 (v := Value.pointer y) rfl)
    have e3 : ((A ++ Y1).map Value.pointer) ++ Value.pointer y :: ((X2 ++ M ++ X1 ++ (y :: Y2) ++ B).map Value.pointer) = ((A ++ Y1 ++ (y :: X2) ++ M ++ X1).map Value.pointer) ++ Value.pointer y :: ((Y2 ++ B).map Value.pointer) := by simp
    have j3 : (b + (X1.length : Int)).toNat = ((A ++ Y1 ++ (y :: X2) ++ M ++ X1).map Value.pointer).length := by simp; omega
    have o2 := (o1.set_mid e3 j3 (v := Value.pointer x) rfl)
    simp only [InK]
    refine ⟨by omega, by omega, by omega, _, rfl, by omega, by omega, y, ho.drew.cell_mid e1 j1, by omega, _, rfl, by omega, by omega, x, ho.drew.cell_mid e2 j2, _, rfl, by omega, by omega,
      ⟨_, ho.drew.cell_mid e2 j2⟩, ho.drew.notFrozen (add_block _ _), _, rfl, by omega, by omega, ⟨_, o1.cell_mid e3 j3⟩, o1.notFrozen (add_block _ _), by omega, X2.length, by simp, X1 ++ [x], X2, Y1 ++ [y], Y2, by simp, by simp, by simp [hl], by simp, rfl, ?_, ?_⟩
    · refine cast ?_ o2
      congr 1
      simp
    · exact grown_set (grown_set (grown_drew hg) (add_block _ _) _) (add_block _ _) _
  · cases X2 with
    | cons x X2 => simp only [List.length_cons] at hc; omega
    | nil =>
    cases Y2 with
    | cons y Y2 => simp at hl2
    | nil =>
    refine ⟨rfl, ?_, hg⟩
    refine cast ?_ ho
    congr 1
    simp

theorem rotateT  {w : World} {g cap : Nat} {A X Y B : List (Option Addr)} {n : Nat} {a m b : Int}
    (hown : Own w g 127 cap ((A ++ X ++ Y ++ B).map Value.pointer)) (hx : 0 < X.length) (hy : 0 < Y.length) (hn : n = (A ++ X ++ Y ++ B).length) (hbig : n ≤ 2 ^ 62)
    (ha : a = A.length) (hm : m = A.length + X.length) (hb : b = A.length + X.length + Y.length) :
    Calls P 194 #[.slice (some ⟨g, 0, none⟩) n cap, .int .i64 a, .int .i64 m, .int .i64 b, .func (.func 131) #[] #[]] w fun ev w' =>
      ev = .returned (.tuple #[]) ∧ Own w' g 127 cap ((A ++ Y ++ X ++ B).map Value.pointer) ∧ w.grownBy w' (some g) := by
  apply vc194
  unfold VC194
  have hlen : n = A.length + X.length + Y.length + B.length := by simp [hn]; omega
  simp only [InK]
  refine ⟨by omega, by omega, fun k i j w' => ∃ A' X' Y' B', A ++ Y ++ X ++ B = A' ++ Y' ++ X' ++ B' ∧ 0 < X'.length ∧ 0 < Y'.length ∧ A'.length + X'.length = A.length + X.length ∧ n = A'.length + X'.length + Y'.length + B'.length ∧ i = X'.length ∧ j = Y'.length ∧ k = X'.length + Y'.length ∧
    Own w' g 127 cap ((A' ++ X' ++ Y' ++ B').map Value.pointer) ∧ w.grownBy w' (some g), ⟨X.length + Y.length, A, X, Y, B, rfl, hx, hy, rfl, by omega, by omega, by omega, rfl, hown, grown_refl _ _⟩, ?_⟩
  rintro k i j w' ⟨A', X', Y', B', he, hx', hy', hax, hn', rfl, rfl, rfl, ho, hg⟩
  refine ⟨fun hne => ⟨fun hgt => ?_, fun hle => ?_⟩, fun heq => ?_⟩
  · refine ⟨by omega, ?_⟩
    have hX : X' = X'.take Y'.length ++ X'.drop Y'.length := (List.take_append_drop _ _).symm
    have l1 : (X'.take Y'.length).length = Y'.length := by simp; omega
    have l2 : (X'.drop Y'.length).length = X'.length - Y'.length := by simp
    generalize X'.take Y'.length = X1 at hX l1
    generalize X'.drop Y'.length = X2 at hX l2
    subst hX
    simp only [List.length_append] at *
    refine (swapRangeT  (A := A') (X := X1) (M := X2) (Y := Y') (B := B') (by simpa using ho) l1 (by simp; omega) hbig (by omega) (by omega) (by omega)).mono fun ev w'' hh => ?_
    obtain ⟨h1, h2, h3⟩ := hh
    refine ⟨h1, by omega, _, ?_, A' ++ Y', X2, X1, B', by simpa using he, by omega, by omega, by simp; omega, by simp; omega, by omega, by omega, rfl, by simpa using h2, grown_trans hg h3⟩
    omega
  · refine ⟨by omega, by omega, by omega, ?_⟩
    have hY : Y' = Y'.take (Y'.length - X'.length) ++ Y'.drop (Y'.length - X'.length) := (List.take_append_drop _ _).symm
    have l1 : (Y'.take (Y'.length - X'.length)).length = Y'.length - X'.length := by simp
    have l2 : (Y'.drop (Y'.length - X'.length)).length = X'.length := by simp; omega
    generalize Y'.take (Y'.length - X'.length) = Y1 at hY l1
    generalize Y'.drop (Y'.length - X'.length) = Y2 at hY l2
    subst hY
    simp only [List.length_append] at *
    refine (swapRangeT  (A := A') (X := X') (M := Y1) (Y := Y2) (B := B') (by simpa using ho) l2.symm (by simp; omega) hbig (by omega) (by omega) (by omega)).mono fun ev w'' hh => ?_
    obtain ⟨h1, h2, h3⟩ := hh
    refine ⟨h1, by omega, _, ?_, A', Y2, Y1, X' ++ B', by simpa using he, by omega, by omega, by omega, by simp; omega, by omega, by omega, rfl, by simpa using h2, grown_trans hg h3⟩
    omega
  · refine ⟨by omega, ?_⟩
    have hxy : X'.length = Y'.length := by omega
    refine (swapRangeT  (A := A') (X := X') (M := []) (Y := Y') (B := B') (by simpa using ho) hxy (by simp; omega) hbig (by omega) (by simp; omega) (by omega)).mono fun ev w'' hh => ?_
    obtain ⟨h1, h2, h3⟩ := hh
    refine ⟨h1, trivial, ?_, grown_trans hg h3⟩
    rw [he]
    simpa using h2
end Go.Proofs.Ytmenmmgfdakeeaa
