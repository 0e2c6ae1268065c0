/- slices: insertionSort (the members pointers): what it leaves. -/
import Derived.Test.YtmenmmgfdakeeaaXS
import Derived.Test.YtmenmmgfdakeeaaM1
import Derived.Test.YtmenmmgfdakeeaaS2
namespace Go.Proofs.Ytmenmmgfdakeeaa
open Go Go.V
set_option linter.unusedVariables false
set_option linter.unusedSimpArgs false

/-- The comparison at members of L tells which has the lesser number, as long as no block but g is turned. -/
def CmpOkT  (w0 : World) (g : Nat) (key : (Option Addr) → Int) (L : List (Option Addr)) : Prop :=
  ∀ w', w0.grownBy w' (some g) → ∀ x ∈ L, ∀ y ∈ L, Calls P 131 (#[Value.pointer x, Value.pointer y] ++ #[]) w' fun ev w'' => ∃ c : Int, ev = .returned (.int .i64 c) ∧ (c < 0 ↔ key x < key y) ∧ w'.grownBy w'' none

theorem CmpOkT.grown  {w0 w1 : World} {g : Nat} {key : (Option Addr) → Int} {L : List (Option Addr)} (h : CmpOkT  w0 g key L) (hg : w0.grownBy w1 (some g)) : CmpOkT  w1 g key L :=
  fun w' hw => h w' (grown_trans hg hw)
theorem CmpOkT.sub  {w0 : World} {g : Nat} {key : (Option Addr) → Int} {L L' : List (Option Addr)} (h : CmpOkT  w0 g key L) (hs : ∀ x ∈ L', x ∈ L) : CmpOkT  w0 g key L' :=
  fun w' hw x hx y hy => h w' hw x (hs x hx) y (hs y hy)

theorem insertionT  {w : World} {g cap : Nat} {key : (Option Addr) → Int} {A X B : List (Option Addr)} {n : Nat} {a b : Int}
    (hown : Own w g 127 cap ((A ++ X ++ B).map Value.pointer)) (hc : CmpOkT  w g key X) (hn : n = (A ++ X ++ B).length) (hbig : n ≤ 2 ^ 62)
    (ha : a = A.length) (hb : b = A.length + X.length) :
    Calls P 182 #[.slice (some ⟨g, 0, none⟩) n cap, .int .i64 a, .int .i64 b, .func (.func 131) #[] #[]] w fun ev w' =>
      ev = .returned (.tuple #[]) ∧ (∃ Z, SortedK key Z ∧ SameK key Z X ∧ Own w' g 127 cap ((A ++ Z ++ B).map Value.pointer)) ∧ w.grownBy w' (some g) := by
  apply vc182
  unfold VC182
  have hlen : n = A.length + X.length + B.length := by simp [hn]; omega
  simp only [InK]
  refine ⟨by omega, fun m i w' => ∃ X1 X2 S, X = X1 ++ X2 ∧ (i = a + X1.length ∨ X2 = [] ∧ b ≤ i) ∧ a < i ∧ SortedK key S ∧ SameK key S X1 ∧ m = X2.length ∧
    Own w' g 127 cap ((A ++ S ++ X2 ++ B).map Value.pointer) ∧ w.grownBy w' (some g), ?_, ?_⟩
  · cases X with
    | nil => exact ⟨_, [], [], [], rfl, .inr ⟨rfl, by simp at hb; omega⟩, by omega, by simp [SortedK], SameK.refl _, rfl, by simpa using hown, grown_refl _ _⟩
    | cons x X => exact ⟨_, [x], X, [x], rfl, .inl (by simp), by omega, by simp [SortedK], SameK.refl _, rfl, by simpa using hown, grown_refl _ _⟩
  rintro m i w' ⟨X1, X2, S, rfl, hi, hai, hS, hSX, rfl, ho, hg⟩
  have hlS := hSX.length
  refine ⟨fun hlt => ?_, fun hge => ?_⟩
  · cases X2 with
    | nil => rcases hi with hi | hi <;> simp at hb <;> omega
    | cons x X2 =>
    have hi : i = a + X1.length := by rcases hi with hi | hi <;> simp_all
    simp only [List.length_append, List.length_cons] at hlen hb
    refine ⟨fun m2 j w2 => ∃ S1 S2, S = S1 ++ S2 ∧ (∀ z ∈ S2, key x < key z) ∧ j = a + S1.length ∧ m2 = S1.length ∧ Own w2 g 127 cap ((A ++ S1 ++ (x :: S2) ++ X2 ++ B).map Value.pointer) ∧ w.grownBy w2 (some g),
      ⟨_, S, [], by simp, by simp, by omega, rfl, by simpa using ho, hg⟩, ?_⟩
    rintro m2 j w2 ⟨S1, S2, rfl, hS2, rfl, rfl, ho2, hg2⟩
    simp only [List.length_append] at hlS
    have done : ∀ w3, w2.grownBy w3 none → (S1 = [] ∨ ∃ S y, S1 = S ++ [y] ∧ key y ≤ key x) → ∃ X1' X2' S', X1 ++ x :: X2 = X1' ++ X2' ∧ (i + 1 = a + X1'.length ∨ X2' = [] ∧ b ≤ i + 1) ∧ a < i + 1 ∧ SortedK key S' ∧ SameK key S' X1' ∧ X2.length = X2'.length ∧
        Own w3 g 127 cap ((A ++ S' ++ X2' ++ B).map Value.pointer) ∧ w.grownBy w3 (some g) := by
      intro w3 h3 h1
      obtain ⟨k1, k2⟩ := fin_ins hS hS2 h1
      refine ⟨X1 ++ [x], X2, S1 ++ x :: S2, by simp, .inl (by simp; omega), by omega, k1, k2.trans (hSX.append (SameK.refl [x])), rfl, ?_, grown_trans hg2 (grown_none h3)⟩
      simpa using ho2.kept_none h3
    refine ⟨fun hja => ?_, fun hja => ?_⟩
    · rcases List.eq_nil_or_concat S1 with rfl | ⟨S0, y, rfl⟩
      · simp at hja
      simp only [List.concat_eq_append, List.length_append, List.length_cons, List.length_nil] at *
      have e1 : (A ++ (S0 ++ [y]) ++ (x :: S2) ++ X2 ++ B).map Value.pointer = ((A ++ S0 ++ [y]).map Value.pointer) ++ Value.pointer x :: ((S2 ++ X2 ++ B).map Value.pointer) := by simp
      have e2 : (A ++ (S0 ++ [y]) ++ (x :: S2) ++ X2 ++ B).map Value.pointer = ((A ++ S0).map Value.pointer) ++ Value.pointer y :: ((x :: S2 ++ X2 ++ B).map Value.pointer) := by simp
      have j1 : (a + ((S0.length + (0 + 1) : Nat) : Int)).toNat = ((A ++ S0 ++ [y]).map Value.pointer).length := by simp; omega
      have j2 : (a + ((S0.length + (0 + 1) : Nat) : Int) - 1).toNat = ((A ++ S0).map Value.pointer).length := by simp; omega
      refine ⟨_, rfl, by omega, by omega, x, ho2.drew.cell_mid e1 j1, by omega, _, rfl, by omega, by omega, y, ho2.drew.cell_mid e2 j2, ?_⟩
      have hcall := hc w2.drew (grown_drew hg2) x (by simp) y (by have := hSX.mem (x := y) (by simp); simp; exact .inl this)
      simp only [List.push_toArray, List.append_toArray, List.cons_append, List.nil_append] at hcall
      refine hcall.mono fun ev w3 hh => ?_
      obtain ⟨c, h1, h2, h3⟩ := hh
      have g3 : w2.grownBy w3 none := grown_trans (grown_drew (grown_refl _ _)) h3
      refine ⟨c, h1, fun hc0 => ?_, fun hc0 => ?_⟩
      · have hk : key x < key y := h2.1 hc0
        have ho3 := (ho2.kept_none g3).drew
        have o1 := ho3.set_mid e1 j1 (v := Value.pointer y) rfl
        have e3 : ((A ++ S0 ++ [y]).map Value.pointer) ++ Value.pointer y :: ((S2 ++ X2 ++ B).map Value.pointer) = ((A ++ S0).map Value.pointer) ++ Value.pointer y :: ((y :: S2 ++ X2 ++ B).map Value.pointer) := by simp
        have o2 := o1.set_mid e3 j2 (v := Value.pointer x) rfl
        refine ⟨by omega, by omega, _, rfl, by omega, by omega, y, ho3.cell_mid e2 j2, _, rfl, by omega, by omega, x, ho3.cell_mid e1 j1, _, rfl, by omega, by omega, ⟨_, ho3.cell_mid e1 j1⟩, ho3.notFrozen (add_block _ _),
          _, rfl, by omega, by omega, ⟨_, o1.cell_mid e3 j2⟩, o1.notFrozen (add_block _ _), by omega, S0.length, by omega, S0, y :: S2, by simp, ?_, by omega, rfl, ?_, ?_⟩
        · intro z hz
          rcases List.mem_cons.1 hz with e | e
          · rw [e]; exact hk
          · exact hS2 z e
        · refine cast ?_ o2
          congr 1
          simp
        · exact grown_set (grown_set (grown_drew (grown_trans hg2 (grown_none g3))) (add_block _ _) _) (add_block _ _) _
      · exact ⟨by omega, _, by simp, done w3 g3 (.inr ⟨S0, y, rfl, by omega⟩)⟩
    · have : S1 = [] := List.eq_nil_of_length_eq_zero (by omega)
      exact ⟨by omega, _, by simp, done w2.drew (grown_drew (grown_refl _ _)) (.inl this)⟩
  · have : X2 = [] := by
      rcases hi with hi | hi
      · exact List.eq_nil_of_length_eq_zero (by simp at hb; omega)
      · exact hi.1
    subst this
    refine ⟨trivial, ⟨S, hS, by simpa using hSX, by simpa using ho⟩, hg⟩
end Go.Proofs.Ytmenmmgfdakeeaa
