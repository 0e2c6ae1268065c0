/- archipelagolaw5.MergeTight, MergeFull: the walks. -/
import Derived.Test.YtgjkmakhomefkaaD5
namespace Go.Proofs.Ytgjkmakhomefkaa
open Go Go.V Go.RowKit
set_option linter.unusedVariables false
set_option linter.unusedSimpArgs false
set_option maxHeartbeats 2000000
set_option maxRecDepth 100000

theorem mostL_of {m : Nat} (h : 1 ≤ m ∧ m ≤ 15) : mostL (m : Int) = m := by
  unfold mostL mx mn; split <;> split <;> omega

theorem two_pow_le {a b : Nat} (h : a ≤ b) : 2 ^ a ≤ 2 ^ b := Nat.pow_le_pow_right (by omega) h

theorem lens_mem {xs : List Int} {most : Int} (h : xs.length ≤ 256) (hn : (coinsL xs).length ≤ 2 ^ mostL most) (hm : 1 ≤ mostL most) (hm' : mostL most ≤ 15) : ∀ v ∈ lensL xs most, 0 ≤ v ∧ v ≤ 2 ^ 10 := by
  intro v hv
  obtain ⟨s, hs, rfl⟩ := List.mem_iff_getElem.1 hv
  rw [lensL_length h hn] at hs
  have := lens_le h hn hm hs
  have e : (lensL xs most).getD s 0 = (lensL xs most)[s]'(by rw [lensL_length h hn]; exact hs) := by
    rw [List.getD_eq_getElem?_getD, List.getElem?_eq_getElem (by rw [lensL_length h hn]; exact hs)]; rfl
  rw [← e]; omega

theorem getD_of {xs : List Int} {s : Nat} (h : s < xs.length) : xs.getD s 0 = xs[s] := by simp [List.getD_eq_getElem?_getD, h]

theorem row_at {w : World} {A : Option Addr} {xs : List Int} (h : Row w A (ints xs)) {j : Nat} (hj : j < xs.length) : ∃ a, A = some a ∧ w.cell? (a.add j) = some (.int .i64 (xs.getD j 0)) := by
  rw [getD_of hj]
  exact h j _ (by simp [ints, hj])

theorem walkTight {w : World} {A : Option Addr} {n c : Nat} {l : List Int} {k m : Int} (hrow : Row w A (u16s l)) (hn : n = l.length) (hb : ∀ x ∈ l, 0 ≤ x ∧ x ≤ 65535) (hk : 0 ≤ k ∧ k ≤ 255) (hm : 0 ≤ m ∧ m ≤ 255) :
    Calls P 8 #[.slice A n c, .int .u8 k, .int .u8 m] w fun ev w' => ev = .returned (.bool true) ∧ w.grownBy w' none := by
  apply vc8; unfold VC8
  refine known_calls.mono fun ev w1 hh => ?_
  obtain ⟨rfl, g1⟩ := hh
  refine ⟨true, rfl, fun h => absurd h (by simp), fun _ => ⟨fun _ => ⟨rfl, g1⟩, fun h40 => ?_⟩⟩
  have h40 : n ≤ 40 := by omega
  refine (counts_calls (hrow.kept_none g1) hn hb hk (by omega)).mono fun ev w2 hh => ?_
  obtain ⟨A2, n2, c2, rfl, o2, g2⟩ := hh
  have hxl : (countsL k l).length = l.length := by simp [countsL]
  generalize hxs : countsL k l = xs at *
  have hn2 : n2 = xs.length := by rw [o2.cases.1]; simp [ints]
  obtain ⟨M, hM⟩ : ∃ M : Nat, m % 9 + 6 = (M : Int) := ⟨(m % 9 + 6).toNat, by omega⟩
  rw [hM]
  simp only [InK]
  have hM1 : 6 ≤ M ∧ M ≤ 14 := by omega
  have e1 : mostL (M : Int) = M := mostL_of (by omega)
  have e2 : mostL ((M : Int) + 1) = M + 1 := by have := mostL_of (m := M + 1) (by omega); rw [← this]; congr 1
  have hcl := coinsL_length xs
  have hx256 : xs.length ≤ 256 := by omega
  have hp1 : (coinsL xs).length ≤ 2 ^ mostL (M : Int) := by rw [e1]; have := two_pow_le hM1.1; omega
  have hp2 : (coinsL xs).length ≤ 2 ^ mostL ((M : Int) + 1) := by rw [e2]; have := two_pow_le (show 6 ≤ M + 1 by omega); omega
  refine ⟨_, _, _, rfl, by omega, by omega, by omega, ?_⟩
  refine (lengths_calls o2.row hn2).mono fun ev w3 hh => ?_
  obtain ⟨A3, n3, c3, rfl, o3, g3⟩ := hh
  refine ⟨_, _, _, rfl, by omega, ?_⟩
  refine (lengths_calls (o2.row.kept_none g3) hn2).mono fun ev w4 hh => ?_
  obtain ⟨A4, n4, c4, rfl, o4, g4⟩ := hh
  have hl3 := lensL_length hx256 hp1
  have hl4 := lensL_length hx256 hp2
  have hn3 : n3 = xs.length := by rw [o3.cases.1]; simp [ints, hl3]
  have hn4 : n4 = xs.length := by rw [o4.cases.1]; simp [ints, hl4]
  refine ⟨_, _, _, rfl, fun h => by omega, fun _ => ⟨fun h => by omega, fun _ => ?_⟩⟩
  refine ⟨fun ms i w5 => ∃ j : Nat, i = (j : Int) ∧ j ≤ xs.length ∧ ms = xs.length - j ∧ w5 = w4, ⟨_, 0, rfl, by omega, rfl, rfl⟩, ?_⟩
  rintro ms i w5 ⟨j, rfl, hj, rfl, rfl⟩
  refine ⟨fun hlt => ?_, fun hge => ?_⟩
  · have l1 : j < xs.length := by omega
    obtain ⟨a, ha1, ha2⟩ := row_at (o3.row.kept_none g4) (j := j) (by omega)
    obtain ⟨b, hb1, hb2⟩ := row_at o4.row (j := j) (by omega)
    have b1 := lens_le hx256 hp1 (by omega) l1
    have b2 := lens_le hx256 hp2 (by omega) l1
    refine ⟨a, ha1, by omega, by omega, _, ha2, fun h => by omega, fun _ => ⟨b, hb1, by omega, by omega, _, hb2, by omega, fun h => by omega, fun _ => ⟨by omega, xs.length - (j + 1), by omega, j + 1, by omega, by omega, rfl, rfl⟩⟩⟩
  · refine (cost_calls ((o2.row.kept_none g3).kept_none g4) (o3.row.kept_none g4) hn2 (by omega) (by omega) (lens_mem hx256 hp1 (by omega) (by omega))).mono fun ev w6 hh => ?_
    obtain ⟨rfl, g6⟩ := hh
    refine ⟨_, rfl, ?_⟩
    refine (cost_calls (((o2.row.kept_none g3).kept_none g4).kept_none g6) (o4.row.kept_none g6) hn2 (by omega) (by omega) (lens_mem hx256 hp2 (by omega) (by omega))).mono fun ev w7 hh => ?_
    obtain ⟨rfl, g7⟩ := hh
    have hlaw := law_tight (most := (M : Int)) (most' := (M : Int) + 1) hx256 hp1 (by omega) (by omega)
    refine ⟨_, rfl, ?_, grown_trans (grown_trans (grown_trans (grown_trans (grown_trans g1 g2) g3) g4) g6) g7⟩
    simp [hlaw]

theorem walkFull {w : World} {A : Option Addr} {n c : Nat} {l : List Int} {k m : Int} (hrow : Row w A (u16s l)) (hn : n = l.length) (hb : ∀ x ∈ l, 0 ≤ x ∧ x ≤ 65535) (hk : 0 ≤ k ∧ k ≤ 255) (hm : 0 ≤ m ∧ m ≤ 255) :
    Calls P 4 #[.slice A n c, .int .u8 k, .int .u8 m] w fun ev w' => ev = .returned (.bool true) ∧ w.grownBy w' none := by
  apply vc4; unfold VC4
  refine known_calls.mono fun ev w1 hh => ?_
  obtain ⟨rfl, g1⟩ := hh
  refine ⟨true, rfl, fun h => absurd h (by simp), fun _ => ⟨fun _ => ⟨rfl, g1⟩, fun h60 => ?_⟩⟩
  have h60 : n ≤ 60 := by omega
  refine (counts_calls (hrow.kept_none g1) hn hb hk (by omega)).mono fun ev w2 hh => ?_
  obtain ⟨A2, n2, c2, rfl, o2, g2⟩ := hh
  have hxl : (countsL k l).length = l.length := by simp [countsL]
  generalize hxs : countsL k l = xs at *
  have hn2 : n2 = xs.length := by rw [o2.cases.1]; simp [ints]
  obtain ⟨M, hM⟩ : ∃ M : Nat, m % 9 + 7 = (M : Int) := ⟨(m % 9 + 7).toNat, by omega⟩
  rw [hM]
  simp only [InK]
  have hM1 : 7 ≤ M ∧ M ≤ 15 := by omega
  have e1 : mostL (M : Int) = M := mostL_of (by omega)
  have hcl := coinsL_length xs
  have hx256 : xs.length ≤ 256 := by omega
  have hp1 : (coinsL xs).length ≤ 2 ^ mostL (M : Int) := by rw [e1]; have := two_pow_le hM1.1; omega
  refine ⟨_, _, _, rfl, by omega, by omega, by omega, ?_⟩
  refine (lengths_calls o2.row hn2).mono fun ev w3 hh => ?_
  obtain ⟨A3, n3, c3, rfl, o3, g3⟩ := hh
  have hl3 := lensL_length hx256 hp1
  have hn3 : n3 = xs.length := by rw [o3.cases.1]; simp [ints, hl3]
  refine ⟨_, _, _, rfl, ?_⟩
  have gAll := grown_trans (grown_trans g1 g2) g3
  -- how many there are
  refine ⟨fun ms q i w5 => ∃ j : Nat, i = (j : Int) ∧ j ≤ xs.length ∧ ms = xs.length - j ∧ w5 = w3 ∧ q = sumTo j (fun s => if 0 < xs.getD s 0 then 1 else 0) ∧ 0 ≤ q ∧ q ≤ j, ⟨_, 0, rfl, by omega, rfl, rfl, rfl, by omega, by omega⟩, ?_⟩
  rintro ms q i w5 ⟨j, rfl, hj, rfl, rfl, rfl, hq0, hqj⟩
  refine ⟨fun hlt => ?_, fun hge => ?_⟩
  · have l1 : j < xs.length := by omega
    obtain ⟨a, ha1, ha2⟩ := row_at (o2.row.kept_none g3) l1
    refine ⟨a, ha1, by omega, by omega, _, ha2, fun h => ?_, fun h => ?_⟩
    · have h' : 0 < xs.getD j 0 := h
      refine ⟨by omega, by omega, xs.length - (j + 1), by omega, j + 1, by omega, by omega, rfl, rfl, ?_, by omega, by omega⟩
      simp only [sumTo, h', if_true]
    · have h' : ¬ 0 < xs.getD j 0 := h
      refine ⟨by omega, xs.length - (j + 1), by omega, j + 1, by omega, by omega, rfl, rfl, ?_, by omega, by omega⟩
      simp only [sumTo, h', if_false]; omega
  have hjx : j = xs.length := by omega
  subst hjx
  have hcount : sumTo xs.length (fun s => if 0 < xs.getD s 0 then 1 else 0) = ((coinsL xs).length : Int) := (coins_count xs).symm
  rw [hcount] at *
  refine ⟨fun h => by omega, fun _ => ?_⟩
  refine ⟨fun ms i w6 => ∃ j : Nat, i = (j : Int) ∧ j ≤ xs.length ∧ ms = xs.length - j ∧ w5.grownBy w6 none, ⟨_, 0, rfl, by omega, rfl, grown_refl _ _⟩, ?_⟩
  rintro ms i w6 ⟨j, rfl, hj, rfl, g6⟩
  refine ⟨fun hlt => ?_, fun hge2 => ?_⟩
  · have l1 : j < xs.length := by omega
    have hd := grown_drew g6
    obtain ⟨a, ha1, ha2⟩ := row_at (o3.row.kept_none hd) (j := j) (by omega)
    obtain ⟨b, hb1, hb2⟩ := row_at ((o2.row.kept_none g3).kept_none hd) l1
    have b1 := lens_le hx256 hp1 (by omega) l1
    refine ⟨a, ha1, by omega, by omega, _, ha2, b, hb1, by omega, by omega, _, hb2, false, ?_, fun h => absurd h (by simp), fun _ => ?_⟩
    · intro w'
      have : decide ((lensL xs (M : Int)).getD j 0 > 0) = decide (xs.getD j 0 > 0) := by
        apply decide_eq_decide.2; exact b1.2.2
      rw [this, run_neq]; simp
    · refine ⟨a, ha1, by omega, by omega, _, ha2, fun h => by omega, fun _ => ⟨a, ha1, by omega, by omega, _, ha2, fun h => by omega, fun _ => ⟨by omega, xs.length - (j + 1), by omega, j + 1, by omega, by omega, rfl, hd⟩⟩⟩
  · refine ⟨fun h => ⟨trivial, grown_trans gAll g6⟩, fun h => ?_⟩
    refine (kraft_calls (o3.row.kept_none g6) (by omega) (by omega)).mono fun ev w7 hh => ?_
    obtain ⟨rfl, g7⟩ := hh
    have hlaw := law_full (most := (M : Int)) hx256 (by omega) hp1 (by omega) (by omega)
    refine ⟨_, rfl, ?_, grown_trans (grown_trans gAll g6) g7⟩
    simp [hlaw]
end Go.Proofs.Ytgjkmakhomefkaa
