/- archipelagolaw6.CodeTells: the walk. -/
import Derived.Test.YtmenmmgfdakeeaaG3g
import Derived.Test.YtmenmmgfdakeeaaL3g
namespace Go.Proofs.Ytmenmmgfdakeeaa
open Go Go.V Go.RowKit
set_option linter.unusedVariables false
set_option linter.unusedSimpArgs false
set_option maxHeartbeats 4000000
set_option maxRecDepth 100000

/-- Rows of numbers, by their heads. -/
def Heads (w : World) (hs : List (Option Addr × Nat × Nat)) : Prop := ∀ h ∈ hs, ∃ ls, Row w h.1 (ints ls) ∧ h.2.1 = ls.length ∧ ls.length ≤ 1000
abbrev headsV (hs : List (Option Addr × Nat × Nat)) : List Value := hs.map fun h => .slice h.1 h.2.1 h.2.2
theorem Heads.kept {w w' : World} {hs : List (Option Addr × Nat × Nat)} (h : Heads w hs) (hg : w.grownBy w' none) : Heads w' hs := fun x hx => by
  obtain ⟨ls, h1, h2⟩ := h x hx
  exact ⟨ls, h1.kept_none hg, h2⟩

theorem walkCodeTells {w : World} {A B : Option Addr} {n c m d : Nat} {raw l : List Int} {at_ by_ : Int} (hraw : Row w A (ints raw)) (hn : n = raw.length) (hrb : ∀ x ∈ raw, -9223372036854775808 ≤ x ∧ x ≤ 9223372036854775807)
    (hrow : Row w B (u16s l)) (hm : m = l.length) (hb : ∀ x ∈ l, 0 ≤ x ∧ x ≤ 65535) (hat : 0 ≤ at_ ∧ at_ ≤ 255) (hby : 0 ≤ by_ ∧ by_ ≤ 255) :
    Calls P 4 #[.slice A n c, .slice B m d, .int .u8 at_, .int .u8 by_] w fun ev w' => ev = .returned (.bool true) ∧ w.grownBy w' none := by
  apply vc4; unfold VC4
  refine known6_calls.mono fun ev w1 hh => ?_
  obtain ⟨rfl, g1⟩ := hh
  refine ⟨true, rfl, fun h => absurd h (by simp), fun _ => ⟨fun _ => ⟨rfl, g1⟩, fun h40 => ⟨fun _ => ⟨rfl, g1⟩, fun h40' => ?_⟩⟩⟩
  have hr1 := hraw.kept_none g1
  have hl1 := hrow.kept_none g1
  refine ⟨fun ms A' n' c' i w' => ∃ (j : Nat) (ys : List Int), i = (j : Int) ∧ j ≤ raw.length ∧ ms = raw.length - j ∧ Owned w' w1.heap.size 3 A' n' c' (ints ys) ∧ ys.length = j ∧ w1.grownBy w' none,
      ⟨_, 0, [], rfl, by omega, rfl, World.ownsRow_nil _ _ _ _, rfl, grown_refl _ _⟩, ?_⟩
  rintro ms A' n' c' i w2 ⟨q, ys, rfl, hq, rfl, o2, hyl, g2⟩
  have en' : n' = ys.length := by rw [o2.cases.1]; simp [ints]
  have tq : (q : Int).toNat = q := by omega
  rw [tq]
  simp only [InK]
  refine ⟨fun hlt => ?_, fun hge => ?_⟩
  · have l1 : q < raw.length := by omega
    obtain ⟨a, ha1, ha2⟩ := (hr1.kept_none g2) q (.int .i64 raw[q]) (by simp [ints, l1])
    obtain ⟨A6, n6, c6, w6, e1, e2, e3⟩ := append_int (x := bop .and .i64 raw[q] 3) o2 (by omega) g2.size
    exact ⟨a, ha1, by omega, by omega, _, ha2, A6, n6, c6, w6, e1, by omega, raw.length - (q + 1), by omega, q + 1, _, by omega, by omega, rfl, e2, by simp [hyl], grown_own g2 e3 o2.block_ge⟩
  · obtain ⟨M, hM⟩ : ∃ M : Nat, at_ + 30 = (M : Int) := ⟨(at_ + 30).toNat, by omega⟩
    have gd := grown_drew g2
    have hl2 := hl1.kept_none gd
    refine ⟨fun X xn xc e i w8 => e = 4 ∧ i = 0 ∧ xn = 4 ∧ ∃ hs : List (Option Addr × Nat × Nat), hs.length = 4 ∧ Row w8 X (headsV hs) ∧ Heads w8 hs ∧ w1.grownBy w8 none, ⟨?_, ?_⟩, ?_⟩
    · refine (lengths6_calls hl2 hm hb hat hby (by omega)).mono fun ev w3 hh => ?_
      obtain ⟨A3, n3, c3, rfl, o3, g3⟩ := hh
      obtain ⟨w4, hr4, hown, g4⟩ := run_made (P := P) (w := w3) elemInt (by omega) (m := M) (by omega)
      rw [hM]
      refine ⟨_, _, _, rfl, by omega, by omega, _, _, _, w4, hr4, rfl, rfl, rfl, [(A, n, c), (A', n', c'), (A3, n3, c3), (some ⟨w3.heap.size, 0, none⟩, M, M)], rfl, row_alloc w4 _ 22, ?_, grown_alloc (grown_trans (grown_trans gd g3) g4) _⟩
      have ga := World.grownBy_alloc w4 (.cells #[.slice A n c, .slice A' n' c', .slice A3 n3 c3, .slice (some ⟨w3.heap.size, 0, none⟩) M M] 22) none
      have g34 := grown_trans g3 (grown_trans g4 ga)
      have hl3 := lens6_length (l := l) (by omega) at_ by_
      intro h hh
      simp only [List.mem_cons, List.not_mem_nil, or_false] at hh
      rcases hh with rfl | rfl | rfl | rfl
      · exact ⟨raw, (hr1.kept_none gd).kept_none g34, hn, by omega⟩
      · exact ⟨ys, (o2.row.kept_none (grown_drew (grown_refl w2 none))).kept_none g34, en', by omega⟩
      · exact ⟨_, o3.row.kept_none (grown_trans g4 ga), by rw [o3.cases.1]; simp [ints], by omega⟩
      · exact ⟨List.replicate M 0, by simpa [ints] using (hown.row.kept_none ga), by simp, by simp; omega⟩
    · obtain ⟨w4, hr4, hown, g4⟩ := run_made (P := P) (w := w2.drew) elemInt (by omega) (m := M) (by omega)
      rw [hM]
      refine ⟨by omega, by omega, _, _, _, w4, hr4, ?_⟩
      refine (lengths6_calls (hl2.kept_none g4) hm hb hat hby (by omega)).mono fun ev w3 hh => ?_
      obtain ⟨A3, n3, c3, rfl, o3, g3⟩ := hh
      refine ⟨_, _, _, rfl, rfl, rfl, rfl, [(A, n, c), (A', n', c'), (A3, n3, c3), (some ⟨w2.drew.heap.size, 0, none⟩, M, M)], rfl, row_alloc w3 _ 22, ?_, grown_alloc (grown_trans (grown_trans gd g4) g3) _⟩
      have ga := World.grownBy_alloc w3 (.cells #[.slice A n c, .slice A' n' c', .slice A3 n3 c3, .slice (some ⟨w2.drew.heap.size, 0, none⟩) M M] 22) none
      have g34 := grown_trans g4 (grown_trans g3 ga)
      have hl3 := lens6_length (l := l) (by omega) at_ by_
      intro h hh
      simp only [List.mem_cons, List.not_mem_nil, or_false] at hh
      rcases hh with rfl | rfl | rfl | rfl
      · exact ⟨raw, (hr1.kept_none gd).kept_none g34, hn, by omega⟩
      · exact ⟨ys, (o2.row.kept_none (grown_drew (grown_refl w2 none))).kept_none g34, en', by omega⟩
      · exact ⟨_, o3.row.kept_none ga, by rw [o3.cases.1]; simp [ints], by omega⟩
      · exact ⟨List.replicate M 0, by simpa [ints] using ((hown.row.kept_none g3).kept_none ga), by simp, by simp; omega⟩
    · rintro X xn xc e i w8 ⟨rfl, rfl, rfl, hs, hsl, hX, hH, g8⟩
      refine ⟨fun ms i w9 => ∃ j : Nat, i = (j : Int) ∧ j ≤ 4 ∧ ms = 4 - j ∧ w8.grownBy w9 none, ⟨_, 0, rfl, by omega, rfl, grown_refl _ _⟩, ?_⟩
      rintro ms i w9 ⟨j, rfl, hj, rfl, g9⟩
      have tj : (j : Int).toNat = j := by omega
      rw [tj]
      refine ⟨fun hlt => ?_, fun hge => ⟨by trivial, grown_trans g1 (grown_trans g8 g9)⟩⟩
      have lj : j < hs.length := by omega
      obtain ⟨a, ha1, ha2⟩ := (hX.kept_none g9) j (.slice hs[j].1 hs[j].2.1 hs[j].2.2) (by simp [lj])
      refine ⟨a, ha1, by omega, by omega, _, _, _, ha2, ?_⟩
      obtain ⟨ls, hr, hlen, hbig⟩ := (hH.kept g9) hs[j] (List.getElem_mem lj)
      generalize hs[j] = hd at *
      refine (new_calls hr hlen (by omega)).mono fun ev w10 hh => ?_
      obtain ⟨g10, hcase⟩ := hh
      have hfin : ∀ w16, w10.grownBy w16 none → ((-9223372036854775808 : Int) ≤ (j : Int) + 1 ∧ (j : Int) + 1 ≤ 9223372036854775807) ∧ ∃ m_3, m_3 < 4 - j ∧ ∃ j' : Nat, (j : Int) + 1 = (j' : Int) ∧ j' ≤ 4 ∧ m_3 = 4 - j' ∧ w8.grownBy w16 none := fun w16 h =>
        ⟨by omega, 4 - (j + 1), by omega, j + 1, by omega, by omega, rfl, grown_trans g9 (grown_trans g10 h)⟩
      have hr10 := hr.kept_none g10
      obtain ⟨p, b, hev, hbR, hpb⟩ : ∃ (p : Option Addr) (b : Bool), ev = .returned (.tuple #[.pointer p, .bool b]) ∧ b = rightL ls ∧ (p = none ↔ b = false) := by
        rcases hcase with ⟨h1, h2⟩ | ⟨h1, g, h2, _⟩
        · exact ⟨_, _, h2, h1.symm, by simp⟩
        · exact ⟨_, _, h2, h1.symm, by simp⟩
      subst hev
      subst hbR
      refine ⟨p, rightL ls, rfl, ?_⟩
      refine (right_calls hr10 hlen (by omega)).mono fun ev w11 hh => ?_
      obtain ⟨rfl, g11⟩ := hh
      refine ⟨_, rfl, ?_⟩
      have hr11 := hr10.kept_none g11
      refine (refRight_calls hr11 hlen).mono fun ev w12 hh => ?_
      obtain ⟨rfl, g12⟩ := hh
      refine ⟨_, rfl, _, fun w => run_neq _ _ _ _ w, fun h => by simp at h, fun _ => ?_⟩
      have hr12 := hr11.kept_none g12
      refine (refRight_calls hr12 hlen).mono fun ev w13 hh => ?_
      obtain ⟨rfl, g13⟩ := hh
      refine ⟨_, rfl, _, fun w => run_neq _ _ _ _ w, fun h => by simp at h, fun _ => ⟨_, fun w => run_eql _ _ _ _ w, fun h => ?_, fun _ => ?_⟩⟩
      · exfalso
        by_cases e : p = none
        · have := hpb.1 e
          rw [this] at h; simp [e] at h
        · have : rightL ls = true := by
            cases hq : rightL ls with
            | true => rfl
            | false => exact absurd (hpb.2 hq) e
          rw [this] at h; simp [e] at h
      have hr13 := hr12.kept_none g13
      refine (codes_calls hr13 hlen (by omega)).mono fun ev w14 hh => ?_
      obtain ⟨A14, n14, c14, rfl, o14, g14⟩ := hh
      refine ⟨_, _, _, rfl, ?_⟩
      refine (refCodes_calls (hr13.kept_none g14) hlen (by omega)).mono fun ev w15 hh => ?_
      obtain ⟨A15, n15, c15, rfl, o15, g15⟩ := hh
      refine ⟨_, _, _, rfl, ?_⟩
      have hcl : (codesL ls).length ≤ 1000 := by
        cases hq : rightL ls with
        | true => rw [codesL_length hq]; exact hbig
        | false => unfold codesL; rw [hq]; simp
      have e14 : n14 = (codesL ls).length := by rw [o14.cases.1]; simp [ints]
      have e15 : n15 = (codesL ls).length := by rw [o15.cases.1]; simp [ints]
      refine (ints_calls (o14.row.kept_none g15) o15.row e14 e15 (by omega)).mono fun ev w16 hh => ?_
      obtain ⟨rfl, g16⟩ := hh
      exact ⟨_, rfl, fun h => by simp at h, fun _ => hfin w16 (grown_trans g11 (grown_trans g12 (grown_trans g13 (grown_trans g14 (grown_trans g15 g16)))))⟩
end Go.Proofs.Ytmenmmgfdakeeaa
