/- archipelagolaw7: texts, what is known. -/
import Derived.Test.YtmenmmgfdakeeaaH10g
import Derived.Test.YtmenmmgfdakeeaaX7g
import Derived.Lib.SlBytesConst
namespace Go.Proofs.Ytmenmmgfdakeeaa
open Go Go.V Go.RowKit
set_option linter.unusedVariables false
set_option linter.unusedSimpArgs false
set_option maxHeartbeats 4000000
set_option maxRecDepth 100000

theorem row_allocM (w : World) (cs : Array Value) (t : TypeId) (fr : Nat × Nat) : Row (w.alloc (.cells cs t fr)) (some ⟨w.heap.size, 0, none⟩) cs.toList := by
  intro j u hj
  refine ⟨_, rfl, ?_⟩
  rw [add_lit]
  have : (w.alloc (.cells cs t fr)).heap[w.heap.size]? = some (.cells cs t fr) := by
    show (w.heap.push _)[w.heap.size]? = _
    simp
  rw [blk_cell this]
  simpa using hj
theorem convert_lit (w : World) (C : Array Value) (n c : Nat) : Sem.run P (Go.convert 39 39 (.slice (some ⟨w.heap.size, 0, none⟩) n c)) (w.alloc (.cells C 5)) = .ok (.slice (some ⟨w.heap.size, 0, none⟩) n c) (w.alloc (.cells C 5 (C.size, C.size + 1))) :=
  Lib.run_convert_bytes_const (P := P) w 39 5 C n c (by kernel_rfl) (by kernel_rfl)

theorem owned_le {w : World} {b s n c : Nat} {e : TypeId} {A : Option Addr} {xs : List Value} (h : OwnedK w b e s A n c xs) : n ≤ c := by
  obtain ⟨_, ⟨_, e1, e2, _⟩ | ⟨g, cur, _, _, _, e, _⟩⟩ := h.cases
  · omega
  · exact e

theorem abaa_lens : lsB [97, 98, 97, 97] = List.replicate 97 0 ++ ([1, 1] ++ List.replicate 157 0) := by decide +kernel
theorem headR_zero : ∀ (k : Nat) (l : List Int) (s nx : Nat), headR (List.replicate k 0 ++ l) s nx = headR l (s + k) nx
  | 0, l, s, nx => by simp
  | k + 1, l, s, nx => by
    rw [List.replicate_succ, List.cons_append, headR, if_neg (by omega), headR_zero k l (s + 1) nx]
    congr 1; omega
theorem abaa_len : (putH [97, 98, 97, 97]).length = 7 := by
  have hr := (lsB_facts (b := [97, 98, 97, 97]) (by decide) (by simp)).2.1
  have he := encL_length hr (symB [97, 98, 97, 97])
  rw [putH, if_neg (by simp)]
  rw [abaa_lens] at he hr ⊢
  have h1 : headR (List.replicate 97 0 ++ ([1, 1] ++ List.replicate 157 0)) 0 0 = [97, 1, 0, 1] := by
    rw [headR_zero]
    show headR (1 :: 1 :: List.replicate 157 0) 97 0 = _
    rw [headR, if_pos (by omega), headR, if_pos (by omega)]
    have : headR (List.replicate 157 0) 99 99 = [] := by
      have := headR_zero 157 [] 99 99
      rw [List.append_nil] at this
      rw [this]; rfl
    rw [show 97 + 1 + 1 = 99 from rfl, this]
    simp [putV_small]
  have h2 : posN (List.replicate 97 0 ++ ([1, 1] ++ List.replicate 157 0)) = 2 := by decide +kernel
  have h3 : sizeL (List.replicate 97 0 ++ ([1, 1] ++ List.replicate 157 0)) (symB [97, 98, 97, 97]) = 4 := by decide +kernel
  rw [h1, h2]
  simp only [List.length_append, packB_length]
  rw [putV_small (by decide), putV_small (by decide)]
  simp only [List.length_cons, List.length_nil]
  omega

theorem read_good {x o : List Int} {ev : Ending} {w : World} (ho : BytesB o) (hl : o.length < 2 ^ 62) (h : putH o = x) (hr : ReadR x ev w) : ∃ (A' : Option Addr) (n' c' : Nat), ev = .returned (.tuple #[.slice A' n' c', .int .i64 0]) ∧ Row w A' (u8s o) ∧ n' = o.length := by
  rcases hr with ⟨A', n', c', o', rfl, h1, h2, h3, h4, h5⟩ | ⟨_, hb⟩
  · have : o' = o := putH_inj h3 ho (by omega) (by omega) (by rw [h5, h])
    subst this
    exact ⟨A', n', c', rfl, h1, h2⟩
  · exact absurd h (hb o ho hl)
theorem read_bad {x : List Int} {ev : Ending} {w : World} (h : ∀ o, BytesB o → o.length < 2 ^ 64 → putH o ≠ x) (hr : ReadR x ev w) : ev = .returned badRead := by
  rcases hr with ⟨A', n', c', o', rfl, h1, h2, h3, h4, h5⟩ | ⟨e, _⟩
  · exact absurd h5 (h o' h3 (by omega))
  · exact e

theorem known7_calls {w : World} : Calls P 49 #[] w fun ev w' => ev = .returned (.bool true) ∧ w.grownBy w' none := by
  apply vc49; unfold VC49
  have g1 := World.grownBy_alloc w (.cells #[.int .u8 97, .int .u8 98, .int .u8 97, .int .u8 97] 5 (4, 5)) none
  have hr1 : Row (w.alloc (.cells #[.int .u8 97, .int .u8 98, .int .u8 97, .int .u8 97] 5 (4, 5))) (some ⟨w.heap.size, 0, none⟩) (u8s [97, 98, 97, 97]) := row_allocM w _ 5 _
  have hB : BytesB [97, 98, 97, 97] := by decide
  refine ⟨_, _, _, _, convert_lit w _ 4 4, ?_⟩
  refine (hput_calls hr1 rfl hB (by simp)).mono fun ev w2 hh => ?_
  obtain ⟨A2, n2, c2, rfl, o2, g2⟩ := hh
  have hlp := abaa_len
  have hn2 := u8_len o2
  refine ⟨_, _, _, rfl, ?_⟩
  refine (hread_calls o2.row hn2 (owned_le o2) (putH_bytes _) (by omega)).mono fun ev w3 hh => ?_
  obtain ⟨g3, hr3⟩ := hh
  obtain ⟨A3, n3, c3, rfl, r3, hn3⟩ := read_good hB (by simp) rfl hr3
  refine ⟨_, _, _, _, rfl, ?_⟩
  have ga := World.grownBy_alloc w3 (.cells #[.int .u8 1] 5) none
  have hra : Row (w3.alloc (.cells #[.int .u8 1] 5)) (some ⟨w3.heap.size, 0, none⟩) (u8s [1]) := row_alloc w3 _ 5
  refine (hread_calls hra rfl (by simp) (by decide) (by simp)).mono fun ev w4 hh => ?_
  obtain ⟨g4, hr4⟩ := hh
  have hbad := read_bad (fun o h1 h2 h3 => by
    by_cases e : o = []
    · subst e; rw [putH, if_pos rfl, putV_small (by omega)] at h3; simp at h3
    · rw [putH, if_neg e] at h3
      have := congrArg List.length h3
      have a1 := putV_pos o.length
      have a2 := putV_pos (posN (lsB o))
      simp only [List.length_append, List.length_cons, List.length_nil] at this
      omega) hr4
  subst hbad
  refine ⟨_, _, _, _, rfl, ?_⟩
  have gb := World.grownBy_alloc w4 (.cells #[.int .u8 97, .int .u8 98, .int .u8 97, .int .u8 97] 5 (4, 5)) none
  have hrb : Row (w4.alloc (.cells #[.int .u8 97, .int .u8 98, .int .u8 97, .int .u8 97] 5 (4, 5))) (some ⟨w4.heap.size, 0, none⟩) (u8s [97, 98, 97, 97]) := row_allocM w4 _ 5 _
  refine ⟨_, _, _, _, convert_lit w4 _ 4 4, ?_⟩
  refine (hcounts_calls hrb rfl hB (by simp)).mono fun ev w5 hh => ?_
  obtain ⟨A5, n5, c5, rfl, o5, g5⟩ := hh
  have hn5 : n5 = 256 := by rw [o5.cases.1]; simp [ints, cntB_length]
  refine ⟨_, _, _, rfl, ?_⟩
  refine (hput_calls (b := []) (Row.nil _ _) rfl (by intro y hy; cases hy) (by simp)).mono fun ev w6 hh => ?_
  obtain ⟨A6, n6, c6, rfl, o6, g6⟩ := hh
  have g46 := grown_trans (grown_trans gb g5) g6
  have r36 := ((r3.kept_none ga).kept_none g4).kept_none g46
  have gall := grown_trans (grown_trans (grown_trans (grown_trans (grown_trans g1 g2) g3) ga) g4) g46
  refine ⟨_, _, _, rfl, _, convert_calls o6.row (u8_len o6), _, fun w => run_eqlS _ _ _ _ w, fun _ => ⟨fun _ => ⟨_, convert_calls r36 hn3, _, fun w => run_eqlS _ _ _ _ w, fun _ => ⟨fun _ => ⟨fun h256 => ?_, fun h => absurd (by omega) h⟩, fun h => absurd rfl h⟩, fun h => ?_⟩, fun h => absurd rfl h⟩, fun h => ?_⟩
  · obtain ⟨a, q1, q2⟩ := (o5.row.kept_none g6) 97 (.int .i64 ((cntB [97, 98, 97, 97]).getD 97 0)) (ints_at (by rw [cntB_length]; omega))
    have hc : (cntB [97, 98, 97, 97]).getD 97 0 = 3 := by rw [cntB_get _ (by omega)]; decide
    rw [hc] at q2
    refine ⟨a, q1, by omega, by omega, _, q2, fun _ => ⟨?_, gall⟩, fun h => absurd rfl h⟩
    congr 2; simp; omega
  · exfalso
    have : strOf [97, 98, 97, 97] = ⟨#[97, 98, 97, 97]⟩ := by decide +kernel
    rw [this] at h; simp at h
  · exfalso
    have : strOf (putH []) = ⟨#[0]⟩ := by rw [putH, if_pos rfl, putV_small (by omega)]; decide +kernel
    rw [this] at h; simp at h

theorem text_calls {w : World} {A : Option Addr} {n c : Nat} {l : List Int} {k : Int} (hr : Row w A (u8s l)) (hn : n = l.length) (hb : BytesB l) (hk : 0 ≤ k ∧ k ≤ 255) (hl : n ≤ 2 ^ 20) :
    Calls P 50 #[.slice A n c, .int .u8 k] w fun ev w' => ∃ (A' : Option Addr) (n' c' : Nat) (b : List Int), ev = .returned (.slice A' n' c') ∧ OwnedK w' w.heap.size 5 1 A' n' c' (u8s b) ∧ BytesB b ∧ b.length ≤ 8 * l.length ∧ w.grownBy w' none := by
  apply vc50; unfold VC50
  simp only [InK]
  refine ⟨fun m Ao no co i w1 => ∃ (j : Nat) (out : List Int), i = (j : Int) ∧ j ≤ l.length ∧ m = l.length - j ∧ OwnedK w1 w.heap.size 5 1 Ao no co (u8s out) ∧ BytesB out ∧ out.length ≤ 8 * j ∧ w.grownBy w1 none,
    ⟨_, 0, [], rfl, by omega, rfl, OwnedK.nil _ _ _ _, (by intro y hy; cases hy), by simp, grown_refl _ _⟩, ?_⟩
  rintro m Ao no co i w1 ⟨j, out, rfl, hj, rfl, ho, hbo, hol, hg⟩
  have tj : (j : Int).toNat = j := by omega
  simp only [tj]
  refine ⟨fun hlt => ?_, fun hge => ⟨_, _, _, out, rfl, ho, hbo, by omega, hg⟩⟩
  have lj : j < l.length := by omega
  have hx := hb _ (List.getElem_mem lj)
  have rd : ∀ w', w.grownBy w' none → ∃ a, A = some a ∧ w'.cell? (a.add j) = some (.int .u8 l[j]) := fun w' g => (hr.kept_none g) j (.int .u8 l[j]) (by simp [lj])
  obtain ⟨a, ha1, ha2⟩ := rd w1 hg
  have rd2 : ∀ w', w.grownBy w' none → w'.cell? (a.add j) = some (.int .u8 l[j]) := fun w' g => by
    obtain ⟨a', e1, e2⟩ := rd w' g
    rw [ha1] at e1; cases e1; exact e2
  obtain ⟨x, hxe⟩ : ∃ x, l[j] = x := ⟨_, rfl⟩
  rw [hxe] at hx ha2
  simp only [hxe] at rd2
  have hq1 : 0 ≤ (x % 8) / (k % 3 + 1) := Int.ediv_nonneg (by omega) (by omega)
  have hq2 : (x % 8) / (k % 3 + 1) ≤ x % 8 := Int.ediv_le_self _ (by omega)
  refine ⟨a, ha1, by omega, by omega, x, ha2, ⟨by omega, by omega⟩, by omega, ⟨by omega, by omega⟩, by omega, by omega, ⟨by omega, by omega, by omega⟩, by omega, ?_⟩
  generalize (x % 8) / (k % 3 + 1) = q at *
  refine ⟨fun m2 Ai ni ci jj w2 => ∃ (u : Nat) (o2 : List Int), jj = (u : Int) ∧ (u : Int) ≤ q + 1 ∧ m2 = (q + 1 - u).toNat ∧ OwnedK w2 w.heap.size 5 1 Ai ni ci (u8s o2) ∧ BytesB o2 ∧ o2.length ≤ 8 * j + u ∧ w.grownBy w2 none,
    ⟨_, 0, out, rfl, by omega, rfl, ho, hbo, by omega, hg⟩, ?_⟩
  rintro m2 Ai ni ci jj w2 ⟨u, o2, rfl, hu, rfl, ho2, hbo2, hol2, hg2⟩
  refine ⟨fun hlt2 => ?_, fun hge2 => ⟨by omega, l.length - (j + 1), by omega, j + 1, o2, by omega, by omega, rfl, ho2, hbo2, by omega, hg2⟩⟩
  have gd := grown_drew hg2
  have gal := World.grownBy_alloc w2.drew (.cells #[.int .u8 97, .int .u8 98, .int .u8 x, .int .u8 (x / 16), .int .u8 0, .int .u8 255] 5) none
  have hr6 : Row (w2.drew.alloc (.cells #[.int .u8 97, .int .u8 98, .int .u8 x, .int .u8 (x / 16), .int .u8 0, .int .u8 255] 5)) (some ⟨w2.drew.heap.size, 0, none⟩) (u8s [97, 98, x, x / 16, 0, 255]) := row_alloc w2.drew _ 5
  have g6 := grown_trans gd gal
  have hb6 : ∀ y ∈ [97, 98, x, x / 16, 0, 255], 0 ≤ y ∧ y ≤ 255 := by
    intro y hy
    simp at hy
    omega
  obtain ⟨t, ht⟩ : ∃ t : Nat, (x + k) % 6 = (t : Int) := ⟨((x + k) % 6).toNat, by omega⟩
  have ht6 : t < 6 := by omega
  have hlt6 : t < [97, 98, x, x / 16, 0, 255].length := by simpa using ht6
  obtain ⟨b, hb1, hb2⟩ := hr6 t (.int .u8 ([97, 98, x, x / 16, 0, 255][t])) (by rw [List.getElem?_map, List.getElem?_eq_getElem hlt6]; rfl)
  have hy := hb6 _ (List.getElem_mem hlt6)
  generalize [97, 98, x, x / 16, 0, 255][t] = y at hb2 hy
  cases hb1
  have tt : (t : Int).toNat = t := by omega
  have hno2 := u8_len ho2
  have od := ho2.kept (grown_trans (grown_drew (grown_refl w2 none)) gal)
  obtain ⟨A7, n7, c7, w7, e1, e2, e3, e4⟩ := append_byte (x := y) od (by omega) g6.size
  have g7 := grown_own g6 e3 od.block_ge
  refine ⟨fun w' => w.grownBy w' none, gd, a, ha1, by omega, by omega, x, rd2 _ gd, a, ha1, by omega, by omega, x, rd2 _ gd, ⟨by omega, by omega, by omega⟩, g6, a, ha1, by omega, by omega, x, fun w' h => rd2 w' h, by omega, by omega, by omega, ⟨by omega, by omega⟩, ?_⟩
  rw [ht]
  refine ⟨_, rfl, by omega, by omega, y, by rw [tt]; exact hb2, grown_trans g6 (World.grownBy_alloc _ _ none), A7, n7, c7, w7, e1, g7, by omega, (q + 1 - ((u + 1 : Nat) : Int)).toNat, by omega, u + 1, o2 ++ [y], by omega, by omega, rfl, e2, ?_, by simp; omega, g7⟩
  intro z hz
  rcases List.mem_append.1 hz with e | e
  · exact hbo2 z e
  · have : z = y := by simpa using e
    rw [this]; exact hy
end Go.Proofs.Ytmenmmgfdakeeaa
