/- archipelagolaw7.HuffTells: the walk. -/
import Derived.Test.YtmenmmgfdakeeaaH12g
namespace Go.Proofs.Ytmenmmgfdakeeaa
open Go Go.V Go.RowKit
set_option linter.unusedVariables false
set_option linter.unusedSimpArgs false
set_option maxHeartbeats 4000000
set_option maxRecDepth 100000

theorem same_read {x : List Int} {ev ev' : Ending} {w w' : World} (h : ReadR x ev w) (h' : ReadR x ev' w') : ∃ (A : Option Addr) (n c : Nat) (A' : Option Addr) (n' c' : Nat) (e : Int) (o : List Int),
    ev = .returned (.tuple #[.slice A n c, .int .i64 e]) ∧ ev' = .returned (.tuple #[.slice A' n' c', .int .i64 e]) ∧ Row w A (u8s o) ∧ n = o.length ∧ Row w' A' (u8s o) ∧ n' = o.length := by
  rcases h with ⟨A, n, c, o, rfl, h1, h2, h3, h4, h5⟩ | ⟨rfl, hb⟩
  · obtain ⟨A', n', c', rfl, q1, q2⟩ := read_good h3 (by omega) h5 h'
    exact ⟨_, _, _, _, _, _, _, o, rfl, rfl, h1, h2, q1, q2⟩
  · rcases h' with ⟨A, n, c, o, rfl, h1, h2, h3, h4, h5⟩ | ⟨rfl, _⟩
    · exact absurd h5 (hb o h3 (by omega))
    · exact ⟨_, _, _, _, _, _, _, [], rfl, rfl, Row.nil _ _, rfl, Row.nil _ _, rfl⟩
theorem wrapB (z : Int) : 0 ≤ IntKind.wrap .u8 z ∧ IntKind.wrap .u8 z ≤ 255 := by
  have : IntKind.wrap .u8 z = z % 256 := by simp [IntKind.wrap, IntKind.bits, IntKind.signed]
  omega
theorem row_take {w : World} {A : Option Addr} {l : List Int} (h : Row w A (u8s l)) (q : Nat) : Row w A (u8s (l.take q)) := by
  intro j u hj
  rw [show u8s (l.take q) = (u8s l).take q by rw [u8s, List.map_take], List.getElem?_take] at hj
  split at hj
  · exact h j u hj
  · cases hj

theorem walkHuffTells {w : World} {A B : Option Addr} {n c m d : Nat} {raw l : List Int} {k how at_ ch : Int} (hraw : Row w A (u8s raw)) (hn : n = raw.length) (hnc : n ≤ c) (hrb : BytesB raw) (hrow : Row w B (u8s l)) (hm : m = l.length) (hb : BytesB l) (hk : 0 ≤ k ∧ k ≤ 255) (hhow : 0 ≤ how ∧ how ≤ 255) (hat : 0 ≤ at_ ∧ at_ ≤ 65535) (hch : 0 ≤ ch ∧ ch ≤ 255) :
    Calls P 9 #[.slice A n c, .slice B m d, .int .u8 k, .int .u8 how, .int .u16 at_, .int .u8 ch] w fun ev w' => ev = .returned (.bool true) ∧ w.grownBy w' none := by
  apply vc9; unfold VC9
  simp only [InK]
  refine known7_calls.mono fun ev w1 hh => ?_
  obtain ⟨rfl, g1⟩ := hh
  refine ⟨true, rfl, fun h => absurd h (by simp), fun _ => ⟨fun _ => ⟨by trivial, g1⟩, fun h60 => ⟨fun _ => ⟨by trivial, g1⟩, fun h40 => ?_⟩⟩⟩
  refine (text_calls (hrow.kept_none g1) hm hb hk (by omega)).mono fun ev w2 hh => ?_
  obtain ⟨A2, n2, c2, b, rfl, o2, hbb, hbl, g2⟩ := hh
  have hn2 := u8_len o2
  refine ⟨_, _, _, rfl, ?_⟩
  refine (rhput_calls o2.row hn2 hbb (by omega)).mono fun ev w3 hh => ?_
  obtain ⟨A3, n3, c3, rfl, o3, g3⟩ := hh
  have hn3 := u8_len o3
  have hpl := putH_len hbb (by omega)
  have hpp := putH_pos b
  have hc3 := owned_le o3
  refine ⟨_, _, _, rfl, ?_⟩
  have gd := grown_drew (grown_refl w3 none)
  have g03 := grown_trans (grown_trans g1 g2) g3
  have hraw3 := hraw.kept_none g03
  have r23 := o2.row.kept_none g3
  refine ⟨fun q w' => q = false ∧ w3.grownBy w' none, ⟨fun w' => w3.grownBy w' none, gd, ?_, ?_⟩, ?_⟩
  · refine (hput_calls (r23.kept_none gd) hn2 hbb (by omega)).mono fun ev w4 hh => ?_
    obtain ⟨A4, n4, c4, rfl, o4, g4⟩ := hh
    have g34 := grown_trans gd g4
    refine ⟨_, _, _, rfl, g34, _, convert_calls o4.row (u8_len o4), _, fun w' h => convert_calls (o3.row.kept_none h) hn3, _, fun w => run_neqS _ _ _ _ w, fun h => absurd h (by simp), fun _ => ?_⟩
    refine (hput_calls (hraw3.kept_none g34) hn hrb (by omega)).mono fun ev w5 hh => ?_
    obtain ⟨A5, n5, c5, rfl, o5, g5⟩ := hh
    have g35 := grown_trans g34 g5
    refine ⟨_, _, _, rfl, g35, _, convert_calls o5.row (u8_len o5), ?_⟩
    refine (rhput_calls (hraw3.kept_none g35) hn hrb (by omega)).mono fun ev w6 hh => ?_
    obtain ⟨A6, n6, c6, rfl, o6, g6⟩ := hh
    have g36 := grown_trans g35 g6
    refine ⟨_, _, _, rfl, g36, _, convert_calls o6.row (u8_len o6), _, fun w => run_neqS _ _ _ _ w, fun h => absurd h (by simp), fun _ => ?_⟩
    refine (hcounts_calls (r23.kept_none g36) hn2 hbb (by omega)).mono fun ev w7 hh => ?_
    obtain ⟨A7, n7, c7, rfl, o7, g7⟩ := hh
    have g37 := grown_trans g36 g7
    refine ⟨_, _, _, rfl, g37, ?_⟩
    refine (rhcounts_calls (r23.kept_none g37) hn2 hbb (by omega)).mono fun ev w8 hh => ?_
    obtain ⟨A8, n8, c8, rfl, o8, g8⟩ := hh
    have g38 := grown_trans g37 g8
    refine ⟨_, _, _, rfl, g38, ?_⟩
    have hn7 : n7 = (cntB b).length := by rw [o7.cases.1]; simp [ints]
    have hn8 : n8 = (cntB b).length := by rw [o8.cases.1]; simp [ints]
    refine (ints_calls (o7.row.kept_none g8) o8.row hn7 hn8 (by rw [hn7, cntB_length]; omega)).mono fun ev w9 hh => ?_
    obtain ⟨rfl, g9⟩ := hh
    exact ⟨_, rfl, grown_trans g38 g9, by simp, grown_trans g38 g9⟩
  · refine (hput_calls (r23.kept_none gd) hn2 hbb (by omega)).mono fun ev w4 hh => ?_
    obtain ⟨A4, n4, c4, rfl, o4, g4⟩ := hh
    have g34 := grown_trans gd g4
    refine ⟨_, _, _, rfl, g34, _, convert_calls o4.row (u8_len o4), _, fun w' h => convert_calls (o3.row.kept_none h) hn3, _, fun w => run_neqS _ _ _ _ w, fun h => absurd h (by simp), fun _ => ?_⟩
    refine (hput_calls (hraw3.kept_none g34) hn hrb (by omega)).mono fun ev w5 hh => ?_
    obtain ⟨A5, n5, c5, rfl, o5, g5⟩ := hh
    have g35 := grown_trans g34 g5
    refine ⟨_, _, _, rfl, g35, ?_⟩
    refine (rhput_calls (hraw3.kept_none g35) hn hrb (by omega)).mono fun ev w6 hh => ?_
    obtain ⟨A6, n6, c6, rfl, o6, g6⟩ := hh
    have g36 := grown_trans g35 g6
    refine ⟨_, _, _, rfl, g36, _, convert_calls (o5.row.kept_none g6) (u8_len o5), _, convert_calls o6.row (u8_len o6), _, fun w => run_neqS _ _ _ _ w, fun h => absurd h (by simp), fun _ => ?_⟩
    refine (hcounts_calls (r23.kept_none g36) hn2 hbb (by omega)).mono fun ev w7 hh => ?_
    obtain ⟨A7, n7, c7, rfl, o7, g7⟩ := hh
    have g37 := grown_trans g36 g7
    refine ⟨_, _, _, rfl, g37, ?_⟩
    refine (rhcounts_calls (r23.kept_none g37) hn2 hbb (by omega)).mono fun ev w8 hh => ?_
    obtain ⟨A8, n8, c8, rfl, o8, g8⟩ := hh
    have g38 := grown_trans g37 g8
    refine ⟨_, _, _, rfl, g38, ?_⟩
    have hn7 : n7 = (cntB b).length := by rw [o7.cases.1]; simp [ints]
    have hn8 : n8 = (cntB b).length := by rw [o8.cases.1]; simp [ints]
    refine (ints_calls (o7.row.kept_none g8) o8.row hn7 hn8 (by rw [hn7, cntB_length]; omega)).mono fun ev w9 hh => ?_
    obtain ⟨rfl, g9⟩ := hh
    exact ⟨_, rfl, grown_trans g38 g9, by simp, grown_trans g38 g9⟩
  rintro q w9 ⟨rfl, g39⟩
  refine ⟨fun h => (by cases h), fun _ => ?_⟩
  have r39 := o3.row.kept_none g39
  obtain ⟨A10, n10, c10, w10, e1, e2, e3, e4⟩ := append_bytes (n := 0) (c := 0) (A := none) (xs := []) (OwnedK.nil w9 w9.heap.size 5 1) r39 hn3 (owned_cap o3) (by omega) (Nat.le_refl _)
  have g910 : w9.grownBy w10 none := grown_own (grown_refl w9 none) e3 (fun k hk => by simp [Value.ownBlock] at hk)
  rw [List.nil_append] at e2
  have hn10 : n10 = n3 := by omega
  subst hn10
  obtain ⟨_, ⟨_, h0, _⟩ | ⟨g, rfl, hgb, hmax, hlc, hown⟩⟩ := Owned.cases (show Owned w10 w9.heap.size 5 A10 n10 c10 (u8s (putH b)) from e2)
  · omega
  have hm0 := Int.emod_nonneg at_ (show (n10 : Int) ≠ 0 by omega)
  have hm1 := Int.emod_lt_of_pos at_ (show (0 : Int) < (n10 : Int) by omega)
  obtain ⟨q, hq⟩ : ∃ q : Nat, at_ % (n10 : Int) = (q : Int) := ⟨(at_ % (n10 : Int)).toNat, by omega⟩
  have tq : (q : Int).toNat = q := by omega
  have hql : q < (putH b).length := by omega
  have hyb := putH_bytes b _ (List.getElem_mem hql)
  have hcell := hown.cell (j := q) (u := .int .u8 (putH b)[q]) (by rw [List.getElem?_map, List.getElem?_eq_getElem hql]; rfl)
  have hset : ∀ v : Int, 0 ≤ v ∧ v ≤ 255 → Row (w10.setCell ((⟨g, 0, none⟩ : Addr).add q) (.int .u8 v)) (some ⟨g, 0, none⟩) (u8s ((putH b).set q v)) ∧ n10 = ((putH b).set q v).length ∧ n10 ≤ c10 ∧ BytesB ((putH b).set q v) ∧ ((putH b).set q v).length ≤ 2 ^ 15 ∧ w9.grownBy (w10.setCell ((⟨g, 0, none⟩ : Addr).add q) (.int .u8 v)) none := by
    intro v hv
    have h1 := (hown.set (j := q) (by rw [List.length_map]; omega) (.int .u8 v)).row
    refine ⟨?_, by simp; omega, hlc, ?_, by simp; omega, ?_⟩
    · rw [u8s, List.map_set]; exact h1
    · intro y hy
      rcases List.mem_or_eq_of_mem_set hy with e | e
      · exact putH_bytes b y e
      · rw [e]; exact hv
    · exact (set2 (S := fun k => w9.heap.size ≤ k) (Kp.of_none g910) hgb).grown (fun k hk e => by omega)
  refine ⟨_, _, _, w10, e1, by omega, ⟨by omega, by omega⟩, ⟨by omega, by omega⟩, ?_⟩
  rw [hq, tq]
  refine ⟨fun dA dn dc w' => ∃ dl : List Int, Row w' dA (u8s dl) ∧ dn = dl.length ∧ dn ≤ dc ∧ BytesB dl ∧ dl.length ≤ 2 ^ 15 ∧ w9.grownBy w' none, ⟨fun _ => ?_, fun _ => ⟨fun _ => ⟨⟨by omega, by omega⟩, ?_⟩, fun _ => ⟨fun _ => ?_, fun _ => ?_⟩⟩⟩, ?_⟩
  · exact ⟨_, rfl, by omega, by omega, _, hcell, _, rfl, by omega, by omega, ⟨_, hcell⟩, hown.notFrozen (add_block _ _), _, hset _ (wrapB _)⟩
  · exact ⟨(putH b).take q, row_take e2.row q, by rw [List.length_take]; omega, by omega, fun y hy => putH_bytes b y (List.mem_of_mem_take hy), by rw [List.length_take]; omega, g910⟩
  · obtain ⟨A11, n11, c11, w11, f1, f2, f3, f4⟩ := append_byte (x := ch) e2 (by omega) g910.size
    refine ⟨_, _, _, w11, f1, _, f2.row, u8_len f2, owned_le f2, ?_, by simp; omega, grown_own g910 f3 e2.block_ge⟩
    intro y hy
    rcases List.mem_append.1 hy with e | e
    · exact putH_bytes b y e
    · have : y = ch := by simpa using e
      rw [this]; exact hch
  · exact ⟨_, rfl, by omega, by omega, _, hcell, _, rfl, by omega, by omega, ⟨_, hcell⟩, hown.notFrozen (add_block _ _), _, hset _ (wrapB _)⟩
  rintro dA dn dc w12 ⟨dl, rd, hdn, hdc, hdb, hdl, g912⟩
  have g312 := grown_trans g39 g912
  have gal := World.grownBy_alloc w12 (.cells #[.slice A n c, .slice A3 n10 c3, .slice dA dn dc] 39) none
  have hblk : (w12.alloc (.cells #[.slice A n c, .slice A3 n10 c3, .slice dA dn dc] 39)).heap[w12.heap.size]? = some (.cells #[.slice A n c, .slice A3 n10 c3, .slice dA dn dc] 39 (0, 0)) := heap_alloc_new w12 _
  obtain ⟨w13, hw13⟩ : ∃ w13, w13 = w12.alloc (.cells #[.slice A n c, .slice A3 n10 c3, .slice dA dn dc] 39) := ⟨_, rfl⟩
  rw [← hw13] at gal hblk ⊢
  have l13 : w12.heap.size < w13.heap.size := (Array.getElem?_eq_some_iff.1 hblk).1
  refine ⟨fun ms i w' => ∃ j : Nat, i = (j : Int) ∧ j ≤ 3 ∧ ms = 3 - j ∧ w13.grownBy w' none, ⟨_, 0, rfl, by omega, rfl, grown_refl _ _⟩, ?_⟩
  rintro ms i w14 ⟨j, rfl, hj, rfl, g14⟩
  have tj : (j : Int).toNat = j := by omega
  rw [tj]
  refine ⟨fun hlt => ?_, fun _ => ⟨by trivial, grown_trans g03 (grown_trans g312 (grown_trans gal g14))⟩⟩
  have hblk14 : w14.heap[w12.heap.size]? = some (.cells #[.slice A n c, .slice A3 n10 c3, .slice dA dn dc] 39 (0, 0)) := by rw [g14.block _ l13 (by simp)]; exact hblk
  obtain ⟨X, xn, xc, xs, hx1, hx2, hx3, hx4, hx5, hx6⟩ : ∃ (X : Option Addr) (xn xc : Nat) (xs : List Int), (#[Value.slice A n c, .slice A3 n10 c3, .slice dA dn dc] : Array Value)[j]? = some (.slice X xn xc) ∧ Row w12 X (u8s xs) ∧ xn = xs.length ∧ xn ≤ xc ∧ BytesB xs ∧ xs.length ≤ 2 ^ 16 := by
    have h3 : j = 0 ∨ j = 1 ∨ j = 2 := by omega
    rcases h3 with rfl | rfl | rfl
    · exact ⟨_, _, _, raw, rfl, hraw3.kept_none g312, hn, hnc, hrb, by omega⟩
    · exact ⟨_, _, _, _, rfl, o3.row.kept_none g312, hn3, hc3, putH_bytes b, by omega⟩
    · exact ⟨_, _, _, dl, rfl, rd, hdn, hdc, hdb, by omega⟩
  have g1214 := grown_trans gal g14
  refine ⟨_, rfl, by omega, by omega, X, xn, xc, ?_, ?_⟩
  · rw [add_lit, blk_cell hblk14 j, hx1]
  refine (hread_calls (hx2.kept_none g1214) hx3 hx4 hx5 hx6).mono fun ev w15 hh => ?_
  obtain ⟨g15, h15⟩ := hh
  have hread2 := rread_calls ((hx2.kept_none g1214).kept_none g15) hx3 hx4 hx5 hx6
  have hshape : ∃ (Y : Option Addr) (yn yc : Nat) (ye : Int), ev = .returned (.tuple #[.slice Y yn yc, .int .i64 ye]) := by
    rcases h15 with ⟨Y, yn, yc, o, rfl, _⟩ | ⟨rfl, _⟩
    · exact ⟨_, _, _, _, rfl⟩
    · exact ⟨_, _, _, _, rfl⟩
  obtain ⟨Y, yn, yc, ye, rfl⟩ := hshape
  refine ⟨_, _, _, _, rfl, ?_⟩
  refine hread2.mono fun ev w16 hh => ?_
  obtain ⟨g16, h16⟩ := hh
  obtain ⟨Y', yn', yc', Z, zn, zc, e, o, he1, rfl, q1, q2, q3, q4⟩ := same_read h15 h16
  cases he1
  exact ⟨_, _, _, _, rfl, fun h => absurd rfl h, fun _ => ⟨_, convert_calls (q1.kept_none g16) q2, _, convert_calls q3 q4, _, fun w => run_neqS _ _ _ _ w, fun h => absurd h (by simp), fun _ => ⟨by omega, 3 - (j + 1), by omega, j + 1, by omega, by omega, rfl, grown_trans g14 (grown_trans g15 g16)⟩⟩⟩
end Go.Proofs.Ytmenmmgfdakeeaa
