/- archipelagolaw6.CodePlays: the walk. -/
import Derived.Test.YtmenmmgfdakeeaaG3g
import Derived.Test.YtmenmmgfdakeeaaGGg
namespace Go.Proofs.Ytmenmmgfdakeeaa
open Go Go.V Go.RowKit
set_option linter.unusedVariables false
set_option linter.unusedSimpArgs false
set_option maxHeartbeats 4000000
set_option maxRecDepth 100000

theorem place_calls {w : World} {k n : Int} (hn : 0 < n ∧ n ≤ 1000) (hk : -9223372036854775808 ≤ k ∧ k ≤ 9223372036854775807) : Calls P 38 #[.int .i64 k, .int .i64 n] w fun ev w' => ∃ r : Int, ev = .returned (.int .i64 r) ∧ w' = w := by
  apply vc38; unfold VC38
  simp only [InK]
  have h1 : -n < k.tmod n ∧ k.tmod n < n := by
    have := Int.natAbs_tmod k n
    have h2 : (k.tmod n).natAbs < n.natAbs := by
      rw [this]; exact Nat.mod_lt _ (by omega)
    omega
  refine ⟨by omega, fun h => ⟨by omega, _, rfl, trivial⟩, fun h => ⟨_, rfl, trivial⟩⟩

theorem takeR_tuple (ls l : List Int) (at_ : Nat) : ∃ (s : Int) (b : Bool), (takeR ls l at_).1 = .tuple #[.int .i64 s, .bool b] := by
  unfold takeR
  split
  · exact ⟨_, _, rfl⟩
  · exact ⟨_, _, rfl⟩

theorem bitsFor_len {ls : List Int} (h : rightL ls = true) (s : Int) : (bitsFor ls s).length ≤ 15 := by
  unfold bitsFor
  split
  · have := (right_is h).2.1 s.toNat
    rw [bitsOf_length]; omega
  · simp

theorem walkPlays {w : World} {A B D : Option Addr} {n c m d q e : Nat} {l sy raw : List Int} {k : Int} (hrow : Row w A (u16s l)) (hn : n = l.length) (hb : ∀ x ∈ l, 0 ≤ x ∧ x ≤ 65535)
    (hsy : Row w B (ints sy)) (hm : m = sy.length) (hsb : ∀ x ∈ sy, -9223372036854775808 ≤ x ∧ x ≤ 9223372036854775807) (hraw : Row w D (u8s raw)) (hq : q = raw.length) (hrb : ∀ x ∈ raw, 0 ≤ x ∧ x ≤ 255) (hk : 0 ≤ k ∧ k ≤ 255) :
    Calls P 5 #[.slice A n c, .slice B m d, .slice D q e, .int .u8 k] w fun ev w' => ev = .returned (.bool true) ∧ w.grownBy w' none := by
  apply vc5; unfold VC5
  refine known6_calls.mono fun ev w1 hh => ?_
  obtain ⟨rfl, g1⟩ := hh
  refine ⟨true, rfl, fun h => absurd h (by simp), fun _ => ⟨fun _ => ⟨rfl, g1⟩, fun h40 => ⟨fun _ => ⟨rfl, g1⟩, fun h40' => ⟨fun _ => ⟨rfl, g1⟩, fun h40'' => ?_⟩⟩⟩⟩
  refine (lengths6_calls (hrow.kept_none g1) hn hb (by omega) (by omega) (by omega)).mono fun ev w2 hh => ?_
  obtain ⟨A2, n2, c2, rfl, o2, g2⟩ := hh
  have hll := lens6_length (l := l) (by omega) 0 1
  generalize hx : lens6 l 0 1 = ls at *
  have hn2 : n2 = ls.length := by rw [o2.cases.1]; simp [ints]
  refine ⟨_, _, _, rfl, ?_⟩
  have g12 := grown_trans g1 g2
  refine (new_calls o2.row hn2 (by omega)).mono fun ev w3 hh => ?_
  obtain ⟨g3, ⟨hf, rfl⟩ | ⟨hR, gt, rfl, hT⟩⟩ := hh
  · refine ⟨_, _, rfl, fun _ => ?_, fun h => absurd rfl h⟩
    refine (refRight_calls (o2.row.kept_none g3) hn2).mono fun ev w4 hh => ?_
    obtain ⟨rfl, g4⟩ := hh
    rw [hf]
    exact ⟨_, rfl, rfl, grown_trans (grown_trans g12 g3) g4⟩
  have g13 := grown_trans g12 g3
  obtain ⟨h256, hrng, hone⟩ := right_is hR
  have hpos : 0 < ls.length := by
    have h1 := List.length_pos_iff.2 (posL_pos hR)
    rcases Nat.eq_zero_or_pos ls.length with e | e
    · have : ls = [] := List.eq_nil_of_length_eq_zero e
      rw [this] at h1; simp [ordL, posL, inOrder] at h1
    · exact e
  refine ⟨_, _, rfl, fun h => (by cases h), fun _ => ⟨fun h => (by cases h), fun _ => ?_⟩⟩
  have r3 := o2.row.kept_none g3
  refine (refCodes_calls r3 hn2 (by omega)).mono fun ev w6 hh => ?_
  obtain ⟨A6, n6, c6, rfl, o6, g6⟩ := hh
  have hn6 : n6 = ls.length := by rw [o6.cases.1]; simp [ints, codesL_length hR]
  refine ⟨_, _, _, rfl, ?_⟩
  have g16 := grown_trans g13 g6
  refine (newWriter_calls (base := w6.heap.size) (Nat.le_refl _)).mono fun ev w7 hh => ?_
  obtain ⟨rfl, hW7, g7⟩ := hh
  refine ⟨_, rfl, ?_⟩
  have g7a := World.grownBy_alloc w7 (.cells #[.slice none 0 0] 45) none
  have hV : RWr (w7.alloc (.cells #[.slice none 0 0] 45)) w6.heap.size w7.heap.size [] := ⟨none, 0, 0, heap_alloc_new w7 _, g7.size, OwnedK.nil _ _ _ _⟩
  have hW7a := hW7.kept g7a
  obtain ⟨w8, hw8⟩ : ∃ w8, w8 = w7.alloc (.cells #[.slice none 0 0] 45) := ⟨_, rfl⟩
  rw [← hw8] at g7a hV hW7a ⊢
  -- what was there when the writers came stays
  have bL : ∀ a, A2 = some a → a.block < w6.heap.size := fun a ha => Nat.lt_of_lt_of_le (owned_blk o2 a ha) (Nat.le_trans g3.size g6.size)
  have bC : ∀ a, A6 = some a → a.block < w6.heap.size := fun a ha => owned_blk o6 a ha
  have keepL : ∀ w', Kp w6 w' (fun k => w6.heap.size ≤ k) → Row w' A2 (ints ls) := fun w' h => (r3.kept_none g6).kp h (fun a ha _ e => by have := bL a ha; omega)
  have keepC : ∀ w', Kp w6 w' (fun k => w6.heap.size ≤ k) → Row w' A6 (ints (codesL ls)) := fun w' h => o6.row.kp h (fun a ha _ e => by have := bC a ha; omega)
  have keepT : ∀ w', Kp w6 w' (fun k => w6.heap.size ≤ k) → TabAt w' w6.heap.size gt ls := fun w' h => ((hT.kept g6).mono g6.size).kp h (fun k hk e => by omega)
  have old : ∀ {X : Option Addr} {vs : List Value}, Row w X vs → ∀ w', Kp w6 w' (fun k => w6.heap.size ≤ k) → Row w' X vs := by
    intro X vs hX w' h
    have h6 := hX.kept_none g16
    by_cases e : vs = []
    · rw [e]; exact Row.nil _ _
    · obtain ⟨b, e1, e2⟩ := h6.blk e
      exact h6.kp h (fun a ha hlt e' => by rw [ha] at e1; cases e1; omega)
  have K8 : Kp w6 w8 (fun k => w6.heap.size ≤ k) := Kp.of_none (grown_trans g7 g7a)
  have tyne : ∀ {w' : World} {ts us : List TypeId} {k : Nat}, (∀ t ∈ ts, t ∉ us) → TyS w' w6.heap.size ts k → ¬ TyS w' w6.heap.size us k := by
    intro w' ts us k hd h1 h2
    obtain ⟨_, t, ht, hty⟩ := h1
    obtain ⟨_, u, hu, huy⟩ := h2
    have := hty.ne huy
    subst this
    exact hd t ht hu
  simp only [InK]
  refine ⟨fun ms i w' => ∃ (j : Nat) (bits : List Bool), i = (j : Int) ∧ j ≤ sy.length ∧ ms = sy.length - j ∧ bits.length ≤ 15 * j ∧ Wr w' w6.heap.size w6.heap.size bits ∧ RWr w' w6.heap.size w7.heap.size bits ∧ Kp w6 w' (fun k => w6.heap.size ≤ k),
    ⟨_, 0, [], rfl, by omega, rfl, by simp, hW7a, hV, K8⟩, ?_⟩
  rintro ms i w9 ⟨j, bits, rfl, hj, rfl, hbl, hW, hV9, K9⟩
  have tj : (j : Int).toNat = j := by omega
  rw [tj]
  refine ⟨fun hlt => ?_, fun hge => ?_⟩
  · have lj : j < sy.length := by omega
    obtain ⟨a, ha1, ha2⟩ := (old hsy w9 K9) j (.int .i64 sy[j]) (by simp [ints, lj])
    refine ⟨a, ha1, by omega, by omega, _, ha2, fun s w' => w' = w9, ⟨by omega, fun h4 => ?_, fun h4 => rfl⟩, ?_⟩
    · refine (place_calls (by omega) (hsb _ (List.getElem_mem lj))).mono fun ev w' hh => ?_
      obtain ⟨r, rfl, rfl⟩ := hh
      exact ⟨_, rfl, rfl⟩
    rintro s w' rfl
    have hWd : Wr w'.drew w6.heap.size w6.heap.size bits := hW.kept (grown_drew (grown_refl w' none))
    have hVd : RWr w'.drew w6.heap.size w7.heap.size bits := hV9.kept (grown_drew (grown_refl w' none))
    have hbf := bitsFor_len hR s
    refine ⟨fun b w2 => b = false ∧ Wr w2 w6.heap.size w6.heap.size (bits ++ bitsFor ls s) ∧ RWr w2 w6.heap.size w7.heap.size (bits ++ bitsFor ls s) ∧ Kp w6 w2 (fun k => w6.heap.size ≤ k), ⟨?_, ?_⟩, ?_⟩
    · refine (putSym_calls (keepT _ K9.drew) hR hWd (by omega) K9.size).mono fun ev w10 hh => ?_
      obtain ⟨rfl, hW10, k10⟩ := hh
      have K10 := K9.drew.then k10 (fun k _ e => e.1)
      have hV10 := hVd.kp k10 (fun k _ e => tyne (by decide) e)
      refine ⟨_, rfl, ?_⟩
      refine (putCode_calls (keepL _ K10) hn2 bL hR hV10 (by omega) K10.size).mono fun ev w11 hh => ?_
      obtain ⟨rfl, hV11, k11⟩ := hh
      have K11 := K10.then k11 (fun k _ e => e.1)
      have hW11 := hW10.kp k11 (fun k _ e => tyne (by decide) e)
      refine ⟨_, rfl, _, fun w => run_neq _ _ _ _ w, fun h => by simp at h, fun _ => ?_⟩
      refine (len_calls hW11).mono fun ev w12 hh => ?_
      obtain ⟨rfl, g12'⟩ := hh
      have K12 : Kp w6 w12 (fun k => w6.heap.size ≤ k) := K11.then (Kp.of_none (S := fun _ => False) g12') (fun k _ e => e.elim)
      obtain ⟨AV, nV, cV, hVa⟩ := hV11.kept g12'
      have hnV : nV = (bits ++ bitsFor ls s).length := by have := hVa.row.cases.1; rw [List.length_map] at this; omega
      exact ⟨_, rfl, _, rfl, _, _, _, blk_cell hVa.blk 0, by simp [hnV], hW11.kept g12', hV11.kept g12', K12⟩
    · refine (putSym_calls (keepT _ K9.drew) hR hWd (by omega) K9.size).mono fun ev w10 hh => ?_
      obtain ⟨rfl, hW10, k10⟩ := hh
      have K10 := K9.drew.then k10 (fun k _ e => e.1)
      have hV10 := hVd.kp k10 (fun k _ e => tyne (by decide) e)
      refine ⟨_, rfl, ?_⟩
      refine (putCode_calls (keepL _ K10) hn2 bL hR hV10 (by omega) K10.size).mono fun ev w11 hh => ?_
      obtain ⟨rfl, hV11, k11⟩ := hh
      have K11 := K10.then k11 (fun k _ e => e.1)
      have hW11 := hW10.kp k11 (fun k _ e => tyne (by decide) e)
      refine ⟨_, rfl, _, fun w => run_neq _ _ _ _ w, fun h => by simp at h, fun _ => ?_⟩
      obtain ⟨AV, nV, cV, hVa⟩ := id hV11
      have hnV : nV = (bits ++ bitsFor ls s).length := by have := hVa.row.cases.1; rw [List.length_map] at this; omega
      refine ⟨_, rfl, _, _, _, blk_cell hVa.blk 0, ?_⟩
      refine (len_calls hW11).mono fun ev w12 hh => ?_
      obtain ⟨rfl, g12'⟩ := hh
      have K12 : Kp w6 w12 (fun k => w6.heap.size ≤ k) := K11.then (Kp.of_none (S := fun _ => False) g12') (fun k _ e => e.elim)
      exact ⟨_, rfl, by simp [hnV], hW11.kept g12', hV11.kept g12', K12⟩
    · rintro b w2' ⟨rfl, h1, h2, h3⟩
      exact ⟨fun h => (by cases h), fun _ => ⟨by omega, sy.length - (j + 1), by omega, j + 1, _, by omega, by omega, rfl, by simp; omega, h1, h2, h3⟩⟩
  · have hWd : Wr w9.drew w6.heap.size w6.heap.size bits := hW.kept (grown_drew (grown_refl w9 none))
    have hVd : RWr w9.drew w6.heap.size w7.heap.size bits := hV9.kept (grown_drew (grown_refl w9 none))
    have nk : ∀ {w' w'' : World}, Kp w6 w' (fun k => w6.heap.size ≤ k) → w'.grownBy w'' none → Kp w6 w'' (fun k => w6.heap.size ≤ k) := fun h g => h.then (Kp.of_none (S := fun _ => False) g) (fun k _ e => e.elim)
    refine ⟨fun b w2 => b = false ∧ RWr w2 w6.heap.size w7.heap.size bits ∧ Kp w6 w2 (fun k => w6.heap.size ≤ k), ⟨?_, ?_⟩, ?_⟩
    · refine (bytes_calls hWd (by omega)).mono fun ev w10 hh => ?_
      obtain ⟨A10, n10, c10, rfl, o10, g10⟩ := hh
      have hn10 : n10 = (packB bits).length := by have := o10.cases.1; rw [List.length_map] at this; omega
      refine ⟨_, _, _, rfl, _, convert_calls o10.row hn10, ?_⟩
      have K10 := nk K9.drew g10
      refine (rbytes_calls (hVd.kept g10) (by omega) K10.size).mono fun ev w11 hh => ?_
      obtain ⟨A11, n11, c11, rfl, o11, g11⟩ := hh
      have hn11 : n11 = (packB bits).length := by have := o11.cases.1; rw [List.length_map] at this; omega
      exact ⟨_, _, _, rfl, _, convert_calls o11.row hn11, _, fun w => run_neqS _ _ _ _ w, by simp, (hVd.kept g10).kept g11, nk K10 g11⟩
    · refine (bytes_calls hWd (by omega)).mono fun ev w10 hh => ?_
      obtain ⟨A10, n10, c10, rfl, o10, g10⟩ := hh
      have hn10 : n10 = (packB bits).length := by have := o10.cases.1; rw [List.length_map] at this; omega
      refine ⟨_, _, _, rfl, ?_⟩
      have K10 := nk K9.drew g10
      refine (rbytes_calls (hVd.kept g10) (by omega) K10.size).mono fun ev w11 hh => ?_
      obtain ⟨A11, n11, c11, rfl, o11, g11⟩ := hh
      have hn11 : n11 = (packB bits).length := by have := o11.cases.1; rw [List.length_map] at this; omega
      exact ⟨_, _, _, rfl, _, convert_calls (o10.row.kept_none g11) hn10, _, convert_calls o11.row hn11, _, fun w => run_neqS _ _ _ _ w, by simp, (hVd.kept g10).kept g11, nk K10 g11⟩
    · rintro b w10 ⟨rfl, hV10, K10⟩
      refine ⟨fun h => (by cases h), fun _ => ?_⟩
      refine (rbytes_calls hV10 (by omega) K10.size).mono fun ev w11 hh => ?_
      obtain ⟨A11, n11, c11, rfl, o11, g11⟩ := hh
      have hn11 : n11 = (packB bits).length := by have := o11.cases.1; rw [List.length_map] at this; omega
      refine ⟨_, _, _, rfl, ?_⟩
      have K11 := nk K10 g11
      have gal := World.grownBy_alloc w11 (.cells #[.slice D q e, .slice A11 n11 c11] 39) none
      have hro := row_alloc w11 #[.slice D q e, .slice A11 n11 c11] 39
      have hs11 := Nat.le_refl w11.heap.size
      obtain ⟨w12, hw12⟩ : ∃ w12, w12 = w11.alloc (.cells #[.slice D q e, .slice A11 n11 c11] 39) := ⟨_, rfl⟩
      rw [← hw12] at gal hro ⊢
      have K12 := nk K11 gal
      refine ⟨fun ms i w13 => ∃ t : Nat, i = (t : Int) ∧ t ≤ 2 ∧ ms = 2 - t ∧ w12.grownBy w13 none, ⟨_, 0, rfl, by omega, rfl, grown_refl _ _⟩, ?_⟩
      rintro ms i w13 ⟨t, rfl, ht, rfl, g13'⟩
      have K13 := nk K12 g13'
      have tt : (t : Int).toNat = t := by omega
      rw [tt]
      refine ⟨fun hlt => ?_, fun hge2 => ⟨by trivial, grown_trans g16 (K13.grown fun k hk e => by omega)⟩⟩
      -- the bytes
      obtain ⟨Y, yn, yc, y, hcell, hy, hyn, hyb, hyl, hyblk⟩ : ∃ (Y : Option Addr) (yn yc : Nat) (y : List Int), #[Value.slice D q e, .slice A11 n11 c11].toList[t]? = some (.slice Y yn yc) ∧ Row w13 Y (u8s y) ∧ yn = y.length ∧ (∀ x ∈ y, 0 ≤ x ∧ x ≤ 255) ∧ y.length ≤ 2 ^ 40 ∧ (∀ a, Y = some a → y = [] ∨ a.block < w13.heap.size) := by
        have h2 : t = 0 ∨ t = 1 := by omega
        rcases h2 with rfl | rfl
        · refine ⟨D, q, e, raw, rfl, old hraw w13 K13, hq, hrb, by omega, fun a ha => ?_⟩
          by_cases h : raw = []
          · exact .inl h
          · obtain ⟨b, e1, e2⟩ := (old hraw w13 K13).blk (by simpa using h)
            rw [ha] at e1; cases e1; exact .inr e2
        · exact ⟨A11, n11, c11, packB bits, rfl, (o11.row.kept_none gal).kept_none g13', hn11, packB_bytes _, by rw [packB_length]; omega, fun a ha => .inr (Nat.lt_of_lt_of_le (ownedK_blk o11 a ha).2 (Nat.le_trans gal.size g13'.size))⟩
      obtain ⟨b, hb1, hb2⟩ := (hro.kept_none g13') t _ hcell
      refine ⟨b, hb1, by omega, by omega, _, _, _, hb2, ?_⟩
      refine (newReader_calls hy hyn hyblk).mono fun ev w14 hh => ?_
      obtain ⟨rfl, hRd, g14⟩ := hh
      refine ⟨_, rfl, ?_⟩
      have gR := World.grownBy_alloc w14 (.cells #[.slice Y yn yc, .int .i64 0] 56) none
      have hRR : RRdAt (w14.alloc (.cells #[.slice Y yn yc, .int .i64 0] 56)) w14.heap.size Y yn yc y 0 := ⟨by simpa using heap_alloc_new w14 (.cells #[.slice Y yn yc, .int .i64 0] 56), (hy.kept_none g14).kept_none gR, hyn, by omega, fun a ha => (hyblk a ha).imp id (fun h => by have := g14.size; omega)⟩
      have hRd2 := hRd.kept gR
      obtain ⟨w15, hw15⟩ : ∃ w15, w15 = w14.alloc (.cells #[.slice Y yn yc, .int .i64 0] 56) := ⟨_, rfl⟩
      rw [← hw15] at gR hRR hRd2 ⊢
      have h1314 : w13.heap.size < w14.heap.size := (Array.getElem?_eq_some_iff.1 hRd.blk).1
      have K15 := nk K13 (grown_trans g14 gR)
      have g1215 := grown_trans g13' (grown_trans g14 gR)
      have hs6 : w6.heap.size ≤ w13.heap.size := K13.size
      refine ⟨fun ms i w16 => ∃ (u at_ : Nat), i = (u : Int) ∧ u ≤ 40 ∧ ms = 40 - u ∧ RdAt w16 w13.heap.size Y yn yc y at_ ∧ RRdAt w16 w14.heap.size Y yn yc y at_ ∧ Kp w15 w16 (fun k => k = w13.heap.size ∨ k = w14.heap.size), ⟨_, 0, 0, rfl, by omega, rfl, hRd2, hRR, Kp.refl _ _⟩, ?_⟩
      rintro ms i w16 ⟨u, at_, rfl, hu, rfl, hRd16, hRR16, k16⟩
      have K16 : Kp w6 w16 (fun k => w6.heap.size ≤ k) := K15.then k16 (fun k _ e => by show w6.heap.size ≤ k; rcases e with e | e <;> omega)
      refine ⟨fun hlt2 => ?_, fun hge2 => ?_⟩
      · refine (takeSym_calls (keepT _ K16) hs6 hRd16 hyl hyb hR).mono fun ev w17 hh => ?_
        obtain ⟨rfl, hRd17, k17⟩ := hh
        obtain ⟨s1, b1, hs1⟩ := takeR_tuple ls y at_
        have K17 : Kp w6 w17 (fun k => w6.heap.size ≤ k) := K16.then k17 (fun k _ e => by have : k = w13.heap.size := e; show w6.heap.size ≤ k; omega)
        have hRR17 := hRR16.kp k17 (by show ¬ w14.heap.size = w13.heap.size; omega) (fun a ha => (hyblk a ha).imp id (fun h e => by have : a.block = w13.heap.size := e; omega))
        rw [hs1]
        refine ⟨s1, b1, rfl, ?_⟩
        refine (takeCode_calls hRR17 hyl hyb (keepL _ K17) hn2 (keepC _ K17) hn6 hR (fun a ha => by have := bL a ha; omega) (fun a ha => by have := bC a ha; omega)).mono fun ev w18 hh => ?_
        obtain ⟨rfl, hRR18, k18⟩ := hh
        have hRd18 := hRd17.kp k18 (by show ¬ w13.heap.size = w14.heap.size; omega) (fun a ha => (hyblk a ha).imp id (fun h e => by have : a.block = w14.heap.size := e; omega))
        rw [hs1]
        refine ⟨s1, b1, rfl, fun h => absurd rfl h, fun _ => ⟨_, fun w => run_neq _ _ _ _ w, fun h => by simp at h, fun _ => ?_⟩⟩
        refine (left_calls hRd18 hyl).mono fun ev w19 hh => ?_
        obtain ⟨rfl, g19⟩ := hh
        refine ⟨_, rfl, ?_⟩
        refine (rleft_calls (hRR18.kept g19) hyl).mono fun ev w20 hh => ?_
        obtain ⟨rfl, g20⟩ := hh
        have g1820 := grown_trans g19 g20
        exact ⟨_, rfl, fun h => absurd rfl h, fun _ => ⟨by omega, 40 - (u + 1), by omega, u + 1, _, by omega, by omega, rfl, hRd18.kept g1820, hRR18.kept g1820, ((k16.then k17 (fun k _ e => .inl e)).then k18 (fun k _ e => .inr e)).then (Kp.of_none (S := fun _ => False) g1820) (fun k _ e => e.elim)⟩⟩
      · have g1216 : w12.grownBy w16 none := by
          have h0 : Kp w12 w16 (fun k => w12.heap.size ≤ k) := (Kp.of_none g1215).then k16 (fun k _ e => by
            have := g13'.size
            show w12.heap.size ≤ k
            rcases e with e | e <;> omega)
          exact h0.grown fun k hk e => by omega
        exact ⟨by omega, 2 - (t + 1), by omega, t + 1, by omega, by omega, rfl, g1216⟩
end Go.Proofs.Ytmenmmgfdakeeaa
