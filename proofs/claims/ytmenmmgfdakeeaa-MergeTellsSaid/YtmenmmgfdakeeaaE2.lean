/- archipelagoref5.merged: what it computes. -/
import Derived.Test.YtmenmmgfdakeeaaE1
namespace Go.Proofs.Ytmenmmgfdakeeaa
open Go Go.V Go.RowKit
set_option linter.unusedVariables false
set_option linter.unusedSimpArgs false
set_option maxHeartbeats 4000000
set_option maxRecDepth 100000

/-- A new coin's two cells are laid. -/
theorem lay_coin {w : World} {g : Nat} {x y : Value} {u v : Value} (h : w.heap[g]? = some (.cells #[x, y] 136 (0, 0))) :
    (∃ z, w.cell? ⟨g, 0, none⟩ = some z) ∧ w.frozen? ⟨g, 0, none⟩ = false ∧ (∃ z, (w.setCell ⟨g, 0, none⟩ u).cell? ⟨g, 1, none⟩ = some z) ∧ (w.setCell ⟨g, 0, none⟩ u).frozen? ⟨g, 1, none⟩ = false ∧
    ((w.setCell ⟨g, 0, none⟩ u).setCell ⟨g, 1, none⟩ v).heap[g]? = some (.cells #[u, v] 136 (0, 0)) ∧ w.grownBy ((w.setCell ⟨g, 0, none⟩ u).setCell ⟨g, 1, none⟩ v) (some g) := by
  have h1 : (w.setCell ⟨g, 0, none⟩ u).heap[g]? = some (.cells #[u, y] 136 (0, 0)) := by simp [World.setCell, Array.getElem?_modify, h]
  refine ⟨⟨x, by simp [World.cell?, h]⟩, by simp [World.frozen?, h], ⟨y, by simp [World.cell?, h1]⟩, by simp [World.frozen?, h1], ?_, ?_⟩
  · simp only [World.setCell] at h1 ⊢
    simp [Array.getElem?_modify, h]
  · exact grown_set (g := g) (p := ⟨g, 1, none⟩) (grown_set (g := g) (p := ⟨g, 0, none⟩) (grown_refl _ _) rfl _) rfl _

theorem row_rc {w : World} {A : Option Addr} {L : List RC} (h : Row w A (rcs L)) {i : Nat} (hi : i < L.length) : ∃ a, A = some a ∧ w.cell? (a.add (i * 2)) = some (.int .i64 L[i].count) ∧ w.cell? ((a.add (i * 2)).add 1) = some (.slice L[i].A L[i].n L[i].c) := by
  obtain ⟨h1, h2⟩ := rcs_get hi
  obtain ⟨a, e1, e2⟩ := h _ _ h1
  obtain ⟨b, e3, e4⟩ := h _ _ h2
  rw [e1] at e3
  cases e3
  exact ⟨a, e1, e2, by rw [add_add]; exact e4⟩

theorem merged_calls {w : World} {G : Option Nat} {A B : Option Addr} {n c m d : Nat} {C L : List RC} (hA : Row w A (rcs C)) (hB : Row w B (rcs L)) (hn : n = C.length) (hm : m = L.length)
    (hC : ∀ x ∈ C, SymOk w G x) (hL : ∀ x ∈ L, SymOk w G x) (hG : ∀ g, G = some g → g < w.heap.size) (hcA : n ≤ c) (hnb : n ≤ 2 ^ 20) (hmb : m ≤ 2 ^ 20) (hb : ∀ x ∈ L, 0 ≤ x.count ∧ x.count ≤ 2 ^ 60 ∧ x.syms.length ≤ 2 ^ 30) (hn0 : 0 < n) :
    Calls P 86 #[.slice A n c, .slice B m d] w fun ev w' => ∃ (A' : Option Addr) (n' c' : Nat) (O : List RC), ev = .returned (.slice A' n' c') ∧ OwnedK w' w.heap.size 136 2 A' n' c' (rcs O) ∧ n' = O.length ∧ (∀ x ∈ O, SymOk w' G x) ∧
      O.map rcCoin = packedL (C.map rcCoin) (L.map rcCoin) ∧ w.grownBy w' none := by
  apply vc86; unfold VC86
  simp only [InK]
  refine ⟨fun ms A' n' c' k i w' => ∃ (kn j : Nat) (O : List RC), k = (kn : Int) ∧ i = ((2 * j : Nat) : Int) ∧ kn ≤ C.length ∧ 2 * j ≤ L.length ∧ O.length ≤ kn + j ∧ ms = L.length - 2 * j ∧ OwnedK w' w.heap.size 136 2 A' n' c' (rcs O) ∧ n' = O.length ∧ (∀ x ∈ O, SymOk w' G x) ∧
      O.map rcCoin ++ mergeC ((C.drop kn).map rcCoin) (packs ((L.drop (2 * j)).map rcCoin)) = packedL (C.map rcCoin) (L.map rcCoin) ∧ w.grownBy w' none,
    ⟨_, 0, 0, [], rfl, rfl, by omega, by omega, by simp, rfl, OwnedK.nil _ _ _ _, rfl, by simp, by simp [packedL], grown_refl _ _⟩, ?_⟩
  rintro ms A' n' c' k i w' ⟨kn, j, O, rfl, rfl, hk, hj, hOl, rfl, ho, hn', hO, heq, hg⟩
  refine ⟨by omega, fun hlt => ?_, fun hge => ?_⟩
  · have l1 : 2 * j < L.length := by omega
    have l2 : 2 * j + 1 < L.length := by omega
    have hdrop : L.drop (2 * j) = L[2 * j] :: L[2 * j + 1] :: L.drop (2 * (j + 1)) := by
      rw [List.drop_eq_getElem_cons l1, List.drop_eq_getElem_cons l2]; rfl
    have ba := hb _ (List.getElem_mem l1)
    have bb := hb _ (List.getElem_mem l2)
    have sa := hL _ (List.getElem_mem l1)
    have sb := hL _ (List.getElem_mem l2)
    generalize hra : L[2 * j] = ra at *
    generalize hrb : L[2 * j + 1] = rb at *
    obtain ⟨a, ha, _, _⟩ := row_rc hB l1
    have rd : ∀ w2 : World, w'.grownBy w2 none → w2.cell? (a.add (2 * j * 2)) = some (.int .i64 ra.count) ∧ w2.cell? ((a.add (2 * j * 2)).add 1) = some (.slice ra.A ra.n ra.c) ∧
        w2.cell? (a.add ((2 * j + 1) * 2)) = some (.int .i64 rb.count) ∧ w2.cell? ((a.add ((2 * j + 1) * 2)).add 1) = some (.slice rb.A rb.n rb.c) := by
      intro w2 h
      obtain ⟨b, e1, e2, e3⟩ := row_rc (hB.kept_none (grown_trans hg h)) l1
      obtain ⟨b', e4, e5, e6⟩ := row_rc (hB.kept_none (grown_trans hg h)) l2
      rw [ha] at e1 e4
      cases e1; cases e4
      rw [hra] at e2 e3
      rw [hrb] at e5 e6
      exact ⟨e2, e3, e5, e6⟩
    have t1 : ((2 * j : Nat) : Int).toNat = 2 * j := by omega
    have t2 : (((2 * j : Nat) : Int) + 1).toNat = 2 * j + 1 := by omega
    rw [t1, t2]
    -- what is made
    have hsz : ∀ g, G = some g → g < w'.heap.size := fun g h => Nat.lt_of_lt_of_le (hG g h) hg.size
    have sa1 : ∀ w2, w'.grownBy w2 none → SymOk w2 G ra := fun w2 h => (sa.keep_none hg).keep_none h
    have sb1 : ∀ w2, w'.grownBy w2 none → SymOk w2 G rb := fun w2 h => (sb.keep_none hg).keep_none h
    -- the two appends, from any world that has grown
    have app1 : ∀ w2, w'.grownBy w2 none → ∃ (A3 : Option Addr) (n3 c3 : Nat) (w3 : World), Sem.run P (Builtin.append_ #[22, 22] 22 #[.slice none 0 0, .slice ra.A ra.n ra.c]) w2 = .ok (.slice A3 n3 c3) w3 ∧ OwnedK w3 w2.heap.size 3 1 A3 n3 c3 (nats ra.syms) ∧ n3 = ra.n ∧ w2.grownBy w3 none := by
      intro w2 h
      obtain ⟨s1, s2, s3, _⟩ := sa1 w2 h
      obtain ⟨A3, n3, c3, w3, e1, e2, e3, e4⟩ := syms_append (s := []) (n := 0) (c := 0) (A := none) (d := ra.c) (m := ra.n) (OwnedK.nil w2 w2.heap.size 3 1) s1 s2 s3 (by have := ba.2.2; omega) (Nat.le_refl _)
      exact ⟨A3, n3, c3, w3, e1, by simpa using e2, by omega, e4⟩
    have app2 : ∀ w2 (A3 : Option Addr) (n3 c3 base : Nat), w'.grownBy w2 none → OwnedK w2 base 3 1 A3 n3 c3 (nats ra.syms) → n3 = ra.n → w'.heap.size ≤ base → base ≤ w2.heap.size → ∃ (A4 : Option Addr) (n4 c4 : Nat) (w4 : World),
        Sem.run P (Builtin.append_ #[22, 22] 22 #[.slice A3 n3 c3, .slice rb.A rb.n rb.c]) w2 = .ok (.slice A4 n4 c4) w4 ∧ OwnedK w4 base 3 1 A4 n4 c4 (nats (ra.syms ++ rb.syms)) ∧ w2.grownBy w4 (Value.slice A3 n3 c3).ownBlock ∧ w'.grownBy w4 none := by
      intro w2 A3 n3 c3 base h h2 h3 h4 h5
      obtain ⟨s1, s2, s3, _⟩ := sb1 w2 h
      obtain ⟨q1, q2, q3, _⟩ := sa1 w2 h
      obtain ⟨A4, n4, c4, w4, e1, e2, e3, e4⟩ := syms_append (d := rb.c) (m := rb.n) h2 s1 s2 s3 (by have := ba.2.2; have := bb.2.2; omega) h5
      exact ⟨A4, n4, c4, w4, e1, e2, e4, grown_own h e4 (fun k hk => Nat.le_trans h4 (h2.block_ge k hk))⟩
    -- the coin, once its symbols and its two cells are there
    have fin : ∀ (w5 : World) (gp : Nat) (A4 : Option Addr) (n4 c4 base : Nat), w'.grownBy w5 none → w'.heap.size ≤ gp → w5.heap[gp]? = some (.cells #[.int .i64 0, .slice none 0 0] 136 (0, 0)) → OwnedK w5 base 3 1 A4 n4 c4 (nats (ra.syms ++ rb.syms)) → w'.heap.size ≤ base →
        (∃ z, w5.cell? ⟨gp, 0, none⟩ = some z) ∧ w5.frozen? ⟨gp, 0, none⟩ = false ∧ (∃ z, (w5.setCell ⟨gp, 0, none⟩ (.int .i64 (ra.count + rb.count))).cell? ⟨gp, 1, none⟩ = some z) ∧ (w5.setCell ⟨gp, 0, none⟩ (.int .i64 (ra.count + rb.count))).frozen? ⟨gp, 1, none⟩ = false ∧
        w'.grownBy ((w5.setCell ⟨gp, 0, none⟩ (.int .i64 (ra.count + rb.count))).setCell ⟨gp, 1, none⟩ (.slice A4 n4 c4)) none ∧
        (∃ (r : RC) (g : Nat), r.count = ra.count + rb.count ∧ r.syms = ra.syms ++ rb.syms ∧ (⟨gp, 0, none⟩ : Addr) = ⟨g, 0, none⟩ ∧ w'.heap.size ≤ g ∧ ((w5.setCell ⟨gp, 0, none⟩ (.int .i64 (ra.count + rb.count))).setCell ⟨gp, 1, none⟩ (.slice A4 n4 c4)).heap[g]? = some (.cells #[.int .i64 r.count, .slice r.A r.n r.c] 136 (0, 0)) ∧
          SymOk ((w5.setCell ⟨gp, 0, none⟩ (.int .i64 (ra.count + rb.count))).setCell ⟨gp, 1, none⟩ (.slice A4 n4 c4)) G r ∧ w'.grownBy ((w5.setCell ⟨gp, 0, none⟩ (.int .i64 (ra.count + rb.count))).setCell ⟨gp, 1, none⟩ (.slice A4 n4 c4)) none) := by
      intro w5 gp A4 n4 c4 base h1 h2 h3 h4 h5
      obtain ⟨k1, k2, k3, k4, k5, k6⟩ := lay_coin (u := .int .i64 (ra.count + rb.count)) (v := .slice A4 n4 c4) h3
      have k7 := grown_own h1 k6 (by intro q hq; cases hq; exact h2)
      refine ⟨k1, k2, k3, k4, k7, ⟨ra.count + rb.count, A4, n4, c4, ra.syms ++ rb.syms⟩, gp, rfl, rfl, rfl, h2, k5, ?_, k7⟩
      have hpos : 0 < (ra.syms ++ rb.syms).length := by have := sa.2.1; have := sa.2.2.1; simp; omega
      refine (SymOk.fresh (G := G) h4 hpos (fun g hg2 => Nat.lt_of_lt_of_le (hsz g hg2) h5) (ra.count + rb.count)).keep k6 ?_
      intro g hg2
      cases hg2
      exact .inr ⟨_, 136, _, h3, by decide⟩
    refine ⟨fun p w6 => ∃ (r : RC) (g : Nat), r.count = ra.count + rb.count ∧ r.syms = ra.syms ++ rb.syms ∧ p = ⟨g, 0, none⟩ ∧ w'.heap.size ≤ g ∧ w6.heap[g]? = some (.cells #[.int .i64 r.count, .slice r.A r.n r.c] 136 (0, 0)) ∧ SymOk w6 G r ∧ w'.grownBy w6 none, ?_, ?_⟩
    · refine ⟨fun w2 => w'.grownBy w2 none, grown_drew (grown_refl _ _), ?_⟩
      have gd := grown_drew (grown_refl w' none)
      have sd : w'.drew.heap.size = w'.heap.size := rfl
      refine ⟨⟨⟨a, ha, by omega, by omega, ra.count, fun w2 h => (rd w2 h).1, by omega, a, ha, by omega, by omega, rb.count, fun w2 h => (rd w2 h).2.2.1, by omega, a, ha, by omega, by omega, ra.A, ra.n, ra.c, fun w2 h => (rd w2 h).2.1, ?_⟩, ⟨a, ha, by omega, by omega, ra.count, fun w2 h => (rd w2 h).1, by omega, a, ha, by omega, by omega, rb.count, fun w2 h => (rd w2 h).2.2.1, by omega, a, ha, by omega, by omega, ra.A, ra.n, ra.c, fun w2 h => (rd w2 h).2.1, ?_⟩⟩, ⟨a, ha, by omega, by omega, ra.count, fun w2 h => (rd w2 h).1, by omega, a, ha, by omega, by omega, rb.count, fun w2 h => (rd w2 h).2.2.1, by omega, a, ha, by omega, by omega, ra.A, ra.n, ra.c, fun w2 h => (rd w2 h).2.1, ?_⟩⟩
      · obtain ⟨A3, n3, c3, w3, e1, e2, e3, e4⟩ := app1 _ gd
        have g3 := grown_trans gd e4
        obtain ⟨A4, n4, c4, w4, f1, f2, f3, f4⟩ := app2 w3 A3 n3 c3 _ g3 e2 e3 (Nat.le_of_eq sd.symm) e4.size
        have g5 := World.grownBy_alloc w4 (.cells #[.int .i64 0, .slice none 0 0] 136) none
        have h5 := heap_alloc_new w4 (.cells #[.int .i64 0, .slice none 0 0] 136)
        obtain ⟨k1, k2, k3, k4, k5, k6⟩ := fin _ w4.heap.size A4 n4 c4 _ (grown_trans f4 g5) f4.size h5 (f2.kept g5) (Nat.le_of_eq sd.symm)
        exact ⟨A3, n3, c3, w3, e1, g3, by omega, a, ha, by omega, by omega, rb.A, rb.n, rb.c, fun w2 h => (rd w2 h).2.2.2, A4, n4, c4, w4, f1, f4, grown_trans f4 g5, k1, k2, k3, k4, k5, k6⟩
      · obtain ⟨A3, n3, c3, w3, e1, e2, e3, e4⟩ := app1 _ gd
        have g3 := grown_trans gd e4
        have g5 := World.grownBy_alloc w3 (.cells #[.int .i64 0, .slice none 0 0] 136) none
        have h5 := heap_alloc_new w3 (.cells #[.int .i64 0, .slice none 0 0] 136)
        obtain ⟨A4, n4, c4, w4, f1, f2, f3, f4⟩ := app2 _ A3 n3 c3 _ (grown_trans g3 g5) (e2.kept g5) e3 (Nat.le_of_eq sd.symm) (Nat.le_trans e4.size g5.size)
        have h6 : w4.heap[w3.heap.size]? = some (.cells #[.int .i64 0, .slice none 0 0] 136 (0, 0)) := by
          rw [f3.block _ (by simp) (fun e => by have := e2.block_lt _ e.symm; omega)]; exact h5
        obtain ⟨k1, k2, k3, k4, k5, k6⟩ := fin w4 w3.heap.size A4 n4 c4 _ f4 g3.size h6 f2 (Nat.le_of_eq sd.symm)
        exact ⟨A3, n3, c3, w3, e1, g3, by omega, a, ha, by omega, by omega, rb.A, rb.n, rb.c, fun w2 h => (rd w2 h).2.2.2, grown_trans g3 g5, A4, n4, c4, w4, f1, f4, k1, k2, k3, k4, k5, k6⟩
      · have g5 := grown_alloc gd (.cells #[.int .i64 0, .slice none 0 0] 136)
        have h5 := heap_alloc_new w'.drew (.cells #[.int .i64 0, .slice none 0 0] 136)
        obtain ⟨A3, n3, c3, w3, e1, e2, e3, e4⟩ := app1 _ g5
        have g3 := grown_trans g5 e4
        obtain ⟨A4, n4, c4, w4, f1, f2, f3, f4⟩ := app2 w3 A3 n3 c3 _ g3 e2 e3 g5.size e4.size
        have h6 : w3.heap[w'.drew.heap.size]? = some (.cells #[.int .i64 0, .slice none 0 0] 136 (0, 0)) := by
          rw [e4.block _ (by simp) (by simp)]; exact h5
        have h7 : w4.heap[w'.drew.heap.size]? = some (.cells #[.int .i64 0, .slice none 0 0] 136 (0, 0)) := by
          rw [f3.block _ (Array.getElem?_eq_some_iff.1 h6).1 (fun e => by have := e2.block_ge _ e.symm; simp at this; omega)]; exact h6
        obtain ⟨k1, k2, k3, k4, k5, k6⟩ := fin w4 w'.drew.heap.size A4 n4 c4 _ f4 (Nat.le_of_eq sd.symm) h7 f2 g5.size
        exact ⟨by omega, a, ha, by omega, by omega, rb.A, rb.n, rb.c, fun w2 h => (rd w2 h).2.2.2, g5, A3, n3, c3, w3, e1, g3, A4, n4, c4, w4, f1, f4, k1, k2, k3, k4, k5, k6⟩
    · rintro p w6 ⟨r, gp, hrc, hrs, rfl, hgp, hp6, hsr, g6⟩
      have hg6 : w.grownBy w6 none := grown_trans hg g6
      have hpk : w6.heap.size ≤ w6.heap.size := Nat.le_refl _
      -- coins ahead of the package
      refine ⟨fun ms A2 n2 c2 k2 w2 => ∃ (kn : Nat) (O : List RC), k2 = (kn : Int) ∧ kn ≤ C.length ∧ O.length ≤ kn + j ∧ ms = C.length - kn ∧ OwnedK w2 w.heap.size 136 2 A2 n2 c2 (rcs O) ∧ n2 = O.length ∧ ((Value.slice A2 n2 c2).ownBlock ≠ some gp) ∧ (∀ x ∈ O, SymOk w2 G x) ∧
          O.map rcCoin ++ mergeC ((C.drop kn).map rcCoin) ((ra.count + rb.count, ra.syms ++ rb.syms) :: packs ((L.drop (2 * (j + 1))).map rcCoin)) = packedL (C.map rcCoin) (L.map rcCoin) ∧ w.grownBy w2 none ∧ w2.heap[gp]? = some (.cells #[.int .i64 r.count, .slice r.A r.n r.c] 136 (0, 0)) ∧ SymOk w2 G r,
        ⟨_, kn, O, rfl, hk, by omega, rfl, ho.kept g6, hn', ?_, fun x hx => (hO x hx).keep_none g6, ?_, hg6, hp6, hsr⟩, ?_⟩
      · intro e
        have := ho.block_lt _ e
        omega
      · rw [← heq, hdrop]
        rfl
      clear heq ho hO hOl hk hn'
      rintro ms A2 n2 c2 k2 w2 ⟨kn, O, rfl, hk, hOl, rfl, ho, hn2, hne, hO, heq, hg2, hp2, hs2⟩
      -- one coin more
      have one : ∀ (x : RC), SymOk w2 G x → ∃ (A4 : Option Addr) (n4 c4 : Nat), ∃ w4 : World,
          Sem.run P (Builtin.append_ #[133, 133] 133 #[.slice A2 n2 c2, .slice (some ⟨w2.drew.heap.size, 0, none⟩) 1 1]) (w2.drew.alloc (.cells #[.int .i64 x.count, .slice x.A x.n x.c] 136)) = .ok (.slice A4 n4 c4) w4 ∧
          OwnedK w4 w.heap.size 136 2 A4 n4 c4 (rcs (O ++ [x])) ∧ n4 = (O ++ [x]).length ∧ w.grownBy w4 none ∧ (∀ y ∈ O ++ [x], SymOk w4 G y) ∧ SymOk w4 G r ∧ w4.heap[gp]? = some (.cells #[.int .i64 r.count, .slice r.A r.n r.c] 136 (0, 0)) ∧ (Value.slice A4 n4 c4).ownBlock ≠ some gp := by
        intro x hx
        have g3 := grown_drew (grown_refl w2 none)
        have s3 : w2.drew.heap.size = w2.heap.size := rfl
        obtain ⟨A4, n4, c4, w4, h3, h4, h5, h6, hat⟩ := coin_append (r := x) (ho.kept g3) (by omega) (show w.heap.size ≤ w2.drew.heap.size from hg2.size)
        have hq : ∀ g, (Value.slice A2 n2 c2).ownBlock = some g → some g = G ∨ ∃ (cur : Array Value) (e : TypeId) (fr : Nat × Nat), w2.drew.heap[g]? = some (.cells cur e fr) ∧ e ≠ 3 := by
          intro g hg3
          obtain ⟨cur, h7⟩ := ho.block_type g hg3
          exact .inr ⟨cur, 136, _, h7, by decide⟩
        have keep : ∀ y, SymOk w2 G y → SymOk w4 G y := fun y hy => (hy.keep_none g3).keep h6 hq
        refine ⟨A4, n4, c4, w4, h3, h4, by rw [h5, hn2]; simp, grown_own (grown_drew hg2) h6 (ho.kept g3).block_ge, ?_, keep r hs2, ?_, ?_⟩
        · intro y hy
          rcases List.mem_append.1 hy with e | e
          · exact keep y (hO y e)
          · have : y = x := by simpa using e
            subst this; exact keep y hx
        · rw [h6.block gp (Array.getElem?_eq_some_iff.1 hp2).1 (fun e => hne e.symm)]
          exact hp2
        · rcases hat with e | ⟨g, e, hge⟩
          · rw [e]; exact hne
          · rw [e]
            intro hh
            have h7 := (Array.getElem?_eq_some_iff.1 hp2).1
            have h8 : w2.heap.size ≤ g := hge
            cases hh
            omega
      have last : (∀ ps, mergeC ((C.drop kn).map rcCoin) ((ra.count + rb.count, ra.syms ++ rb.syms) :: ps) = (ra.count + rb.count, ra.syms ++ rb.syms) :: mergeC ((C.drop kn).map rcCoin) ps) → ∃ (A4 : Option Addr) (n4 c4 : Nat), ∃ w4 : World,
          Sem.run P (Builtin.append_ #[133, 133] 133 #[.slice A2 n2 c2, .slice (some ⟨w2.drew.heap.size, 0, none⟩) 1 1]) (w2.drew.alloc (.cells #[.int .i64 r.count, .slice r.A r.n r.c] 136)) = .ok (.slice A4 n4 c4) w4 ∧
          (-9223372036854775808 ≤ ((2 * j : Nat) : Int) + 2 ∧ ((2 * j : Nat) : Int) + 2 ≤ 9223372036854775807) ∧ ∃ ms, ms < L.length - 2 * j ∧ ∃ (kn' j' : Nat) (O : List RC), (kn : Int) = (kn' : Int) ∧ ((2 * j : Nat) : Int) + 2 = ((2 * j' : Nat) : Int) ∧ kn' ≤ C.length ∧ 2 * j' ≤ L.length ∧ O.length ≤ kn' + j' ∧ ms = L.length - 2 * j' ∧ OwnedK w4 w.heap.size 136 2 A4 n4 c4 (rcs O) ∧ n4 = O.length ∧ (∀ x ∈ O, SymOk w4 G x) ∧
        O.map rcCoin ++ mergeC ((C.drop kn').map rcCoin) (packs ((L.drop (2 * j')).map rcCoin)) = packedL (C.map rcCoin) (L.map rcCoin) ∧ w.grownBy w4 none := by
        intro hmerge
        obtain ⟨A4, n4, c4, w4, h1, h2, h3, h4, h5, _⟩ := one r hs2
        refine ⟨A4, n4, c4, w4, h1, by omega, L.length - 2 * (j + 1), by omega, kn, j + 1, O ++ [r], rfl, by omega, hk, by omega, by simp; omega, rfl, h2, h3, h5, ?_, h4⟩
        rw [← heq, hmerge]
        have : rcCoin r = (ra.count + rb.count, ra.syms ++ rb.syms) := by simp [rcCoin, hrc, hrs]
        simp [this]
      have cp1 : w2.drew.cell? ⟨gp, 0, none⟩ = some (.int .i64 r.count) := by show w2.cell? _ = _; simp [World.cell?, hp2]
      have cp2 : w2.drew.cell? ((⟨gp, 0, none⟩ : Addr).add 1) = some (.slice r.A r.n r.c) := by show w2.cell? _ = _; rw [add_lit]; simp [World.cell?, hp2]
      refine ⟨fun hlt2 => ?_, fun hge2 => ?_⟩
      · have l3 : kn < C.length := by omega
        obtain ⟨q, hq1, hq2, hq3⟩ := row_rc (hA.kept_none (grown_drew hg2)) l3
        have hdc : (C.drop kn).map rcCoin = rcCoin C[kn] :: (C.drop (kn + 1)).map rcCoin := by
          rw [List.drop_eq_getElem_cons l3]; rfl
        have tk : (kn : Int).toNat = kn := by omega
        rw [tk]
        refine ⟨q, hq1, by omega, by omega, C[kn].count, hq2, r.count, cp1, fun hle => ?_, fun hgt => ?_⟩
        · refine ⟨q, hq1, by omega, by omega, C[kn].count, hq2, C[kn].A, C[kn].n, C[kn].c, hq3, ?_⟩
          obtain ⟨A4, n4, c4, w4, h1, h2, h3, h4, h5, h6, h7, h8⟩ := one C[kn] ((hC _ (List.getElem_mem l3)).keep_none hg2)
          refine ⟨A4, n4, c4, w4, h1, by omega, C.length - (kn + 1), by omega, kn + 1, O ++ [C[kn]], by omega, by omega, by simp; omega, rfl, h2, h3, h8, h5, ?_, h4, h7, h6⟩
          rw [← heq, hdc, mergeC_le (show (rcCoin C[kn]).1 ≤ ra.count + rb.count by rw [← hrc]; exact hle)]
          simp
        · refine ⟨r.count, cp1, r.A, r.n, r.c, cp2, last fun ps => ?_⟩
          rw [hdc]
          exact mergeC_gt (by show ¬ (rcCoin C[kn]).1 ≤ ra.count + rb.count; rw [← hrc]; exact hgt)
      · have : kn = C.length := by omega
        refine ⟨r.count, cp1, r.A, r.n, r.c, cp2, last fun ps => ?_⟩
        rw [this, List.drop_length]
        exact mergeC_none
  · have hend : packs ((L.drop (2 * j)).map rcCoin) = [] := by
      have : (L.drop (2 * j)).length ≤ 1 := by simp; omega
      match h : L.drop (2 * j) with
      | [] => rfl
      | [x] => simp [packs]
      | x :: y :: r => rw [h] at this; simp at this
    rw [hend] at heq
    simp only [mergeC] at heq
    have kt : (kn : Int).toNat = kn := by omega
    refine ⟨by omega, ?_⟩
    rw [kt]
    obtain ⟨a, ha, _⟩ := row_rc hA (show 0 < C.length by omega)
    subst ha
    have hrow : ∃ a', cutA (some a) c kn 2 = some a' ∧ ∀ j u, (rcs (C.drop kn))[j]? = some u → w'.cell? (a'.add j) = some u := by
      by_cases hck : c = kn
      · refine ⟨a, by simp [cutA, hck], fun j u hj => ?_⟩
        have : C.drop kn = [] := List.drop_eq_nil_of_le (by omega)
        rw [this] at hj; simp [rcs] at hj
      · refine ⟨a.add (kn * 2), by simp [cutA, hck], fun j u hj => ?_⟩
        obtain ⟨a2, h1, h2⟩ := ((hA.kept_none hg).drop (kn * 2)) j u (by rw [rcs_drop]; exact hj)
        cases h1
        exact h2
    obtain ⟨a', ha1, ha2⟩ := hrow
    obtain ⟨A4, n4, c4, w4, h1, h2, h3, h4, _⟩ := ho.appends (ty := 133) elemCoin bytesCoin (cc := c - kn) (m := n - kn) (by rw [rcs_length]; simp; omega) ha2 (fun u hu => by
      obtain ⟨x, _, hx⟩ := List.mem_flatMap.1 hu
      simp [rcCells] at hx
      rcases hx with rfl | rfl <;> rfl) (by omega) hg.size
    have hq : ∀ g, (Value.slice A' n' c').ownBlock = some g → some g = G ∨ ∃ (cur : Array Value) (e : TypeId) (fr : Nat × Nat), w'.heap[g]? = some (.cells cur e fr) ∧ e ≠ 3 := by
      intro g hg3
      obtain ⟨cur, h7⟩ := ho.block_type g hg3
      exact .inr ⟨cur, 136, _, h7, by decide⟩
    refine ⟨A4, n4, c4, w4, by rw [ha1]; exact h1, A4, n4, c4, O ++ C.drop kn, rfl, by rw [rcs_append]; exact h2, by rw [h3, hn']; simp; omega, ?_, ?_, grown_own hg h4 ho.block_ge⟩
    · intro x hx
      rcases List.mem_append.1 hx with e | e
      · exact (hO x e).keep h4 hq
      · exact ((hC x (List.mem_of_mem_drop e)).keep_none hg).keep h4 hq
    · rw [← heq]; simp
end Go.Proofs.Ytmenmmgfdakeeaa
