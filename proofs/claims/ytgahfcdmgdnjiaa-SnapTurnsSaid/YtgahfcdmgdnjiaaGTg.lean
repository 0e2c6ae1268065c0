/- Own texts, packed: Y9, Y10, Y11, Y12, Y13, Y14, Y15, Y16, Y17. -/
import Derived.Test.YtgahfcdmgdnjiaaGSg
import Derived.Test.YtgahfcdmgdnjiaaGPg
import Derived.Laws.Build
import Derived.Test.YtgahfcdmgdnjiaaGNg
import Derived.Test.YtgahfcdmgdnjiaaGWg

/-! snap.After: the walk. -/
namespace Go.Proofs.Ytgahfcdmgdnjiaa
open Go Go.V Go.RowKit
set_option linter.unusedVariables false
set_option linter.unusedSimpArgs false
set_option maxHeartbeats 4000000
set_option maxRecDepth 100000

theorem edgeV_inj : ∀ x y : Edge, edgeV x = edgeV y → x = y := fun x y h => by
  obtain ⟨a, b⟩ := x; obtain ⟨c, d⟩ := y
  simp [edgeV] at h
  simp [h]
theorem _root_.Go.V.IterAt.nodup {w : World} {r b : Nat} {L : List (Edge × Bool)} {done : List Edge} {last : Option (Edge × Bool)} (h : IterAt edgeV Value.bool w r b L done last) : (L.map Prod.fst).Nodup := by
  obtain ⟨es, clock, since, seen, c0, h1, h2, h3, h4, h5, h6, hnd, _⟩ := h
  exact hnd
/-- sort.Slice, of however many. -/
theorem sortE_calls {w : World} {base ge n c : Nat} {A : Option Addr} {out : List Edge} (ho : OwnedK w base 39 2 A n c (edges out)) (he : w.heap[ge]? = some (.cells #[.slice A n c] 29 (0, 0))) (hn : n < 50) (hnd : out.Nodup) :
    Calls P 51 #[.iface 29 (.slice A n c), lessV ge] w fun ev w' => ev = .returned (.tuple #[]) ∧ ∃ out', OwnedK w' base 39 2 A n c (edges out') ∧ w'.heap[ge]? = some (.cells #[.slice A n c] 29 (0, 0)) ∧ w.grownBy w' (Value.slice A n c).ownBlock ∧ out'.Perm out ∧ Rise out' := by
  have hl : n = out.length := by have := ho.cases.1; rw [edges_length] at this; omega
  by_cases h0 : n = 0
  · subst h0
    refine slice_n.mono fun ev w1 hh => ?_
    obtain ⟨rfl, g1⟩ := hh
    have : out = [] := List.eq_nil_of_length_eq_zero hl.symm
    subst this
    exact ⟨rfl, [], ho.kept g1, blk_keep he g1, ⟨g1.os, g1.tape, g1.output, g1.size, fun k hk _ => g1.block k hk (by simp)⟩, List.Perm.refl _, List.Pairwise.nil⟩
  by_cases h1 : n = 1
  · subst h1
    refine slice_o.mono fun ev w1 hh => ?_
    obtain ⟨rfl, g1⟩ := hh
    refine ⟨rfl, out, ho.kept g1, blk_keep he g1, ⟨g1.os, g1.tape, g1.output, g1.size, fun k hk _ => g1.block k hk (by simp)⟩, List.Perm.refl _, ?_⟩
    cases out with
    | nil => simp at hl
    | cons a t => cases t with
      | nil => simp [Rise]
      | cons b t => simp at hl
  obtain ⟨_, ⟨_, q, _⟩ | ⟨g, cur, rfl, hbg, hcm, hnc, hg, hcs, htk⟩⟩ := ho.cases
  · exact absurd q h0
  have hs : Srt w g ge n c out.toArray := ⟨⟨cur, hg, hcs, by simpa using htk⟩, he, by simp; omega, hnc⟩
  refine (slice_calls hs (by omega) hn).mono fun ev w1 hh => ?_
  obtain ⟨rfl, d', s1, k1, hp, hso⟩ := hh
  obtain ⟨cur', e1, e2, e3⟩ := s1.blk
  have hsz : out.toArray.size = n := by simp; omega
  rw [← hsz] at hp
  have hperm := perm_of_permIn hp
  have hr : Rise d'.toList := sorted_rise (by rw [s1.sz]; exact hso) (hperm.nodup_iff.2 (by simpa using hnd))
  refine ⟨rfl, d'.toList, OwnedK.of_block hbg e1 hnc hcm e2 (by rw [edges_length]; have := s1.sz; simp; omega) e3, s1.env, ?_, by simpa using hperm, hr⟩
  exact ⟨k1.os, k1.tape, k1.output, k1.size, fun k hk hne => k1.block k hk (fun e => hne (by rw [e]; rfl))⟩
theorem safter_calls {w : World} {A : Option Addr} {n c : Nat} {l : List Evt} {N k : Int} (hr : Row w A (evts l)) (hn : n = l.length) (hc : n ≤ c) (hA : A = none → c = 0) (hl : n < 50) (hb : EvtsU l) :
    Calls P 24 #[.agg #[.int .u64 N, .slice A n c], .int .i64 k] w fun ev w' => ∃ (A' : Option Addr) (n' c' : Nat), ev = .returned (.tuple #[.slice A' n' c', .int .i64 (checkL N l).2]) ∧ OwnedK w' w.heap.size 39 2 A' n' c' (edges (afterL N l k)) ∧ w.grownBy w' none := by
  apply vc24; unfold VC24; try (conv => zeta)
  simp only [InK]
  have g0 := World.grownBy_alloc w (.cells #[.int .u64 N, .slice A n c] 27) none
  have b0 : (w.alloc (.cells #[.int .u64 N, .slice A n c] 27)).heap[w.heap.size]? = some (.cells #[.int .u64 N, .slice A n c] 27 (0, 0)) := heap_alloc_new w _
  obtain ⟨w0, hw_w0⟩ : ∃ w0, w0 = w.alloc (.cells #[.int .u64 N, .slice A n c] 27) := ⟨_, rfl⟩
  rw [← hw_w0] at g0 b0 ⊢
  refine ⟨_, blk_cell b0 0, _, _, _, blk_cell b0 1, (hcheck_calls (hr.kept_none g0) hn (by omega) hb).mono fun ev w1 hh => ?_⟩
  obtain ⟨rfl, g1⟩ := hh
  have g01 := grown_trans g0 g1
  refine ⟨_, _, rfl, fun h => ?_, fun h => ?_⟩
  · have : afterL N l k = [] := by rw [afterL, if_pos h]
    rw [this]; exact ⟨_, _, _, rfl, OwnedK.nil _ _ _ _, g01⟩
  have hz : (checkL N l).2 = 0 := by omega
  have haf : afterL N l k = foldT (l.take k.toNat) [] := by rw [afterL, if_neg h]
  have hokh := (checkL_ok.1 hz).2.2
  rw [haf, hz]
  have hM : MapE (w1.alloc (.map #[] 0)) w1.heap.size [] := MapAt.made w1
  have g2 := World.grownBy_alloc w1 (.map #[] 0) none
  obtain ⟨w2, hw2⟩ : ∃ w2, w2 = w1.alloc (.map #[] 0) := ⟨_, rfl⟩
  rw [← hw2] at hM g2 ⊢
  have b2 := blk_keep (blk_keep b0 g1) g2
  have g02 := grown_trans g01 g2
  obtain ⟨K, hK⟩ : ∃ K : Nat, mn (mx k 0) (n : Int) = (K : Int) ∧ K ≤ n ∧ l.take K = l.take k.toNat := by
    refine ⟨min k.toNat n, by unfold mn mx; split <;> split <;> omega, by omega, ?_⟩
    by_cases hh : k.toNat ≤ n
    · rw [Nat.min_eq_left hh]
    · rw [Nat.min_eq_right (by omega), List.take_of_length_le (by omega), List.take_of_length_le (by omega)]
  obtain ⟨hK1, hK2, hK3⟩ := hK
  have tK : ((K : Nat) : Int).toNat = K := by omega
  refine ⟨_, _, _, blk_cell b2 1, _, _, _, blk_cell b2 1, ?_⟩
  rw [hK1, tK, ← hK3]
  refine ⟨⟨by omega, by omega⟩, fun m i W => ∃ (p : Nat) (L : List (Edge × Bool)), i = (p : Int) ∧ p ≤ K ∧ m = K - p ∧ MapE W w1.heap.size L ∧ AllT L ∧ There L (foldT (l.take p) []) ∧ w.grownBy W none,
    ⟨_, 0, [], rfl, by omega, rfl, hM, fun p hp => (by simp at hp), fun a => by simp [getK, foldT], g02⟩, ?_⟩
  rintro m i w3 ⟨p, L, rfl, hp, rfl, hM3, hat, hth, hg⟩
  have tp : (p : Int).toNat = p := by omega
  rw [tp]
  refine ⟨fun hlt => ?_, fun hge => ?_⟩
  · have lp : p < l.length := by omega
    have hbe := hb _ (List.getElem_mem lp)
    obtain ⟨a, e1, e2, e3, e4, e5⟩ := evt_at (hr.kept_none hg) lp
    obtain ⟨x, hx1, hx2⟩ := hokh.step lp
    have sE0 : (w3.alloc (.cells #[.int .i64 0, .int .u32 0, .int .u32 0, .bool false] 41)).heap[w3.heap.size]? = some (.cells #[.int .i64 0, .int .u32 0, .int .u32 0, .bool false] 41 (0, 0)) := heap_alloc_new w3 _
    have sE1 := blk_set sE0 0 (.int .i64 l[p].t)
    have sE2 := blk_set sE1 1 (.int .u32 l[p].u)
    have sE3 := blk_set sE2 2 (.int .u32 l[p].v)
    have sE4 := blk_set sE3 3 (.bool l[p].add)
    have bE : (((((w3.alloc (.cells #[.int .i64 0, .int .u32 0, .int .u32 0, .bool false] 41)).setCell ⟨w3.heap.size, 0, none⟩ (.int .i64 l[p].t)).setCell ⟨w3.heap.size, 1, none⟩ (.int .u32 l[p].u)).setCell ⟨w3.heap.size, 2, none⟩ (.int .u32 l[p].v)).setCell ⟨w3.heap.size, 3, none⟩ (.bool l[p].add)).heap[w3.heap.size]? = some (.cells #[.int .i64 l[p].t, .int .u32 l[p].u, .int .u32 l[p].v, .bool l[p].add] 41 (0, 0)) := by simpa using sE4
    have gE : w3.grownBy (((((w3.alloc (.cells #[.int .i64 0, .int .u32 0, .int .u32 0, .bool false] 41)).setCell ⟨w3.heap.size, 0, none⟩ (.int .i64 l[p].t)).setCell ⟨w3.heap.size, 1, none⟩ (.int .u32 l[p].u)).setCell ⟨w3.heap.size, 2, none⟩ (.int .u32 l[p].v)).setCell ⟨w3.heap.size, 3, none⟩ (.bool l[p].add)) none := (Kp.grown (set1 (set1 (set1 (set1 (Kp.of_none (S := fun k => w3.heap.size ≤ k) (grown_alloc (grown_refl w3 none) _)) (Nat.le_refl _)) (Nat.le_refl _)) (Nat.le_refl _)) (Nat.le_refl _)) (fun k hk e => by omega))
    obtain ⟨w4, hE⟩ : ∃ w4, w4 = (((((w3.alloc (.cells #[.int .i64 0, .int .u32 0, .int .u32 0, .bool false] 41)).setCell ⟨w3.heap.size, 0, none⟩ (.int .i64 l[p].t)).setCell ⟨w3.heap.size, 1, none⟩ (.int .u32 l[p].u)).setCell ⟨w3.heap.size, 2, none⟩ (.int .u32 l[p].v)).setCell ⟨w3.heap.size, 3, none⟩ (.bool l[p].add)) := ⟨_, rfl⟩
    rw [← hE] at bE gE
    refine ⟨a, e1, by omega, by omega, _, e2, _, e3, _, e4, _, e5, ⟨_, blk_cell sE0 0⟩, blk_free sE0 0, ⟨_, blk_cell sE1 1⟩, blk_free sE1 1, ⟨_, blk_cell sE2 2⟩, blk_free sE2 2, ⟨_, blk_cell sE3 3⟩, blk_free sE3 3, ?_⟩
    rw [← hE]
    have hg4 := grown_trans hg gE
    have okk : okEdge (l[p].u, l[p].v) := ⟨hbe.1, hbe.2⟩
    have lM : w.heap.size ≤ w1.heap.size := g01.size
    refine ⟨_, blk_cell bE 3, fun ha => ?_, fun ha => ?_⟩
    · obtain ⟨W2, k1, k2, k3⟩ := MapAt.update keyE Try.underlying92 (hM3.kept gE) okk true
      refine ⟨_, blk_cell bE 1, _, blk_cell bE 2, W2, k1, ⟨by omega, by omega⟩, K - (p + 1), by omega, p + 1, _, by omega, by omega, rfl, k2, hat.upd _, ?_, grown_own hg4 k3 (fun k hk => by cases hk; omega)⟩
      rw [hx2]; have := hth.upd hx1; rw [ha] at this; exact this
    · obtain ⟨W2, k1, k2, k3⟩ := MapAt.strike keyE Try.underlying92 (hM3.kept gE) okk _
      refine ⟨_, blk_cell bE 1, _, blk_cell bE 2, W2, k1, ⟨by omega, by omega⟩, K - (p + 1), by omega, p + 1, _, by omega, by omega, rfl, k2, hat.del _, ?_, grown_own hg4 k3 (fun k hk => by cases hk; omega)⟩
      rw [hx2]; exact hth.del hx1 ha
  · have hpK : p = K := by omega
    subst hpK
    have gO := World.grownBy_alloc w3 (.cells #[.slice none 0 0] 29) none
    have bO : (w3.alloc (.cells #[.slice none 0 0] 29)).heap[w3.heap.size]? = some (.cells #[.slice none 0 0] 29 (0, 0)) := heap_alloc_new w3 _
    obtain ⟨w4, hw4⟩ : ∃ w4, w4 = w3.alloc (.cells #[.slice none 0 0] 29) := ⟨_, rfl⟩
    rw [← hw4] at gO bO ⊢
    obtain ⟨o, hrun, hit⟩ := MapAt.range Try.underlying92 (hM3.kept gO)
    have gI := World.grownBy_alloc w4 o none
    have hL := hit.nodup
    have keys := hth.keys hat
    have hgw := grown_trans (grown_trans hg gO) gI
    have lw3 : w.heap.size ≤ w3.heap.size := hg.size
    have lw4 : w3.heap.size < w4.heap.size := (Array.getElem?_eq_some_iff.1 bO).1
    refine ⟨_, _, hrun, fun m W => ∃ (done : List Edge) (last : Option (Edge × Bool)) (out : List Edge) (B : Option Addr) (bn bc : Nat), IterAt edgeV Value.bool W w4.heap.size w1.heap.size L done last ∧ W.heap[w3.heap.size]? = some (.cells #[.slice B bn bc] 29 (0, 0)) ∧ OwnedK W w.heap.size 39 2 B bn bc (edges out) ∧ out.Nodup ∧ (∀ a, a ∈ out ↔ a ∈ done) ∧ (∀ a ∈ done, ∃ p ∈ L, p.1 = a) ∧ m = L.length - out.length ∧ w.grownBy W none,
      ⟨_, [], none, [], none, 0, 0, hit, blk_keep bO gI, OwnedK.nil _ _ _ _, List.nodup_nil, fun a => Iff.rfl, fun a ha => (by simp at ha), rfl, hgw⟩, ?_⟩
    rintro m W ⟨done, last, out, B, bn, bc, hI, hO, hOw, hnd, hmem, hsub, rfl, hgW⟩
    have hbn : bn = out.length := by have := hOw.cases.1; rw [edges_length] at this; omega
    have hlen : out.length ≤ L.length := by
      have := nodup_len (l := out) (m := L.map Prod.fst) hnd (fun a ha => by obtain ⟨p, h1, h2⟩ := hsub a ((hmem a).1 ha); exact List.mem_map.2 ⟨p, h1, h2⟩)
      simpa using this
    have hout : out.length ≤ 50 := by
      have h1 := nodup_len hnd (fun a ha => (keys a).2 (hsub a ((hmem a).1 ha)))
      have h2 := foldT_len (l.take p) []
      rw [List.length_take] at h2
      simp only [List.length_nil] at h2
      omega
    have apart : ∀ j, (Value.slice B bn bc).ownBlock = some j → w.heap.size ≤ j ∧ j ≠ w1.heap.size ∧ j ≠ w4.heap.size ∧ j ≠ w3.heap.size := by
      intro j hj
      obtain ⟨cur, hcur⟩ := hOw.block_type j hj
      obtain ⟨es, clock, since, seen, c0, i1, _, _, _, i5, _⟩ := hI
      refine ⟨hOw.block_ge j hj, fun e => ?_, fun e => ?_, fun e => ?_⟩
      · rw [e, i1] at hcur; cases hcur
      · rw [e, i5] at hcur; cases hcur
      · rw [e, hO] at hcur; cases hcur
    rcases hI.next edgeV_inj 0 with ⟨hall, hrun⟩ | ⟨q, hq, hqd, W7, hrun, hI7, k7⟩
    · refine ⟨W, .inl ⟨hrun, fun h => (by cases h), fun _ => ?_⟩⟩
      have hnow : ∀ a, a ∈ out ↔ a ∈ foldT (l.take p) [] := fun a => by
        rw [hmem, keys]
        exact ⟨hsub a, fun ⟨q, h1, h2⟩ => by rw [← h2]; exact hall q h1⟩
      have hrise : Rise (foldT (l.take p) []) := ((hokh.take p).fold List.Pairwise.nil).1
      have hlen2 := nodup_len hnd (fun a ha => (hnow a).1 ha)
      have hfl := foldT_len (l.take p) []
      rw [List.length_take] at hfl
      simp only [List.length_nil] at hfl
      refine ⟨_, _, _, blk_cell hO 0, _, fun w => run_makeInterface (P := P) w 29 _ (by kernel_rfl), (sortE_calls hOw hO (by omega) hnd).mono fun ev w8 hh => ?_⟩
      obtain ⟨rfl, out', o8, e8, g8, hperm, hr8⟩ := hh
      have hex : out' = foldT (l.take p) [] := Rise.ext hr8 hrise fun e => by rw [hperm.mem_iff, hnow]
      subst hex
      exact ⟨by trivial, _, _, _, blk_cell e8 0, _, _, _, rfl, o8, grown_own hgW g8 (fun k hk => hOw.block_ge k hk)⟩
    · refine ⟨W7, .inr ⟨_, _, hrun, fun _ => ⟨q.1.1, q.1.2, q.2, W7, hI7.entry, ?_⟩, fun h => (by cases h)⟩⟩
      have hbne : w1.heap.size ≠ w3.heap.size := fun e => by
        obtain ⟨es, clock, since, seen, c0, i1, _⟩ := hI
        rw [e, hO] at i1; cases i1
      have hO7 : W7.heap[w3.heap.size]? = some (.cells #[.slice B bn bc] 29 (0, 0)) := by
        rw [k7.block _ (Array.getElem?_eq_some_iff.1 hO).1 (by omega)]; exact hO
      have g7 : w.grownBy W7 none := ((Kp.of_none (S := fun j => w.heap.size ≤ j) hgW).then k7 (fun j _ h => by omega)).grown (fun j hj h => by omega)
      have sE0 : (W7.alloc (.cells #[.int .u32 0, .int .u32 0] 39)).heap[W7.heap.size]? = some (.cells #[.int .u32 0, .int .u32 0] 39 (0, 0)) := heap_alloc_new W7 _
      have sE1 := blk_set sE0 0 (.int .u32 q.1.1)
      have sE2 := blk_set sE1 1 (.int .u32 q.1.2)
      have bE : (((W7.alloc (.cells #[.int .u32 0, .int .u32 0] 39)).setCell ⟨W7.heap.size, 0, none⟩ (.int .u32 q.1.1)).setCell ⟨W7.heap.size, 1, none⟩ (.int .u32 q.1.2)).heap[W7.heap.size]? = some (.cells #[.int .u32 q.1.1, .int .u32 q.1.2] 39 (0, 0)) := by simpa using sE2
      have gE : W7.grownBy (((W7.alloc (.cells #[.int .u32 0, .int .u32 0] 39)).setCell ⟨W7.heap.size, 0, none⟩ (.int .u32 q.1.1)).setCell ⟨W7.heap.size, 1, none⟩ (.int .u32 q.1.2)) none := (Kp.grown (set1 (set1 (Kp.of_none (S := fun k => W7.heap.size ≤ k) (grown_alloc (grown_refl W7 none) _)) (Nat.le_refl _)) (Nat.le_refl _)) (fun k hk e => by omega))
      obtain ⟨W8, hE⟩ : ∃ W8, W8 = (((W7.alloc (.cells #[.int .u32 0, .int .u32 0] 39)).setCell ⟨W7.heap.size, 0, none⟩ (.int .u32 q.1.1)).setCell ⟨W7.heap.size, 1, none⟩ (.int .u32 q.1.2)) := ⟨_, rfl⟩
      rw [← hE] at bE gE
      refine ⟨⟨_, blk_cell sE0 0⟩, blk_free sE0 0, ⟨_, blk_cell sE1 1⟩, blk_free sE1 1, ?_⟩
      rw [← hE]
      have hO8 := blk_keep hO7 gE
      have gA := World.grownBy_alloc W8 (.cells #[.int .u32 q.1.1, .int .u32 q.1.2] 39) none
      have rE : Row (W8.alloc (.cells #[.int .u32 q.1.1, .int .u32 q.1.2] 39)) (some ⟨W8.heap.size, 0, none⟩) (edges [q.1]) := row_allocM _ #[.int .u32 q.1.1, .int .u32 q.1.2] 39 (0, 0)
      have hOw9 := ((hOw.kp k7 (fun j hj e => (apart j hj).2.2.1 e)).kept gE).kept gA
      have g9 := grown_trans (grown_trans g7 gE) gA
      obtain ⟨B', n', c', w10, f1, f2, f3, f4⟩ := append_edges (m := 1) (d := 1) (ys := [q.1]) hOw9 rE rfl (by simp) (by omega) g9.size
      have g10 := grown_own g9 f3 (fun k hk => (apart k hk).1)
      have hO9 := blk_keep hO8 gA
      have hO10 : w10.heap[w3.heap.size]? = some (.cells #[.slice B bn bc] 29 (0, 0)) := by
        rw [f3.block _ (Array.getElem?_eq_some_iff.1 hO9).1 (fun e => (apart _ e.symm).2.2.2 rfl)]; exact hO9
      have hI9 := (hI7.kp (S := fun _ => False) (Kp.of_none gE) (fun h => h) (fun h => h)).kp (S := fun _ => False) (Kp.of_none gA) (fun h => h) (fun h => h)
      have hI10 := hI9.kp (Kp.of_grown f3) (fun e => (apart _ e.symm).2.1 rfl) (fun e => (apart _ e.symm).2.2.1 rfl)
      have K11 : Kp w10 (w10.setCell ⟨w3.heap.size, 0, none⟩ (.slice B' n' c')) (fun k => k = w3.heap.size) := set1 (Kp.refl w10 _) rfl
      have hqo : q.1 ∉ out := fun h => hqd ((hmem _).1 h)
      refine ⟨_, _, _, blk_cell hO8 0, _, blk_cell bE 0, _, blk_cell bE 1, _, _, _, w10, f1, ⟨_, blk_cell hO10 0⟩, blk_free hO10 0, L.length - (out.length + 1), ?_, q.1 :: done, some q, out ++ [q.1], B', n', c', hI10.kp K11 (fun e => hbne e) (fun e => by omega), by simpa using blk_set hO10 0 (.slice B' n' c'), f2.kp K11 (fun j hj e => ?_), ?_, fun a => ?_, fun a ha => ?_, by simp, (set1 (Kp.of_none (S := fun j => w.heap.size ≤ j) g10) lw3).grown (fun j hj h => by omega)⟩
      · have := nodup_len (l := q.1 :: out) (m := L.map Prod.fst) (List.nodup_cons.2 ⟨hqo, hnd⟩) (fun a ha => by
          rcases List.mem_cons.1 ha with rfl | ha
          · exact List.mem_map.2 ⟨q, hq, rfl⟩
          · obtain ⟨p, h1, h2⟩ := hsub a ((hmem a).1 ha); exact List.mem_map.2 ⟨p, h1, h2⟩)
        simp only [List.length_cons, List.length_map] at this
        omega
      · obtain ⟨cur, hcur⟩ := f2.block_type j hj
        rw [e, hO10] at hcur; cases hcur
      · rw [List.nodup_append]
        exact ⟨hnd, by simp, fun a ha b hb => by simp at hb; subst hb; exact fun e => hqo (by rw [← e]; exact ha)⟩
      · rw [List.mem_append, List.mem_singleton, hmem]
        refine ⟨fun h => ?_, fun h => ?_⟩
        · rcases h with h | rfl
          · exact List.mem_cons_of_mem _ h
          · exact List.mem_cons_self
        · exact (List.mem_cons.1 h).elim .inr .inl
      · rcases List.mem_cons.1 ha with rfl | ha
        · exact ⟨q, hq, rfl⟩
        · exact hsub a ha
end Go.Proofs.Ytgahfcdmgdnjiaa

/-! snap.At, ref8.At: the walks. -/
namespace Go.Proofs.Ytgahfcdmgdnjiaa
open Go Go.V Go.RowKit
set_option linter.unusedVariables false
set_option linter.unusedSimpArgs false
set_option maxHeartbeats 4000000
set_option maxRecDepth 100000

def atL (N : Int) (l : List Evt) (t : Int) : List Edge := afterL N l (uptoL l t : Int)
theorem sat_calls {w : World} {A : Option Addr} {n c : Nat} {l : List Evt} {N t : Int} (hr : Row w A (evts l)) (hn : n = l.length) (hc : n ≤ c) (hA : A = none → c = 0) (hl : n < 50) (hb : EvtsU l) :
    Calls P 21 #[.agg #[.int .u64 N, .slice A n c], .int .i64 t] w fun ev w' => ∃ (A' : Option Addr) (n' c' : Nat), ev = .returned (.tuple #[.slice A' n' c', .int .i64 (checkL N l).2]) ∧ OwnedK w' w.heap.size 39 2 A' n' c' (edges (atL N l t)) ∧ w.grownBy w' none := by
  apply vc21; unfold VC21; try (conv => zeta)
  simp only [InK]
  have g0 := World.grownBy_alloc w (.cells #[.int .u64 N, .slice A n c] 27) none
  have b0 : (w.alloc (.cells #[.int .u64 N, .slice A n c] 27)).heap[w.heap.size]? = some (.cells #[.int .u64 N, .slice A n c] 27 (0, 0)) := heap_alloc_new w _
  obtain ⟨w0, hw_w0⟩ : ∃ w0, w0 = w.alloc (.cells #[.int .u64 N, .slice A n c] 27) := ⟨_, rfl⟩
  rw [← hw_w0] at g0 b0 ⊢
  have gd := grown_drew (grown_refl w0 none)
  have bd := blk_keep b0 gd
  have g0d := grown_trans g0 gd
  obtain ⟨w1, hw1⟩ : ∃ w1, w1 = w0.drew := ⟨_, rfl⟩
  rw [← hw1] at gd bd g0d ⊢
  refine ⟨fun W => w1.grownBy W none, grown_refl _ _, _, fun W g => blk_cell (blk_keep bd g) 0, _, _, _, fun W g => blk_cell (blk_keep bd g) 1, _, blk_cell bd 0, _, _, _, blk_cell bd 1, (hupto_calls (t := t) (hr.kept_none g0d) hn (by omega)).mono fun ev w2 hh => ?_⟩
  obtain ⟨i, rfl, hi, h1, h2, g2⟩ := hh
  refine ⟨_, rfl, g2, (safter_calls (k := (i : Int)) ((hr.kept_none g0d).kept_none g2) hn hc hA hl hb).mono fun ev w3 hh => ?_⟩
  obtain ⟨A', n', c', rfl, o3, g3⟩ := hh
  have hat : afterL N l (i : Int) = atL N l t := by
    unfold atL afterL
    split
    · rfl
    · rename_i hz
      have hok := ((checkL_ok (N := N) (l := l)).1 (by omega)).2.2
      rw [upto_found hok.times (by omega) h1 h2]
  rw [hat] at o3
  exact ⟨_, _, _, _, rfl, grown_trans g2 g3, _, _, _, rfl, o3.mono (Nat.le_trans g0d.size g2.size), grown_trans g0d (grown_trans g2 g3)⟩
theorem rat_calls {w : World} {A : Option Addr} {n c : Nat} {l : List Evt} {N t : Int} (hr : Row w A (evts l)) (hn : n = l.length) (hl : n ≤ 2 ^ 20) (hb : EvtsU l) :
    Calls P 22 #[.agg #[.int .u64 N, .slice A n c], .int .i64 t] w fun ev w' => ∃ (A' : Option Addr) (n' c' : Nat), ev = .returned (.tuple #[.slice A' n' c', .int .i64 (checkL N l).2]) ∧ OwnedK w' w.heap.size 39 2 A' n' c' (edges (atL N l t)) ∧ w.grownBy w' none := by
  apply vc22; unfold VC22; try (conv => zeta)
  simp only [InK]
  have g0 := World.grownBy_alloc w (.cells #[.int .u64 N, .slice A n c] 27) none
  have b0 : (w.alloc (.cells #[.int .u64 N, .slice A n c] 27)).heap[w.heap.size]? = some (.cells #[.int .u64 N, .slice A n c] 27 (0, 0)) := heap_alloc_new w _
  obtain ⟨w0, hw_w0⟩ : ∃ w0, w0 = w.alloc (.cells #[.int .u64 N, .slice A n c] 27) := ⟨_, rfl⟩
  rw [← hw_w0] at g0 b0 ⊢
  have gd := grown_drew (grown_refl w0 none)
  have bd := blk_keep b0 gd
  have g0d := grown_trans g0 gd
  obtain ⟨w1, hw1⟩ : ∃ w1, w1 = w0.drew := ⟨_, rfl⟩
  rw [← hw1] at gd bd g0d ⊢
  refine ⟨fun W => w1.grownBy W none, grown_refl _ _, _, fun W g => blk_cell (blk_keep bd g) 0, _, _, _, fun W g => blk_cell (blk_keep bd g) 1, _, blk_cell bd 0, _, _, _, blk_cell bd 1, (rupto_calls (t := t) (hr.kept_none g0d) hn hl).mono fun ev w2 hh => ?_⟩
  obtain ⟨rfl, g2⟩ := hh
  refine ⟨_, rfl, g2, (after_calls (k := (uptoL l t : Int)) ((hr.kept_none g0d).kept_none g2) hn hl hb).mono fun ev w3 hh => ?_⟩
  obtain ⟨A', n', c', rfl, o3, g3⟩ := hh
  exact ⟨_, _, _, _, rfl, grown_trans g2 g3, _, _, _, rfl, o3.mono (Nat.le_trans g0d.size g2.size), grown_trans g0d (grown_trans g2 g3)⟩
end Go.Proofs.Ytgahfcdmgdnjiaa

/-! archipelagolaw11.known: the walk. -/
namespace Go.Proofs.Ytgahfcdmgdnjiaa
open Go Go.V Go.RowKit
set_option linter.unusedVariables false
set_option linter.unusedSimpArgs false
set_option maxHeartbeats 4000000
set_option maxRecDepth 100000

def ev11 : List Evt := [⟨1, 0, 1, true⟩, ⟨1, 1, 2, true⟩, ⟨2, 0, 1, false⟩]
theorem check11 : checkL 3 ev11 = (0, 0) := by decide
theorem at11 : atL 3 ev11 1 = [(0, 1), (1, 2)] := by decide
theorem after11 : afterL 3 ev11 3 = [(1, 2)] := by decide
theorem known11_calls {w : World} : Calls P 18 #[] w fun ev w' => ev = .returned (.bool true) ∧ w.grownBy w' none := by
  apply vc18; unfold VC18; try (conv => zeta)
  have g0 := World.grownBy_alloc w (.cells #[.int .u32 0, .int .u32 0] 39) none
  have s := heap_alloc_new w (.cells #[.int .u32 0, .int .u32 0] 39)
  obtain ⟨w0, hw0⟩ : ∃ w0, w0 = w.alloc (.cells #[.int .u32 0, .int .u32 0] 39) := ⟨_, rfl⟩
  rw [← hw0] at g0 s ⊢
  have l0 : w.heap.size < w0.heap.size := (Array.getElem?_eq_some_iff.1 s).1
  have g1 := World.grownBy_alloc w0 (.cells #[.int .u32 0, .int .u32 0] 39) none
  have t0 : (w0.alloc (.cells #[.int .u32 0, .int .u32 0] 39)).heap[w0.heap.size]? = some (.cells #[.int .u32 0, .int .u32 0] 39 (0, 0)) := heap_alloc_new w0 _
  have s0 : (w0.alloc (.cells #[.int .u32 0, .int .u32 0] 39)).heap[w.heap.size]? = some (.cells #[.int .u32 0, .int .u32 0] 39 (0, 0)) := blk_keep s g1
  obtain ⟨w1, hw1⟩ : ∃ w1, w1 = w0.alloc (.cells #[.int .u32 0, .int .u32 0] 39) := ⟨_, rfl⟩
  rw [← hw1] at g1 t0 s0 ⊢
  have s1 := blk_set s0 0 (.int .u32 0)
  have s2 := blk_set s1 1 (.int .u32 1)
  have t1 := blk_far t0 (p := ⟨w.heap.size, 0, none⟩) (show w.heap.size ≠ w0.heap.size by omega) (.int .u32 0)
  have t2 := blk_far t1 (p := ⟨w.heap.size, 1, none⟩) (show w.heap.size ≠ w0.heap.size by omega) (.int .u32 1)
  have t3 := blk_set t2 0 (.int .u32 1)
  have t4 := blk_set t3 1 (.int .u32 2)
  have s3 := blk_far s2 (p := ⟨w0.heap.size, 0, none⟩) (show w0.heap.size ≠ w.heap.size by omega) (.int .u32 1)
  have s4 := blk_far s3 (p := ⟨w0.heap.size, 1, none⟩) (show w0.heap.size ≠ w.heap.size by omega) (.int .u32 2)
  refine ⟨⟨_, blk_cell s0 0⟩, blk_free s0 0, ⟨_, blk_cell s1 1⟩, blk_free s1 1, ⟨_, blk_cell t2 0⟩, blk_free t2 0, ⟨_, blk_cell t3 1⟩, blk_free t3 1, ?_⟩
  have K : Kp w ((((w1.setCell ⟨w.heap.size, 0, none⟩ (.int .u32 0)).setCell ⟨w.heap.size, 1, none⟩ (.int .u32 1)).setCell ⟨w0.heap.size, 0, none⟩ (.int .u32 1)).setCell ⟨w0.heap.size, 1, none⟩ (.int .u32 2)) (fun k => w.heap.size ≤ k) := set1 (set1 (set1 (set1 (Kp.of_none (grown_trans g0 g1)) (Nat.le_refl _)) (Nat.le_refl _)) (by omega)) (by omega)
  obtain ⟨w5, hw5⟩ : ∃ w5, w5 = (((w1.setCell ⟨w.heap.size, 0, none⟩ (.int .u32 0)).setCell ⟨w.heap.size, 1, none⟩ (.int .u32 1)).setCell ⟨w0.heap.size, 0, none⟩ (.int .u32 1)).setCell ⟨w0.heap.size, 1, none⟩ (.int .u32 2) := ⟨_, rfl⟩
  rw [← hw5] at K s4 t4 ⊢
  have bE : w5.heap[w.heap.size]? = some (.cells #[.int .u32 0, .int .u32 1] 39 (0, 0)) := by simpa using s4
  have bF : w5.heap[w0.heap.size]? = some (.cells #[.int .u32 1, .int .u32 2] 39 (0, 0)) := by simpa using t4
  have g5 : w.grownBy w5 none := K.grown (fun k hk e => by omega)
  refine ⟨_, blk_cell bE 0, _, blk_cell bE 1, _, blk_cell bF 0, _, blk_cell bF 1, _, blk_cell bE 0, _, blk_cell bE 1, ?_⟩
  have gV := World.grownBy_alloc w5 (.cells #[.int .i64 1, .int .u32 0, .int .u32 1, .bool true, .int .i64 1, .int .u32 1, .int .u32 2, .bool true, .int .i64 2, .int .u32 0, .int .u32 1, .bool false] 41) none
  have rV : Row (w5.alloc (.cells #[.int .i64 1, .int .u32 0, .int .u32 1, .bool true, .int .i64 1, .int .u32 1, .int .u32 2, .bool true, .int .i64 2, .int .u32 0, .int .u32 1, .bool false] 41)) (some ⟨w5.heap.size, 0, none⟩) (evts ev11) := row_allocM _ #[.int .i64 1, .int .u32 0, .int .u32 1, .bool true, .int .i64 1, .int .u32 1, .int .u32 2, .bool true, .int .i64 2, .int .u32 0, .int .u32 1, .bool false] 41 (0, 0)
  obtain ⟨w6, hw6⟩ : ∃ w6, w6 = w5.alloc (.cells #[.int .i64 1, .int .u32 0, .int .u32 1, .bool true, .int .i64 1, .int .u32 1, .int .u32 2, .bool true, .int .i64 2, .int .u32 0, .int .u32 1, .bool false] 41) := ⟨_, rfl⟩
  rw [← hw6] at gV rV ⊢
  obtain ⟨EA, hEA⟩ : ∃ EA : Option Addr, EA = some ⟨w5.heap.size, 0, none⟩ := ⟨_, rfl⟩
  have hEn : EA ≠ none := by rw [hEA]; simp
  rw [← hEA] at rV ⊢
  have sH0 : (w6.alloc (.cells #[.int .u64 0, .slice none 0 0] 27)).heap[w6.heap.size]? = some (.cells #[.int .u64 0, .slice none 0 0] 27 (0, 0)) := heap_alloc_new w6 _
  have sH1 := blk_set sH0 0 (.int .u64 3)
  have sH2 := blk_set sH1 1 (.slice EA 3 3)
  have bH : (((w6.alloc (.cells #[.int .u64 0, .slice none 0 0] 27)).setCell ⟨w6.heap.size, 0, none⟩ (.int .u64 3)).setCell ⟨w6.heap.size, 1, none⟩ (.slice EA 3 3)).heap[w6.heap.size]? = some (.cells #[.int .u64 3, .slice EA 3 3] 27 (0, 0)) := by simpa using sH2
  have gH : w6.grownBy (((w6.alloc (.cells #[.int .u64 0, .slice none 0 0] 27)).setCell ⟨w6.heap.size, 0, none⟩ (.int .u64 3)).setCell ⟨w6.heap.size, 1, none⟩ (.slice EA 3 3)) none := (Kp.grown (set1 (set1 (Kp.of_none (S := fun k => w6.heap.size ≤ k) (grown_alloc (grown_refl w6 none) _)) (Nat.le_refl _)) (Nat.le_refl _)) (fun k hk e => by omega))
  obtain ⟨w8, hH⟩ : ∃ w8, w8 = (((w6.alloc (.cells #[.int .u64 0, .slice none 0 0] 27)).setCell ⟨w6.heap.size, 0, none⟩ (.int .u64 3)).setCell ⟨w6.heap.size, 1, none⟩ (.slice EA 3 3)) := ⟨_, rfl⟩
  rw [← hH] at bH gH
  refine ⟨⟨_, blk_cell sH0 0⟩, blk_free sH0 0, ⟨_, blk_cell sH1 1⟩, blk_free sH1 1, ?_⟩
  rw [← hH]
  have hbE : EvtsU ev11 := by intro e he; simp [ev11] at he; rcases he with rfl | rfl | rfl <;> simp
  have rV8 := rV.kept_none gH
  refine ⟨_, blk_cell bH 0, _, _, _, blk_cell bH 1, (sat_calls (l := ev11) (N := 3) (t := 1) rV8 rfl (Nat.le_refl _) (fun h => absurd h hEn) (by decide) hbE).mono fun ev w9 hh => ?_⟩
  rw [check11, at11] at hh
  obtain ⟨A1, n1, c1, rfl, o1, g9⟩ := hh
  have bH9 := blk_keep bH g9
  refine ⟨_, _, _, _, rfl, _, blk_cell bH9 0, _, _, _, blk_cell bH9 1, (safter_calls (l := ev11) (N := 3) (k := 3) (rV8.kept_none g9) rfl (Nat.le_refl _) (fun h => absurd h hEn) (by decide) hbE).mono fun ev w10 hh => ?_⟩
  rw [check11, after11] at hh
  obtain ⟨A2, n2, c2, rfl, o2, g10⟩ := hh
  have hn1 : n1 = 2 := by have := o1.cases.1; rw [edges_length] at this; simp at this; omega
  have hn2 : n2 = 1 := by have := o2.cases.1; rw [edges_length] at this; simp at this; omega
  have gE10 := grown_trans (grown_trans (grown_trans gV gH) g9) g10
  have bE10 := blk_keep bE gE10
  have o1' := o1.kept g10
  refine ⟨_, _, _, _, rfl, _, blk_cell bE10 0, _, blk_cell bE10 1, (sturn_calls (e := ⟨0, 0, 1, false⟩) o1'.row (by rw [hn1]; rfl) (fun h => owned_cap o1 h) (by omega)).mono fun ev w11 hh => ?_⟩
  have T1 : turnL [(0, 1), (1, 2)] ⟨0, 0, 1, false⟩ = some [(1, 2)] := by decide
  have T2 : turnL [(0, 1), (1, 2)] ⟨0, 0, 1, true⟩ = none := by decide
  rw [T1] at hh
  obtain ⟨A3, n3, c3, rfl, o3, g11⟩ := hh
  have hn3 : n3 = 1 := by have := o3.cases.1; rw [edges_length] at this; simp at this; omega
  have bE11 := blk_keep bE10 g11
  have o1'' := o1'.kept g11
  refine ⟨_, _, _, _, rfl, _, blk_cell bE11 0, _, blk_cell bE11 1, (sturn_calls (e := ⟨0, 0, 1, true⟩) o1''.row (by rw [hn1]; rfl) (fun h => owned_cap o1 h) (by omega)).mono fun ev w12 hh => ?_⟩
  rw [T2] at hh
  obtain ⟨A4, n4, c4, rfl, o4, g12⟩ := hh
  have gall := grown_trans (grown_trans (grown_trans g5 gE10) g11) g12
  have bF12 := blk_keep (blk_keep (blk_keep bF gE10) g11) g12
  have bE12 := blk_keep bE11 g12
  refine ⟨_, _, _, _, rfl, fun _ => ⟨fun _ => ⟨fun _ => ⟨fun _ => ⟨fun _ => ⟨fun _ => ⟨fun _ => ?_, fun h => absurd rfl h⟩, fun h => absurd (by omega) h⟩, fun h => (by cases h)⟩, fun h => absurd (by omega) h⟩, fun h => absurd rfl h⟩, fun h => absurd (by omega) h⟩, fun h => absurd rfl h⟩
  refine (sdegree_calls (v := 1) (o1''.kept g12).row (by rw [hn1]; rfl) (by omega)).mono fun ev w13 hh => ?_
  have D : degL [(0, 1), (1, 2)] 1 = 2 := by decide
  rw [D] at hh
  obtain ⟨rfl, g13⟩ := hh
  have bF13 := blk_keep bF12 g13
  refine ⟨_, rfl, fun _ => ⟨_, blk_cell bF13 0, _, blk_cell bF13 1, (shas_calls (e := (1, 2)) ((o1''.kept g12).kept g13).row (by rw [hn1]; rfl) (by omega)).mono fun ev w14 hh => ?_⟩, fun h => absurd rfl h⟩
  obtain ⟨rfl, g14⟩ := hh
  have bE14 := blk_keep (blk_keep bE12 g13) g14
  refine ⟨_, rfl, fun _ => ⟨_, blk_cell bE14 0, _, blk_cell bE14 1, (shas_calls (e := (0, 1)) ((((o2.kept g11).kept g12).kept g13).kept g14).row (by rw [hn2]; rfl) (by omega)).mono fun ev w15 hh => ?_⟩, fun h => by simp at h⟩
  obtain ⟨rfl, g15⟩ := hh
  exact ⟨_, rfl, by simp, grown_trans (grown_trans (grown_trans gall g13) g14) g15⟩
end Go.Proofs.Ytgahfcdmgdnjiaa

/-! archipelagolaw11.SnapSteps: the walk. -/
namespace Go.Proofs.Ytgahfcdmgdnjiaa
open Go Go.V Go.RowKit
set_option linter.unusedVariables false
set_option linter.unusedSimpArgs false
set_option maxHeartbeats 4000000
set_option maxRecDepth 100000

theorem iP11 {L : List Evt} {f : Int} (hf : 0 ≤ f) (h : 0 < L.length) : (f % (L.length : Int)).toNat < L.length ∧ f % (L.length : Int) = (((f % (L.length : Int)).toNat : Nat) : Int) := by
  have h1 := Int.emod_nonneg f (show (L.length : Int) ≠ 0 by omega)
  have h2 := Int.emod_lt_of_pos f (show (0 : Int) < (L.length : Int) by omega)
  omega
theorem walkSnapSteps {w : World} {A : Option Addr} {n c : Nat} {l : List Int} {k i : Int} (hk : 0 ≤ k ∧ k ≤ 255) (hrow : Row w A (u8s l)) (hn : n = l.length) (hb : BytesB l) (hi : 0 ≤ i ∧ i ≤ 255) :
    Calls P 8 #[.int .u8 k, .slice A n c, .int .u8 i] w fun ev w' => ev = .returned (.bool true) ∧ w.grownBy w' none := by
  apply vc8; unfold VC8; try (conv => zeta)
  simp only [InK]
  refine known11_calls.mono fun ev w1 hh => ?_
  obtain ⟨rfl, g1⟩ := hh
  refine ⟨true, rfl, fun h => absurd h (by simp), fun _ => ⟨fun _ => ⟨by trivial, g1⟩, fun h90 => ?_⟩⟩
  refine (history_calls (hrow.kept_none g1) hn hb hk (by omega)).mono fun ev w2 hh => ?_
  have hNl := vertL_is k
  have hHl := historyL_length k l
  have hHi := historyL_is (k := k) hb (by omega)
  have hHc := historyL_check (k := k) hb (by omega)
  obtain ⟨L, hL⟩ : ∃ L, L = historyL k l := ⟨_, rfl⟩
  obtain ⟨N, hN⟩ : ∃ N, N = vertL k := ⟨_, rfl⟩
  rw [← hL, ← hN] at hh hHi hHc
  rw [← hL] at hHl
  rw [← hN] at hNl
  obtain ⟨A2, n2, c2, rfl, o2, g2⟩ := hh
  have hn2 : n2 = L.length := by have := o2.cases.1; rw [evts_length] at this; omega
  have hU : EvtsU L := fun e he => by have := hHi.2 e he; omega
  have sH0 : (w2.alloc (.cells #[.int .u64 0, .slice none 0 0] 27)).heap[w2.heap.size]? = some (.cells #[.int .u64 0, .slice none 0 0] 27 (0, 0)) := heap_alloc_new w2 _
  have sH1 := blk_set sH0 0 (.int .u64 N)
  have sH2 := blk_set sH1 1 (.slice A2 n2 c2)
  have bH : (((w2.alloc (.cells #[.int .u64 0, .slice none 0 0] 27)).setCell ⟨w2.heap.size, 0, none⟩ (.int .u64 N)).setCell ⟨w2.heap.size, 1, none⟩ (.slice A2 n2 c2)).heap[w2.heap.size]? = some (.cells #[.int .u64 N, .slice A2 n2 c2] 27 (0, 0)) := by simpa using sH2
  have gH : w2.grownBy (((w2.alloc (.cells #[.int .u64 0, .slice none 0 0] 27)).setCell ⟨w2.heap.size, 0, none⟩ (.int .u64 N)).setCell ⟨w2.heap.size, 1, none⟩ (.slice A2 n2 c2)) none := (Kp.grown (set1 (set1 (Kp.of_none (S := fun k => w2.heap.size ≤ k) (grown_alloc (grown_refl w2 none) _)) (Nat.le_refl _)) (Nat.le_refl _)) (fun k hk e => by omega))
  obtain ⟨w3, hH⟩ : ∃ w3, w3 = (((w2.alloc (.cells #[.int .u64 0, .slice none 0 0] 27)).setCell ⟨w2.heap.size, 0, none⟩ (.int .u64 N)).setCell ⟨w2.heap.size, 1, none⟩ (.slice A2 n2 c2)) := ⟨_, rfl⟩
  rw [← hH] at bH gH
  refine ⟨_, _, _, _, rfl, ⟨_, blk_cell sH0 0⟩, blk_free sH0 0, ⟨_, blk_cell sH1 1⟩, blk_free sH1 1, ?_⟩
  rw [← hH]
  have o3 := o2.kept gH
  have g13 := grown_trans (grown_trans g1 g2) gH
  have haf : ∀ q : Int, afterL N L q = foldT (L.take q.toNat) [] := fun q => by unfold afterL; rw [hHc, if_neg (by simp)]
  have SA : ∀ (W : World) (q : Int), w3.grownBy W none → Calls P 24 #[.agg #[.int .u64 N, .slice A2 n2 c2], .int .i64 q] W fun ev w' => ∃ (A' : Option Addr) (n' c' : Nat), ev = .returned (.tuple #[.slice A' n' c', .int .i64 0]) ∧ OwnedK w' W.heap.size 39 2 A' n' c' (edges (foldT (L.take q.toNat) [])) ∧ W.grownBy w' none := fun W q hg => by
    have := safter_calls (N := N) (k := q) (o3.kept hg).row hn2 (owned_le o2) (owned_cap o2) (by omega) hU
    rw [haf, hHc] at this
    exact this
  refine ⟨_, _, _, blk_cell bH 1, fun h0 => ⟨_, blk_cell bH 0, _, _, _, blk_cell bH 1, by omega, (SA w3 i (grown_refl _ _)).mono fun ev w4 hh => ?_⟩, fun h0 => ?_⟩
  · obtain ⟨A4, n4, c4, rfl, o4, g4⟩ := hh
    have hLn : L = [] := List.eq_nil_of_length_eq_zero (by omega)
    subst hLn
    have hn4 := o4.cases.1
    rw [edges_length] at hn4
    simp [foldT] at hn4
    exact ⟨_, _, _, _, rfl, fun _ => ⟨by simp; omega, grown_trans g13 g4⟩, fun h => absurd rfl h⟩
  have hLp : 0 < L.length := by omega
  obtain ⟨hi1, hi2⟩ := iP11 hi.1 hLp
  obtain ⟨p, hp⟩ : ∃ p, p = (i % (L.length : Int)).toNat := ⟨_, rfl⟩
  rw [← hp] at hi1 hi2
  have he : ((n2 : Nat) : Int) = (L.length : Int) := by omega
  have tp : (p : Int).toNat = p := by omega
  have tp1 : ((p : Int) + 1).toNat = p + 1 := by omega
  refine ⟨by omega, _, _, _, blk_cell bH 1, ⟨by omega, by omega⟩, _, blk_cell bH 0, _, _, _, blk_cell bH 1, ?_⟩
  rw [he, hi2]
  obtain ⟨b, hx1, hx2⟩ := hHi.1.step hi1
  obtain ⟨a, ha⟩ : ∃ a, a = foldT (L.take p) [] := ⟨_, rfl⟩
  rw [← ha] at hx1
  refine (SA w3 p (grown_refl _ _)).mono fun ev w4 hh => ?_
  rw [tp, ← ha] at hh
  obtain ⟨A4, n4, c4, rfl, o4, g4⟩ := hh
  have bH4 := blk_keep bH g4
  refine ⟨_, _, _, _, rfl, _, blk_cell bH4 0, _, _, _, blk_cell bH4 1, by omega, (SA w4 ((p : Int) + 1) g4).mono fun ev w5 hh => ?_⟩
  rw [tp1, hx2] at hh
  obtain ⟨A5, n5, c5, rfl, o5, g5⟩ := hh
  have hn4 : n4 = a.length := by have := o4.cases.1; rw [edges_length] at this; omega
  have hn5 : n5 = b.length := by have := o5.cases.1; rw [edges_length] at this; omega
  have la : a.length ≤ 40 := by have := foldT_len (L.take p) []; rw [← ha, List.length_take] at this; simp only [List.length_nil] at this; omega
  have lb : b.length ≤ 40 := by have := foldT_len (L.take (p + 1)) []; rw [hx2, List.length_take] at this; simp only [List.length_nil] at this; omega
  have g35 := grown_trans g4 g5
  have bH5 := blk_keep bH4 g5
  obtain ⟨aa, e1, e2, e3, e4, e5⟩ := evt_at (o3.kept g35).row hi1
  rw [tp]
  refine ⟨_, _, _, _, rfl, _, _, _, blk_cell bH5 1, aa, e1, by omega, by omega, _, e2, _, e3, _, e4, _, e5, (sturn_calls (e := L[p]) (o4.kept g5).row hn4 (fun h => owned_cap o4 h) (by omega)).mono fun ev w6 hh => ?_⟩
  rw [hx1] at hh
  obtain ⟨A6, n6, c6, rfl, o6, g6⟩ := hh
  have bH6 := blk_keep bH5 g6
  have g36 := grown_trans g35 g6
  obtain ⟨ab, f1, f2, f3, f4, f5⟩ := evt_at (o3.kept g36).row hi1
  have sE0 : (w6.alloc (.cells #[.int .i64 0, .int .u32 0, .int .u32 0, .bool false] 41)).heap[w6.heap.size]? = some (.cells #[.int .i64 0, .int .u32 0, .int .u32 0, .bool false] 41 (0, 0)) := heap_alloc_new w6 _
  have sE1 := blk_set sE0 0 (.int .i64 L[p].t)
  have sE2 := blk_set sE1 1 (.int .u32 L[p].u)
  have sE3 := blk_set sE2 2 (.int .u32 L[p].v)
  have sE4 := blk_set sE3 3 (.bool L[p].add)
  have bE : (((((w6.alloc (.cells #[.int .i64 0, .int .u32 0, .int .u32 0, .bool false] 41)).setCell ⟨w6.heap.size, 0, none⟩ (.int .i64 L[p].t)).setCell ⟨w6.heap.size, 1, none⟩ (.int .u32 L[p].u)).setCell ⟨w6.heap.size, 2, none⟩ (.int .u32 L[p].v)).setCell ⟨w6.heap.size, 3, none⟩ (.bool L[p].add)).heap[w6.heap.size]? = some (.cells #[.int .i64 L[p].t, .int .u32 L[p].u, .int .u32 L[p].v, .bool L[p].add] 41 (0, 0)) := by simpa using sE4
  have gE : w6.grownBy (((((w6.alloc (.cells #[.int .i64 0, .int .u32 0, .int .u32 0, .bool false] 41)).setCell ⟨w6.heap.size, 0, none⟩ (.int .i64 L[p].t)).setCell ⟨w6.heap.size, 1, none⟩ (.int .u32 L[p].u)).setCell ⟨w6.heap.size, 2, none⟩ (.int .u32 L[p].v)).setCell ⟨w6.heap.size, 3, none⟩ (.bool L[p].add)) none := (Kp.grown (set1 (set1 (set1 (set1 (Kp.of_none (S := fun k => w6.heap.size ≤ k) (grown_alloc (grown_refl w6 none) _)) (Nat.le_refl _)) (Nat.le_refl _)) (Nat.le_refl _)) (Nat.le_refl _)) (fun k hk e => by omega))
  obtain ⟨w7, hE⟩ : ∃ w7, w7 = (((((w6.alloc (.cells #[.int .i64 0, .int .u32 0, .int .u32 0, .bool false] 41)).setCell ⟨w6.heap.size, 0, none⟩ (.int .i64 L[p].t)).setCell ⟨w6.heap.size, 1, none⟩ (.int .u32 L[p].u)).setCell ⟨w6.heap.size, 2, none⟩ (.int .u32 L[p].v)).setCell ⟨w6.heap.size, 3, none⟩ (.bool L[p].add)) := ⟨_, rfl⟩
  rw [← hE] at bE gE
  refine ⟨_, _, _, _, rfl, _, _, _, blk_cell bH6 1, ab, f1, by omega, by omega, _, f2, _, f3, _, f4, _, f5, ⟨_, blk_cell sE0 0⟩, blk_free sE0 0, ⟨_, blk_cell sE1 1⟩, blk_free sE1 1, ⟨_, blk_cell sE2 2⟩, blk_free sE2 2, ⟨_, blk_cell sE3 3⟩, blk_free sE3 3, ?_⟩
  rw [← hE]
  have b8 := blk_set bE 3 (.bool (decide (L[p].add = false)))
  have K8 : Kp w6 (w7.setCell ⟨w6.heap.size, 3, none⟩ (.bool (decide (L[p].add = false)))) (fun k => w6.heap.size ≤ k) := set1 (Kp.of_none gE) (Nat.le_refl _)
  refine ⟨_, blk_cell bE 3, ⟨_, blk_cell bE 3⟩, blk_free bE 3, ?_⟩
  obtain ⟨w8, hw8⟩ : ∃ w8, w8 = w7.setCell ⟨w6.heap.size, 3, none⟩ (.bool (decide (L[p].add = false))) := ⟨_, rfl⟩
  rw [← hw8] at b8 K8 ⊢
  have g8 : w6.grownBy w8 none := K8.grown (fun k hk e => by omega)
  have b8' : w8.heap[w6.heap.size]? = some (.cells #[.int .i64 L[p].t, .int .u32 L[p].u, .int .u32 L[p].v, .bool (decide (L[p].add = false))] 41 (0, 0)) := by simpa using b8
  have g38 := grown_trans g36 g8
  have hback : turnL b ⟨L[p].t, L[p].u, L[p].v, decide (L[p].add = false)⟩ = some a := by
    have := turn_back hx1
    have e : decide (L[p].add = false) = !L[p].add := by cases L[p].add <;> rfl
    rw [e]; exact this
  refine ⟨_, blk_cell b8' 0, _, blk_cell b8' 1, _, blk_cell b8' 2, _, blk_cell b8' 3, (sturn_calls (e := ⟨L[p].t, L[p].u, L[p].v, decide (L[p].add = false)⟩) ((o5.kept g6).kept g8).row hn5 (fun h => owned_cap o5 h) (by omega)).mono fun ev w9 hh => ?_⟩
  rw [hback] at hh
  obtain ⟨A9, n9, c9, rfl, o9, g9⟩ := hh
  have gd := grown_drew (grown_refl w9 none)
  have g39 := grown_trans (grown_trans g38 g9) gd
  have g69 := grown_trans (grown_trans g8 g9) gd
  have hn6 : n6 = b.length := by have := o6.cases.1; rw [edges_length] at this; simp at this; omega
  have hn9 : n9 = a.length := by have := o9.cases.1; rw [edges_length] at this; simp at this; omega
  obtain ⟨w10, hw10⟩ : ∃ w10, w10 = w9.drew := ⟨_, rfl⟩
  rw [← hw10] at gd g39 g69
  refine ⟨_, _, _, _, rfl, fun W => w10.grownBy W none, by rw [← hw10]; exact grown_refl _ _, ?_⟩
  rw [← hw10]
  have o5' := (o5.kept g6).kept g69
  refine ⟨fun _ => ⟨fun _ => ⟨fun _ => ?_, fun h => (by cases h)⟩, fun h => absurd rfl h⟩, fun h => absurd rfl h⟩
  refine (sameEdges_calls o5'.row hn5 (o6.kept g69).row hn6 (by omega)).mono fun ev w11 hh => ?_
  obtain ⟨rfl, g11⟩ := hh
  refine ⟨_, rfl, g11, fun _ => ⟨fun _ => ?_, fun h => (by cases h)⟩, fun h => (by simp at h)⟩
  refine (sameEdges_calls (((o4.kept g5).kept g6).kept (grown_trans g69 g11)).row hn4 ((o9.kept gd).kept g11).row hn9 (by omega)).mono fun ev w12 hh => ?_
  obtain ⟨rfl, g12⟩ := hh
  have g112 := grown_trans g11 g12
  refine ⟨_, rfl, g112, fun _ => ?_, fun h => (by simp at h)⟩
  refine (rising_calls (o5'.kept g112).row hn5 (by omega)).mono fun ev w13 hh => ?_
  obtain ⟨rfl, g13'⟩ := hh
  have g113 := grown_trans g112 g13'
  have hrb : risingL b = true := (risingL_iff b).2 (turn_some hx1).1
  have bHd : ∀ W, w10.grownBy W none → W.heap[w2.heap.size]? = some (.cells #[.int .u64 N, .slice A2 n2 c2] 27 (0, 0)) := fun W g => blk_keep (blk_keep bH g39) g
  obtain ⟨ac, q1, q2, q3, q4, q5⟩ := evt_at (o3.kept (grown_trans g39 g113)).row hi1
  refine ⟨_, rfl, g113, fun _ => ⟨_, _, _, blk_cell (bHd _ g113) 1, ac, q1, by omega, by omega, _, q3, _, by rw [add_add (ac.add (p * 4)) 1 1]; exact q4, (shas_calls (e := (L[p].u, L[p].v)) (o5'.kept g113).row hn5 (by omega)).mono fun ev w14 hh => ?_⟩, fun h => (by rw [hrb] at h; cases h)⟩
  obtain ⟨rfl, g14⟩ := hh
  have g114 := grown_trans g113 g14
  refine ⟨_, rfl, g114, _, _, _, fun W g => blk_cell (bHd W g) 1, ac, q1, by omega, by omega, L[p].add, fun W g => ?_, _, fun w => run_eqB _ _ _ _ w, ?_, grown_trans g13 (grown_trans g39 g114)⟩
  · obtain ⟨ad, r1, _, _, _, r5⟩ := evt_at (o3.kept (grown_trans g39 g)).row hi1
    rw [r1] at q1; cases q1
    exact r5
  · have := turn_has hx1
    rw [this]; simp
end Go.Proofs.Ytgahfcdmgdnjiaa

/-! SnapDegrees: all degrees together are twice the edges (lists). -/
namespace Go.Proofs.Ytgahfcdmgdnjiaa
open Go Go.V Go.RowKit
set_option linter.unusedVariables false
set_option linter.unusedSimpArgs false
set_option maxHeartbeats 4000000
set_option maxRecDepth 100000

def seenStep (x : List Edge) (s : List Int × Int) (v : Int) : List Int × Int := if v ∈ s.1 then s else (s.1 ++ [v], s.2 + degL x v)
def seenEdge (x : List Edge) (s : List Int × Int) (e : Edge) : List Int × Int := seenStep x (seenStep x s e.1) e.2
def seenL (x y : List Edge) : List Int × Int := y.foldl (seenEdge x) ([], 0)
def sumD (x : List Edge) (l : List Int) : Int := (l.map (degL x)).sum
theorem sumD_snoc (x : List Edge) (l : List Int) (v : Int) : sumD x (l ++ [v]) = sumD x l + degL x v := by simp [sumD]
theorem degL_cons (e : Edge) (x : List Edge) (v : Int) : degL (e :: x) v = (if e.1 = v ∨ e.2 = v then 1 else 0) + degL x v := by
  unfold degL
  by_cases h : e.1 = v ∨ e.2 = v
  · rw [List.filter_cons_of_pos (by simpa using h), if_pos h, List.length_cons]; omega
  · rw [List.filter_cons_of_neg (by simpa using h), if_neg h]; omega
theorem sum_ind : ∀ (l : List Int) (a b : Int), l.Nodup → a ≠ b → a ∈ l → b ∈ l → (l.map fun v => if a = v ∨ b = v then (1 : Int) else 0).sum = 2 := by
  have one : ∀ (l : List Int) (a : Int), a ∉ l → ∀ b, l.Nodup → b ∈ l → (l.map fun v => if a = v ∨ b = v then (1 : Int) else 0).sum = 1 := by
    have zero : ∀ (l : List Int) (a b : Int), a ∉ l → b ∉ l → (l.map fun v => if a = v ∨ b = v then (1 : Int) else 0).sum = 0 := by
      intro l
      induction l with
      | nil => intros; rfl
      | cons x l ih =>
        intro a b ha hb
        simp only [List.mem_cons, not_or] at ha hb
        simp only [List.map_cons, List.sum_cons]
        rw [if_neg (fun h => h.elim ha.1 hb.1), ih a b ha.2 hb.2]; rfl
    intro l
    induction l with
    | nil => intro a _ b _ h; simp at h
    | cons x l ih =>
      intro a ha b hn hb
      simp only [List.mem_cons, not_or] at ha
      rw [List.nodup_cons] at hn
      simp only [List.map_cons, List.sum_cons]
      by_cases hx : b = x
      · rw [if_pos (Or.inr hx), zero l a b ha.2 (by rw [hx]; exact hn.1)]; rfl
      · rw [if_neg (fun h => h.elim ha.1 hx), ih a ha.2 b hn.2 ((List.mem_cons.1 hb).resolve_left hx)]; rfl
  intro l
  induction l with
  | nil => intro a b _ _ h; simp at h
  | cons x l ih =>
    intro a b hn hab ha hb
    rw [List.nodup_cons] at hn
    simp only [List.map_cons, List.sum_cons]
    by_cases hx : a = x
    · rw [if_pos (Or.inl hx), one l a (by rw [hx]; exact hn.1) b hn.2 ((List.mem_cons.1 hb).resolve_left fun h => hab (hx.trans h.symm))]; rfl
    · have ha' : a ∈ l := (List.mem_cons.1 ha).resolve_left hx
      by_cases hy : b = x
      · have := one l b (by rw [hy]; exact hn.1) a hn.2 ha'
        rw [if_pos (Or.inr hy)]
        have e : (fun v => if a = v ∨ b = v then (1 : Int) else 0) = fun v => if b = v ∨ a = v then (1 : Int) else 0 := by funext v; simp only [or_comm]
        rw [e, this]; rfl
      · rw [if_neg (fun h => h.elim hx hy), ih a b hn.2 hab ha' ((List.mem_cons.1 hb).resolve_left hy)]; rfl
theorem sumD_two : ∀ (x : List Edge) (l : List Int), l.Nodup → (∀ e ∈ x, e.1 ≠ e.2 ∧ e.1 ∈ l ∧ e.2 ∈ l) → sumD x l = 2 * x.length
  | [], l, _, _ => by
    have : ∀ l : List Int, sumD [] l = 0 := by
      intro l; induction l with
      | nil => rfl
      | cons v l ih => unfold sumD at ih ⊢; simp only [List.map_cons, List.sum_cons]; rw [ih]; rfl
    rw [this]; rfl
  | e :: x, l, hn, h => by
    have ih := sumD_two x l hn fun a ha => h a (List.mem_cons_of_mem _ ha)
    have he := h e (by simp)
    have : ∀ l : List Int, sumD (e :: x) l = (l.map fun v => if e.1 = v ∨ e.2 = v then (1 : Int) else 0).sum + sumD x l := by
      intro l; induction l with
      | nil => rfl
      | cons v l ih2 => unfold sumD at ih2 ⊢; simp only [List.map_cons, List.sum_cons]; rw [ih2, degL_cons]; omega
    rw [this, sum_ind l e.1 e.2 hn he.1 he.2.1 he.2.2, ih]; simp only [List.length_cons]; omega
def SeenOk (x : List Edge) (s : List Int × Int) : Prop := s.1.Nodup ∧ s.2 = sumD x s.1
theorem seenStep_ok {x : List Edge} {s : List Int × Int} (v : Int) (h : SeenOk x s) : SeenOk x (seenStep x s v) ∧ v ∈ (seenStep x s v).1 ∧ (∀ a ∈ s.1, a ∈ (seenStep x s v).1) ∧ (seenStep x s v).1.length ≤ s.1.length + 1 := by
  unfold seenStep
  by_cases hv : v ∈ s.1
  · rw [if_pos hv]; exact ⟨h, hv, fun _ h => h, by omega⟩
  · rw [if_neg hv]
    refine ⟨⟨?_, by rw [sumD_snoc, h.2]⟩, by simp, fun a ha => by simp [ha], by simp⟩
    show (s.1 ++ [v]).Nodup
    rw [List.nodup_append]
    exact ⟨h.1, by simp, fun a ha b hb => by simp at hb; subst hb; rintro rfl; exact hv ha⟩
theorem seenL_ok (x : List Edge) : ∀ (y : List Edge) (s : List Int × Int), SeenOk x s → SeenOk x (y.foldl (seenEdge x) s) ∧ (∀ a ∈ s.1, a ∈ (y.foldl (seenEdge x) s).1) ∧ (∀ e ∈ y, e.1 ∈ (y.foldl (seenEdge x) s).1 ∧ e.2 ∈ (y.foldl (seenEdge x) s).1) ∧ (y.foldl (seenEdge x) s).1.length ≤ s.1.length + 2 * y.length
  | [], s, h => ⟨h, fun _ h => h, by simp, by simp⟩
  | e :: y, s, h => by
    obtain ⟨h1, m1, k1, l1⟩ := seenStep_ok e.1 h
    obtain ⟨h2, m2, k2, l2⟩ := seenStep_ok e.2 h1
    obtain ⟨h3, k3, m3, l3⟩ := seenL_ok x y (seenEdge x s e) h2
    simp only [List.foldl_cons]
    refine ⟨h3, fun a ha => k3 a (k2 a (k1 a ha)), fun a ha => ?_, ?_⟩
    · rcases List.mem_cons.1 ha with rfl | ha
      · exact ⟨k3 _ (k2 _ m1), k3 _ m2⟩
      · exact m3 a ha
    · simp only [List.length_cons]
      have : (seenEdge x s e).1.length ≤ s.1.length + 2 := by unfold seenEdge; omega
      omega
theorem seen_two {x : List Edge} (h : ∀ e ∈ x, e.1 ≠ e.2) : (seenL x x).2 = 2 * (x.length : Int) := by
  obtain ⟨a, _, c, _⟩ := seenL_ok x x ([], 0) ⟨by simp, rfl⟩
  rw [show seenL x x = x.foldl (seenEdge x) ([], 0) from rfl, a.2]
  exact sumD_two x _ a.1 fun e he => ⟨h e he, c e he⟩
theorem sumD_le {x : List Edge} : ∀ (l : List Int), 0 ≤ sumD x l ∧ sumD x l ≤ l.length * x.length
  | [] => by simp [sumD]
  | v :: l => by
    have ih := sumD_le (x := x) l
    have d := degL_le x v
    have e : sumD x (v :: l) = degL x v + sumD x l := rfl
    rw [e, List.length_cons]
    refine ⟨by omega, ?_⟩
    have : ((l.length + 1 : Nat) : Int) * (x.length : Int) = (l.length : Int) * x.length + x.length := by rw [Int.natCast_add, Int.add_mul]; simp
    omega
theorem seenL_snoc {x : List Edge} {p : Nat} (hp : p < x.length) : seenL x (x.take (p + 1)) = seenEdge x (seenL x (x.take p)) x[p] := by
  unfold seenL
  rw [List.take_add_one, List.getElem?_eq_getElem hp, Option.toList_some, List.foldl_append]; rfl
end Go.Proofs.Ytgahfcdmgdnjiaa

/-! archipelagoseat.Time; archipelagolaw11.SnapDegrees: the walks. -/
namespace Go.Proofs.Ytgahfcdmgdnjiaa
open Go Go.V Go.RowKit
set_option linter.unusedVariables false
set_option linter.unusedSimpArgs false
set_option maxHeartbeats 4000000
set_option maxRecDepth 100000

theorem add_blk (b q : Nat) : Addr.add ⟨b, 0, none⟩ q = ⟨b, q, none⟩ := by
  unfold Addr.add
  split <;> simp_all
theorem grown_step {w a b : World} {r : Option Nat} (g : w.grownBy a none) (g' : a.grownBy b r) (h : ∀ k, r = some k → w.heap.size ≤ k) : w.grownBy b none := (Kp.step (S := fun k => w.heap.size ≤ k) (Kp.of_none g) g' (fun k hk => .inl (h k hk))).grown (fun k hk e => by omega)
theorem time_calls {w : World} {A : Option Addr} {n c : Nat} {l : List Evt} {N k : Int} (hr : Row w A (evts l)) (hn : n = l.length) (hl : n ≤ 2 ^ 20) (hk : 0 ≤ k ∧ k ≤ 255) (hb : ∀ e ∈ l, 0 ≤ e.t ∧ e.t ≤ 2251799813685248) :
    Calls P 20 #[.agg #[.int .u64 N, .slice A n c], .int .u8 k] w fun ev w' => ∃ t : Int, ev = .returned (.int .i64 t) ∧ w.grownBy w' none := by
  apply vc20; unfold VC20; try (conv => zeta)
  simp only [InK]
  have g0 := World.grownBy_alloc w (.cells #[.int .u64 N, .slice A n c] 27) none
  have b0 : (w.alloc (.cells #[.int .u64 N, .slice A n c] 27)).heap[w.heap.size]? = some (.cells #[.int .u64 N, .slice A n c] 27 (0, 0)) := heap_alloc_new w _
  obtain ⟨w0, hw_w0⟩ : ∃ w0, w0 = w.alloc (.cells #[.int .u64 N, .slice A n c] 27) := ⟨_, rfl⟩
  rw [← hw_w0] at g0 b0 ⊢
  have gd := grown_drew (grown_refl w0 none)
  have bd := blk_keep b0 gd
  have g0d := grown_trans g0 gd
  obtain ⟨w1, hw1⟩ : ∃ w1, w1 = w0.drew := ⟨_, rfl⟩
  rw [← hw1] at gd bd g0d ⊢
  have g2 := World.grownBy_alloc w0 (.cells #[.int .i64 0, .int .i64 5, .int .i64 4611686018427387903, .int .i64 9223372036854775807, .int .i64 (-1), .int .i64 (-9223372036854775808)] 2) none
  have b2 := heap_alloc_new w0 (.cells #[.int .i64 0, .int .i64 5, .int .i64 4611686018427387903, .int .i64 9223372036854775807, .int .i64 (-1), .int .i64 (-9223372036854775808)] 2)
  have lit : ∀ j : Int, 0 ≤ j → j < 6 → ∃ x : Int, (w0.alloc (.cells #[.int .i64 0, .int .i64 5, .int .i64 4611686018427387903, .int .i64 9223372036854775807, .int .i64 (-1), .int .i64 (-9223372036854775808)] 2)).cell? (Addr.add ⟨w0.heap.size, 0, none⟩ j.toNat) = some (.int .i64 x) := by
    intro j h0 h6
    have e : Addr.add ⟨w0.heap.size, 0, none⟩ j.toNat = ⟨w0.heap.size, j.toNat, none⟩ := add_blk _ _
    rw [e, blk_cell b2]
    obtain ⟨q, rfl⟩ : ∃ q : Nat, j = (q : Int) := ⟨j.toNat, by omega⟩
    have : q = 0 ∨ q = 1 ∨ q = 2 ∨ q = 3 ∨ q = 4 ∨ q = 5 := by omega
    rcases this with rfl | rfl | rfl | rfl | rfl | rfl <;> exact ⟨_, rfl⟩
  obtain ⟨x, hx⟩ := lit (k % 6) (by omega) (by omega)
  refine ⟨_, _, _, blk_cell b0 1, fun h0 => ⟨by omega, _, rfl, by omega, by omega, x, hx, x, rfl, grown_trans g0 g2⟩, fun h0 => ⟨fun h245 => ⟨by omega, _, rfl, by omega, by omega, x, hx, x, rfl, grown_trans g0 g2⟩, fun h245 => ?_⟩⟩
  have hlp : 0 < l.length := by omega
  have h1 := Int.emod_nonneg (k / 3) (show (n : Int) ≠ 0 by omega)
  have h2 := Int.emod_lt_of_pos (k / 3) (show (0 : Int) < (n : Int) by omega)
  obtain ⟨p, hp⟩ : ∃ p : Nat, (p : Int) = k / 3 % (n : Int) := ⟨(k / 3 % (n : Int)).toNat, by omega⟩
  obtain ⟨a, e1, e2, _⟩ := evt_at (hr.kept_none g0d) (show p < l.length by omega)
  have ht := hb _ (List.getElem_mem (show p < l.length by omega))
  refine ⟨_, _, _, blk_cell bd 1, ⟨by omega, by omega, by omega, by omega⟩, by omega, _, _, _, blk_cell bd 1, ⟨by omega, by omega⟩, a, e1, by omega, by omega, l[p].t, ?_, ⟨by omega, by omega⟩, by omega, by omega, by omega, _, rfl, g0d⟩
  rw [← hp]
  exact e2
theorem elemU32 : ElemK P 72 37 1 4 := ⟨(P.info? 37).getD default, .int .u32 0, by kernel_rfl, by kernel_rfl, by kernel_rfl, by kernel_rfl, by kernel_rfl, by kernel_rfl, by omega⟩
theorem append_u32 {w : World} {base : Nat} {A : Option Addr} {n c : Nat} {xs : List Int} {x : Int} (ho : OwnedK w base 37 1 A n c (u32s xs)) (hn : n ≤ 2 ^ 39) (hb : base ≤ w.heap.size) :
    ∃ (A' : Option Addr) (n' c' : Nat) (w' : World), Sem.run P (Builtin.append_ #[72, 72] 72 #[.slice A n c, .slice (some ⟨w.heap.size, 0, none⟩) 1 1]) (w.alloc (.cells #[.int .u32 x] 37)) = .ok (.slice A' n' c') w' ∧
      OwnedK w' base 37 1 A' n' c' (u32s (xs ++ [x])) ∧ w.grownBy w' (Value.slice A n c).ownBlock ∧ n' = n + 1 ∧ ((Value.slice A' n' c').ownBlock = (Value.slice A n c).ownBlock ∨ ∃ k, (Value.slice A' n' c').ownBlock = some k ∧ w.heap.size < k) := by
  have g := World.grownBy_alloc w (.cells #[.int .u32 x] 37) none
  have ro := row_alloc w #[.int .u32 x] 37
  obtain ⟨A', n', c', w', h1, h2, h3, h4, h5⟩ := (ho.kept g).appends (ty := 72) elemU32 (by omega) (a := ⟨w.heap.size, 0, none⟩) (m := 1) (cc := 1) (us := u32s [x]) rfl (fun j u hj => by obtain ⟨b, q1, q2⟩ := ro j u hj; cases q1; exact q2) (fun u hu => by simp at hu; rw [hu]; rfl) (by omega) (Nat.le_trans hb g.size)
  exact ⟨A', n', c', w', h1, by simpa using h2, grown_trans (grown_none g) h4, h3, h5.imp id fun h => ⟨_, h, (Array.getElem?_eq_some_iff.1 (heap_alloc_new w (.cells #[.int .u32 x] 37))).1⟩⟩

def seenIn (x : List Edge) (s : List Int × Int) (e : Edge) (q : Nat) : List Int × Int := if q = 0 then s else if q = 1 then seenStep x s e.1 else seenEdge x s e
def pick (e : Edge) (q : Nat) : Int := if q = 0 then e.1 else e.2
theorem seenIn_next {x : List Edge} {s : List Int × Int} {e : Edge} {q : Nat} (h : q < 2) : seenIn x s e (q + 1) = seenStep x (seenIn x s e q) (pick e q) := by
  have : q = 0 ∨ q = 1 := by omega
  rcases this with rfl | rfl <;> simp [seenIn, pick, seenEdge]
theorem seenIn_ok {x : List Edge} {s : List Int × Int} {e : Edge} {q : Nat} (h : SeenOk x s) : SeenOk x (seenIn x s e q) ∧ (seenIn x s e q).1.length ≤ s.1.length + 2 := by
  obtain ⟨h1, _, _, l1⟩ := seenStep_ok e.1 h
  obtain ⟨h2, _, _, l2⟩ := seenStep_ok e.2 h1
  unfold seenIn
  split
  · exact ⟨h, by omega⟩
  · split
    · exact ⟨h1, by omega⟩
    · refine ⟨h2, ?_⟩
      unfold seenEdge; omega
theorem walkSnapDegrees {w : World} {A : Option Addr} {n c : Nat} {l : List Int} {k near : Int} (hk : 0 ≤ k ∧ k ≤ 255) (hrow : Row w A (u8s l)) (hn : n = l.length) (hb : BytesB l) (hi : 0 ≤ near ∧ near ≤ 255) :
    Calls P 9 #[.int .u8 k, .slice A n c, .int .u8 near] w fun ev w' => ev = .returned (.bool true) ∧ w.grownBy w' none := by
  apply vc9; unfold VC9; try (conv => zeta)
  simp only [InK]
  refine known11_calls.mono fun ev w1 hh => ?_
  obtain ⟨rfl, g1⟩ := hh
  refine ⟨true, rfl, fun h => absurd h (by simp), fun _ => ⟨fun _ => ⟨by trivial, g1⟩, fun h90 => ?_⟩⟩
  refine (history_calls (hrow.kept_none g1) hn hb hk (by omega)).mono fun ev w2 hh => ?_
  have hNl := vertL_is k
  have hHl := historyL_length k l
  have hHi := historyL_is (k := k) hb (by omega)
  have hHc := historyL_check (k := k) hb (by omega)
  obtain ⟨L, hL⟩ : ∃ L, L = historyL k l := ⟨_, rfl⟩
  obtain ⟨N, hN⟩ : ∃ N, N = vertL k := ⟨_, rfl⟩
  rw [← hL, ← hN] at hh hHi hHc
  rw [← hL] at hHl
  rw [← hN] at hNl
  obtain ⟨A2, n2, c2, rfl, o2, g2⟩ := hh
  have hn2 : n2 = L.length := by have := o2.cases.1; rw [evts_length] at this; omega
  have hU : EvtsU L := fun e he => by have := hHi.2 e he; omega
  have hT : ∀ e ∈ L, 0 ≤ e.t ∧ e.t ≤ 2251799813685248 := fun e he => by have := hHi.2 e he; omega
  have sH0 : (w2.alloc (.cells #[.int .u64 0, .slice none 0 0] 27)).heap[w2.heap.size]? = some (.cells #[.int .u64 0, .slice none 0 0] 27 (0, 0)) := heap_alloc_new w2 _
  have sH1 := blk_set sH0 0 (.int .u64 N)
  have sH2 := blk_set sH1 1 (.slice A2 n2 c2)
  have bH : (((w2.alloc (.cells #[.int .u64 0, .slice none 0 0] 27)).setCell ⟨w2.heap.size, 0, none⟩ (.int .u64 N)).setCell ⟨w2.heap.size, 1, none⟩ (.slice A2 n2 c2)).heap[w2.heap.size]? = some (.cells #[.int .u64 N, .slice A2 n2 c2] 27 (0, 0)) := by simpa using sH2
  have gH : w2.grownBy (((w2.alloc (.cells #[.int .u64 0, .slice none 0 0] 27)).setCell ⟨w2.heap.size, 0, none⟩ (.int .u64 N)).setCell ⟨w2.heap.size, 1, none⟩ (.slice A2 n2 c2)) none := (Kp.grown (set1 (set1 (Kp.of_none (S := fun k => w2.heap.size ≤ k) (grown_alloc (grown_refl w2 none) _)) (Nat.le_refl _)) (Nat.le_refl _)) (fun k hk e => by omega))
  obtain ⟨w3, hH⟩ : ∃ w3, w3 = (((w2.alloc (.cells #[.int .u64 0, .slice none 0 0] 27)).setCell ⟨w2.heap.size, 0, none⟩ (.int .u64 N)).setCell ⟨w2.heap.size, 1, none⟩ (.slice A2 n2 c2)) := ⟨_, rfl⟩
  rw [← hH] at bH gH
  refine ⟨_, _, _, _, rfl, ⟨_, blk_cell sH0 0⟩, blk_free sH0 0, ⟨_, blk_cell sH1 1⟩, blk_free sH1 1, ?_⟩
  rw [← hH]
  have gd := grown_drew (grown_refl w3 none)
  obtain ⟨w4, hw4⟩ : ∃ w4, w4 = w3.drew := ⟨_, rfl⟩
  rw [← hw4] at gd ⊢
  have b4 := blk_keep bH gd
  have o4 := (o2.kept gH).kept gd
  have g14 := grown_trans (grown_trans (grown_trans g1 g2) gH) gd
  refine ⟨fun W => w4.grownBy W none, grown_refl _ _, _, fun W g => blk_cell (blk_keep b4 g) 0, _, _, _, fun W g => blk_cell (blk_keep b4 g) 1, _, blk_cell b4 0, _, _, _, blk_cell b4 1, (time_calls (k := near) o4.row hn2 (by omega) hi hT).mono fun ev w5 hh => ?_⟩
  obtain ⟨t, rfl, g5⟩ := hh
  refine ⟨_, rfl, g5, (sat_calls (t := t) (o4.kept g5).row hn2 (owned_le o2) (owned_cap o2) (by omega) hU).mono fun ev w6 hh => ?_⟩
  rw [hHc] at hh
  obtain ⟨A6, n6, c6, rfl, o6, g6⟩ := hh
  refine ⟨_, _, _, _, rfl, grown_trans g5 g6, fun h => absurd rfl h, fun _ => ?_⟩
  have hx40 : (atL N L t).length ≤ 40 ∧ ∀ e ∈ atL N L t, e.1 ≠ e.2 := by
    have ok := afterL_ok (k := (uptoL L t : Int)) hHi.1
    unfold atL afterL
    rw [hHc, if_neg (by simp)]
    refine ⟨?_, fun e he => ?_⟩
    · have := foldT_len (L.take (uptoL L t : Int).toNat) []
      rw [List.length_take] at this
      simp only [List.length_nil] at this
      omega
    · obtain ⟨v, hv, rfl⟩ := ok.2 e he
      have := hHi.1.mem v hv
      show v.u ≠ v.v
      omega
  obtain ⟨x, hx⟩ : ∃ x, x = atL N L t := ⟨_, rfl⟩
  rw [← hx] at hx40 o6
  have hn6 : n6 = x.length := by have := o6.cases.1; rw [edges_length] at this; omega
  refine ⟨fun m sA sn sc all i W => ∃ p : Nat, i = (p : Int) ∧ p ≤ x.length ∧ m = x.length - p ∧ OwnedK W w6.heap.size 37 1 sA sn sc (u32s (seenL x (x.take p)).1) ∧ all = (seenL x (x.take p)).2 ∧ w6.grownBy W none, ⟨_, 0, rfl, by omega, rfl, by simpa [seenL] using OwnedK.nil _ _ _ _, by simp [seenL], grown_refl _ _⟩, ?_⟩
  rintro m sA sn sc all i w7 ⟨p, rfl, hp, rfl, os, rfl, g7⟩
  have tp : (p : Int).toNat = p := by omega
  rw [tp]
  refine ⟨fun hlt => ?_, fun hge => ?_⟩
  · have lp : p < x.length := by omega
    have g7d := grown_drew (grown_refl w7 none)
    obtain ⟨w8, hw8⟩ : ∃ w8, w8 = w7.drew := ⟨_, rfl⟩
    rw [← hw8] at g7d ⊢
    have g8 := grown_trans g7 g7d
    obtain ⟨a, e1, e2, e3⟩ := edge_at (o6.kept g8).row lp
    refine ⟨a, e1, by omega, by omega, _, e2, a, e1, by omega, by omega, _, e3, ?_⟩
    have gR := World.grownBy_alloc w8 (.cells #[.int .u32 x[p].1, .int .u32 x[p].2] 37) none
    have bR := heap_alloc_new w8 (.cells #[.int .u32 x[p].1, .int .u32 x[p].2] 37)
    obtain ⟨w9, hw9⟩ : ∃ w9, w9 = w8.alloc (.cells #[.int .u32 x[p].1, .int .u32 x[p].2] 37) := ⟨_, rfl⟩
    rw [← hw9] at gR bR ⊢
    have g9 := grown_trans g8 gR
    obtain ⟨okS, _, _, lenS⟩ := seenL_ok x (x.take p) ([], 0) ⟨by simp, rfl⟩
    rw [show (x.take p).foldl (seenEdge x) ([], 0) = seenL x (x.take p) from rfl] at okS lenS
    have hnx := seenL_snoc lp
    obtain ⟨s, hs⟩ : ∃ s, s = seenL x (x.take p) := ⟨_, rfl⟩
    rw [← hs] at okS lenS os hnx
    rw [List.length_take] at lenS
    simp only [List.length_nil] at lenS
    have l9 : w8.heap.size < w9.heap.size := (Array.getElem?_eq_some_iff.1 bR).1
    refine ⟨fun m sA sn sc all i W => ∃ q : Nat, i = (q : Int) ∧ q ≤ 2 ∧ m = 2 - q ∧ OwnedK W w6.heap.size 37 1 sA sn sc (u32s (seenIn x s x[p] q).1) ∧ all = (seenIn x s x[p] q).2 ∧ w6.grownBy W none ∧ W.heap[w8.heap.size]? = some (.cells #[.int .u32 x[p].1, .int .u32 x[p].2] 37 (0, 0)) ∧ (Value.slice sA sn sc).ownBlock ≠ some w8.heap.size,
      ⟨_, 0, rfl, by omega, rfl, by simpa [seenIn] using (os.kept g7d).kept gR, by simp [seenIn, hs], g9, bR, fun h => by have := (os.kept g7d).block_lt _ h; omega⟩, ?_⟩
    rintro m2 tA tn tc all2 i2 w10 ⟨q, rfl, hq, rfl, ot, rfl, g10, b10, hne⟩
    have tq : (q : Int).toNat = q := by omega
    rw [tq]
    refine ⟨fun hq2 => ?_, fun hq2 => ?_⟩
    · have hq2' : q < 2 := by omega
      have hnq := seenIn_next (x := x) (s := s) (e := x[p]) hq2'
      obtain ⟨ok1, len1⟩ := seenIn_ok (e := x[p]) (q := q) okS
      have d1 := sumD_le (x := x) (seenIn x s x[p] q).1
      have hd1 : ((seenIn x s x[p] q).1.length : Int) * (x.length : Int) ≤ 100 * 40 := by
        have := Nat.mul_le_mul (show (seenIn x s x[p] q).1.length ≤ 100 by omega) hx40.1
        exact_mod_cast this
      have hs2 := ok1.2
      obtain ⟨s1, hs1⟩ : ∃ s1, s1 = seenIn x s x[p] q := ⟨_, rfl⟩
      rw [← hs1] at hnq ok1 len1 d1 hd1 hs2 ot ⊢
      have htn : tn = s1.1.length := by have := ot.cases.1; simp at this; omega
      have rdp : w10.cell? (Addr.add ⟨w8.heap.size, 0, none⟩ q) = some (.int .u32 (pick x[p] q)) := by
        have e : Addr.add ⟨w8.heap.size, 0, none⟩ q = ⟨w8.heap.size, q, none⟩ := add_blk _ _
        rw [e, blk_cell b10]
        have : q = 0 ∨ q = 1 := by omega
        rcases this with rfl | rfl <;> rfl
      refine ⟨_, rfl, by omega, by omega, _, rdp, (rin_calls (v := pick x[p] q) ot.row htn (by omega)).mono fun ev w11 hh => ?_⟩
      obtain ⟨rfl, g11⟩ := hh
      refine ⟨_, rfl, fun hno => ?_, fun hyes => ⟨by omega, 2 - (q + 1), by omega, q + 1, by omega, by omega, rfl, ?_, ?_, grown_trans g10 g11, blk_keep b10 g11, hne⟩⟩
      · have hno' : pick x[p] q ∉ s1.1 := by simpa using hno
        have hst : seenStep x s1 (pick x[p] q) = (s1.1 ++ [pick x[p] q], s1.2 + degL x (pick x[p] q)) := by unfold seenStep; rw [if_neg hno']
        rw [hst] at hnq
        have g611 := grown_trans g10 g11
        obtain ⟨A', n', c', w12, r1, r2, r3, r4, r5⟩ := append_u32 (x := pick x[p] q) (ot.kept g11) (by omega) g611.size
        refine ⟨A', n', c', w12, r1, ?_⟩
        have g12 := grown_step g611 r3 (fun k hk => ot.block_ge k hk)
        have dl := degL_le x (pick x[p] q)
        refine (sdegree_calls (v := pick x[p] q) (o6.kept g12).row hn6 (by omega)).mono fun ev w13 hh => ?_
        obtain ⟨rfl, g13⟩ := hh
        have hb12 : w12.heap[w8.heap.size]? = some (.cells #[.int .u32 x[p].1, .int .u32 x[p].2] 37 (0, 0)) := by
          rw [r3.block _ (Array.getElem?_eq_some_iff.1 (blk_keep b10 g11)).1 (fun h => hne h.symm)]
          exact blk_keep b10 g11
        have l11 : w8.heap.size < w11.heap.size := (Array.getElem?_eq_some_iff.1 (blk_keep b10 g11)).1
        refine ⟨_, rfl, ⟨by omega, by omega⟩, by omega, 2 - (q + 1), by omega, q + 1, by omega, by omega, rfl, ?_, ?_, grown_trans g12 g13, blk_keep hb12 g13, ?_⟩
        · rw [hnq]; exact r2.kept g13
        · rw [hnq]
        · rcases r5 with h | ⟨k, h, hk⟩
          · rw [h]; exact hne
          · rw [h]; intro e; cases e; omega
      · have hyes' : pick x[p] q ∈ s1.1 := by simpa using hyes
        have hst : seenStep x s1 (pick x[p] q) = s1 := by unfold seenStep; rw [if_pos hyes']
        rw [hnq, hst]; exact ot.kept g11
      · have hyes' : pick x[p] q ∈ s1.1 := by simpa using hyes
        have hst : seenStep x s1 (pick x[p] q) = s1 := by unfold seenStep; rw [if_pos hyes']
        rw [hnq, hst]
    · have : q = 2 := by omega
      subst this
      refine ⟨by omega, x.length - (p + 1), by omega, p + 1, by omega, by omega, rfl, ?_, ?_, g10⟩
      · rw [hnx]; simpa [seenIn] using ot
      · rw [hnx]; simp [seenIn]
  · have hpl : p = x.length := by omega
    subst hpl
    rw [List.take_length, seen_two hx40.2]
    refine ⟨by omega, ?_, grown_trans g14 (grown_trans (grown_trans g5 g6) g7)⟩
    rw [hn6]
    simp
end Go.Proofs.Ytgahfcdmgdnjiaa

/-! archipelagoseat.Bent: a history of which one thing is another one: some history, no longer. -/
namespace Go.Proofs.Ytgahfcdmgdnjiaa
open Go Go.V Go.RowKit
set_option linter.unusedVariables false
set_option linter.unusedSimpArgs false
set_option maxHeartbeats 4000000
set_option maxRecDepth 100000

theorem evts_set : ∀ (l : List Evt) (p : Nat) (hp : p < l.length) (j : Nat) (u : Value) (e : Evt), j < 4 → evtC e = (evtC l[p]).set j u → evts (l.set p e) = (evts l).set (p * 4 + j) u
  | a :: l, 0, hp, j, u, e, hj, he => by
    show evtC e ++ evts l = (evtC a ++ evts l).set (0 * 4 + j) u
    rw [Nat.zero_mul, Nat.zero_add, List.set_append_left _ _ (by show j < 4; exact hj)]
    rw [show evtC e = (evtC a).set j u from he]
  | a :: l, p + 1, hp, j, u, e, hj, he => by
    show evtC a ++ evts (l.set p e) = (evtC a ++ evts l).set ((p + 1) * 4 + j) u
    rw [List.set_append_right _ _ (by show 4 ≤ _; omega)]
    rw [evts_set l p (by simpa using hp) j u e hj (by simpa using he)]
    congr 2
    show p * 4 + j = (p + 1) * 4 + j - 4
    omega
theorem evtsU_set {l : List Evt} {p : Nat} {e : Evt} (h : EvtsU l) (he : (0 ≤ e.u ∧ e.u ≤ 4294967295) ∧ 0 ≤ e.v ∧ e.v ≤ 4294967295) : EvtsU (l.set p e) := fun x hx => by
  rcases List.mem_or_eq_of_mem_set hx with h1 | h1
  · exact h x h1
  · rw [h1]; exact he
theorem wrapU32 (x : Int) : 0 ≤ IntKind.u32.wrap x ∧ IntKind.u32.wrap x ≤ 4294967295 := by
  simp only [IntKind.wrap, IntKind.bits, IntKind.signed]
  simp
  omega
theorem addr0 (a : Addr) : a.add 0 = a := by cases a; unfold Addr.add; split <;> simp_all
theorem own_far {W : World} {base s n c g : Nat} {e t : TypeId} {fr : Nat × Nat} {A : Option Addr} {xs : List Value} {cur : Array Value} (h : OwnedK W base e s A n c xs) (hb : W.heap[g]? = some (.cells cur t fr)) (ne : e ≠ t) : (Value.slice A n c).ownBlock ≠ some g := by
  intro hg
  obtain ⟨cur', h'⟩ := h.block_type g hg
  rw [hb] at h'; cases h'; exact ne rfl
theorem own_set {w W : World} {A : Option Addr} {n c : Nat} {ty : TypeId} {s : Nat} {xs : List Value} (ho : OwnedK W w.heap.size ty s A n c xs) (g : w.grownBy W none) {k : Nat} (hk : k < xs.length) (u : Value) :
    ∃ a, A = some a ∧ (∃ uv_ : Value, W.cell? (a.add k) = some uv_) ∧ W.frozen? (a.add k) = false ∧ OwnedK (W.setCell (a.add k) u) w.heap.size ty s A n c (xs.set k u) ∧ w.grownBy (W.setCell (a.add k) u) none ∧
      ∀ (b : Nat) (cur : Array Value) (t : TypeId) (fr : Nat × Nat), ty ≠ t → W.heap[b]? = some (.cells cur t fr) → (W.setCell (a.add k) u).heap[b]? = some (.cells cur t fr) := by
  obtain ⟨h1, h2 | ⟨b, cur, rfl, h3, h4, h5, h6, h7, h8⟩⟩ := ho.cases
  · obtain ⟨_, _, _, rfl⟩ := h2; simp at hk
  · have e : Addr.add ⟨b, 0, none⟩ k = ⟨b, k, none⟩ := add_blk _ _
    have hks : k < cur.size := by rw [h7]; have := Nat.mul_le_mul_right s h5; omega
    refine ⟨_, rfl, ⟨cur[k], by rw [e, blk_cell h6, Array.getElem?_eq_getElem hks]⟩, by rw [e]; exact blk_free h6 k, ?_, ?_, ?_⟩
    · rw [e]
      refine OwnedK.of_block h3 (blk_set h6 k u) h5 h4 (by simp [h7]) (by simp [h1]) ?_
      rw [← h8, ← List.take_set]; simp
    · rw [e]; exact (set1 (Kp.of_none (S := fun q => w.heap.size ≤ q) g) h3).grown (fun q hq x => by omega)
    · intro b' cur' t fr ne hb'
      rw [e]
      refine blk_far hb' (p := ⟨b, k, none⟩) ?_ u
      intro hbb
      simp only at hbb
      subst hbb
      rw [h6] at hb'; cases hb'; exact ne rfl
theorem evts_set4 : ∀ (l : List Evt) (p : Nat) (hp : p < l.length) (e : Evt), ((((evts l).set (p * 4) (.int .i64 e.t)).set (p * 4 + 1) (.int .u32 e.u)).set (p * 4 + 2) (.int .u32 e.v)).set (p * 4 + 3) (.bool e.add) = evts (l.set p e)
  | a :: l, 0, hp, e => rfl
  | a :: l, p + 1, hp, e => by
    have ih := evts_set4 l p (by simpa using hp) e
    show _ = evtC a ++ evts (l.set p e)
    rw [← ih, show (p + 1) * 4 = p * 4 + 1 + 1 + 1 + 1 by omega]
    rfl
theorem own_evt {w W : World} {A : Option Addr} {n c : Nat} {l : List Evt} (ho : OwnedK W w.heap.size 41 4 A n c (evts l)) (g : w.grownBy W none) {p : Nat} (hp : p < l.length) (e : Evt) :
    ∃ a, A = some a ∧ ((∃ uv_ : Value, W.cell? (a.add (p * 4)) = some uv_) ∧ W.frozen? (a.add (p * 4)) = false) ∧ ∃ W1, W1 = W.setCell (a.add (p * 4)) (.int .i64 e.t) ∧ ((∃ uv_ : Value, W1.cell? (a.add (p * 4 + 1)) = some uv_) ∧ W1.frozen? (a.add (p * 4 + 1)) = false) ∧
      ∃ W2, W2 = W1.setCell (a.add (p * 4 + 1)) (.int .u32 e.u) ∧ ((∃ uv_ : Value, W2.cell? (a.add (p * 4 + 2)) = some uv_) ∧ W2.frozen? (a.add (p * 4 + 2)) = false) ∧ ∃ W3, W3 = W2.setCell (a.add (p * 4 + 2)) (.int .u32 e.v) ∧ ((∃ uv_ : Value, W3.cell? (a.add (p * 4 + 3)) = some uv_) ∧ W3.frozen? (a.add (p * 4 + 3)) = false) ∧
      ∃ W4, W4 = W3.setCell (a.add (p * 4 + 3)) (.bool e.add) ∧ OwnedK W4 w.heap.size 41 4 A n c (evts (l.set p e)) ∧ w.grownBy W4 none ∧ ∀ (b : Nat) (cur : Array Value) (t : TypeId) (fr : Nat × Nat), 41 ≠ t → W.heap[b]? = some (.cells cur t fr) → W4.heap[b]? = some (.cells cur t fr) := by
  have hlen : (evts l).length = l.length * 4 := evts_length l
  obtain ⟨a, q1, q2, q3, q4, q5, q6⟩ := own_set ho g (k := p * 4) (by omega) (.int .i64 e.t)
  obtain ⟨a', s1, s2, s3, s4, s5, s6⟩ := own_set q4 q5 (k := p * 4 + 1) (by simp; omega) (.int .u32 e.u)
  rw [q1] at s1; cases s1
  obtain ⟨a', t1, t2, t3, t4, t5, t6⟩ := own_set s4 s5 (k := p * 4 + 2) (by simp; omega) (.int .u32 e.v)
  rw [q1] at t1; cases t1
  obtain ⟨a', u1, u2, u3, u4, u5, u6⟩ := own_set t4 t5 (k := p * 4 + 3) (by simp; omega) (.bool e.add)
  rw [q1] at u1; cases u1
  rw [evts_set4 l p hp e] at u4
  exact ⟨_, q1, ⟨q2, q3⟩, _, rfl, ⟨s2, s3⟩, _, rfl, ⟨t2, t3⟩, _, rfl, ⟨u2, u3⟩, _, rfl, u4, u5, fun b cur t fr ne h => u6 b cur t fr ne (t6 b cur t fr ne (s6 b cur t fr ne (q6 b cur t fr ne h)))⟩
theorem bent_calls {w : World} {A : Option Addr} {n c : Nat} {l : List Evt} {N what at_ v : Int} (hr : Row w A (evts l)) (hn : n = l.length) (hA : A = none → c = 0) (hl : n ≤ 2 ^ 20) (hb : EvtsU l) (hw : 0 ≤ what ∧ what ≤ 255) (hat : 0 ≤ at_ ∧ at_ ≤ 255) :
    Calls P 19 #[.agg #[.int .u64 N, .slice A n c], .int .u8 what, .int .u8 at_, .int .i64 v] w fun ev w' => ∃ (N' : Int) (A' : Option Addr) (n' c' : Nat) (l' : List Evt), ev = .returned (.agg #[.int .u64 N', .slice A' n' c']) ∧ OwnedK w' w.heap.size 41 4 A' n' c' (evts l') ∧ EvtsU l' ∧ l'.length ≤ l.length ∧ w.grownBy w' none := by
  apply vc19; unfold VC19; try (conv => zeta)
  simp only [InK]
  have g0 := World.grownBy_alloc w (.cells #[.int .u64 N, .slice A n c] 27) none
  have b0 : (w.alloc (.cells #[.int .u64 N, .slice A n c] 27)).heap[w.heap.size]? = some (.cells #[.int .u64 N, .slice A n c] 27 (0, 0)) := heap_alloc_new w _
  obtain ⟨w0, hw_w0⟩ : ∃ w0, w0 = w.alloc (.cells #[.int .u64 N, .slice A n c] 27) := ⟨_, rfl⟩
  rw [← hw_w0] at g0 b0 ⊢
  have g1 := World.grownBy_alloc w0 (.cells #[.int .u64 0, .slice none 0 0] 27) none
  have b1 : (w0.alloc (.cells #[.int .u64 0, .slice none 0 0] 27)).heap[w0.heap.size]? = some (.cells #[.int .u64 0, .slice none 0 0] 27 (0, 0)) := heap_alloc_new w0 _
  obtain ⟨w1, hw_w1⟩ : ∃ w1, w1 = w0.alloc (.cells #[.int .u64 0, .slice none 0 0] 27) := ⟨_, rfl⟩
  rw [← hw_w1] at g1 b1 ⊢
  have g01 := grown_trans g0 g1
  obtain ⟨A2, n2, c2, w2, r1, r2, r3, r4⟩ := append_evts (xs := []) (m := n) (d := c) (OwnedK.nil w1 w.heap.size 41 4) (hr.kept_none g01) hn hA (by omega) g01.size
  rw [List.nil_append] at r2
  have gap : w1.grownBy w2 none := r3
  have g2 := grown_trans g01 gap
  have hn2 : n2 = l.length := by omega
  have b0' := blk_keep (blk_keep b0 g1) gap
  have b1' := blk_keep b1 gap
  refine ⟨_, _, _, blk_cell (blk_keep b0 g1) 1, A2, n2, c2, w2, r1, N, blk_cell b0' 0, ?_⟩
  have sO0 : (w2.alloc (.cells #[.int .u64 0, .slice none 0 0] 27)).heap[w2.heap.size]? = some (.cells #[.int .u64 0, .slice none 0 0] 27 (0, 0)) := heap_alloc_new w2 _
  have sO1 := blk_set sO0 0 (.int .u64 N)
  have sO2 := blk_set sO1 1 (.slice A2 n2 c2)
  have bO : (((w2.alloc (.cells #[.int .u64 0, .slice none 0 0] 27)).setCell ⟨w2.heap.size, 0, none⟩ (.int .u64 N)).setCell ⟨w2.heap.size, 1, none⟩ (.slice A2 n2 c2)).heap[w2.heap.size]? = some (.cells #[.int .u64 N, .slice A2 n2 c2] 27 (0, 0)) := by simpa using sO2
  have gO : w2.grownBy (((w2.alloc (.cells #[.int .u64 0, .slice none 0 0] 27)).setCell ⟨w2.heap.size, 0, none⟩ (.int .u64 N)).setCell ⟨w2.heap.size, 1, none⟩ (.slice A2 n2 c2)) none := (Kp.grown (set1 (set1 (Kp.of_none (S := fun k => w2.heap.size ≤ k) (grown_alloc (grown_refl w2 none) _)) (Nat.le_refl _)) (Nat.le_refl _)) (fun k hk e => by omega))
  obtain ⟨w3, hO⟩ : ∃ w3, w3 = (((w2.alloc (.cells #[.int .u64 0, .slice none 0 0] 27)).setCell ⟨w2.heap.size, 0, none⟩ (.int .u64 N)).setCell ⟨w2.heap.size, 1, none⟩ (.slice A2 n2 c2)) := ⟨_, rfl⟩
  rw [← hO] at bO gO
  refine ⟨⟨_, blk_cell sO0 0⟩, blk_free sO0 0, ⟨_, blk_cell sO1 1⟩, blk_free sO1 1, ?_⟩
  rw [← hO]
  have g3 := grown_trans g2 gO
  have o3 := r2.kept gO
  have b13 := blk_keep b1' gO
  -- how it ends
  have fin : ∀ (W : World) (N' : Int) (A' : Option Addr) (n' c' : Nat) (l' : List Evt), W.heap[w0.heap.size]? = some (.cells #[.int .u64 0, .slice none 0 0] 27 (0, 0)) → OwnedK W w.heap.size 41 4 A' n' c' (evts l') → w.grownBy W none →
      (∃ uv_ : Value, W.cell? ⟨w0.heap.size, 0, none⟩ = some uv_) ∧ W.frozen? ⟨w0.heap.size, 0, none⟩ = false ∧ (∃ uv_ : Value, (W.setCell ⟨w0.heap.size, 0, none⟩ (.int .u64 N')).cell? ⟨w0.heap.size, 1, none⟩ = some uv_) ∧ (W.setCell ⟨w0.heap.size, 0, none⟩ (.int .u64 N')).frozen? ⟨w0.heap.size, 1, none⟩ = false ∧
      ((W.setCell ⟨w0.heap.size, 0, none⟩ (.int .u64 N')).setCell ⟨w0.heap.size, 1, none⟩ (.slice A' n' c')).cell? ⟨w0.heap.size, 0, none⟩ = some (.int .u64 N') ∧ ((W.setCell ⟨w0.heap.size, 0, none⟩ (.int .u64 N')).setCell ⟨w0.heap.size, 1, none⟩ (.slice A' n' c')).cell? ⟨w0.heap.size, 1, none⟩ = some (.slice A' n' c') ∧
      OwnedK ((W.setCell ⟨w0.heap.size, 0, none⟩ (.int .u64 N')).setCell ⟨w0.heap.size, 1, none⟩ (.slice A' n' c')) w.heap.size 41 4 A' n' c' (evts l') ∧ w.grownBy ((W.setCell ⟨w0.heap.size, 0, none⟩ (.int .u64 N')).setCell ⟨w0.heap.size, 1, none⟩ (.slice A' n' c')) none := by
    intro W N' A' n' c' l' hb1 ho hg
    have s1 := blk_set hb1 0 (.int .u64 N')
    have s2 := blk_set s1 1 (.slice A' n' c')
    have hne := own_far ho hb1 (by decide)
    refine ⟨⟨_, blk_cell hb1 0⟩, blk_free hb1 0, ⟨_, blk_cell s1 1⟩, blk_free s1 1, by rw [blk_cell s2 0]; rfl, by rw [blk_cell s2 1]; rfl, ?_, ?_⟩
    · exact OwnedK.kp ho (set1 (set1 (Kp.refl W (fun q => q = w0.heap.size)) rfl) rfl) (fun q hq e => by subst e; exact hne hq)
    · exact (set1 (set1 (Kp.of_none (S := fun q => w.heap.size ≤ q) hg) g0.size) g0.size).grown (fun q hq e => by omega)
  have tcell : ∀ (W : World) (N' : Int) (A' : Option Addr) (n' c' : Nat), W.heap[w2.heap.size]? = some (.cells #[.int .u64 N', .slice A' n' c'] 27 (0, 0)) → W.cell? ⟨w2.heap.size, 0, none⟩ = some (.int .u64 N') ∧ W.cell? ⟨w2.heap.size, 1, none⟩ = some (.slice A' n' c') := fun W N' A' n' c' h => ⟨blk_cell h 0, blk_cell h 1⟩
  have setN : ∀ (W : World) (x : Int), w.grownBy W none → W.heap[w2.heap.size]? = some (.cells #[.int .u64 N, .slice A2 n2 c2] 27 (0, 0)) → OwnedK W w.heap.size 41 4 A2 n2 c2 (evts l) → W.heap[w0.heap.size]? = some (.cells #[.int .u64 0, .slice none 0 0] 27 (0, 0)) →
      (W.setCell ⟨w2.heap.size, 0, none⟩ (.int .u64 x)).heap[w2.heap.size]? = some (.cells #[.int .u64 x, .slice A2 n2 c2] 27 (0, 0)) ∧ OwnedK (W.setCell ⟨w2.heap.size, 0, none⟩ (.int .u64 x)) w.heap.size 41 4 A2 n2 c2 (evts l) ∧ (W.setCell ⟨w2.heap.size, 0, none⟩ (.int .u64 x)).heap[w0.heap.size]? = some (.cells #[.int .u64 0, .slice none 0 0] 27 (0, 0)) ∧ w.grownBy (W.setCell ⟨w2.heap.size, 0, none⟩ (.int .u64 x)) none := by
    intro W x hg h2 ho h0
    have hne := own_far ho h2 (by decide)
    have l0 : w0.heap.size < w2.heap.size := Nat.lt_of_lt_of_le (Array.getElem?_eq_some_iff.1 b1).1 gap.size
    refine ⟨by have := blk_set h2 0 (.int .u64 x); simpa using this, OwnedK.kp ho (set1 (Kp.refl W (fun q => q = w2.heap.size)) rfl) (fun q hq e => by subst e; exact hne hq), blk_far h0 (p := ⟨w2.heap.size, 0, none⟩) (by show w2.heap.size ≠ w0.heap.size; omega) _, (set1 (Kp.of_none (S := fun q => w.heap.size ≤ q) hg) g2.size).grown (fun q hq e => by omega)⟩
  refine ⟨fun h0 => ?_, fun h0 => ⟨by omega, ⟨by omega, by omega⟩, ⟨by omega, by omega⟩, ?_⟩⟩
  · obtain ⟨q1, q2, q3, q4⟩ := setN w3 (IntKind.wrap .u64 v) g3 bO o3 b13
    obtain ⟨f1, f2, f3, f4, f5, f6, f7, f8⟩ := fin _ (IntKind.wrap .u64 v) A2 n2 c2 l q3 q2 q4
    exact ⟨⟨_, blk_cell bO 0⟩, blk_free bO 0, _, (tcell _ _ _ _ _ q1).1, _, _, _, (tcell _ _ _ _ _ q1).2, f1, f2, f3, f4, _, f5, _, _, _, f6, _, _, _, _, l, rfl, f7, hb, Nat.le_refl _, f8⟩
  have h1 := Int.emod_nonneg at_ (show (n2 : Int) ≠ 0 by omega)
  have h2 := Int.emod_lt_of_pos at_ (show (0 : Int) < (n2 : Int) by omega)
  obtain ⟨p, hp⟩ : ∃ p : Nat, at_ % (n2 : Int) = (p : Int) := ⟨(at_ % (n2 : Int)).toNat, by omega⟩
  rw [hp] at h1 h2 ⊢
  have tp : (p : Int).toNat = p := by omega
  have tp1 : ((p : Int) + 1).toNat = p + 1 := by omega
  rw [tp, tp1]
  have lp : p < l.length := by omega
  have hlen : (evts l).length = l.length * 4 := evts_length l
  have hU := hb _ (List.getElem_mem lp)
  -- one number of an event is another one
  have one : ∀ (j : Nat) (u : Value) (e : Evt), j < 4 → evtC e = (evtC l[p]).set j u → ((0 ≤ e.u ∧ e.u ≤ 4294967295) ∧ 0 ≤ e.v ∧ e.v ≤ 4294967295) →
      ∃ a, A2 = some a ∧ (∃ uv_ : Value, w3.cell? (a.add (p * 4 + j)) = some uv_) ∧ w3.frozen? (a.add (p * 4 + j)) = false ∧ ∃ (N' : Int) (A' : Option Addr) (n' c' : Nat) (l' : List Evt), (w3.setCell (a.add (p * 4 + j)) u).heap[w2.heap.size]? = some (.cells #[.int .u64 N', .slice A' n' c'] 27 (0, 0)) ∧ OwnedK (w3.setCell (a.add (p * 4 + j)) u) w.heap.size 41 4 A' n' c' (evts l') ∧ EvtsU l' ∧ l'.length ≤ l.length ∧ (w3.setCell (a.add (p * 4 + j)) u).heap[w0.heap.size]? = some (.cells #[.int .u64 0, .slice none 0 0] 27 (0, 0)) ∧ w.grownBy (w3.setCell (a.add (p * 4 + j)) u) none := by
    intro j u e hj he hu
    obtain ⟨a, q1, q2, q3, q4, q5, q6⟩ := own_set o3 g3 (k := p * 4 + j) (by omega) u
    rw [← evts_set l p lp j u e hj he] at q4
    exact ⟨a, q1, q2, q3, N, A2, n2, c2, l.set p e, q6 _ _ _ _ (by decide) bO, q4, evtsU_set hb hu, by simp, q6 _ _ _ _ (by decide) b13, q5⟩
  refine ⟨fun W => ∃ (N' : Int) (A' : Option Addr) (n' c' : Nat) (l' : List Evt), W.heap[w2.heap.size]? = some (.cells #[.int .u64 N', .slice A' n' c'] 27 (0, 0)) ∧ OwnedK W w.heap.size 41 4 A' n' c' (evts l') ∧ EvtsU l' ∧ l'.length ≤ l.length ∧ W.heap[w0.heap.size]? = some (.cells #[.int .u64 0, .slice none 0 0] 27 (0, 0)) ∧ w.grownBy W none, ⟨fun c0 => ?_, fun _ => ⟨fun c1 => ?_, fun _ => ⟨fun c2 => ?_, fun _ => ⟨fun c3 => ?_, fun _ => ⟨fun c4 => ?_, fun _ => ⟨fun c5 => ?_, fun _ => ⟨fun c6 => ?_, fun _ => ?_⟩⟩⟩⟩⟩⟩⟩, ?_⟩
  · obtain ⟨q1, q2, q3, q4⟩ := setN w3 (IntKind.wrap .u64 v) g3 bO o3 b13
    exact ⟨⟨_, blk_cell bO 0⟩, blk_free bO 0, _, _, _, _, l, q1, q2, hb, Nat.le_refl _, q3, q4⟩
  · obtain ⟨a, q1, q2, q3, q4⟩ := one 0 (.int .i64 v) ⟨v, l[p].u, l[p].v, l[p].add⟩ (by omega) rfl hU
    refine ⟨a, q1, by omega, by omega, ?_⟩
    try simp only [add_add]
    exact ⟨q2, q3, q4⟩
  · obtain ⟨a, q1, q2, q3, q4⟩ := one 1 (.int .u32 (IntKind.wrap .u32 v)) ⟨l[p].t, IntKind.wrap .u32 v, l[p].v, l[p].add⟩ (by omega) rfl ⟨wrapU32 v, hU.2⟩
    refine ⟨a, q1, by omega, by omega, ?_⟩
    try simp only [add_add]
    exact ⟨q2, q3, q4⟩
  · obtain ⟨a, q1, q2, q3, q4⟩ := one 2 (.int .u32 (IntKind.wrap .u32 v)) ⟨l[p].t, l[p].u, IntKind.wrap .u32 v, l[p].add⟩ (by omega) rfl ⟨hU.1, wrapU32 v⟩
    refine ⟨a, q1, by omega, by omega, ?_⟩
    try simp only [add_add]
    exact ⟨q2, q3, q4⟩
  · obtain ⟨a', e1, e2, e3, e4, e5⟩ := evt_at o3.row lp
    obtain ⟨a, q1, q2, q3, q4⟩ := one 3 (.bool (decide (l[p].add = false))) ⟨l[p].t, l[p].u, l[p].v, decide (l[p].add = false)⟩ (by omega) rfl hU
    rw [q1] at e1; cases e1
    refine ⟨a', q1, by omega, by omega, _, e5, a', q1, by omega, by omega, ?_⟩
    simp only [add_add]
    exact ⟨q2, q3, q4⟩
  · -- two events change places
    have gd := grown_drew (grown_refl w3 none)
    obtain ⟨w4, hw4⟩ : ∃ w4, w4 = w3.drew := ⟨_, rfl⟩
    rw [← hw4] at gd ⊢
    have o4 := o3.kept gd
    have g4 := grown_trans g3 gd
    have lp0 : 0 < l.length := by omega
    obtain ⟨a, e1, e2, e3, e4, e5⟩ := evt_at o4.row lp
    obtain ⟨a', d1, d2, d3, d4, d5⟩ := evt_at o4.row lp0
    rw [e1] at d1; cases d1
    rw [Nat.zero_mul, addr0] at d2 d3 d4 d5
    obtain ⟨a', q1, q2, W1, hW1, q3, W2, hW2, q4, W3, hW3, q5, W4, hW4, q6, q7, q8⟩ := own_evt o4 g4 lp l[0]
    rw [e1] at q1; cases q1
    obtain ⟨a', s1, s2, W5, hW5, s3, W6, hW6, s4, W7, hW7, s5, W8, hW8, s6, s7, s8⟩ := own_evt q6 q7 (p := 0) (by simp; omega) l[p]
    rw [e1] at s1; cases s1
    simp only [Nat.zero_mul, Nat.zero_add, addr0] at s2 s3 s4 s5 hW5 hW6 hW7 hW8
    refine ⟨a, e1, by omega, by omega, _, d2, _, d3, _, d4, _, d5, a, e1, by omega, by omega, _, e2, _, e3, _, e4, _, e5, a, e1, by omega, by omega, ?_⟩
    simp only [add_add]
    rw [← hW1, ← hW2, ← hW3, ← hW4]
    refine ⟨q2.1, q2.2, q3.1, q3.2, q4.1, q4.2, q5.1, q5.2, a, e1, by omega, by omega, ?_⟩
    rw [← hW5, ← hW6, ← hW7, ← hW8]
    refine ⟨s2.1, s2.2, s3.1, s3.2, s4.1, s4.2, s5.1, s5.2, N, A2, n2, c2, (l.set p l[0]).set 0 l[p], s8 _ _ _ _ (by decide) (q8 _ _ _ _ (by decide) (blk_keep bO gd)), s6, evtsU_set (evtsU_set hb (hb _ (List.getElem_mem lp0))) hU, by simp, s8 _ _ _ _ (by decide) (q8 _ _ _ _ (by decide) (blk_keep b13 gd)), s7⟩
  · -- one event is left out
    have gd := grown_drew (grown_refl w3 none)
    obtain ⟨w4, hw4⟩ : ∃ w4, w4 = w3.drew := ⟨_, rfl⟩
    rw [← hw4] at gd ⊢
    have o4 := o3.kept gd
    have g4 := grown_trans g3 gd
    have oc := owned_le o4
    have ot : OwnedK w4 w.heap.size 41 4 A2 p c2 (evts (l.take p)) := by
      obtain ⟨h1', h2' | ⟨b, cur, rfl, h3, h4, h5, h6, h7, h8⟩⟩ := o4.cases
      · omega
      · refine OwnedK.of_block h3 h6 (by omega) h4 h7 (by rw [evts_length, List.length_take]; omega) ?_
        rw [← evts_take, ← h8, List.take_take]
        congr 1; omega
    obtain ⟨k1, k2⟩ := cutV (k := p + 1) o4.row (owned_cap o4) (by omega)
    obtain ⟨A5, n5, c5, w5, p1, p2, p3, p4⟩ := append_evts (m := n2 - (p + 1)) (d := c2 - (p + 1)) ot k1 (by rw [List.length_drop]; omega) k2 (by omega) g4.size
    have g5 := grown_step g4 p3 (fun k hk => ot.block_ge k hk)
    have bO4 := blk_keep bO gd
    have b14 := blk_keep b13 gd
    have hO5 : w5.heap[w2.heap.size]? = some (.cells #[.int .u64 N, .slice A2 n2 c2] 27 (0, 0)) := by
      rw [p3.block _ (Array.getElem?_eq_some_iff.1 bO4).1 (fun h => own_far ot bO4 (by decide) h.symm)]; exact bO4
    have h15 : w5.heap[w0.heap.size]? = some (.cells #[.int .u64 0, .slice none 0 0] 27 (0, 0)) := by
      rw [p3.block _ (Array.getElem?_eq_some_iff.1 b14).1 (fun h => own_far ot b14 (by decide) h.symm)]; exact b14
    have s1 := blk_set hO5 1 (.slice A5 n5 c5)
    have hne := own_far p2 hO5 (by decide)
    have l0 : w0.heap.size < w2.heap.size := Nat.lt_of_lt_of_le (Array.getElem?_eq_some_iff.1 b1).1 gap.size
    refine ⟨⟨by omega, by omega⟩, by omega, ⟨by omega, by omega⟩, A5, n5, c5, w5, p1, ⟨_, blk_cell hO5 1⟩, blk_free hO5 1, N, A5, n5, c5, _, by simpa using s1, OwnedK.kp p2 (set1 (Kp.refl w5 (fun q => q = w2.heap.size)) rfl) (fun q hq e => by subst e; exact hne hq), fun x hx => ?_, by rw [List.length_append, List.length_take, List.length_drop]; omega, blk_far h15 (p := ⟨w2.heap.size, 1, none⟩) (by show w2.heap.size ≠ w0.heap.size; omega) _, (set1 (Kp.of_none (S := fun q => w.heap.size ≤ q) g5) g2.size).grown (fun q hq e => by omega)⟩
    rcases List.mem_append.1 hx with h | h
    · exact hb x (List.mem_of_mem_take h)
    · exact hb x (List.mem_of_mem_drop h)
  · -- as many vertices as the second number of an event
    obtain ⟨a, e1, e2, e3, e4, e5⟩ := evt_at o3.row lp
    obtain ⟨q1, q2, q3, q4⟩ := setN w3 l[p].v g3 bO o3 b13
    exact ⟨a, e1, by omega, by omega, _, e4, by omega, ⟨_, blk_cell bO 0⟩, blk_free bO 0, _, _, _, _, l, q1, q2, hb, Nat.le_refl _, q3, q4⟩
  · rintro W ⟨N', A', n', c', l', q1, q2, q3, q4, q5, q6⟩
    obtain ⟨f1, f2, f3, f4, f5, f6, f7, f8⟩ := fin W N' A' n' c' l' q5 q2 q6
    exact ⟨_, (tcell _ _ _ _ _ q1).1, _, _, _, (tcell _ _ _ _ _ q1).2, f1, f2, f3, f4, _, f5, _, _, _, f6, _, _, _, _, l', rfl, f7, q3, q4, f8⟩
end Go.Proofs.Ytgahfcdmgdnjiaa

/-! archipelagolaw11.SnapTells: the walk. -/
namespace Go.Proofs.Ytgahfcdmgdnjiaa
open Go Go.V Go.RowKit
set_option linter.unusedVariables false
set_option linter.unusedSimpArgs false
set_option maxHeartbeats 4000000
set_option maxRecDepth 100000

def HisOk (W : World) (A : Option Addr) (n c : Nat) (l : List Evt) : Prop := Row W A (evts l) ∧ n = l.length ∧ n ≤ c ∧ (A = none → c = 0) ∧ n < 50 ∧ EvtsU l
theorem HisOk.kept {W W' : World} {A : Option Addr} {n c : Nat} {l : List Evt} (h : HisOk W A n c l) (g : W.grownBy W' none) : HisOk W' A n c l := ⟨h.1.kept_none g, h.2⟩
theorem atL_bad {N t : Int} {l : List Evt} (h : (checkL N l).2 ≠ 0) : atL N l t = [] := by unfold atL afterL; rw [if_pos h]
theorem walkSnapTells {w : World} {RA : Option Addr} {rn rc : Nat} {RL : List Evt} {RN : Int} {A : Option Addr} {n c : Nat} {l : List Int} {k t near m what at_ : Int}
    (hR : Row w RA (evts RL)) (hRn : rn = RL.length) (hRc : rn ≤ rc) (hRA : RA = none → rc = 0) (hRU : EvtsU RL) (hk : 0 ≤ k ∧ k ≤ 255) (hrow : Row w A (u8s l)) (hn : n = l.length) (hb : BytesB l) (ht : -9223372036854775808 ≤ t ∧ t ≤ 9223372036854775807) (hnear : 0 ≤ near ∧ near ≤ 255) (hm : -9223372036854775808 ≤ m ∧ m ≤ 9223372036854775807) (hw : 0 ≤ what ∧ what ≤ 255) (hat : 0 ≤ at_ ∧ at_ ≤ 255) :
    Calls P 6 #[.agg #[.int .u64 RN, .slice RA rn rc], .int .u8 k, .slice A n c, .int .i64 t, .int .u8 near, .int .i64 m, .int .u8 what, .int .u8 at_] w fun ev w' => ev = .returned (.bool true) ∧ w.grownBy w' none := by
  apply vc6; unfold VC6; try (conv => zeta)
  simp only [InK]
  have g0 := World.grownBy_alloc w (.cells #[.int .u64 RN, .slice RA rn rc] 27) none
  have b0 : (w.alloc (.cells #[.int .u64 RN, .slice RA rn rc] 27)).heap[w.heap.size]? = some (.cells #[.int .u64 RN, .slice RA rn rc] 27 (0, 0)) := heap_alloc_new w _
  obtain ⟨w0, hw_w0⟩ : ∃ w0, w0 = w.alloc (.cells #[.int .u64 RN, .slice RA rn rc] 27) := ⟨_, rfl⟩
  rw [← hw_w0] at g0 b0 ⊢
  refine known11_calls.mono fun ev w1 hh => ?_
  obtain ⟨rfl, g01⟩ := hh
  have g1 := grown_trans g0 g01
  have b1 := blk_keep b0 g01
  refine ⟨true, rfl, fun h => absurd h (by simp), fun _ => ⟨_, _, _, blk_cell b1 1, fun _ => ⟨by trivial, g1⟩, fun h20 => ⟨fun _ => ⟨by trivial, g1⟩, fun h60 => ?_⟩⟩⟩
  refine (history_calls (hrow.kept_none g1) hn hb hk (by omega)).mono fun ev w2 hh => ?_
  have hNl := vertL_is k
  have hHl := historyL_length k l
  have hHi := historyL_is (k := k) hb (by omega)
  obtain ⟨L, hL⟩ : ∃ L, L = historyL k l := ⟨_, rfl⟩
  obtain ⟨N, hN⟩ : ∃ N, N = vertL k := ⟨_, rfl⟩
  rw [← hL, ← hN] at hh hHi
  rw [← hL] at hHl
  rw [← hN] at hNl
  obtain ⟨A2, n2, c2, rfl, o2, g2⟩ := hh
  have hn2 : n2 = L.length := by have := o2.cases.1; rw [evts_length] at this; omega
  have hU : EvtsU L := fun e he => by have := hHi.2 e he; omega
  have hT : ∀ e ∈ L, 0 ≤ e.t ∧ e.t ≤ 2251799813685248 := fun e he => by have := hHi.2 e he; omega
  have sH0 : (w2.alloc (.cells #[.int .u64 0, .slice none 0 0] 27)).heap[w2.heap.size]? = some (.cells #[.int .u64 0, .slice none 0 0] 27 (0, 0)) := heap_alloc_new w2 _
  have sH1 := blk_set sH0 0 (.int .u64 N)
  have sH2 := blk_set sH1 1 (.slice A2 n2 c2)
  have bH : (((w2.alloc (.cells #[.int .u64 0, .slice none 0 0] 27)).setCell ⟨w2.heap.size, 0, none⟩ (.int .u64 N)).setCell ⟨w2.heap.size, 1, none⟩ (.slice A2 n2 c2)).heap[w2.heap.size]? = some (.cells #[.int .u64 N, .slice A2 n2 c2] 27 (0, 0)) := by simpa using sH2
  have gH : w2.grownBy (((w2.alloc (.cells #[.int .u64 0, .slice none 0 0] 27)).setCell ⟨w2.heap.size, 0, none⟩ (.int .u64 N)).setCell ⟨w2.heap.size, 1, none⟩ (.slice A2 n2 c2)) none := (Kp.grown (set1 (set1 (Kp.of_none (S := fun k => w2.heap.size ≤ k) (grown_alloc (grown_refl w2 none) _)) (Nat.le_refl _)) (Nat.le_refl _)) (fun k hk e => by omega))
  obtain ⟨w3, hH⟩ : ∃ w3, w3 = (((w2.alloc (.cells #[.int .u64 0, .slice none 0 0] 27)).setCell ⟨w2.heap.size, 0, none⟩ (.int .u64 N)).setCell ⟨w2.heap.size, 1, none⟩ (.slice A2 n2 c2)) := ⟨_, rfl⟩
  rw [← hH] at bH gH
  refine ⟨_, _, _, _, rfl, ⟨_, blk_cell sH0 0⟩, blk_free sH0 0, ⟨_, blk_cell sH1 1⟩, blk_free sH1 1, ?_⟩
  rw [← hH]
  have gd := grown_drew (grown_refl w3 none)
  obtain ⟨w4, hw4⟩ : ∃ w4, w4 = w3.drew := ⟨_, rfl⟩
  rw [← hw4] at gd ⊢
  have b4 := blk_keep bH gd
  have o4 := (o2.kept gH).kept gd
  have g24 := grown_trans gH gd
  have g14 := grown_trans g2 g24
  have r4 := blk_keep b1 g14
  refine ⟨fun W => w4.grownBy W none, grown_refl _ _, _, fun W g => blk_cell (blk_keep r4 g) 0, _, _, _, fun W g => blk_cell (blk_keep r4 g) 1, _, fun W g => blk_cell (blk_keep b4 g) 0, _, _, _, fun W g => blk_cell (blk_keep b4 g) 1, _, blk_cell b4 0, _, _, _, blk_cell b4 1, (bent_calls (N := N) (v := t) o4.row hn2 (owned_cap o4) (by omega) hU hw hat).mono fun ev w5 hh => ?_⟩
  obtain ⟨N5, A5, n5, c5, L5, rfl, o5, hU5, hl5, g5⟩ := hh
  have hn5 : n5 = L5.length := by have := o5.cases.1; rw [evts_length] at this; omega
  refine ⟨_, _, _, _, rfl, g5, ?_⟩
  have g6 := World.grownBy_alloc w5 (.cells #[.int .u64 RN, .slice RA rn rc, .int .u64 N, .slice A2 n2 c2, .int .u64 N5, .slice A5 n5 c5] 27) none
  have b6 : (w5.alloc (.cells #[.int .u64 RN, .slice RA rn rc, .int .u64 N, .slice A2 n2 c2, .int .u64 N5, .slice A5 n5 c5] 27)).heap[w5.heap.size]? = some (.cells #[.int .u64 RN, .slice RA rn rc, .int .u64 N, .slice A2 n2 c2, .int .u64 N5, .slice A5 n5 c5] 27 (0, 0)) := heap_alloc_new w5 _
  obtain ⟨w6, hw_w6⟩ : ∃ w6, w6 = w5.alloc (.cells #[.int .u64 RN, .slice RA rn rc, .int .u64 N, .slice A2 n2 c2, .int .u64 N5, .slice A5 n5 c5] 27) := ⟨_, rfl⟩
  rw [← hw_w6] at g6 b6 ⊢
  have g46 := grown_trans g5 g6
  have g16 := grown_trans g14 g46
  have g06 := grown_trans g1 g16
  have his : ∀ j : Nat, j < 3 → ∃ (NX : Int) (AX : Option Addr) (nX cX : Nat) (LX : List Evt), (∀ W, w6.grownBy W none → W.cell? ⟨w5.heap.size, j * 2, none⟩ = some (.int .u64 NX) ∧ W.cell? ⟨w5.heap.size, j * 2 + 1, none⟩ = some (.slice AX nX cX)) ∧ HisOk w6 AX nX cX LX := by
    intro j hj
    have : j = 0 ∨ j = 1 ∨ j = 2 := by omega
    rcases this with rfl | rfl | rfl
    · exact ⟨RN, RA, rn, rc, RL, fun W g => ⟨blk_cell (blk_keep b6 g) 0, blk_cell (blk_keep b6 g) 1⟩, hR.kept_none g06, hRn, hRc, hRA, by omega, hRU⟩
    · exact ⟨N, A2, n2, c2, L, fun W g => ⟨blk_cell (blk_keep b6 g) 2, blk_cell (blk_keep b6 g) 3⟩, (o4.kept g46).row, hn2, owned_le o4, owned_cap o4, by omega, hU⟩
    · exact ⟨N5, A5, n5, c5, L5, fun W g => ⟨blk_cell (blk_keep b6 g) 4, blk_cell (blk_keep b6 g) 5⟩, (o5.kept g6).row, hn5, owned_le o5, owned_cap o5, by omega, hU5⟩
  refine ⟨g46, fun q i W => ∃ j : Nat, i = (j : Int) ∧ j ≤ 3 ∧ q = 3 - j ∧ w6.grownBy W none, ⟨_, 0, rfl, by omega, rfl, grown_refl _ _⟩, ?_⟩
  rintro q i w7 ⟨j, rfl, hj, rfl, g7⟩
  have tj : (j : Int).toNat = j := by omega
  rw [tj]
  refine ⟨fun hlt => ?_, fun hge => ⟨by trivial, grown_trans g06 g7⟩⟩
  obtain ⟨NX, AX, nX, cX, LX, hcX, okX⟩ := his j (by omega)
  have okX7 := okX.kept g7
  refine ⟨_, rfl, by omega, by omega, NX, by rw [add_blk]; exact (hcX w7 g7).1, AX, nX, cX, by rw [add_add, add_blk]; exact (hcX w7 g7).2, ?_⟩
  have sX0 : (w7.alloc (.cells #[.int .u64 0, .slice none 0 0] 27)).heap[w7.heap.size]? = some (.cells #[.int .u64 0, .slice none 0 0] 27 (0, 0)) := heap_alloc_new w7 _
  have sX1 := blk_set sX0 0 (.int .u64 NX)
  have sX2 := blk_set sX1 1 (.slice AX nX cX)
  have bX : (((w7.alloc (.cells #[.int .u64 0, .slice none 0 0] 27)).setCell ⟨w7.heap.size, 0, none⟩ (.int .u64 NX)).setCell ⟨w7.heap.size, 1, none⟩ (.slice AX nX cX)).heap[w7.heap.size]? = some (.cells #[.int .u64 NX, .slice AX nX cX] 27 (0, 0)) := by simpa using sX2
  have gX : w7.grownBy (((w7.alloc (.cells #[.int .u64 0, .slice none 0 0] 27)).setCell ⟨w7.heap.size, 0, none⟩ (.int .u64 NX)).setCell ⟨w7.heap.size, 1, none⟩ (.slice AX nX cX)) none := (Kp.grown (set1 (set1 (Kp.of_none (S := fun k => w7.heap.size ≤ k) (grown_alloc (grown_refl w7 none) _)) (Nat.le_refl _)) (Nat.le_refl _)) (fun k hk e => by omega))
  obtain ⟨w8, hX⟩ : ∃ w8, w8 = (((w7.alloc (.cells #[.int .u64 0, .slice none 0 0] 27)).setCell ⟨w7.heap.size, 0, none⟩ (.int .u64 NX)).setCell ⟨w7.heap.size, 1, none⟩ (.slice AX nX cX)) := ⟨_, rfl⟩
  rw [← hX] at bX gX
  refine ⟨⟨_, blk_cell sX0 0⟩, blk_free sX0 0, ⟨_, blk_cell sX1 1⟩, blk_free sX1 1, ?_⟩
  rw [← hX]
  have b48 := blk_keep (blk_keep (blk_keep b4 g46) g7) gX
  have o48 := ((o4.kept g46).kept g7).kept gX
  refine ⟨_, blk_cell b48 0, _, _, _, blk_cell b48 1, (time_calls (N := N) (k := near) o48.row hn2 (by omega) hnear hT).mono fun ev w9 hh => ?_⟩
  obtain ⟨t2, rfl, g9⟩ := hh
  refine ⟨_, rfl, ?_⟩
  have g10 := World.grownBy_alloc w9 (.cells #[.int .i64 t, .int .i64 t2] 2) none
  have b10 : (w9.alloc (.cells #[.int .i64 t, .int .i64 t2] 2)).heap[w9.heap.size]? = some (.cells #[.int .i64 t, .int .i64 t2] 2 (0, 0)) := heap_alloc_new w9 _
  obtain ⟨w10, hw_w10⟩ : ∃ w10, w10 = w9.alloc (.cells #[.int .i64 t, .int .i64 t2] 2) := ⟨_, rfl⟩
  rw [← hw_w10] at g10 b10 ⊢
  have g8x := grown_trans g9 g10
  have g6x := grown_trans g7 (grown_trans gX g8x)
  have ok10 := okX.kept g6x
  have bX10 := blk_keep bX g8x
  refine ⟨fun q i W => ∃ p : Nat, i = (p : Int) ∧ p ≤ 2 ∧ q = 2 - p ∧ w10.grownBy W none, ⟨_, 0, rfl, by omega, rfl, grown_refl _ _⟩, ?_⟩
  rintro q i w11 ⟨p, rfl, hp, rfl, g11⟩
  have tp : (p : Int).toNat = p := by omega
  rw [tp]
  refine ⟨fun hlt2 => ?_, fun hge2 => ?_⟩
  · have rd : ∃ y : Int, w11.cell? ⟨w9.heap.size, p, none⟩ = some (.int .i64 y) := by
      have : p = 0 ∨ p = 1 := by omega
      rcases this with rfl | rfl
      · exact ⟨_, blk_cell (blk_keep b10 g11) 0⟩
      · exact ⟨_, blk_cell (blk_keep b10 g11) 1⟩
    obtain ⟨y, hy⟩ := rd
    have ok11 := ok10.kept g11
    have bX11 := blk_keep bX10 g11
    refine ⟨_, rfl, by omega, by omega, y, by rw [add_blk]; exact hy, _, blk_cell bX11 0, _, _, _, blk_cell bX11 1, (sat_calls (N := NX) (t := y) ok11.1 ok11.2.1 ok11.2.2.1 ok11.2.2.2.1 ok11.2.2.2.2.1 ok11.2.2.2.2.2).mono fun ev w12 hh => ?_⟩
    obtain ⟨A12, n12, c12, rfl, o12, g12⟩ := hh
    have ok12 := ok11.kept g12
    have bX12 := blk_keep bX11 g12
    refine ⟨_, _, _, _, rfl, _, blk_cell bX12 0, _, _, _, blk_cell bX12 1, (rat_calls (N := NX) (t := y) ok12.1 ok12.2.1 (by have := ok12.2.2.2.2.1; omega) ok12.2.2.2.2.2).mono fun ev w13 hh => ?_⟩
    obtain ⟨A13, n13, c13, rfl, o13, g13⟩ := hh
    have ok13 := ok12.kept g13
    have bX13 := blk_keep bX12 g13
    refine ⟨_, _, _, _, rfl, _, blk_cell bX13 0, _, _, _, blk_cell bX13 1, (check8_calls (N := NX) ok13.1 ok13.2.1 (by have := ok13.2.2.2.2.1; omega) ok13.2.2.2.2.2).mono fun ev w14 hh => ?_⟩
    obtain ⟨rfl, g14'⟩ := hh
    have hn12 : n12 = (atL NX LX y).length := by have := o12.cases.1; rw [edges_length] at this; omega
    have hn13 : n13 = (atL NX LX y).length := by have := o13.cases.1; rw [edges_length] at this; omega
    have hle : (atL NX LX y).length ≤ 60 := by
      unfold atL afterL
      split
      · simp
      · have := foldT_len (LX.take (uptoL LX y : Int).toNat) []
        rw [List.length_take] at this
        simp only [List.length_nil] at this
        have := ok13.2.2.2.2.1
        have := ok13.2.1
        omega
    have g1014 := grown_trans (grown_trans (grown_trans g11 g12) g13) g14'
    have nxt : ∀ W, w14.grownBy W none → (-9223372036854775808 ≤ (p : Int) + 1 ∧ (p : Int) + 1 ≤ 9223372036854775807) ∧ ∃ m_1, m_1 < 2 - p ∧ ∃ p_1 : Nat, (p : Int) + 1 = (p_1 : Int) ∧ p_1 ≤ 2 ∧ m_1 = 2 - p_1 ∧ w10.grownBy W none := fun W g => ⟨by omega, 2 - (p + 1), by omega, p + 1, by omega, by omega, rfl, grown_trans g1014 g⟩
    refine ⟨_, _, rfl, fun h => absurd rfl h, fun _ => ⟨fun h => absurd rfl h, fun _ => ⟨fun hz => ?_, fun hz => ⟨fun _ => ⟨fun h => absurd (by rw [hn12, atL_bad hz]; rfl) h, fun _ => nxt w14 (grown_refl _ _)⟩, fun h => absurd hz h⟩⟩⟩⟩
    refine (sameEdges_calls ((o12.kept g13).kept g14').row hn12 (o13.kept g14').row hn13 (by omega)).mono fun ev w15 hh => ?_
    obtain ⟨rfl, g15⟩ := hh
    exact ⟨_, rfl, fun h => (by simp at h), fun _ => ⟨fun h => absurd hz h, fun _ => nxt w15 g15⟩⟩
  · skip
    have g12 := World.grownBy_alloc w11 (.cells #[.int .i64 m, .int .i64 (bop .and .i64 m 15)] 3) none
    have b12 : (w11.alloc (.cells #[.int .i64 m, .int .i64 (bop .and .i64 m 15)] 3)).heap[w11.heap.size]? = some (.cells #[.int .i64 m, .int .i64 (bop .and .i64 m 15)] 3 (0, 0)) := heap_alloc_new w11 _
    obtain ⟨w12, hw_w12⟩ : ∃ w12, w12 = w11.alloc (.cells #[.int .i64 m, .int .i64 (bop .and .i64 m 15)] 3) := ⟨_, rfl⟩
    rw [← hw_w12] at g12 b12 ⊢
    have g612 := grown_trans g6x (grown_trans g11 g12)
    have ok12 := okX.kept g612
    have bX12 := blk_keep bX10 (grown_trans g11 g12)
    refine ⟨fun q i W => ∃ p : Nat, i = (p : Int) ∧ p ≤ 2 ∧ q = 2 - p ∧ w12.grownBy W none, ⟨_, 0, rfl, by omega, rfl, grown_refl _ _⟩, ?_⟩
    rintro q i w13 ⟨p2, rfl, hp2, rfl, g13⟩
    have tp2 : (p2 : Int).toNat = p2 := by omega
    rw [tp2]
    refine ⟨fun hlt3 => ?_, fun hge3 => ⟨by omega, 3 - (j + 1), by omega, j + 1, by omega, by omega, rfl, grown_trans g612 g13⟩⟩
    have rd : ∃ y : Int, w13.cell? ⟨w11.heap.size, p2, none⟩ = some (.int .i64 y) := by
      have : p2 = 0 ∨ p2 = 1 := by omega
      rcases this with rfl | rfl
      · exact ⟨_, blk_cell (blk_keep b12 g13) 0⟩
      · exact ⟨_, blk_cell (blk_keep b12 g13) 1⟩
    obtain ⟨y, hy⟩ := rd
    have ok13 := ok12.kept g13
    have bX13 := blk_keep bX12 g13
    refine ⟨_, rfl, by omega, by omega, y, by rw [add_blk]; exact hy, _, blk_cell bX13 0, _, _, _, blk_cell bX13 1, (safter_calls (N := NX) (k := y) ok13.1 ok13.2.1 ok13.2.2.1 ok13.2.2.2.1 ok13.2.2.2.2.1 ok13.2.2.2.2.2).mono fun ev w14 hh => ?_⟩
    obtain ⟨A14, n14, c14, rfl, o14, g14'⟩ := hh
    have ok14 := ok13.kept g14'
    have bX14 := blk_keep bX13 g14'
    refine ⟨_, _, _, _, rfl, _, blk_cell bX14 0, _, _, _, blk_cell bX14 1, (after_calls (N := NX) (k := y) ok14.1 ok14.2.1 (by have := ok14.2.2.2.2.1; omega) ok14.2.2.2.2.2).mono fun ev w15 hh => ?_⟩
    obtain ⟨A15, n15, c15, rfl, o15, g15⟩ := hh
    have hn14 : n14 = (afterL NX LX y).length := by have := o14.cases.1; rw [edges_length] at this; omega
    have hn15 : n15 = (afterL NX LX y).length := by have := o15.cases.1; rw [edges_length] at this; omega
    have hle : (afterL NX LX y).length ≤ 60 := by
      unfold afterL
      split
      · simp
      · have := foldT_len (LX.take y.toNat) []
        rw [List.length_take] at this
        simp only [List.length_nil] at this
        have := ok13.2.2.2.2.1
        have := ok13.2.1
        omega
    refine ⟨_, _, _, _, rfl, fun h => absurd rfl h, fun _ => (sameEdges_calls (o14.kept g15).row hn14 o15.row hn15 (by omega)).mono fun ev w16 hh => ?_⟩
    obtain ⟨rfl, g16'⟩ := hh
    exact ⟨_, rfl, fun h => (by simp at h), fun _ => ⟨by omega, 2 - (p2 + 1), by omega, p2 + 1, by omega, by omega, rfl, grown_trans (grown_trans (grown_trans g13 g14') g15) g16'⟩⟩
end Go.Proofs.Ytgahfcdmgdnjiaa

/-! archipelagolaw11.SnapTurns: the walk. -/
namespace Go.Proofs.Ytgahfcdmgdnjiaa
open Go Go.V Go.RowKit
set_option linter.unusedVariables false
set_option linter.unusedSimpArgs false
set_option maxHeartbeats 4000000
set_option maxRecDepth 100000

theorem run_neB (s t : Operand) (a b : Bool) (w : World) : Sem.run P (do eqGuard .neq 4 s t (.bool a) (.bool b); Go.binOp .neq 4 (.bool a) (.bool b) : Sem Value) w = .ok (.bool (!decide (a = b))) w := by
  cases a <;> cases b <;> rfl
def EdgOk (W : World) (A : Option Addr) (n c : Nat) (l : List Edge) : Prop := Row W A (edges l) ∧ n = l.length ∧ n ≤ c ∧ (A = none → c = 0) ∧ n ≤ 60
theorem EdgOk.kept {W W' : World} {A : Option Addr} {n c : Nat} {l : List Edge} (h : EdgOk W A n c l) (g : W.grownBy W' none) : EdgOk W' A n c l := ⟨h.1.kept_none g, h.2⟩
theorem walkSnapTurns {w : World} {RA : Option Addr} {rn rc : Nat} {RL : List Edge} {A : Option Addr} {n c : Nat} {l : List Int} {k near a b v : Int} {add : Bool}
    (hR : Row w RA (edges RL)) (hRn : rn = RL.length) (hRc : rn ≤ rc) (hRA : RA = none → rc = 0) (hk : 0 ≤ k ∧ k ≤ 255) (hrow : Row w A (u8s l)) (hn : n = l.length) (hb : BytesB l) (hnear : 0 ≤ near ∧ near ≤ 255) (ha : 0 ≤ a ∧ a ≤ 255) (hb' : 0 ≤ b ∧ b ≤ 255) (hv : 0 ≤ v ∧ v ≤ 4294967295) :
    Calls P 7 #[.slice RA rn rc, .int .u8 k, .slice A n c, .int .u8 near, .int .u8 a, .int .u8 b, .bool add, .int .u32 v] w fun ev w' => ev = .returned (.bool true) ∧ w.grownBy w' none := by
  apply vc7; unfold VC7; try (conv => zeta)
  simp only [InK]
  refine known11_calls.mono fun ev w1 hh => ?_
  obtain ⟨rfl, g1⟩ := hh
  refine ⟨true, rfl, fun h => absurd h (by simp), fun _ => ⟨fun _ => ⟨by trivial, g1⟩, fun h20 => ⟨fun _ => ⟨by trivial, g1⟩, fun h60 => ?_⟩⟩⟩
  refine (history_calls (hrow.kept_none g1) hn hb hk (by omega)).mono fun ev w2 hh => ?_
  have hNl := vertL_is k
  have hHl := historyL_length k l
  have hHi := historyL_is (k := k) hb (by omega)
  obtain ⟨L, hL⟩ : ∃ L, L = historyL k l := ⟨_, rfl⟩
  obtain ⟨N, hN⟩ : ∃ N, N = vertL k := ⟨_, rfl⟩
  rw [← hL, ← hN] at hh hHi
  rw [← hL] at hHl
  rw [← hN] at hNl
  obtain ⟨A2, n2, c2, rfl, o2, g2⟩ := hh
  have hn2 : n2 = L.length := by have := o2.cases.1; rw [evts_length] at this; omega
  have hU : EvtsU L := fun e he => by have := hHi.2 e he; omega
  have hT : ∀ e ∈ L, 0 ≤ e.t ∧ e.t ≤ 2251799813685248 := fun e he => by have := hHi.2 e he; omega
  have sH0 : (w2.alloc (.cells #[.int .u64 0, .slice none 0 0] 27)).heap[w2.heap.size]? = some (.cells #[.int .u64 0, .slice none 0 0] 27 (0, 0)) := heap_alloc_new w2 _
  have sH1 := blk_set sH0 0 (.int .u64 N)
  have sH2 := blk_set sH1 1 (.slice A2 n2 c2)
  have bH : (((w2.alloc (.cells #[.int .u64 0, .slice none 0 0] 27)).setCell ⟨w2.heap.size, 0, none⟩ (.int .u64 N)).setCell ⟨w2.heap.size, 1, none⟩ (.slice A2 n2 c2)).heap[w2.heap.size]? = some (.cells #[.int .u64 N, .slice A2 n2 c2] 27 (0, 0)) := by simpa using sH2
  have gH : w2.grownBy (((w2.alloc (.cells #[.int .u64 0, .slice none 0 0] 27)).setCell ⟨w2.heap.size, 0, none⟩ (.int .u64 N)).setCell ⟨w2.heap.size, 1, none⟩ (.slice A2 n2 c2)) none := (Kp.grown (set1 (set1 (Kp.of_none (S := fun k => w2.heap.size ≤ k) (grown_alloc (grown_refl w2 none) _)) (Nat.le_refl _)) (Nat.le_refl _)) (fun k hk e => by omega))
  obtain ⟨w3, hH⟩ : ∃ w3, w3 = (((w2.alloc (.cells #[.int .u64 0, .slice none 0 0] 27)).setCell ⟨w2.heap.size, 0, none⟩ (.int .u64 N)).setCell ⟨w2.heap.size, 1, none⟩ (.slice A2 n2 c2)) := ⟨_, rfl⟩
  rw [← hH] at bH gH
  refine ⟨_, _, _, _, rfl, ⟨_, blk_cell sH0 0⟩, blk_free sH0 0, ⟨_, blk_cell sH1 1⟩, blk_free sH1 1, ?_⟩
  rw [← hH]
  have gd := grown_drew (grown_refl w3 none)
  obtain ⟨w4, hw4⟩ : ∃ w4, w4 = w3.drew := ⟨_, rfl⟩
  rw [← hw4] at gd ⊢
  have b4 := blk_keep bH gd
  have o4 := (o2.kept gH).kept gd
  have g14 := grown_trans g2 (grown_trans gH gd)
  have g04 := grown_trans g1 g14
  refine ⟨fun W => w4.grownBy W none, grown_refl _ _, _, fun W g => blk_cell (blk_keep b4 g) 0, _, _, _, fun W g => blk_cell (blk_keep b4 g) 1, _, blk_cell b4 0, _, _, _, blk_cell b4 1, (time_calls (N := N) (k := near) o4.row hn2 (by omega) hnear hT).mono fun ev w5 hh => ?_⟩
  obtain ⟨t2, rfl, g5⟩ := hh
  have o5 := o4.kept g5
  refine ⟨_, rfl, g5, (rat_calls (N := N) (t := t2) o5.row hn2 (by omega) hU).mono fun ev w6 hh => ?_⟩
  obtain ⟨A6, n6, c6, rfl, o6, g6⟩ := hh
  have hn6 : n6 = (atL N L t2).length := by have := o6.cases.1; rw [edges_length] at this; omega
  have hle : (atL N L t2).length ≤ 40 := by
    unfold atL afterL
    split
    · simp
    · have := foldT_len (L.take (uptoL L t2 : Int).toNat) []
      rw [List.length_take] at this
      simp only [List.length_nil] at this
      omega
  obtain ⟨now, hnow⟩ : ∃ now, now = atL N L t2 := ⟨_, rfl⟩
  rw [← hnow] at hn6 hle o6
  have g46 := grown_trans g5 g6
  have b46 := blk_keep b4 g46
  refine ⟨_, _, _, _, rfl, g46, _, blk_cell b46 0, (edgeS_calls ha hb' hNl).mono fun ev w7 hh => ?_⟩
  obtain ⟨rfl, g7⟩ := hh
  obtain ⟨e0, he0⟩ : ∃ e0, e0 = (edgeS a b N).1 := ⟨_, rfl⟩
  rw [← he0]
  have g07 := grown_trans g04 (grown_trans g46 g7)
  have sE0 : (w7.alloc (.cells #[.int .u32 0, .int .u32 0] 39)).heap[w7.heap.size]? = some (.cells #[.int .u32 0, .int .u32 0] 39 (0, 0)) := heap_alloc_new w7 _
  have sE1 := blk_set sE0 0 (.int .u32 e0.1)
  have sE2 := blk_set sE1 1 (.int .u32 e0.2)
  have bE : (((w7.alloc (.cells #[.int .u32 0, .int .u32 0] 39)).setCell ⟨w7.heap.size, 0, none⟩ (.int .u32 e0.1)).setCell ⟨w7.heap.size, 1, none⟩ (.int .u32 e0.2)).heap[w7.heap.size]? = some (.cells #[.int .u32 e0.1, .int .u32 e0.2] 39 (0, 0)) := by simpa using sE2
  have gE : w7.grownBy (((w7.alloc (.cells #[.int .u32 0, .int .u32 0] 39)).setCell ⟨w7.heap.size, 0, none⟩ (.int .u32 e0.1)).setCell ⟨w7.heap.size, 1, none⟩ (.int .u32 e0.2)) none := (Kp.grown (set1 (set1 (Kp.of_none (S := fun k => w7.heap.size ≤ k) (grown_alloc (grown_refl w7 none) _)) (Nat.le_refl _)) (Nat.le_refl _)) (fun k hk e => by omega))
  obtain ⟨w8, hE⟩ : ∃ w8, w8 = (((w7.alloc (.cells #[.int .u32 0, .int .u32 0] 39)).setCell ⟨w7.heap.size, 0, none⟩ (.int .u32 e0.1)).setCell ⟨w7.heap.size, 1, none⟩ (.int .u32 e0.2)) := ⟨_, rfl⟩
  rw [← hE] at bE gE
  refine ⟨_, _, _, rfl, ⟨_, blk_cell sE0 0⟩, blk_free sE0 0, ⟨_, blk_cell sE1 1⟩, blk_free sE1 1, ?_⟩
  rw [← hE]
  have st : ∀ (W : World) (e : Edge) (x y : Int), w7.grownBy W none → W.heap[w7.heap.size]? = some (.cells #[.int .u32 e.1, .int .u32 e.2] 39 (0, 0)) →
      (∃ uv_ : Value, W.cell? ⟨w7.heap.size, 0, none⟩ = some uv_) ∧ W.frozen? ⟨w7.heap.size, 0, none⟩ = false ∧ (∃ uv_ : Value, (W.setCell ⟨w7.heap.size, 0, none⟩ (.int .u32 x)).cell? ⟨w7.heap.size, 1, none⟩ = some uv_) ∧ (W.setCell ⟨w7.heap.size, 0, none⟩ (.int .u32 x)).frozen? ⟨w7.heap.size, 1, none⟩ = false ∧
      ∃ e : Edge, ((W.setCell ⟨w7.heap.size, 0, none⟩ (.int .u32 x)).setCell ⟨w7.heap.size, 1, none⟩ (.int .u32 y)).heap[w7.heap.size]? = some (.cells #[.int .u32 e.1, .int .u32 e.2] 39 (0, 0)) ∧ w7.grownBy ((W.setCell ⟨w7.heap.size, 0, none⟩ (.int .u32 x)).setCell ⟨w7.heap.size, 1, none⟩ (.int .u32 y)) none := by
    intro W e x y g h
    have s1 := blk_set h 0 (.int .u32 x)
    have s2 := blk_set s1 1 (.int .u32 y)
    exact ⟨⟨_, blk_cell h 0⟩, blk_free h 0, ⟨_, blk_cell s1 1⟩, blk_free s1 1, (x, y), by simpa using s2, (set1 (set1 (Kp.of_none (S := fun q => w7.heap.size ≤ q) g) (Nat.le_refl _)) (Nat.le_refl _)).grown (fun q hq e => by omega)⟩
  refine ⟨fun W => ∃ e : Edge, W.heap[w7.heap.size]? = some (.cells #[.int .u32 e.1, .int .u32 e.2] 39 (0, 0)) ∧ w7.grownBy W none, ⟨fun _ => ?_, fun _ => ⟨e0, bE, gE⟩⟩, ?_⟩
  · obtain ⟨q1, q2, q3, q4, q5⟩ := st w8 e0 a b gE bE
    exact ⟨by omega, by omega, q1, q2, q3, q4, q5⟩
  rintro w9 ⟨e9, b9, g9⟩
  refine ⟨fun W => ∃ e : Edge, W.heap[w7.heap.size]? = some (.cells #[.int .u32 e.1, .int .u32 e.2] 39 (0, 0)) ∧ w7.grownBy W none, ⟨fun hpos => ⟨by omega, fun _ => ?_, fun _ => ⟨e9, b9, g9⟩⟩, fun _ => ⟨e9, b9, g9⟩⟩, ?_⟩
  · have h1 := Int.emod_nonneg a (show (n6 : Int) ≠ 0 by omega)
    have h2 := Int.emod_lt_of_pos a (show (0 : Int) < (n6 : Int) by omega)
    obtain ⟨p, hp⟩ : ∃ p : Nat, a % (n6 : Int) = (p : Int) := ⟨(a % (n6 : Int)).toNat, by omega⟩
    rw [hp] at h1 h2 ⊢
    have tp : (p : Int).toNat = p := by omega
    rw [tp]
    obtain ⟨d, d1, d2, d3⟩ := edge_at ((o6.kept g7).kept g9).row (show p < now.length by omega)
    obtain ⟨q1, q2, q3, q4, q5⟩ := st w9 e9 now[p].1 now[p].2 g9 b9
    exact ⟨by omega, ⟨by omega, by omega⟩, d, d1, by omega, by omega, _, d2, _, d3, q1, q2, q3, q4, q5⟩
  rintro w10 ⟨e, b10, g10⟩
  have g11 := World.grownBy_alloc w10 (.cells #[.slice RA rn rc, .slice A6 n6 c6] 29) none
  have b11 : (w10.alloc (.cells #[.slice RA rn rc, .slice A6 n6 c6] 29)).heap[w10.heap.size]? = some (.cells #[.slice RA rn rc, .slice A6 n6 c6] 29 (0, 0)) := heap_alloc_new w10 _
  obtain ⟨w11, hw_w11⟩ : ∃ w11, w11 = w10.alloc (.cells #[.slice RA rn rc, .slice A6 n6 c6] 29) := ⟨_, rfl⟩
  rw [← hw_w11] at g11 b11 ⊢
  have g711 := grown_trans g10 g11
  have g011 := grown_trans g07 g711
  have be11 := blk_keep b10 g11
  have his : ∀ j : Nat, j < 2 → ∃ (AX : Option Addr) (nX cX : Nat) (LX : List Edge), (∀ W, w11.grownBy W none → W.cell? ⟨w10.heap.size, j, none⟩ = some (.slice AX nX cX)) ∧ EdgOk w11 AX nX cX LX := by
    intro j hj
    have : j = 0 ∨ j = 1 := by omega
    rcases this with rfl | rfl
    · exact ⟨RA, rn, rc, RL, fun W g => blk_cell (blk_keep b11 g) 0, hR.kept_none g011, hRn, hRc, hRA, by omega⟩
    · exact ⟨A6, n6, c6, now, fun W g => blk_cell (blk_keep b11 g) 1, ((o6.kept g7).kept g711).row, hn6, owned_le o6, owned_cap o6, by omega⟩
  refine ⟨fun q i W => ∃ j : Nat, i = (j : Int) ∧ j ≤ 2 ∧ q = 2 - j ∧ w11.grownBy W none, ⟨_, 0, rfl, by omega, rfl, grown_refl _ _⟩, ?_⟩
  rintro q i w12 ⟨j, rfl, hj, rfl, g12⟩
  have tj : (j : Int).toNat = j := by omega
  rw [tj]
  refine ⟨fun hlt => ?_, fun hge => ⟨by trivial, grown_trans g011 g12⟩⟩
  obtain ⟨AX, nX, cX, LX, hcX, okX⟩ := his j (by omega)
  have be12 := blk_keep be11 g12
  refine ⟨_, rfl, by omega, by omega, AX, nX, cX, by rw [add_blk]; exact hcX w12 g12, _, blk_cell be12 0, _, blk_cell be12 1, _, blk_cell be12 0, _, blk_cell be12 1, ?_⟩
  have g13 := World.grownBy_alloc w12 (.cells #[.int .i64 0, .int .u32 e.1, .int .u32 e.2, .bool add, .int .i64 0, .int .u32 e.1, .int .u32 e.2, .bool (decide (add = false))] 41) none
  have r13 : Row (w12.alloc (.cells #[.int .i64 0, .int .u32 e.1, .int .u32 e.2, .bool add, .int .i64 0, .int .u32 e.1, .int .u32 e.2, .bool (decide (add = false))] 41)) (some ⟨w12.heap.size, 0, none⟩) (evts [⟨0, e.1, e.2, add⟩, ⟨0, e.1, e.2, decide (add = false)⟩]) := row_allocM _ #[.int .i64 0, .int .u32 e.1, .int .u32 e.2, .bool add, .int .i64 0, .int .u32 e.1, .int .u32 e.2, .bool (decide (add = false))] 41 (0, 0)
  obtain ⟨w13, hw13⟩ : ∃ w13, w13 = w12.alloc (.cells #[.int .i64 0, .int .u32 e.1, .int .u32 e.2, .bool add, .int .i64 0, .int .u32 e.1, .int .u32 e.2, .bool (decide (add = false))] 41) := ⟨_, rfl⟩
  rw [← hw13] at g13 r13 ⊢
  obtain ⟨EV, hEV⟩ : ∃ EV : List Evt, EV = [⟨0, e.1, e.2, add⟩, ⟨0, e.1, e.2, decide (add = false)⟩] := ⟨_, rfl⟩
  have hEVl : EV.length = 2 := by rw [hEV]; rfl
  rw [← hEV] at r13
  refine ⟨fun q i W => ∃ p : Nat, i = (p : Int) ∧ p ≤ 2 ∧ q = 2 - p ∧ w13.grownBy W none, ⟨_, 0, rfl, by omega, rfl, grown_refl _ _⟩, ?_⟩
  rintro q i w14 ⟨p, rfl, hp, rfl, g14'⟩
  have tp : (p : Int).toNat = p := by omega
  rw [tp]
  have ok14 := okX.kept (grown_trans g12 (grown_trans g13 g14'))
  refine ⟨fun hlt2 => ?_, fun hge2 => ?_⟩
  · obtain ⟨d, d1, d2, d3, d4, d5⟩ := evt_at (r13.kept_none g14') (show p < EV.length by omega)
    obtain ⟨x, hx⟩ : ∃ x, x = EV[p] := ⟨_, rfl⟩
    rw [← hx] at d2 d3 d4 d5
    refine ⟨d, d1, by omega, by omega, _, d2, _, d3, _, d4, _, d5, ?_⟩
    have sX0 : (w14.alloc (.cells #[.int .i64 0, .int .u32 0, .int .u32 0, .bool false] 41)).heap[w14.heap.size]? = some (.cells #[.int .i64 0, .int .u32 0, .int .u32 0, .bool false] 41 (0, 0)) := heap_alloc_new w14 _
    have sX1 := blk_set sX0 0 (.int .i64 x.t)
    have sX2 := blk_set sX1 1 (.int .u32 x.u)
    have sX3 := blk_set sX2 2 (.int .u32 x.v)
    have sX4 := blk_set sX3 3 (.bool x.add)
    have bX : (((((w14.alloc (.cells #[.int .i64 0, .int .u32 0, .int .u32 0, .bool false] 41)).setCell ⟨w14.heap.size, 0, none⟩ (.int .i64 x.t)).setCell ⟨w14.heap.size, 1, none⟩ (.int .u32 x.u)).setCell ⟨w14.heap.size, 2, none⟩ (.int .u32 x.v)).setCell ⟨w14.heap.size, 3, none⟩ (.bool x.add)).heap[w14.heap.size]? = some (.cells #[.int .i64 x.t, .int .u32 x.u, .int .u32 x.v, .bool x.add] 41 (0, 0)) := by simpa using sX4
    have gX : w14.grownBy (((((w14.alloc (.cells #[.int .i64 0, .int .u32 0, .int .u32 0, .bool false] 41)).setCell ⟨w14.heap.size, 0, none⟩ (.int .i64 x.t)).setCell ⟨w14.heap.size, 1, none⟩ (.int .u32 x.u)).setCell ⟨w14.heap.size, 2, none⟩ (.int .u32 x.v)).setCell ⟨w14.heap.size, 3, none⟩ (.bool x.add)) none := (Kp.grown (set1 (set1 (set1 (set1 (Kp.of_none (S := fun k => w14.heap.size ≤ k) (grown_alloc (grown_refl w14 none) _)) (Nat.le_refl _)) (Nat.le_refl _)) (Nat.le_refl _)) (Nat.le_refl _)) (fun k hk e => by omega))
    obtain ⟨w15, hX⟩ : ∃ w15, w15 = (((((w14.alloc (.cells #[.int .i64 0, .int .u32 0, .int .u32 0, .bool false] 41)).setCell ⟨w14.heap.size, 0, none⟩ (.int .i64 x.t)).setCell ⟨w14.heap.size, 1, none⟩ (.int .u32 x.u)).setCell ⟨w14.heap.size, 2, none⟩ (.int .u32 x.v)).setCell ⟨w14.heap.size, 3, none⟩ (.bool x.add)) := ⟨_, rfl⟩
    rw [← hX] at bX gX
    refine ⟨⟨_, blk_cell sX0 0⟩, blk_free sX0 0, ⟨_, blk_cell sX1 1⟩, blk_free sX1 1, ⟨_, blk_cell sX2 2⟩, blk_free sX2 2, ⟨_, blk_cell sX3 3⟩, blk_free sX3 3, ?_⟩
    rw [← hX]
    have ok15 := ok14.kept gX
    refine ⟨_, blk_cell bX 0, _, blk_cell bX 1, _, blk_cell bX 2, _, blk_cell bX 3, (sturn_calls (e := x) ok15.1 ok15.2.1 ok15.2.2.2.1 (by have := ok15.2.2.2.2; omega)).mono fun ev w16 hh => ?_⟩
    obtain ⟨A16, n16, c16, rfl, o16, g16⟩ := hh
    have bX16 := blk_keep bX g16
    have ok16 := ok15.kept g16
    refine ⟨_, _, _, _, rfl, _, blk_cell bX16 0, _, blk_cell bX16 1, _, blk_cell bX16 2, _, blk_cell bX16 3, (turn_calls (e := x) ok16.1 ok16.2.1 ok16.2.2.1 ok16.2.2.2.1 (by have := ok16.2.2.2.2; omega)).mono fun ev w17 hh => ?_⟩
    obtain ⟨A17, n17, c17, rfl, o17, g17⟩ := hh
    have hn16 : n16 = ((turnL LX x).getD []).length := by have := o16.cases.1; rw [edges_length] at this; omega
    have hn17 : n17 = ((turnL LX x).getD []).length := by have := o17.cases.1; rw [edges_length] at this; omega
    have hl16 : ((turnL LX x).getD []).length ≤ 61 := by
      have h1 := ok16.2.1
      have h2 := ok16.2.2.2.2
      cases h : turnL LX x with
      | none => simp
      | some y => have := turnL_len h; simp only [Option.getD_some]; omega
    refine ⟨_, _, _, _, rfl, _, fun w => run_neB _ _ _ _ w, fun h => (by simp at h), fun _ => (sameEdges_calls (o16.kept g17).row hn16 o17.row hn17 (by omega)).mono fun ev w18 hh => ?_⟩
    obtain ⟨rfl, g18⟩ := hh
    exact ⟨_, rfl, fun h => (by simp at h), fun _ => ⟨by omega, 2 - (p + 1), by omega, p + 1, by omega, by omega, rfl, grown_trans g14' (grown_trans gX (grown_trans g16 (grown_trans g17 g18)))⟩⟩
  · have gd14 := grown_drew (grown_refl w14 none)
    obtain ⟨w15, hw15⟩ : ∃ w15, w15 = w14.drew := ⟨_, rfl⟩
    rw [← hw15] at gd14 ⊢
    have g1215 := grown_trans g13 (grown_trans g14' gd14)
    have ok15 := ok14.kept gd14
    have be15 := blk_keep be12 g1215
    have hl60 := ok15.2.2.2.2
    refine ⟨fun W => w15.grownBy W none, grown_refl _ _, _, blk_cell be15 0, _, blk_cell be15 1, (shas_calls (e := e) ok15.1 ok15.2.1 (by omega)).mono fun ev w16 hh => ?_⟩
    obtain ⟨rfl, g16⟩ := hh
    refine ⟨_, rfl, g16, _, fun W g => blk_cell (blk_keep be15 g) 0, _, fun W g => blk_cell (blk_keep be15 g) 1, (has_calls (e := e) (ok15.kept g16).1 ok15.2.1 (by omega)).mono fun ev w17 hh => ?_⟩
    obtain ⟨rfl, g17⟩ := hh
    have g1517 := grown_trans g16 g17
    refine ⟨_, rfl, g1517, _, fun w => run_neB _ _ _ _ w, fun h => (by simp at h), fun _ => (sdegree_calls (v := v) (ok15.kept g1517).1 ok15.2.1 (by omega)).mono fun ev w18 hh => ?_⟩
    obtain ⟨rfl, g18⟩ := hh
    have g1518 := grown_trans g1517 g18
    refine ⟨_, rfl, g1518, (rdegree_calls (v := v) (ok15.kept g1518).1 ok15.2.1 (by omega)).mono fun ev w19 hh => ?_⟩
    obtain ⟨rfl, g19⟩ := hh
    have g1519 := grown_trans g1518 g19
    refine ⟨_, rfl, g1519, fun h => absurd rfl h, fun _ => ⟨_, blk_cell (blk_keep be15 g1519) 0, (sdegree_calls (v := e.1) (ok15.kept g1519).1 ok15.2.1 (by omega)).mono fun ev w20 hh => ?_⟩⟩
    obtain ⟨rfl, g20⟩ := hh
    have g1520 := grown_trans g1519 g20
    refine ⟨_, rfl, g1520, _, fun W g => blk_cell (blk_keep be15 g) 0, (rdegree_calls (v := e.1) (ok15.kept g1520).1 ok15.2.1 (by omega)).mono fun ev w21 hh => ?_⟩
    obtain ⟨rfl, g21⟩ := hh
    have g1521 := grown_trans g1520 g21
    exact ⟨_, rfl, g1521, fun h => absurd rfl h, fun _ => ⟨by omega, 2 - (j + 1), by omega, j + 1, by omega, by omega, rfl, grown_trans g12 (grown_trans g1215 g1521)⟩⟩
end Go.Proofs.Ytgahfcdmgdnjiaa
