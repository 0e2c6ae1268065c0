/- Own texts, packed: U8, U9, U10, U11, U12, U13, U14, U15. -/
import Derived.Test.YtgahfcdmgdnjiaaGOg
import Derived.Test.YtgahfcdmgdnjiaaGPg
import Derived.Test.YtgahfcdmgdnjiaaGQg
import Derived.Test.YtgahfcdmgdnjiaaGYg
import Derived.Test.YtgahfcdmgdnjiaaGNg

/-! block.fits: the walk. -/
namespace Go.Proofs.Ytgahfcdmgdnjiaa
open Go Go.V Go.RowKit
set_option linter.unusedVariables false
set_option linter.unusedSimpArgs false
set_option maxHeartbeats 4000000
set_option maxRecDepth 100000

theorem There.put {L : List (Edge × Bool)} {now : List Edge} {e : Edge} (h : There L now) : There (updK L e true) (now ++ [e]) := by
  intro a
  rw [getK_upd]
  by_cases ha : e = a
  · rw [if_pos ha]; simp [ha]
  · rw [if_neg ha, h a]
    refine decide_eq_decide.2 ?_
    simp only [List.mem_append, List.mem_singleton]
    exact ⟨.inl, fun h => h.resolve_right fun e' => ha e'.symm⟩
theorem fits_calls {w : World} {A B : Option Addr} {n c m d : Nat} {key : List Edge} {l : List Evt} (hA : Row w A (edges key)) (hn : n = key.length) (hB : Row w B (evts l)) (hm : m = l.length) (hnl : n ≤ 2 ^ 30) (hml : m ≤ 2 ^ 30) (hk : EdgesB key) (hl : EvtsB l) (hrise : Rise key) :
    Calls P 39 #[.slice A n c, .slice B m d] w fun ev w' => ev = .returned (.bool (fitsL key l)) ∧ w.grownBy w' none := by
  apply vc39; unfold VC39; try (conv => zeta)
  simp only [InK]
  have hM : MapE (w.alloc (.map #[] 0)) w.heap.size [] := MapAt.made w
  have g1 := World.grownBy_alloc w (.map #[] 0) none
  obtain ⟨w1, hw1⟩ : ∃ w1, w1 = w.alloc (.map #[] 0) := ⟨_, rfl⟩
  rw [← hw1] at hM g1 ⊢
  refine ⟨fun mm i w' => ∃ (p : Nat) (L : List (Edge × Bool)), i = (p : Int) ∧ p ≤ key.length ∧ mm = key.length - p ∧ MapE w' w.heap.size L ∧ There L (key.take p) ∧ w.grownBy w' none,
    ⟨_, 0, [], rfl, by omega, rfl, hM, fun a => by simp [getK], g1⟩, ?_⟩
  rintro mm i w2 ⟨p, L, rfl, hp, rfl, hM2, hth, hg⟩
  have tp : (p : Int).toNat = p := by omega
  rw [tp]
  refine ⟨fun hlt => ?_, fun hge => ?_⟩
  · have lp : p < key.length := by omega
    have hke := hk _ (List.getElem_mem lp)
    obtain ⟨a, e1, e2, e3⟩ := edge_at (hA.kept_none hg) lp
    have sE0 : (w2.alloc (.cells #[.int .u32 0, .int .u32 0] 39)).heap[w2.heap.size]? = some (.cells #[.int .u32 0, .int .u32 0] 39 (0, 0)) := heap_alloc_new w2 _
    have sE1 := blk_set sE0 0 (.int .u32 key[p].1)
    have sE2 := blk_set sE1 1 (.int .u32 key[p].2)
    have bE : (((w2.alloc (.cells #[.int .u32 0, .int .u32 0] 39)).setCell ⟨w2.heap.size, 0, none⟩ (.int .u32 key[p].1)).setCell ⟨w2.heap.size, 1, none⟩ (.int .u32 key[p].2)).heap[w2.heap.size]? = some (.cells #[.int .u32 key[p].1, .int .u32 key[p].2] 39 (0, 0)) := by simpa using sE2
    have gE : w2.grownBy (((w2.alloc (.cells #[.int .u32 0, .int .u32 0] 39)).setCell ⟨w2.heap.size, 0, none⟩ (.int .u32 key[p].1)).setCell ⟨w2.heap.size, 1, none⟩ (.int .u32 key[p].2)) none := (Kp.grown (set1 (set1 (Kp.of_none (S := fun k => w2.heap.size ≤ k) (grown_alloc (grown_refl w2 none) _)) (Nat.le_refl _)) (Nat.le_refl _)) (fun k hk e => by omega))
    obtain ⟨w3, hE⟩ : ∃ w3, w3 = (((w2.alloc (.cells #[.int .u32 0, .int .u32 0] 39)).setCell ⟨w2.heap.size, 0, none⟩ (.int .u32 key[p].1)).setCell ⟨w2.heap.size, 1, none⟩ (.int .u32 key[p].2)) := ⟨_, rfl⟩
    rw [← hE] at bE gE
    refine ⟨a, e1, by omega, by omega, _, e2, _, e3, ⟨_, blk_cell sE0 0⟩, blk_free sE0 0, ⟨_, blk_cell sE1 1⟩, blk_free sE1 1, ?_⟩
    rw [← hE]
    have okk : okEdge (key[p].1, key[p].2) := ⟨hke.1, hke.2⟩
    obtain ⟨W2, k1, k2, k3⟩ := MapAt.update keyE Try.underlying92 (hM2.kept gE) okk true
    refine ⟨_, blk_cell bE 0, _, blk_cell bE 1, W2, k1, ⟨by omega, by omega⟩, key.length - (p + 1), by omega, p + 1, updK L key[p] true, by omega, by omega, rfl, k2, ?_, grown_own (grown_trans hg gE) k3 (fun k hk => by cases hk; omega)⟩
    rw [List.take_succ_eq_append_getElem lp]
    exact hth.put
  · have hpe : p = key.length := by omega
    subst hpe
    rw [List.take_length] at hth
    refine ⟨fun mm i w' => ∃ (p : Nat) (L : List (Edge × Bool)) (now : List Edge), i = (p : Int) ∧ p ≤ l.length ∧ mm = l.length - p ∧ MapE w' w.heap.size L ∧ There L now ∧ Rise now ∧ w.grownBy w' none ∧ fitsL key l = fitsL now (l.drop p),
      ⟨_, 0, L, key, rfl, by omega, rfl, hM2, hth, hrise, hg, rfl⟩, ?_⟩
    rintro mm i w4 ⟨p, L, now, rfl, hp, rfl, hM4, hth, hrise, hg, hgo⟩
    have tp : (p : Int).toNat = p := by omega
    rw [tp]
    refine ⟨fun hlt => ?_, fun hge => ?_⟩
    · have lp : p < l.length := by omega
      rw [List.drop_eq_getElem_cons lp, fitsL] at hgo
      have hbe := hl _ (List.getElem_mem lp)
      obtain ⟨a, e1, e2, e3, e4, e5⟩ := evt_at (hB.kept_none hg) lp
      have sE0 : (w4.alloc (.cells #[.int .i64 0, .int .u32 0, .int .u32 0, .bool false] 41)).heap[w4.heap.size]? = some (.cells #[.int .i64 0, .int .u32 0, .int .u32 0, .bool false] 41 (0, 0)) := heap_alloc_new w4 _
      have sE1 := blk_set sE0 0 (.int .i64 l[p].t)
      have sE2 := blk_set sE1 1 (.int .u32 l[p].u)
      have sE3 := blk_set sE2 2 (.int .u32 l[p].v)
      have sE4 := blk_set sE3 3 (.bool l[p].add)
      have bE : (((((w4.alloc (.cells #[.int .i64 0, .int .u32 0, .int .u32 0, .bool false] 41)).setCell ⟨w4.heap.size, 0, none⟩ (.int .i64 l[p].t)).setCell ⟨w4.heap.size, 1, none⟩ (.int .u32 l[p].u)).setCell ⟨w4.heap.size, 2, none⟩ (.int .u32 l[p].v)).setCell ⟨w4.heap.size, 3, none⟩ (.bool l[p].add)).heap[w4.heap.size]? = some (.cells #[.int .i64 l[p].t, .int .u32 l[p].u, .int .u32 l[p].v, .bool l[p].add] 41 (0, 0)) := by simpa using sE4
      have gE : w4.grownBy (((((w4.alloc (.cells #[.int .i64 0, .int .u32 0, .int .u32 0, .bool false] 41)).setCell ⟨w4.heap.size, 0, none⟩ (.int .i64 l[p].t)).setCell ⟨w4.heap.size, 1, none⟩ (.int .u32 l[p].u)).setCell ⟨w4.heap.size, 2, none⟩ (.int .u32 l[p].v)).setCell ⟨w4.heap.size, 3, none⟩ (.bool l[p].add)) none := (Kp.grown (set1 (set1 (set1 (set1 (Kp.of_none (S := fun k => w4.heap.size ≤ k) (grown_alloc (grown_refl w4 none) _)) (Nat.le_refl _)) (Nat.le_refl _)) (Nat.le_refl _)) (Nat.le_refl _)) (fun k hk e => by omega))
      obtain ⟨w5, hE⟩ : ∃ w5, w5 = (((((w4.alloc (.cells #[.int .i64 0, .int .u32 0, .int .u32 0, .bool false] 41)).setCell ⟨w4.heap.size, 0, none⟩ (.int .i64 l[p].t)).setCell ⟨w4.heap.size, 1, none⟩ (.int .u32 l[p].u)).setCell ⟨w4.heap.size, 2, none⟩ (.int .u32 l[p].v)).setCell ⟨w4.heap.size, 3, none⟩ (.bool l[p].add)) := ⟨_, rfl⟩
      rw [← hE] at bE gE
      refine ⟨a, e1, by omega, by omega, _, e2, _, e3, _, e4, _, e5, ⟨_, blk_cell sE0 0⟩, blk_free sE0 0, ⟨_, blk_cell sE1 1⟩, blk_free sE1 1, ⟨_, blk_cell sE2 2⟩, blk_free sE2 2, ⟨_, blk_cell sE3 3⟩, blk_free sE3 3, ?_⟩
      rw [← hE]
      have gd := grown_drew (grown_refl w5 none)
      have bEW := blk_keep bE gd
      have hMW := (hM4.kept gE).kept gd
      have hgW := grown_trans (grown_trans hg gE) gd
      have okk : okEdge (l[p].u, l[p].v) := ⟨hbe.1.1, hbe.1.2⟩
      refine ⟨_, blk_cell bEW 1, _, blk_cell bEW 2, _, lookE hMW okk, _, blk_cell bEW 3, _, fun w => run_eqB _ _ _ _ w, fun h5 => ?_, fun h5 => ?_⟩
      · have := (hth.turn (e := l[p]) hrise).2 (of_decide_eq_true h5)
        rw [hgo, this]
        exact ⟨rfl, hgW⟩
      · have hne : turnL now l[p] ≠ none := fun h => of_decide_eq_false h5 ((hth.turn (e := l[p]) hrise).1 h)
        obtain ⟨x, hx⟩ : ∃ x, turnL now l[p] = some x := by
          cases hq : turnL now l[p] with
          | none => exact absurd hq hne
          | some x => exact ⟨x, rfl⟩
        obtain ⟨W2, k1, k2, k3⟩ := MapAt.update keyE Try.underlying92 hMW okk l[p].add
        refine ⟨_, blk_cell bEW 1, _, blk_cell bEW 2, _, blk_cell bEW 3, W2, k1, ⟨by omega, by omega⟩, l.length - (p + 1), by omega, p + 1, updK L (l[p].u, l[p].v) l[p].add, x, by omega, by omega, rfl, k2, hth.upd hx, (turn_some hx).1, grown_own hgW k3 (fun k hk => by cases hk; omega), ?_⟩
        rw [hgo, hx]
    · have hpe : p = l.length := by omega
      subst hpe
      rw [List.drop_length] at hgo
      rw [hgo]
      exact ⟨rfl, hg⟩
end Go.Proofs.Ytgahfcdmgdnjiaa

/-! block.Put, block.parts, block.Read: the walks. -/
namespace Go.Proofs.Ytgahfcdmgdnjiaa
open Go Go.V Go.RowKit
set_option linter.unusedVariables false
set_option linter.unusedSimpArgs false
set_option maxHeartbeats 4000000
set_option maxRecDepth 100000

theorem add0 (a : Addr) : a.add 0 = a := by cases a; unfold Addr.add; split <;> simp_all
theorem bput_calls {w : World} {A B : Option Addr} {n c m d : Nat} {key : List Edge} {l : List Evt} (hA : Row w A (edges key)) (hn : n = key.length) (hB : Row w B (evts l)) (hm : m = l.length) (hnl : n ≤ 2 ^ 20) (hml : m ≤ 2 ^ 19) (hk : EdgesB key) (hl : EvtsB l)
    (ha : adjL key = true → (adjB key).length ≤ 2 ^ 20) (hd : delL (t0E l) none l = true → (deltaB (t0E l) l).length ≤ 2 ^ 20) :
    Calls P 13 #[.slice A n c, .slice B m d] w fun ev w' => ∃ (A' : Option Addr) (n' c' : Nat), ev = .returned (.tuple #[.slice A' n' c', .int .i64 (blkErr key l)]) ∧ OwnedK w' w.heap.size 5 1 A' n' c' (u8s (if blkErr key l = 0 then blockB (t0E l) key l else [])) ∧ w.grownBy w' none := by
  apply vc13; unfold VC13; try (conv => zeta)
  simp only [InK]
  have bad : ∀ (e : Int) (w' : World), blkErr key l = e → e ≠ 0 → w.grownBy w' none → ∃ (A' : Option Addr) (n' c' : Nat), Ending.returned (.tuple #[.slice none 0 0, .int .i64 e]) = .returned (.tuple #[.slice A' n' c', .int .i64 (blkErr key l)]) ∧ OwnedK w' w.heap.size 5 1 A' n' c' (u8s (if blkErr key l = 0 then blockB (t0E l) key l else [])) ∧ w.grownBy w' none := by
    intro e w' he h0 g
    rw [he, if_neg h0]
    exact ⟨_, _, _, rfl, OwnedK.nil _ _ _ _, g⟩
  refine (aput_calls hA hn hnl hk).mono fun ev w1 hh => ?_
  obtain ⟨A1, n1, c1, rfl, o1, g1⟩ := hh
  refine ⟨_, _, _, _, rfl, fun h => ?_, fun h => ?_⟩
  · have hadj : ¬ adjL key = true := fun e => h (if_pos e)
    exact bad 23 _ (by unfold blkErr; rw [if_pos (.inl (by simpa using hadj))]) (by omega) g1
  have hadj : adjL key = true := by
    by_cases e : adjL key = true
    · exact e
    · rw [if_neg e] at h; omega
  rw [if_pos hadj] at o1
  refine ⟨fun h0 => ?_, fun h0 => ?_⟩
  · have : l = [] := List.eq_nil_of_length_eq_zero (by omega)
    exact bad 23 _ (by unfold blkErr; rw [if_pos (.inr this)]) (by omega) g1
  have l0 : 0 < l.length := by omega
  have hne : l ≠ [] := fun e => by subst e; simp at l0
  obtain ⟨a, e1, e2, _⟩ := evt_at (hB.kept_none g1) l0
  rw [Nat.zero_mul, add0] at e2
  have ht0 : l[0].t = t0E l := by cases l with | nil => exact absurd rfl hne | cons e l => rfl
  rw [ht0] at e2
  refine ⟨a, e1, by omega, by omega, _, e2, (dput_calls (t0 := t0E l) (hB.kept_none g1) hm (by omega) hl).mono fun ev w2 hh => ?_⟩
  obtain ⟨A2, n2, c2, rfl, o2, g2⟩ := hh
  have g02 := grown_trans g1 g2
  refine ⟨_, _, _, _, rfl, fun h => ?_, fun h => ?_⟩
  · have hdel : ¬ delL (t0E l) none l = true := fun e => h (if_pos e)
    rw [if_neg hdel]
    exact bad 23 _ (by unfold blkErr; rw [if_neg (by rw [hadj]; simp [hne]), if_pos (by simpa using hdel)]) (by omega) g02
  have hdel : delL (t0E l) none l = true := by
    by_cases e : delL (t0E l) none l = true
    · exact e
    · rw [if_neg e] at h; omega
  rw [if_pos hdel] at o2
  have hao := (adjL_iff hk (by omega)).1 hadj
  refine (fits_calls (hA.kept_none g02) hn (hB.kept_none g02) hm (by omega) (by omega) hk hl hao.rise).mono fun ev w3 hh => ?_
  obtain ⟨rfl, g3⟩ := hh
  have g03 := grown_trans g02 g3
  refine ⟨_, rfl, fun h => ?_, fun h => ?_⟩
  · exact bad 25 _ (by unfold blkErr; rw [if_neg (by rw [hadj]; simp [hne]), if_neg (by rw [hdel]; simp), if_pos h]) (by omega) g03
  have hok : blkErr key l = 0 := by unfold blkErr; rw [if_neg (by rw [hadj]; simp [hne]), if_neg (by rw [hdel]; simp), if_neg h]
  rw [hok, if_pos rfl]
  have la := ha hadj
  have ld := hd hdel
  have o1' := (o1.kept g2).kept g3
  have pa := putH_len2 (adjB_bytes key) (by omega)
  have pd := putH_len2 (deltaB_bytes (t0E l) l) (by omega)
  refine (hput_calls o1'.row (u8_len o1) (adjB_bytes key) (by rw [u8_len o1]; omega)).mono fun ev w4 hh => ?_
  obtain ⟨A4, n4, c4, rfl, o4, g4⟩ := hh
  have n4l := u8_len o4
  refine ⟨_, _, _, rfl, by omega, ?_⟩
  have ga := World.grownBy_alloc w4 (.cells #[.int .u64 (n4 : Int)] 24) none
  have hra : Row (w4.alloc (.cells #[.int .u64 (n4 : Int)] 24)) (some ⟨w4.heap.size, 0, none⟩) (u64s [n4]) := row_alloc w4 _ 24
  refine (vput_calls (l := [n4]) hra rfl (by simp; omega) (by simp)).mono fun ev w5 hh => ?_
  obtain ⟨A5, n5, c5, rfl, o5, g5⟩ := hh
  rw [putVs_one] at o5
  have g45 := grown_trans ga g5
  replace o5 := o5.mono (base' := w4.heap.size) ga.size
  have n5l := u8_len o5
  have p5 := putV_len10 (v := n4) (by omega)
  obtain ⟨A6, n6, c6, w6, f1, o6, f3, _⟩ := append_bytes o5 (o4.kept g45).row n4l (owned_cap o4) (by omega) g45.size
  have g46 := grown_own g45 f3 o5.block_ge
  have n6l := u8_len o6
  refine ⟨_, _, _, rfl, _, _, _, w6, f1, ?_⟩
  have o2' := ((o2.kept g3).kept g4).kept g46
  refine (hput_calls o2'.row (u8_len o2) (deltaB_bytes _ _) (by rw [u8_len o2]; omega)).mono fun ev w7 hh => ?_
  obtain ⟨A7, n7, c7, rfl, o7, g7⟩ := hh
  have n7l := u8_len o7
  have g47 := grown_trans g46 g7
  rw [List.length_append] at n6l
  obtain ⟨A8, n8, c8, w8, q1, o8, q3, _⟩ := append_bytes (o6.kept g7) o7.row n7l (owned_cap o7) (by omega) g47.size
  have g48 := grown_own g47 q3 o6.block_ge
  refine ⟨_, _, _, rfl, _, _, _, w8, q1, _, _, _, rfl, ?_, grown_trans (grown_trans g03 g4) g48⟩
  have := o8.mono (base' := w.heap.size) (Nat.le_trans g03.size g4.size)
  rw [n4l, List.append_assoc] at this
  exact this
/-- What block.parts answers. -/
theorem parts_calls {w : World} {A : Option Addr} {n c : Nat} {x : List Int} (hr : Row w A (u8s x)) (hn : n = x.length) (hc : n ≤ c) (hb : BytesB x) (hl : x.length ≤ 2 ^ 16) :
    Calls P 42 #[.slice A n c] w fun ev w' => ∃ (A1 : Option Addr) (n1 c1 : Nat) (A2 : Option Addr) (n2 c2 : Nat) (ok : Bool), ev = .returned (.tuple #[.slice A1 n1 c1, .slice A2 n2 c2, .bool ok]) ∧ w.grownBy w' none ∧
      (ok = true → ∃ a d : List Int, Row w' A1 (u8s a) ∧ n1 = a.length ∧ n1 ≤ c1 ∧ BytesB a ∧ a.length ≤ 8 * x.length ∧ Row w' A2 (u8s d) ∧ n2 = d.length ∧ n2 ≤ c2 ∧ BytesB d ∧ d.length ≤ 8 * x.length ∧ ∀ a0 d0, BytesB a0 → BytesB d0 → x = putV (putH a0).length ++ (putH a0 ++ putH d0) → a = a0 ∧ d = d0) ∧
      (ok = false → ∀ a0 d0, BytesB a0 → BytesB d0 → x = putV (putH a0).length ++ (putH a0 ++ putH d0) → False) := by
  apply vc42; unfold VC42; try (conv => zeta)
  simp only [InK]
  refine (vtake_calls (most := 9223372036854775807) hr hn hb (by omega)).mono fun ev w1 hh => ?_
  obtain ⟨rfl, g1⟩ := hh
  have ht := takeV_is (most := 9223372036854775807) (b := x) (fun y hy => (hb y hy).1)
  have canon : ∀ a0 d0, BytesB a0 → BytesB d0 → x = putV (putH a0).length ++ (putH a0 ++ putH d0) → takeV 9223372036854775807 x = (((putH a0).length : Int), (putV (putH a0).length).length, 0) := by
    intro a0 d0 h1 h2 hx
    have hs : (putH a0).length ≤ x.length := by rw [hx]; simp only [List.length_append]; omega
    rw [hx]
    exact takeV_put (by omega) (by omega) _
  obtain ⟨v, k, e, hv⟩ : ∃ v k e, takeV 9223372036854775807 x = (v, k, e) := ⟨_, _, _, rfl⟩
  rw [hv] at ht canon ⊢
  simp only at ht
  refine ⟨v, (k : Int), e, rfl, ⟨by omega, by omega⟩, fun he => ?_, fun he => ?_⟩
  · refine ⟨_, _, _, _, _, _, _, rfl, g1, fun h => (by cases h), fun _ a0 d0 h1 h2 hx => ?_⟩
    have := canon a0 d0 h1 h2 hx
    simp only [Prod.mk.injEq] at this
    exact he this.2.2
  have tk : (k : Int).toNat = k := by omega
  rw [tk]
  refine ⟨by omega, fun hgt => ?_, fun hle => ?_⟩
  · refine ⟨_, _, _, _, _, _, _, rfl, g1, fun h => (by cases h), fun _ a0 d0 h1 h2 hx => ?_⟩
    have := canon a0 d0 h1 h2 hx
    simp only [Prod.mk.injEq] at this
    have hxl := congrArg List.length hx
    simp only [List.length_append] at hxl
    omega
  obtain ⟨q, rfl⟩ : ∃ q : Nat, v = (q : Int) := ⟨v.toNat, by omega⟩
  have tq : (q : Int).toNat = q := by omega
  rw [tq]
  have hkn : k ≤ n := by omega
  have r1 : Row w1 (cutA A c k 1) (u8s (x.drop k)) := cut8 (hr.kept_none g1) (by omega)
  have r1' : Row w1 (cutA A c k 1) (u8s ((x.drop k).take q)) := by
    intro j u hj
    rw [show u8s ((x.drop k).take q) = (u8s (x.drop k)).take q by rw [u8s, List.map_take], List.getElem?_take] at hj
    split at hj
    · exact r1 j u hj
    · cases hj
  have ldk : (x.drop k).length = x.length - k := List.length_drop
  have hbd : BytesB (x.drop k) := fun y hy => hb y (List.mem_of_mem_drop hy)
  refine ⟨⟨by omega, by omega⟩, (hread_calls r1' (by rw [List.length_take]; omega) (by omega) (fun y hy => hbd y (List.mem_of_mem_take hy)) (by rw [List.length_take]; omega)).mono fun ev w2 hh => ?_⟩
  obtain ⟨g2, hr2⟩ := hh
  have r2 : Row w2 (cutA (cutA A c k 1) (c - k) q 1) (u8s ((x.drop k).drop q)) := cut8 (r1.kept_none g2) (by omega)
  -- what the parts are, if there are any
  have parts : ∀ a0 d0, BytesB a0 → BytesB d0 → x = putV (putH a0).length ++ (putH a0 ++ putH d0) → (x.drop k).take q = putH a0 ∧ (x.drop k).drop q = putH d0 ∧ a0.length < 2 ^ 62 ∧ d0.length < 2 ^ 62 := by
    intro a0 d0 h1 h2 hx
    have := canon a0 d0 h1 h2 hx
    simp only [Prod.mk.injEq] at this
    have hs := blk_size h1 h2 hx
    have hq : q = (putH a0).length := by omega
    have hdr : x.drop k = putH a0 ++ putH d0 := by rw [this.2.1, hx]; exact List.drop_left' rfl
    rw [hdr, hq]
    exact ⟨List.take_left' rfl, List.drop_left' rfl, by omega, by omega⟩
  have go : ∀ (A1 : Option Addr) (n1 c1 : Nat) (e1 : Int) (hform : ReadR ((x.drop k).take q) (.returned (.tuple #[.slice A1 n1 c1, .int .i64 e1])) w2), ∃ (x32A : Option Addr) (x32n x32c : Nat) (x32 : Int), Ending.returned (.tuple #[.slice A1 n1 c1, .int .i64 e1]) = .returned (.tuple #[.slice x32A x32n x32c, .int .i64 x32]) ∧ True := fun A1 n1 c1 e1 _ => ⟨_, _, _, _, rfl, trivial⟩
  have gd2 := grown_trans g1 g2
  rcases hr2 with ⟨A3, n3, c3, o, rfl, ro, hno, hbo, hol, hput⟩ | ⟨rfl, hbad⟩
  · have hso := putH_size hbo hput
    rw [List.length_take] at hso
    refine ⟨_, _, _, _, rfl, ⟨by omega, by omega⟩, (hread_calls r2 (by rw [List.length_drop]; omega) (by omega) (fun y hy => hbd y (List.mem_of_mem_drop hy)) (by rw [List.length_drop]; omega)).mono fun ev w3 hh => ?_⟩
    obtain ⟨g3, hr3⟩ := hh
    have g03 := grown_trans gd2 g3
    rcases hr3 with ⟨A4, n4, c4, o', rfl, ro', hno', hbo', hol', hput'⟩ | ⟨rfl, hbad'⟩
    · have hso' := putH_size hbo' hput'
      rw [List.length_drop] at hso'
      refine ⟨_, _, _, _, rfl, fun _ => ⟨_, _, _, _, _, _, _, rfl, g03, fun _ => ⟨o, o', ro.kept_none g3, hno.1, hno.2, hbo, by omega, ro', hno'.1, hno'.2, hbo', by omega, fun a0 d0 h1 h2 hx => ?_⟩, fun h => ?_⟩, fun h => absurd rfl h⟩
      · obtain ⟨p1, p2, p3, p4⟩ := parts a0 d0 h1 h2 hx
        exact ⟨putH_inj hbo h1 (by omega) (by omega) (by rw [hput, p1]), putH_inj hbo' h2 (by omega) (by omega) (by rw [hput', p2])⟩
      · simp at h
    · refine ⟨_, _, _, _, rfl, fun _ => ⟨_, _, _, _, _, _, _, rfl, g03, fun h => (by simp at h), fun _ a0 d0 h1 h2 hx => ?_⟩, fun h => absurd rfl h⟩
      obtain ⟨p1, p2, p3, p4⟩ := parts a0 d0 h1 h2 hx
      exact hbad' d0 h2 p4 p2.symm
  · refine ⟨_, _, _, _, rfl, ⟨by omega, by omega⟩, (hread_calls r2 (by rw [List.length_drop]; omega) (by omega) (fun y hy => hbd y (List.mem_of_mem_drop hy)) (by rw [List.length_drop]; omega)).mono fun ev w3 hh => ?_⟩
    obtain ⟨g3, hr3⟩ := hh
    have g03 := grown_trans gd2 g3
    have fin : ∀ (A4 : Option Addr) (n4 c4 : Nat), ∃ (A1 : Option Addr) (n1 c1 : Nat) (A2 : Option Addr) (n2 c2 : Nat) (ok : Bool), Ending.returned (.tuple #[.slice none 0 0, .slice A4 n4 c4, .bool false]) = .returned (.tuple #[.slice A1 n1 c1, .slice A2 n2 c2, .bool ok]) ∧ w.grownBy w3 none ∧
      (ok = true → ∃ a d : List Int, Row w3 A1 (u8s a) ∧ n1 = a.length ∧ n1 ≤ c1 ∧ BytesB a ∧ a.length ≤ 8 * x.length ∧ Row w3 A2 (u8s d) ∧ n2 = d.length ∧ n2 ≤ c2 ∧ BytesB d ∧ d.length ≤ 8 * x.length ∧ ∀ a0 d0, BytesB a0 → BytesB d0 → x = putV (putH a0).length ++ (putH a0 ++ putH d0) → a = a0 ∧ d = d0) ∧
      (ok = false → ∀ a0 d0, BytesB a0 → BytesB d0 → x = putV (putH a0).length ++ (putH a0 ++ putH d0) → False) := by
      intro A4 n4 c4
      refine ⟨_, _, _, _, _, _, _, rfl, g03, fun h => (by cases h), fun _ a0 d0 h1 h2 hx => ?_⟩
      obtain ⟨p1, p2, p3, p4⟩ := parts a0 d0 h1 h2 hx
      exact hbad a0 h1 p3 p1.symm
    rcases hr3 with ⟨A4, n4, c4, o', rfl, _⟩ | ⟨rfl, _⟩
    · exact ⟨_, _, _, _, rfl, fun h => absurd h (by omega), fun _ => fin _ _ _⟩
    · exact ⟨_, _, _, _, rfl, fun h => absurd h (by omega), fun _ => fin _ _ _⟩
end Go.Proofs.Ytgahfcdmgdnjiaa

/-! block.Read: the walk. -/
namespace Go.Proofs.Ytgahfcdmgdnjiaa
open Go Go.V Go.RowKit
set_option linter.unusedVariables false
set_option linter.unusedSimpArgs false
set_option maxHeartbeats 4000000
set_option maxRecDepth 100000

abbrev badBlk : Value := .tuple #[.slice none 0 0, .slice none 0 0, .int .i64 21]
/-- What block.Read answers of bytes. -/
def BlkRead (x : List Int) (n t0 count : Int) (ev : Ending) (w' : World) : Prop :=
  (∃ (A1 : Option Addr) (n1 c1 : Nat) (A2 : Option Addr) (n2 c2 : Nat) (key : List Edge) (l : List Evt), ev = .returned (.tuple #[.slice A1 n1 c1, .slice A2 n2 c2, .int .i64 0]) ∧ (Row w' A1 (edges key) ∧ n1 = key.length ∧ n1 ≤ c1 ∧ (A1 = none → c1 = 0)) ∧ (Row w' A2 (evts l) ∧ n2 = l.length ∧ n2 ≤ c2 ∧ (A2 = none → c2 = 0)) ∧ l.length ≤ 2 ^ 20 ∧ BlkIs x n t0 count key l) ∨
  (ev = .returned badBlk ∧ ∀ key l, ¬ BlkIs x n t0 count key l)
theorem bread_calls {w : World} {A : Option Addr} {k c : Nat} {x : List Int} {n t0 count : Int} (hr : Row w A (u8s x)) (hk : k = x.length) (hc : k ≤ c) (hb : BytesB x) (hl : x.length < 2 ^ 13) (hcount : count ≤ 9223372036854775807) :
    Calls P 14 #[.slice A k c, .int .u64 n, .int .i64 t0, .int .i64 count] w fun ev w' => w.grownBy w' none ∧ BlkRead x n t0 count ev w' := by
  apply vc14; unfold VC14; try (conv => zeta)
  simp only [InK]
  refine (parts_calls hr hk hc hb (by omega)).mono fun ev w1 hh => ?_
  obtain ⟨A1, n1, c1, A2, n2, c2, ok, rfl, g1, hgood, hbad⟩ := hh
  refine ⟨_, _, _, _, _, _, _, rfl, fun h => ⟨g1, .inr ⟨rfl, fun key l hk => ?_⟩⟩, fun h => ⟨fun hc1 => ⟨g1, .inr ⟨rfl, fun key l hk => ?_⟩⟩, fun hc1 => ?_⟩⟩
  · exact hbad h _ _ (adjB_bytes key) (deltaB_bytes t0 l) hk.eq
  · have h1 := hk.len
    have h2 := hk.ok.ne
    have : l.length ≠ 0 := fun e => h2 (List.eq_nil_of_length_eq_zero e)
    omega
  obtain ⟨a, d, ra, ha, hac, hba, hal, rd, hd, hdc, hbd, hdl, huniq⟩ := hgood (by simpa using h)
  refine (aread_calls (n := n) ra ha hac hba (by omega)).mono fun ev w2 hh => ?_
  obtain ⟨g2, hr2⟩ := hh
  have g02 := grown_trans g1 g2
  rcases hr2 with ⟨A3, n3, c3, key, rfl, rk, hn3, hc3, hA3, hkis⟩ | ⟨rfl, hno⟩
  · refine ⟨_, _, _, _, rfl, (dread_calls (t0 := t0) (count := count) (n := n) (rd.kept_none g2) hd hdc hbd (by omega) hcount).mono fun ev w3 hh => ?_⟩
    obtain ⟨g3, hr3⟩ := hh
    have g03 := grown_trans g02 g3
    rcases hr3 with ⟨A4, n4, c4, l, rfl, rl, hn4, hc4, hA4, hlis⟩ | ⟨rfl, hno⟩
    · refine ⟨_, _, _, _, rfl, fun h => absurd rfl h, fun _ => ⟨fun h => absurd rfl h, fun _ => ?_⟩⟩
      obtain ⟨k1, k2, k3⟩ := hkis
      obtain ⟨l1, l2, l3, l4⟩ := hlis
      have hkl := adjB_ge key
      have hll := (deltaB_len l1).2
      rw [← k3] at hkl
      rw [← l4] at hll
      have hne : l ≠ [] := fun e => by rw [e] at l2; simp at l2; omega
      have ht := l1.t0 hne
      refine (bput_calls (rk.kept_none g3) hn3 rl hn4 (by omega) (by omega) k1.edgesB l1.evtsB (fun _ => by rw [← k3]; omega) (fun _ => by rw [ht, ← l4]; omega)).mono fun ev w4 hh => ?_
      obtain ⟨A5, n5, c5, rfl, o5, g4⟩ := hh
      have g04 := grown_trans g03 g4
      have hB := blkErr_ok k1.edgesB k1.len l1.evtsB
      rw [ht] at hB o5
      have same : ∀ key' l', BlkIs x n t0 count key' l' → key' = key ∧ l' = l := by
        intro key' l' hk'
        obtain ⟨e1, e2⟩ := huniq _ _ (adjB_bytes key') (deltaB_bytes t0 l') hk'.eq
        exact ⟨adjB_inj hk'.ok.adj k1 (by rw [← e1, k3]), deltaB_inj hk'.ok.del l1 (by rw [← e2, l4])⟩
      refine ⟨_, _, _, _, rfl, fun h => ⟨g04, .inr ⟨rfl, fun key' l' hk' => ?_⟩⟩, fun h => ?_⟩
      · obtain ⟨rfl, rfl⟩ := same _ _ hk'
        exact h (hB.2 hk'.ok)
      have hz : blkErr key l = 0 := by simpa using h
      have hok := hB.1 hz
      rw [if_pos hz] at o5
      refine (equal_calls o5.row (u8_len o5) (hr.kept_none g04) hk (blockB_bytes _ _ _) hb).mono fun ev w5 hh => ?_
      obtain ⟨rfl, rfl⟩ := hh
      refine ⟨_, rfl, fun h => ⟨g04, .inr ⟨rfl, fun key' l' hk' => ?_⟩⟩, fun h => ⟨g04, .inl ⟨_, _, _, _, _, _, key, l, rfl, ⟨(rk.kept_none g3).kept_none g4, hn3, hc3, hA3⟩, ⟨rl.kept_none g4, hn4, hc4, hA4⟩, by omega, hok, k2, l3, l2, ?_⟩⟩⟩
      · obtain ⟨rfl, rfl⟩ := same _ _ hk'
        exact of_decide_eq_false h hk'.eq.symm
      · have : decide (blockB t0 key l = x) = true := by simpa using h
        exact (of_decide_eq_true this).symm
    · refine ⟨_, _, _, _, rfl, fun h => absurd rfl h, fun _ => ⟨fun _ => ⟨g03, .inr ⟨rfl, fun key' l' hk' => ?_⟩⟩, fun h => absurd (by omega) h⟩⟩
      obtain ⟨e1, e2⟩ := huniq _ _ (adjB_bytes key') (deltaB_bytes t0 l') hk'.eq
      exact hno l' ⟨hk'.ok.del, hk'.len, hk'.evtV, e2⟩
  · have fin : ∀ key' l', ¬ BlkIs x n t0 count key' l' := fun key' l' hk' => by
      obtain ⟨e1, e2⟩ := huniq _ _ (adjB_bytes key') (deltaB_bytes t0 l') hk'.eq
      exact hno key' ⟨hk'.ok.adj, hk'.keyV, e1⟩
    refine ⟨_, _, _, _, rfl, (dread_calls (t0 := t0) (count := count) (n := n) (rd.kept_none g2) hd hdc hbd (by omega) hcount).mono fun ev w3 hh => ?_⟩
    obtain ⟨g3, hr3⟩ := hh
    have g03 := grown_trans g02 g3
    rcases hr3 with ⟨A4, n4, c4, l, rfl, _⟩ | ⟨rfl, _⟩
    · exact ⟨_, _, _, _, rfl, fun _ => ⟨g03, .inr ⟨rfl, fin⟩⟩, fun h => absurd (by omega) h⟩
    · exact ⟨_, _, _, _, rfl, fun _ => ⟨g03, .inr ⟨rfl, fin⟩⟩, fun h => absurd (by omega) h⟩
/-- A block is read. -/
theorem blk_good {x : List Int} {n t0 count : Int} {key : List Edge} {l : List Evt} {ev : Ending} {w : World} (h : BlkIs x n t0 count key l) (hl : l.length ≤ 2 ^ 50) (hr : BlkRead x n t0 count ev w) :
    ∃ (A1 : Option Addr) (n1 c1 : Nat) (A2 : Option Addr) (n2 c2 : Nat), ev = .returned (.tuple #[.slice A1 n1 c1, .slice A2 n2 c2, .int .i64 0]) ∧ Row w A1 (edges key) ∧ n1 = key.length ∧ Row w A2 (evts l) ∧ n2 = l.length := by
  rcases hr with ⟨A1, n1, c1, A2, n2, c2, key', l', rfl, ⟨h1, h2, _⟩, ⟨h3, h4, _⟩, h5, h6⟩ | ⟨rfl, hno⟩
  · obtain ⟨e1, e2⟩ := h.uniq h6 hl (by omega)
    have e3 := deltaB_inj h.ok.del h6.ok.del e2
    subst e1; subst e3
    exact ⟨_, _, _, _, _, _, rfl, h1, h2, h3, h4⟩
  · exact absurd h (hno _ _)
theorem blk_bad {x : List Int} {n t0 count : Int} {ev : Ending} {w : World} (h : ∀ key l, l.length ≤ 2 ^ 20 → ¬ BlkIs x n t0 count key l) (hr : BlkRead x n t0 count ev w) : ev = .returned badBlk := by
  rcases hr with ⟨A1, n1, c1, A2, n2, c2, key', l', rfl, _, _, h5, h6⟩ | ⟨e, _⟩
  · exact absurd h6 (h _ _ h5)
  · exact e
end Go.Proofs.Ytgahfcdmgdnjiaa

/-! archipelagolaw17: parts, known, now. -/
namespace Go.Proofs.Ytgahfcdmgdnjiaa
open Go Go.V Go.RowKit
set_option linter.unusedVariables false
set_option linter.unusedSimpArgs false
set_option maxHeartbeats 4000000
set_option maxRecDepth 100000

def iP (l : List Evt) (f : Int) : Nat := (f % (l.length : Int)).toNat
def jP (l : List Evt) (f n : Int) : Nat := min (iP l f + (n % 12).toNat + 1) l.length
def keyP (l : List Evt) (f : Int) : List Edge := foldT (l.take (iP l f)) []
def evP (l : List Evt) (f n : Int) : List Evt := (l.drop (iP l f)).take (jP l f n - iP l f)
theorem iP_lt {l : List Evt} {f : Int} (hf : 0 ≤ f) (h : 0 < l.length) : iP l f < l.length ∧ f % (l.length : Int) = (iP l f : Int) := by
  unfold iP
  have h1 := Int.emod_nonneg f (show (l.length : Int) ≠ 0 by omega)
  have h2 := Int.emod_lt_of_pos f (show (0 : Int) < (l.length : Int) by omega)
  omega
/-- A graph and events behind it. -/
structure BlkP (N : Int) (key : List Edge) (x : List Evt) : Prop where
  okh : OkH N x none key
  rise : Rise key
  keyB : ∀ a ∈ key, 0 ≤ a.1 ∧ a.1 < a.2 ∧ a.2 < N
  evB : ∀ e ∈ x, (0 ≤ e.t ∧ e.t ≤ 1125899906842624 * 2) ∧ 0 ≤ e.u ∧ e.u < e.v ∧ e.v < N
  kl : key.length ≤ 40
  xl : x.length ≤ 40
  nl : N ≤ 4294967296
theorem BlkP.edgesB {N : Int} {key : List Edge} {x : List Evt} (h : BlkP N key x) : EdgesB key := fun e he => by have := h.keyB e he; have := h.nl; omega
theorem BlkP.evtsB {N : Int} {key : List Edge} {x : List Evt} (h : BlkP N key x) : EvtsB x := fun e he => by have := h.evB e he; have := h.nl; omega
theorem BlkP.adj {N : Int} {key : List Edge} {x : List Evt} (h : BlkP N key x) : AdjOk key := ⟨h.rise, fun e he => by have := h.keyB e he; have := h.nl; omega, by have := h.kl; omega⟩
theorem BlkP.del {N : Int} {key : List Edge} {x : List Evt} (h : BlkP N key x) : DelOk (t0E x) none x :=
  h.okh.delOk h.nl (fun e he => (h.evB e he).2.1) (fun _ e he => by cases x with | nil => cases he | cons a x => cases he; rfl)
theorem BlkP.ok {N : Int} {key : List Edge} {x : List Evt} (h : BlkP N key x) (hne : x ≠ []) : BlkOk (t0E x) key x := ⟨h.adj, hne, h.del, h.okh.fits⟩
theorem BlkP.is {N : Int} {key : List Edge} {x : List Evt} (h : BlkP N key x) (hne : x ≠ []) : BlkIs (blockB (t0E x) key x) N (t0E x) x.length key x :=
  ⟨h.ok hne, fun e he => (h.keyB e he).2.2, fun e he => (h.evB e he).2.2.2, rfl, rfl⟩
theorem BlkP.err {N : Int} {key : List Edge} {x : List Evt} (h : BlkP N key x) (hne : x ≠ []) : blkErr key x = 0 := (blkErr_ok h.edgesB (by have := h.kl; omega) h.evtsB).2 (h.ok hne)
theorem BlkP.blen {N : Int} {key : List Edge} {x : List Evt} (h : BlkP N key x) (hne : x ≠ []) : (blockB (t0E x) key x).length ≤ 8040 := by
  have h1 := h.kl
  have h2 := h.xl
  have := blockB_len (h.ok hne) (by omega) (by omega)
  omega
theorem BlkP.mk' {N : Int} {l : List Evt} (h : OkH N l none []) (hb : ∀ e ∈ l, (0 ≤ e.t ∧ e.t ≤ 1125899906842624 * 2) ∧ 0 ≤ e.u ∧ e.u < e.v ∧ e.v < N) (hl : l.length ≤ 40) (hN : N ≤ 4294967296) (f n : Int) : BlkP N (keyP l f) (evP l f n) := by
  have hi : ((iP l f : Nat) : Int).toNat = iP l f := by omega
  have ha := afterL_ok (k := ((iP l f : Nat) : Int)) h
  rw [hi] at ha
  refine ⟨((h.drop (iP l f)).take _).free, ha.1, fun a hx => ?_, fun e he => hb e (List.mem_of_mem_drop (List.mem_of_mem_take he)), ?_, ?_, hN⟩
  · obtain ⟨e, he, rfl⟩ := ha.2 a hx
    have := hb e he
    exact ⟨this.2.1, this.2.2⟩
  · have := foldT_len (l.take (iP l f)) []
    unfold keyP
    rw [List.length_take] at this
    simp only [List.length_nil] at this
    omega
  · unfold evP; rw [List.length_take, List.length_drop]; omega
theorem evP_len (l : List Evt) {f n : Int} (hf : 0 ≤ f) : (evP l f n).length = jP l f n - iP l f ∧ (l ≠ [] → evP l f n ≠ []) := by
  unfold evP
  rw [List.length_take, List.length_drop]
  have hj : jP l f n ≤ l.length := by unfold jP; omega
  refine ⟨by omega, fun hne => ?_⟩
  have hl : 0 < l.length := List.length_pos_iff.2 hne
  have h1 := (iP_lt hf hl).1
  have : 0 < jP l f n - iP l f := by unfold jP; omega
  intro e
  have := congrArg List.length e
  rw [List.length_take, List.length_drop] at this
  simp only [List.length_nil] at this
  omega
theorem parts17_calls {w : World} {A : Option Addr} {m c : Nat} {l : List Evt} {N f n : Int} (hr : Row w A (evts l)) (hm : m = l.length) (hc : m ≤ c) (hA : A = none → c = 0) (hl : m ≤ 40) (hb : EvtsU l) (hchk : checkL N l = (0, 0)) (hf : 0 ≤ f ∧ f ≤ 255) (hn : 0 ≤ n ∧ n ≤ 255) :
    Calls P 12 #[.agg #[.int .u64 N, .slice A m c], .int .u8 f, .int .u8 n] w fun ev w' => ∃ (A1 : Option Addr) (n1 c1 : Nat) (A2 : Option Addr) (n2 c2 : Nat), ev = .returned (.tuple #[.slice A1 n1 c1, .slice A2 n2 c2]) ∧ OwnedK w' w.heap.size 39 2 A1 n1 c1 (edges (keyP l f)) ∧ Row w' A2 (evts (evP l f n)) ∧ n2 = (evP l f n).length ∧ n2 ≤ c2 ∧ (A2 = none → c2 = 0) ∧ w.grownBy w' none := by
  apply vc12; unfold VC12; try (conv => zeta)
  simp only [InK]
  have g0 := World.grownBy_alloc w (.cells #[.int .u64 N, .slice A m c] 27) none
  have b0 : (w.alloc (.cells #[.int .u64 N, .slice A m c] 27)).heap[w.heap.size]? = some (.cells #[.int .u64 N, .slice A m c] 27 (0, 0)) := heap_alloc_new w _
  obtain ⟨w0, hw_w0⟩ : ∃ w0, w0 = w.alloc (.cells #[.int .u64 N, .slice A m c] 27) := ⟨_, rfl⟩
  rw [← hw_w0] at g0 b0 ⊢
  refine ⟨_, _, _, blk_cell b0 1, fun h0 => ?_, fun h0 => ?_⟩
  · have : l = [] := List.eq_nil_of_length_eq_zero (by omega)
    subst this
    have hev : evP [] f n = [] := by simp [evP]
    have hke : keyP [] f = [] := by simp [keyP, foldT]
    rw [hev, hke]
    exact ⟨_, _, _, _, _, _, rfl, OwnedK.nil _ _ _ _, Row.nil _ _, rfl, Nat.le_refl _, fun _ => rfl, g0⟩
  have lp : 0 < l.length := by omega
  obtain ⟨hi1, hi2⟩ := iP_lt hf.1 lp
  have he : (m : Int) = (l.length : Int) := by omega
  refine ⟨by omega, _, _, _, blk_cell b0 1, ⟨by omega, by omega⟩, ⟨by omega, by omega⟩, by omega, ?_⟩
  rw [he, hi2]
  refine ⟨by omega, by omega, _, _, _, blk_cell b0 1, _, blk_cell b0 0, _, _, _, blk_cell b0 1, (after_calls (N := N) (k := (iP l f : Int)) (hr.kept_none g0) hm (by omega) hb).mono fun ev w2 hh => ?_⟩
  obtain ⟨A1, n1, c1, rfl, o1, g2⟩ := hh
  have gd := grown_drew (grown_refl w2 none)
  have haf : afterL N l (iP l f) = keyP l f := by
    unfold afterL; rw [hchk, if_neg (by simp)]
    rw [show ((iP l f : Nat) : Int).toNat = iP l f by omega]; rfl
  rw [haf] at o1
  have hj : mn ((iP l f : Int) + n % 12 + 1) (m : Int) = (jP l f n : Int) := by unfold mn jP; split <;> omega
  refine ⟨_, _, _, _, rfl, _, _, _, blk_cell (blk_keep (blk_keep b0 g2) gd) 1, ?_⟩
  rw [hj]
  have hj1 : iP l f ≤ jP l f n ∧ jP l f n ≤ l.length := by unfold jP; omega
  have t1 : ((iP l f : Nat) : Int).toNat = iP l f := by omega
  have t2 : ((jP l f n : Nat) : Int).toNat = jP l f n := by omega
  rw [t1, t2]
  have hr3 := ((hr.kept_none g0).kept_none g2).kept_none gd
  have hcut := cutV (k := iP l f) hr3 hA (by omega)
  refine ⟨⟨by omega, by omega, by omega, by omega⟩, _, _, _, _, _, _, rfl, (o1.kept gd).mono g0.size, takeV4 hcut.1 _, ?_, by omega, hcut.2, grown_trans (grown_trans g0 g2) gd⟩
  rw [(evP_len l hf.1).1]
/-- Turned, one behind another. -/
theorem now17_calls {w : World} {A B : Option Addr} {n c m d : Nat} {l : List Edge} {x : List Evt} (hr : Row w A (edges l)) (hn : n = l.length) (hc : n ≤ c) (hA : A = none → c = 0) (hB : Row w B (evts x)) (hm : m = x.length) (hl : n + m ≤ 2 ^ 20) :
    Calls P 17 #[.slice A n c, .slice B m d] w fun ev w' => ∃ (A' : Option Addr) (n' c' : Nat), ev = .returned (.slice A' n' c') ∧ Row w' A' (edges (foldT x l)) ∧ n' = (foldT x l).length ∧ n' ≤ c' ∧ (A' = none → c' = 0) ∧ w.grownBy w' none := by
  apply vc17; unfold VC17; try (conv => zeta)
  simp only [InK]
  refine ⟨fun mm A n c i w' => ∃ p : Nat, i = (p : Int) ∧ p ≤ x.length ∧ mm = x.length - p ∧ Row w' A (edges (foldT (x.take p) l)) ∧ n = (foldT (x.take p) l).length ∧ n ≤ c ∧ (A = none → c = 0) ∧ w.grownBy w' none,
    ⟨_, 0, rfl, by omega, rfl, hr, hn, hc, hA, grown_refl _ _⟩, ?_⟩
  rintro mm A1 n1 c1 i w1 ⟨p, rfl, hp, rfl, hr1, hn1, hc1, hA1, hg⟩
  have tp : (p : Int).toNat = p := by omega
  rw [tp]
  refine ⟨fun hlt => ?_, fun hge => ?_⟩
  · have lp : p < x.length := by omega
    obtain ⟨a, e1, e2, e3, e4, e5⟩ := evt_at (hB.kept_none hg) lp
    have hfl := foldT_len (x.take p) l
    rw [List.length_take] at hfl
    refine ⟨a, e1, by omega, by omega, _, e2, _, e3, _, e4, _, e5, (turn_calls (e := x[p]) hr1 hn1 hc1 hA1 (by omega)).mono fun ev w2 hh => ?_⟩
    obtain ⟨A2, n2, c2, rfl, o2, g2⟩ := hh
    refine ⟨_, _, _, _, rfl, by omega, x.length - (p + 1), by omega, p + 1, by omega, by omega, rfl, ?_, ?_, owned_le o2, fun h => owned_cap o2 h, grown_trans hg g2⟩
    · rw [List.take_succ_eq_append_getElem lp, foldT_snoc]; exact o2.row
    · rw [List.take_succ_eq_append_getElem lp, foldT_snoc]
      have := o2.cases.1; rw [edges_length] at this; omega
  · have : p = x.length := by omega
    subst this
    rw [List.take_length] at hr1 hn1
    exact ⟨_, _, _, rfl, hr1, hn1, hc1, hA1, hg⟩
theorem known17_calls {w : World} : Calls P 10 #[] w fun ev w' => ev = .returned (.bool true) ∧ w.grownBy w' none := by
  apply vc10; unfold VC10; try (conv => zeta)
  have hP : BlkP 2 [(0, 1)] [⟨5, 0, 1, false⟩] := by
    refine ⟨?_, by simp [Rise], by simp, by simp, by simp, by simp, by omega⟩
    refine ⟨by simp, by decide, fun q hq => (by cases hq), [], by decide, trivial⟩
  have E1 : blkErr [(0, 1)] [⟨5, 0, 1, false⟩] = 0 := hP.err (by simp)
  have E2 : blkErr [] [⟨5, 0, 1, false⟩] = 25 := by decide
  have E3 : blkErr [(0, 1)] [] = 23 := by decide
  have hB : (blockB 5 [(0, 1)] [⟨5, 0, 1, false⟩]).length ≤ 8040 := hP.blen (by simp)
  have hIs : BlkIs (blockB 5 [(0, 1)] [⟨5, 0, 1, false⟩]) 2 5 1 [(0, 1)] [⟨5, 0, 1, false⟩] := hP.is (by simp)
  have hKB := hP.edgesB
  have hEB := hP.evtsB
  have hAO := hP.adj
  have hDO : DelOk 5 none [⟨5, 0, 1, false⟩] := hP.del
  have adj0 : (adjB []).length ≤ 2 ^ 20 := by have := adjB_len (l := []) (fun e he => by simp at he) (by simp); simp at this; omega
  have del0 : (deltaB (t0E []) []).length ≤ 2 ^ 20 := by have := (deltaB_len (t0 := t0E []) (l := []) trivial).1; simp at this; omega
  have adjl : (adjB [(0, 1)]).length ≤ 2 ^ 20 := by have := adjB_len hAO.edgesB hAO.len; simp at this; omega
  have dell : (deltaB 5 [⟨5, 0, 1, false⟩]).length ≤ 2 ^ 20 := by have := (deltaB_len hDO).1; simp at this; omega
  have sE0 : (w.alloc (.cells #[.int .u32 0, .int .u32 0] 39)).heap[w.heap.size]? = some (.cells #[.int .u32 0, .int .u32 0] 39 (0, 0)) := heap_alloc_new w _
  have sE1 := blk_set sE0 0 (.int .u32 (0,1).1)
  have sE2 := blk_set sE1 1 (.int .u32 (0,1).2)
  have bE : (((w.alloc (.cells #[.int .u32 0, .int .u32 0] 39)).setCell ⟨w.heap.size, 0, none⟩ (.int .u32 (0,1).1)).setCell ⟨w.heap.size, 1, none⟩ (.int .u32 (0,1).2)).heap[w.heap.size]? = some (.cells #[.int .u32 (0,1).1, .int .u32 (0,1).2] 39 (0, 0)) := by simpa using sE2
  have gE : w.grownBy (((w.alloc (.cells #[.int .u32 0, .int .u32 0] 39)).setCell ⟨w.heap.size, 0, none⟩ (.int .u32 (0,1).1)).setCell ⟨w.heap.size, 1, none⟩ (.int .u32 (0,1).2)) none := (Kp.grown (set1 (set1 (Kp.of_none (S := fun k => w.heap.size ≤ k) (grown_alloc (grown_refl w none) _)) (Nat.le_refl _)) (Nat.le_refl _)) (fun k hk e => by omega))
  obtain ⟨w1, hE⟩ : ∃ w1, w1 = (((w.alloc (.cells #[.int .u32 0, .int .u32 0] 39)).setCell ⟨w.heap.size, 0, none⟩ (.int .u32 (0,1).1)).setCell ⟨w.heap.size, 1, none⟩ (.int .u32 (0,1).2)) := ⟨_, rfl⟩
  rw [← hE] at bE gE
  simp only at hE bE
  refine ⟨⟨_, blk_cell sE0 0⟩, blk_free sE0 0, ⟨_, blk_cell sE1 1⟩, blk_free sE1 1, ?_⟩
  rw [← hE]
  refine ⟨_, blk_cell bE 0, _, blk_cell bE 1, ?_⟩
  have g2 := World.grownBy_alloc w1 (.cells #[.int .i64 5, .int .u32 0, .int .u32 1, .bool false] 41) none
  have rL : Row (w1.alloc (.cells #[.int .i64 5, .int .u32 0, .int .u32 1, .bool false] 41)) (some ⟨w1.heap.size, 0, none⟩) (evts [⟨5, 0, 1, false⟩]) := row_allocM _ #[.int .i64 5, .int .u32 0, .int .u32 1, .bool false] 41 (0, 0)
  obtain ⟨w2, hw2⟩ : ∃ w2, w2 = w1.alloc (.cells #[.int .i64 5, .int .u32 0, .int .u32 1, .bool false] 41) := ⟨_, rfl⟩
  rw [← hw2] at g2 rL ⊢
  refine ⟨_, blk_cell (blk_keep bE g2) 0, _, blk_cell (blk_keep bE g2) 1, ?_⟩
  have g3 := World.grownBy_alloc w2 (.cells #[.int .u32 0, .int .u32 1] 39) none
  have rK : Row (w2.alloc (.cells #[.int .u32 0, .int .u32 1] 39)) (some ⟨w2.heap.size, 0, none⟩) (edges [(0, 1)]) := row_allocM _ #[.int .u32 0, .int .u32 1] 39 (0, 0)
  obtain ⟨w3, hw3⟩ : ∃ w3, w3 = w2.alloc (.cells #[.int .u32 0, .int .u32 1] 39) := ⟨_, rfl⟩
  rw [← hw3] at g3 rK ⊢
  refine (bput_calls rK rfl (rL.kept_none g3) rfl (by simp) (by simp) hKB hEB (fun _ => adjl) (fun _ => dell)).mono fun ev w4 hh => ?_
  rw [E1, if_pos rfl] at hh
  obtain ⟨A4, n4, c4, rfl, o4, g4⟩ := hh
  refine ⟨_, _, _, _, rfl, (bread_calls (n := 2) (t0 := 5) (count := 1) o4.row (u8_len o4) (owned_le o4) (blockB_bytes _ _ _) (Nat.lt_of_le_of_lt hB (by omega)) (by omega)).mono fun ev w5 hh => ?_⟩
  obtain ⟨g5, hr5⟩ := hh
  obtain ⟨A5, n5, c5, A5', n5', c5', rfl, r5, hn5, r5', hn5'⟩ := blk_good hIs (by simp) hr5
  have g35 := grown_trans (grown_trans g3 g4) g5
  refine ⟨_, _, _, _, _, _, _, rfl, (bput_calls (key := []) (Row.nil _ _) rfl (rL.kept_none g35) rfl (by simp) (by simp) (fun e he => by simp at he) hEB (fun _ => adj0) (fun _ => dell)).mono fun ev w6 hh => ?_⟩
  rw [E2, if_neg (by omega)] at hh
  obtain ⟨A6, n6, c6, rfl, _, g6⟩ := hh
  have b6 := blk_keep (blk_keep (blk_keep bE g2) g35) g6
  refine ⟨_, _, _, _, rfl, _, blk_cell b6 0, _, blk_cell b6 1, ?_⟩
  have g7 := World.grownBy_alloc w6 (.cells #[.int .u32 0, .int .u32 1] 39) none
  have rK' : Row (w6.alloc (.cells #[.int .u32 0, .int .u32 1] 39)) (some ⟨w6.heap.size, 0, none⟩) (edges [(0, 1)]) := row_allocM _ #[.int .u32 0, .int .u32 1] 39 (0, 0)
  obtain ⟨w7, hw7⟩ : ∃ w7, w7 = w6.alloc (.cells #[.int .u32 0, .int .u32 1] 39) := ⟨_, rfl⟩
  rw [← hw7] at g7 rK' ⊢
  refine (bput_calls (l := []) rK' rfl (Row.nil _ _) rfl (by simp) (by simp) hKB (fun e he => by simp at he) (fun _ => adjl) (fun _ => del0)).mono fun ev w8 hh => ?_
  rw [E3, if_neg (by omega)] at hh
  obtain ⟨A8, n8, c8, rfl, _, g8⟩ := hh
  have gd := grown_drew (grown_refl w8 none)
  have g58 := grown_trans (grown_trans (grown_trans g6 g7) g8) gd
  have b8 := blk_keep b6 (grown_trans (grown_trans g7 g8) gd)
  obtain ⟨a, e1, e2, e3⟩ := edge_at (r5.kept_none g58) (show 0 < [((0 : Int), (1 : Int))].length by simp)
  rw [Nat.zero_mul, add0] at e2 e3
  have gall := grown_trans (grown_trans (grown_trans gE g2) g35) g58
  refine ⟨_, _, _, _, rfl, fun _ => ⟨fun _ => ⟨fun _ => ⟨a, e1, by omega, by omega, _, e2, _, e3, _, blk_cell b8 0, _, blk_cell b8 1, _, fun w => run_eqE _ _ _ _ _ _ w, fun _ => ?_, fun h => ?_⟩, fun h => absurd (by rw [hn5]; rfl) h⟩, fun h => absurd rfl h⟩, fun h => absurd rfl h⟩
  · refine (sameEvents_calls (r5'.kept_none g58) hn5' ((rL.kept_none g35).kept_none g58) rfl (by rw [hn5']; simp)).mono fun ev w9 hh => ?_
    obtain ⟨rfl, g9⟩ := hh
    exact ⟨_, rfl, fun _ => ⟨fun _ => ⟨rfl, grown_trans gall g9⟩, fun h => absurd rfl h⟩, fun h => by simp at h⟩
  · simp at h
end Go.Proofs.Ytgahfcdmgdnjiaa

/-! archipelagolaw17.BlockBack: the walk. -/
namespace Go.Proofs.Ytgahfcdmgdnjiaa
open Go Go.V Go.RowKit
set_option linter.unusedVariables false
set_option linter.unusedSimpArgs false
set_option maxHeartbeats 4000000
set_option maxRecDepth 100000

theorem BlkP.adjl {N : Int} {key : List Edge} {x : List Evt} (h : BlkP N key x) : (adjB key).length ≤ 2 ^ 20 := by have := adjB_len h.edgesB h.adj.len; have := h.kl; omega
theorem BlkP.dell {N : Int} {key : List Edge} {x : List Evt} (h : BlkP N key x) : (deltaB (t0E x) x).length ≤ 2 ^ 20 := by have := (deltaB_len h.del).1; have := h.xl; omega
/-- Nothing behind a block, no event more, and not none. -/
theorem back_more {t0 n t1 c1 : Int} {key : List Edge} {x : List Evt} {more : List Int} (h : BlkOk t0 key x) (hl : x.length ≤ 2 ^ 50) (hm : more ≠ []) : ∀ key' l', l'.length ≤ 2 ^ 20 → ¬ BlkIs (blockB t0 key x ++ more) n t1 c1 key' l' := by
  intro key' l' hl' hk
  have := blockB_pre (s := more) (s' := []) h hk.ok hl (by omega) (by rw [hk.eq, List.append_nil])
  exact hm this.2.2
theorem back_count {t0 n c1 : Int} {key : List Edge} {x : List Evt} (h : BlkOk t0 key x) (hl : x.length ≤ 2 ^ 50) (hc : c1 ≠ x.length) : ∀ key' l', l'.length ≤ 2 ^ 20 → ¬ BlkIs (blockB t0 key x) n t0 c1 key' l' := by
  intro key' l' hl' hk
  have := blockB_pre (s := []) (s' := []) h hk.ok hl (by omega) (by rw [hk.eq])
  have e := deltaB_inj h.del hk.ok.del this.2.1
  subst e
  exact hc hk.len.symm
theorem first_t {w : World} {a : Addr} {l : List Evt} (h : Row w (some a) (evts l)) (hne : l ≠ []) {w' : World} (hg : w.grownBy w' none) : w'.cell? a = some (.int .i64 (t0E l)) := by
  cases l with
  | nil => exact absurd rfl hne
  | cons e l =>
    obtain ⟨b, e1, e2, _⟩ := evt_at (h.kept_none hg) (show 0 < (e :: l).length by simp)
    cases e1
    rw [Nat.zero_mul, add0] at e2
    exact e2
theorem walkBlockBack {w : World} {A B : Option Addr} {n c m d : Nat} {l more : List Int} {k f nn : Int} (hk : 0 ≤ k ∧ k ≤ 255) (hrow : Row w A (u8s l)) (hn : n = l.length) (hb : BytesB l) (hf : 0 ≤ f ∧ f ≤ 255) (hnn : 0 ≤ nn ∧ nn ≤ 255) (hmore : Row w B (u8s more)) (hm : m = more.length) (hmb : BytesB more) :
    Calls P 3 #[.int .u8 k, .slice A n c, .int .u8 f, .int .u8 nn, .slice B m d] w fun ev w' => ev = .returned (.bool true) ∧ w.grownBy w' none := by
  apply vc3; unfold VC3; try (conv => zeta)
  simp only [InK]
  refine known17_calls.mono fun ev w1 hh => ?_
  obtain ⟨rfl, g1⟩ := hh
  refine ⟨true, rfl, fun h => absurd h (by simp), fun _ => ⟨fun _ => ⟨by trivial, g1⟩, fun h90 => ⟨fun _ => ⟨by trivial, g1⟩, fun h10 => ⟨fun _ => ⟨by trivial, g1⟩, fun h0 => ?_⟩⟩⟩⟩
  have hB : ∃ b, B = some b := by
    obtain ⟨b, e, _⟩ := hmore.blk (by simp; intro e; subst e; simp at hm; omega)
    exact ⟨b, e⟩
  obtain ⟨bB, rfl⟩ := hB
  have hmne : more ≠ [] := fun e => by subst e; simp at hm; omega
  refine (history_calls (hrow.kept_none g1) hn hb hk (by omega)).mono fun ev w2 hh => ?_
  have hNl := vertL_is k
  have hHl := historyL_length k l
  have hHi := historyL_is (k := k) hb (by omega)
  have hHc := historyL_check (k := k) hb (by omega)
  obtain ⟨L, hL⟩ : ∃ L, L = historyL k l := ⟨_, rfl⟩
  obtain ⟨N, hN⟩ : ∃ N, N = vertL k := ⟨_, rfl⟩
  rw [← hL, ← hN] at hh hHi hHc
  rw [← hL] at hHl
  rw [← hN] at hNl
  obtain ⟨A2, n2, c2, rfl, o2, g2⟩ := hh
  have hn2 : n2 = L.length := by have := o2.cases.1; rw [evts_length] at this; omega
  have sH0 : (w2.alloc (.cells #[.int .u64 0, .slice none 0 0] 27)).heap[w2.heap.size]? = some (.cells #[.int .u64 0, .slice none 0 0] 27 (0, 0)) := heap_alloc_new w2 _
  have sH1 := blk_set sH0 0 (.int .u64 N)
  have sH2 := blk_set sH1 1 (.slice A2 n2 c2)
  have bH : (((w2.alloc (.cells #[.int .u64 0, .slice none 0 0] 27)).setCell ⟨w2.heap.size, 0, none⟩ (.int .u64 N)).setCell ⟨w2.heap.size, 1, none⟩ (.slice A2 n2 c2)).heap[w2.heap.size]? = some (.cells #[.int .u64 N, .slice A2 n2 c2] 27 (0, 0)) := by simpa using sH2
  have gH : w2.grownBy (((w2.alloc (.cells #[.int .u64 0, .slice none 0 0] 27)).setCell ⟨w2.heap.size, 0, none⟩ (.int .u64 N)).setCell ⟨w2.heap.size, 1, none⟩ (.slice A2 n2 c2)) none := (Kp.grown (set1 (set1 (Kp.of_none (S := fun k => w2.heap.size ≤ k) (grown_alloc (grown_refl w2 none) _)) (Nat.le_refl _)) (Nat.le_refl _)) (fun k hk e => by omega))
  obtain ⟨w3, hH⟩ : ∃ w3, w3 = (((w2.alloc (.cells #[.int .u64 0, .slice none 0 0] 27)).setCell ⟨w2.heap.size, 0, none⟩ (.int .u64 N)).setCell ⟨w2.heap.size, 1, none⟩ (.slice A2 n2 c2)) := ⟨_, rfl⟩
  rw [← hH] at bH gH
  refine ⟨_, _, _, _, rfl, ⟨_, blk_cell sH0 0⟩, blk_free sH0 0, ⟨_, blk_cell sH1 1⟩, blk_free sH1 1, ?_⟩
  rw [← hH]
  have hP : BlkP N (keyP L f) (evP L f nn) := BlkP.mk' hHi.1 hHi.2 hHl hNl.2 f nn
  refine ⟨_, blk_cell bH 0, _, _, _, blk_cell bH 1, (parts17_calls (f := f) (n := nn) (o2.kept gH).row hn2 (owned_le o2) (owned_cap o2) (by omega) (fun e he => by have := hHi.2 e he; omega) hHc hf hnn).mono fun ev w4 hh => ?_⟩
  obtain ⟨key, hkey⟩ : ∃ key, key = keyP L f := ⟨_, rfl⟩
  obtain ⟨x, hx⟩ : ∃ x, x = evP L f nn := ⟨_, rfl⟩
  rw [← hkey, ← hx] at hh hP
  obtain ⟨A4, n4, c4, A5, n5, c5, rfl, o4, r5, hn5, hc5, hA5, g4⟩ := hh
  have hn4 : n4 = key.length := by have := o4.cases.1; rw [edges_length] at this; omega
  have hkl := hP.kl
  have hxl := hP.xl
  have g14 := grown_trans (grown_trans (grown_trans g1 g2) gH) g4
  refine ⟨_, _, _, _, _, _, rfl, (bput_calls o4.row hn4 r5 hn5 (by omega) (by omega) hP.edgesB hP.evtsB (fun _ => hP.adjl) (fun _ => hP.dell)).mono fun ev w5 hh => ?_⟩
  by_cases hne : x = []
  · have e23 : blkErr key x = 23 := by unfold blkErr; rw [if_pos (.inr hne)]
    rw [e23, if_neg (by omega)] at hh
    obtain ⟨A6, n6, c6, rfl, o6, g5⟩ := hh
    have n60 := u8_len o6
    simp only [List.length_nil] at n60
    refine ⟨_, _, _, _, rfl, fun _ => ⟨fun _ => ⟨by simp [n60], grown_trans g14 g5⟩, fun h => absurd rfl h⟩, fun h => absurd ?_ h⟩
    rw [hn5, hne]; rfl
  rw [hP.err hne, if_pos rfl] at hh
  obtain ⟨A6, n6, c6, rfl, o6, g5⟩ := hh
  have hblen := hP.blen hne
  have hok := hP.ok hne
  have hIs := hP.is hne
  obtain ⟨t, ht⟩ : ∃ t, t = t0E x := ⟨_, rfl⟩
  rw [← ht] at o6 hblen hok hIs
  have hx0 : 0 < x.length := List.length_pos_iff.2 hne
  have hA5' : ∃ a, A5 = some a := by
    obtain ⟨a, e1, _⟩ := evt_at r5 hx0
    exact ⟨a, e1⟩
  obtain ⟨a5, rfl⟩ := hA5'
  have hT : ∀ W, w4.grownBy W none → W.cell? a5 = some (.int .i64 t) := fun W g => by rw [ht]; exact first_t r5 hne g
  have hcN : ∀ W, w4.grownBy W none → W.cell? ⟨w2.heap.size, 0, none⟩ = some (.int .u64 N) := fun W g => blk_cell (blk_keep (blk_keep bH g4) g) 0
  have gd5 := grown_drew g5
  have cnt : ((n5 : Nat) : Int) = (x.length : Int) := by omega
  refine ⟨_, _, _, _, rfl, fun h => by omega, fun _ => ⟨_, hcN _ gd5, a5, rfl, by omega, by omega, _, hT _ gd5, ?_⟩⟩
  have hb6 := blockB_bytes t key x
  have g55 := grown_drew (grown_refl w5 none)
  refine (bread_calls (n := N) (t0 := t) (count := (n5 : Int)) (o6.kept g55).row (u8_len o6) (owned_le o6) hb6 (by omega) (by omega)).mono fun ev w6 hh => ?_
  obtain ⟨g6, hr6⟩ := hh
  rw [cnt] at hr6
  obtain ⟨A7, n7, c7, A8, n8, c8, rfl, r7, hn7, r8, hn8⟩ := blk_good hIs (by omega) hr6
  obtain ⟨w7, hw7⟩ : ∃ w7, w7 = w6.drew := ⟨_, rfl⟩
  have g7 : w6.grownBy w7 none := by rw [hw7]; exact grown_drew (grown_refl w6 none)
  have g57 := grown_trans (grown_trans g55 g6) g7
  have g47 := grown_trans g5 g57
  refine ⟨_, _, _, _, _, _, _, rfl, fun W => w7.grownBy W none, by rw [← hw7]; exact grown_refl _ _, ?_⟩
  rw [← hw7]
  obtain ⟨B1, m1, d1, w8, e1, e2, e3, e4⟩ := append_bytes (n := 0) (c := 0) (A := none) (xs := []) (OwnedK.nil w7 w7.heap.size 5 1) ((o6.kept g57).row) (u8_len o6) (owned_cap o6) (by have := u8_len o6; omega) (Nat.le_refl _)
  have g8 : w7.grownBy w8 none := grown_own (grown_refl w7 none) e3 (fun k hk => by simp [Value.ownBlock] at hk)
  have m1l := u8_len e2
  rw [List.nil_append] at e2 m1l
  obtain ⟨B2, m2, d2, w9, f1, f2, f3, f4⟩ := append_bytes e2 (((hmore.kept_none g14).kept_none g47).kept_none g8) hm (fun h => by cases h) (by omega) g8.size
  have g9 := grown_own g8 f3 e2.block_ge
  refine ⟨_, _, _, w8, e1, g8, _, _, _, w9, f1, g9, _, fun W g => hcN W (grown_trans g47 g), a5, rfl, by omega, by omega, _, fun W g => hT W (grown_trans g47 g), ?_⟩
  have hxb : BytesB (blockB t key x ++ more) := fun y hy => by
    rcases List.mem_append.1 hy with e | e
    · exact hb6 y e
    · exact hmb y e
  refine (bread_calls (n := N) (t0 := t) (count := (n5 : Int)) f2.row (u8_len f2) (owned_le f2) hxb (by rw [List.length_append]; omega) (by omega)).mono fun ev w10 hh => ?_
  obtain ⟨g10, hr10⟩ := hh
  have hbad := blk_bad (back_more hok (by omega) hmne) hr10
  subst hbad
  have g710 := grown_trans g9 g10
  have gd10 := grown_drew g710
  have g410 := grown_trans g47 gd10
  refine ⟨_, _, _, _, _, _, _, rfl, g710, _, hcN _ g410, a5, rfl, by omega, by omega, _, hT _ g410, by omega, ?_⟩
  refine (bread_calls (n := N) (t0 := t) (count := (n5 : Int) + 1) ((o6.kept g57).kept gd10).row (u8_len o6) (owned_le o6) hb6 (by omega) (by omega)).mono fun ev w11 hh => ?_
  obtain ⟨g11, hr11⟩ := hh
  have hbad := blk_bad (back_count hok (by omega) (by omega)) hr11
  subst hbad
  have g711 := grown_trans gd10 g11
  have gd11 := grown_drew g711
  have g411 := grown_trans g47 gd11
  refine ⟨_, _, _, _, _, _, _, rfl, _, hcN _ g411, a5, rfl, by omega, by omega, _, hT _ g411, ?_⟩
  refine (bread_calls (n := N) (t0 := t) (count := 0) ((o6.kept g57).kept gd11).row (u8_len o6) (owned_le o6) hb6 (by omega) (by omega)).mono fun ev w12 hh => ?_
  obtain ⟨g12, hr12⟩ := hh
  have hbad := blk_bad (back_count hok (by omega) (by omega)) hr12
  subst hbad
  have g712 := grown_trans gd11 g12
  have g612 := grown_trans g7 g712
  have g412 := grown_trans g47 g712
  refine ⟨_, _, _, _, _, _, _, rfl, fun _ => ⟨fun _ => ?_, fun h => absurd rfl h⟩, fun h => absurd rfl h⟩
  refine (sameEdges_calls (r7.kept_none g612) hn7 ((o4.kept g412).row) hn4 (by omega)).mono fun ev w13 hh => ?_
  obtain ⟨rfl, g13⟩ := hh
  refine ⟨_, rfl, fun _ => ?_, fun h => by simp at h⟩
  refine (sameEvents_calls ((r8.kept_none g612).kept_none g13) hn8 ((r5.kept_none g412).kept_none g13) hn5 (by omega)).mono fun ev w14 hh => ?_
  obtain ⟨rfl, g14'⟩ := hh
  exact ⟨_, rfl, fun _ => ⟨fun _ => ⟨fun _ => ⟨rfl, grown_trans g14 (grown_trans g412 (grown_trans g13 g14'))⟩, fun h => absurd rfl h⟩, fun h => absurd rfl h⟩, fun h => by simp at h⟩
end Go.Proofs.Ytgahfcdmgdnjiaa

/-! archipelagolaw17.BlockVertices: the walk. -/
namespace Go.Proofs.Ytgahfcdmgdnjiaa
open Go Go.V Go.RowKit
set_option linter.unusedVariables false
set_option linter.unusedSimpArgs false
set_option maxHeartbeats 4000000
set_option maxRecDepth 100000

theorem fitsL_later (d : Int) : ∀ (l : List Evt) (now : List Edge), fitsL now (l.map (laterE d)) = fitsL now l
  | [], now => rfl
  | e :: l, now => by
    rw [List.map_cons, fitsL, fitsL]
    have : turnL now (laterE d e) = turnL now e := rfl
    rw [this]
    cases turnL now e with
    | none => rfl
    | some x => exact fitsL_later d l x
/-- The same events, later. -/
theorem BlkP.later {N t n : Int} {key : List Edge} {x : List Evt} (h : BlkP N key x) (hne : x ≠ []) (ht : t = t0E x) (hk : ∀ e ∈ key, e.2 < n) (hx : ∀ e ∈ x, e.v < n) : BlkIs (blockB t key x) n (t + 1) x.length key (x.map (laterE 1)) := by
  subst ht
  refine ⟨⟨h.adj, by simpa using hne, ?_, ?_⟩, hk, fun e he => ?_, by simp, ?_⟩
  · exact h.del.later (d := 1) (p := none) fun e he => by have := h.evB e he; omega
  · rw [fitsL_later]; exact h.okh.fits
  · obtain ⟨a, ha, rfl⟩ := List.mem_map.1 he
    exact hx a ha
  · unfold blockB deltaB
    have := dBits_later (t0E x) 1 x none
    rw [Option.map_none] at this
    rw [this]
theorem t0E_later {x : List Evt} (hne : x ≠ []) : t0E (x.map (laterE 1)) = t0E x + 1 := by
  cases x with
  | nil => exact absurd rfl hne
  | cons e x => rfl
theorem mx_is (a b : Int) : a ≤ mx a b ∧ b ≤ mx a b ∧ (mx a b = a ∨ mx a b = b) := by unfold mx; split <;> omega
theorem walkBlockVertices {w : World} {A : Option Addr} {n c : Nat} {l : List Int} {k f nn : Int} (hk : 0 ≤ k ∧ k ≤ 255) (hrow : Row w A (u8s l)) (hn : n = l.length) (hb : BytesB l) (hf : 0 ≤ f ∧ f ≤ 255) (hnn : 0 ≤ nn ∧ nn ≤ 255) :
    Calls P 5 #[.int .u8 k, .slice A n c, .int .u8 f, .int .u8 nn] w fun ev w' => ev = .returned (.bool true) ∧ w.grownBy w' none := by
  apply vc5; unfold VC5; try (conv => zeta)
  simp only [InK]
  refine known17_calls.mono fun ev w1 hh => ?_
  obtain ⟨rfl, g1⟩ := hh
  refine ⟨true, rfl, fun h => absurd h (by simp), fun _ => ⟨fun _ => ⟨by trivial, g1⟩, fun h90 => ?_⟩⟩
  refine (history_calls (hrow.kept_none g1) hn hb hk (by omega)).mono fun ev w2 hh => ?_
  have hNl := vertL_is k
  have hHl := historyL_length k l
  have hHi := historyL_is (k := k) hb (by omega)
  have hHc := historyL_check (k := k) hb (by omega)
  obtain ⟨L, hL⟩ : ∃ L, L = historyL k l := ⟨_, rfl⟩
  obtain ⟨N, hN⟩ : ∃ N, N = vertL k := ⟨_, rfl⟩
  rw [← hL, ← hN] at hh hHi hHc
  rw [← hL] at hHl
  rw [← hN] at hNl
  obtain ⟨A2, n2, c2, rfl, o2, g2⟩ := hh
  have hn2 : n2 = L.length := by have := o2.cases.1; rw [evts_length] at this; omega
  have sH0 : (w2.alloc (.cells #[.int .u64 0, .slice none 0 0] 27)).heap[w2.heap.size]? = some (.cells #[.int .u64 0, .slice none 0 0] 27 (0, 0)) := heap_alloc_new w2 _
  have sH1 := blk_set sH0 0 (.int .u64 N)
  have sH2 := blk_set sH1 1 (.slice A2 n2 c2)
  have bH : (((w2.alloc (.cells #[.int .u64 0, .slice none 0 0] 27)).setCell ⟨w2.heap.size, 0, none⟩ (.int .u64 N)).setCell ⟨w2.heap.size, 1, none⟩ (.slice A2 n2 c2)).heap[w2.heap.size]? = some (.cells #[.int .u64 N, .slice A2 n2 c2] 27 (0, 0)) := by simpa using sH2
  have gH : w2.grownBy (((w2.alloc (.cells #[.int .u64 0, .slice none 0 0] 27)).setCell ⟨w2.heap.size, 0, none⟩ (.int .u64 N)).setCell ⟨w2.heap.size, 1, none⟩ (.slice A2 n2 c2)) none := (Kp.grown (set1 (set1 (Kp.of_none (S := fun k => w2.heap.size ≤ k) (grown_alloc (grown_refl w2 none) _)) (Nat.le_refl _)) (Nat.le_refl _)) (fun k hk e => by omega))
  obtain ⟨w3, hH⟩ : ∃ w3, w3 = (((w2.alloc (.cells #[.int .u64 0, .slice none 0 0] 27)).setCell ⟨w2.heap.size, 0, none⟩ (.int .u64 N)).setCell ⟨w2.heap.size, 1, none⟩ (.slice A2 n2 c2)) := ⟨_, rfl⟩
  rw [← hH] at bH gH
  refine ⟨_, _, _, _, rfl, ⟨_, blk_cell sH0 0⟩, blk_free sH0 0, ⟨_, blk_cell sH1 1⟩, blk_free sH1 1, ?_⟩
  rw [← hH]
  have hP : BlkP N (keyP L f) (evP L f nn) := BlkP.mk' hHi.1 hHi.2 hHl hNl.2 f nn
  refine ⟨_, blk_cell bH 0, _, _, _, blk_cell bH 1, (parts17_calls (f := f) (n := nn) (o2.kept gH).row hn2 (owned_le o2) (owned_cap o2) (by omega) (fun e he => by have := hHi.2 e he; omega) hHc hf hnn).mono fun ev w4 hh => ?_⟩
  obtain ⟨key, hkey⟩ : ∃ key, key = keyP L f := ⟨_, rfl⟩
  obtain ⟨x, hx⟩ : ∃ x, x = evP L f nn := ⟨_, rfl⟩
  rw [← hkey, ← hx] at hh hP
  obtain ⟨A4, n4, c4, A5, n5, c5, rfl, o4, r5, hn5, hc5, hA5, g4⟩ := hh
  have hn4 : n4 = key.length := by have := o4.cases.1; rw [edges_length] at this; omega
  have hkl := hP.kl
  have hxl := hP.xl
  have g14 := grown_trans (grown_trans (grown_trans g1 g2) gH) g4
  refine ⟨_, _, _, _, _, _, rfl, fun h => ⟨by trivial, g14⟩, fun h => ?_⟩
  have hne : x ≠ [] := fun e => by rw [e] at hn5; simp at hn5; omega
  have hEr : blkErr key x = 0 := hP.err hne
  have hx0 : 0 < x.length := List.length_pos_iff.2 hne
  have hA5' : ∃ a, A5 = some a := by
    obtain ⟨a, e1, _⟩ := evt_at r5 hx0
    exact ⟨a, e1⟩
  obtain ⟨a5, rfl⟩ := hA5'
  refine ⟨fun mm top i w' => ∃ p : Nat, i = (p : Int) ∧ p ≤ key.length ∧ mm = key.length - p ∧ w' = w4 ∧ (0 ≤ top ∧ top ≤ 4294967295) ∧ (∀ j (hj : j < key.length), j < p → key[j].2 ≤ top) ∧ (top = 0 ∨ ∃ e ∈ key, e.2 = top),
    ⟨_, 0, rfl, by omega, rfl, rfl, by omega, fun j hj h => by omega, .inl rfl⟩, ?_⟩
  rintro mm top i w5 ⟨p, rfl, hp, rfl, rfl, htop, hall, hex⟩
  have tp : (p : Int).toNat = p := by omega
  rw [tp]
  refine ⟨fun hlt => ?_, fun hge => ?_⟩
  · have lp : p < key.length := by omega
    obtain ⟨a, e1, e2, e3⟩ := edge_at o4.row lp
    have hkb := hP.edgesB _ (List.getElem_mem lp)
    have hm := mx_is top key[p].2
    refine ⟨a, e1, by omega, by omega, _, e3, by omega, by omega, key.length - (p + 1), by omega, p + 1, by omega, by omega, rfl, rfl, by omega, fun j hj h => ?_, ?_⟩
    · by_cases hjp : j = p
      · subst hjp; exact hm.2.1
      · have := hall j hj (by omega); omega
    · rcases hm.2.2 with e | e
      · rw [e]; exact hex
      · exact .inr ⟨_, List.getElem_mem lp, e.symm⟩
  have hpk : p = key.length := by omega
  subst hpk
  have hkall : ∀ e ∈ key, e.2 ≤ top := fun e he => by
    obtain ⟨j, hj, rfl⟩ := List.mem_iff_getElem.1 he
    exact hall j hj hj
  refine ⟨fun mm top i w' => ∃ p : Nat, i = (p : Int) ∧ p ≤ x.length ∧ mm = x.length - p ∧ w' = w5 ∧ (0 ≤ top ∧ top ≤ 4294967295) ∧ (∀ e ∈ key, e.2 ≤ top) ∧ (∀ j (hj : j < x.length), j < p → x[j].v ≤ top) ∧ (top = 0 ∨ (∃ e ∈ key, e.2 = top) ∨ ∃ e ∈ x, e.v = top),
    ⟨_, 0, rfl, by omega, rfl, rfl, htop, hkall, fun j hj h => by omega, hex.imp id .inl⟩, ?_⟩
  clear hall hex hkall htop
  rintro mm top i w6 ⟨p, rfl, hp, rfl, rfl, htop, hkall, hall, hex⟩
  have tp : (p : Int).toNat = p := by omega
  rw [tp]
  refine ⟨fun hlt => ?_, fun hge => ?_⟩
  · have lp : p < x.length := by omega
    obtain ⟨a, e1, e2, e3, e4, e5⟩ := evt_at r5 lp
    have hxb := hP.evtsB _ (List.getElem_mem lp)
    have hm := mx_is top x[p].v
    have e4' : w6.cell? (((a.add (p * 4)).add 1).add 1) = some (.int .u32 x[p].v) := by rw [add_add (a.add (p * 4)) 1 1]; exact e4
    refine ⟨a, e1, by omega, by omega, _, e4', by omega, by omega, x.length - (p + 1), by omega, p + 1, by omega, by omega, rfl, rfl, by omega, fun e he => by have := hkall e he; omega, fun j hj h => ?_, ?_⟩
    · by_cases hjp : j = p
      · subst hjp; exact hm.2.1
      · have := hall j hj (by omega); omega
    · rcases hm.2.2 with e | e
      · rw [e]; exact hex
      · exact .inr (.inr ⟨_, List.getElem_mem lp, e.symm⟩)
  have hpk : p = x.length := by omega
  subst hpk
  have hxall : ∀ e ∈ x, e.v ≤ top := fun e he => by
    obtain ⟨j, hj, rfl⟩ := List.mem_iff_getElem.1 he
    exact hall j hj hj
  have hbl := hP.blen hne
  have hok := hP.ok hne
  have hIs0 := hP.is hne
  obtain ⟨t, ht⟩ : ∃ t, t = t0E x := ⟨_, rfl⟩
  have htb : 0 ≤ t ∧ t ≤ 1125899906842624 * 2 := by
    rw [ht]
    cases x with
    | nil => exact absurd rfl hne
    | cons e x => exact (hP.evB e (by simp)).1
  have hIs : BlkIs (blockB t key x) (top + 1) t x.length key x := ⟨by rw [ht]; exact hok, fun e he => by have := hkall e he; omega, fun e he => by have := hxall e he; omega, rfl, rfl⟩
  have hIs2 : BlkIs (blockB t key x) (top + 1) (t + 1) x.length key (x.map (laterE 1)) := hP.later hne ht (fun e he => by have := hkall e he; omega) (fun e he => by have := hxall e he; omega)
  have hNo : ∀ key' l', l'.length ≤ 2 ^ 20 → ¬ BlkIs (blockB t key x) top t x.length key' l' := by
    intro key' l' hl' hk'
    obtain ⟨e1, e2⟩ := hIs.uniq hk' (by omega) (by omega)
    have e3 := deltaB_inj hIs.ok.del hk'.ok.del e2
    subst e1; subst e3
    rcases hex with h0 | ⟨e, he, h1⟩ | ⟨e, he, h1⟩
    · have h2 := hxall _ (List.getElem_mem hx0)
      have h3 := hP.evB _ (List.getElem_mem hx0)
      omega
    · have := hk'.keyV e he; omega
    · have := hk'.evtV e he; omega
  have hT : ∀ W, w6.grownBy W none → W.cell? a5 = some (.int .i64 t) := fun W g => by rw [ht]; exact first_t r5 hne g
  have cnt : ((n5 : Nat) : Int) = (x.length : Int) := by omega
  refine (bput_calls o4.row hn4 r5 hn5 (by omega) (by omega) hP.edgesB hP.evtsB (fun _ => hP.adjl) (fun _ => hP.dell)).mono fun ev w7 hh => ?_
  rw [hEr, if_pos rfl, ← ht] at hh
  obtain ⟨A6, n6, c6, rfl, o6, g7⟩ := hh
  rw [← ht] at hbl
  have hb6 := blockB_bytes t key x
  refine ⟨_, _, _, _, rfl, by omega, a5, rfl, by omega, by omega, _, hT _ g7, (bread_calls (n := top + 1) (t0 := t) (count := (n5 : Int)) o6.row (u8_len o6) (owned_le o6) hb6 (by omega) (by omega)).mono fun ev w8 hh => ?_⟩
  obtain ⟨g8, hr8⟩ := hh
  rw [cnt] at hr8
  obtain ⟨A8, n8, c8, A8', n8', c8', rfl, r8, hn8, r8', hn8'⟩ := blk_good hIs (by omega) hr8
  have g68 := grown_trans g7 g8
  refine ⟨_, _, _, _, _, _, _, rfl, a5, rfl, by omega, by omega, _, hT _ g68, (bread_calls (n := top) (t0 := t) (count := (n5 : Int)) (o6.kept g8).row (u8_len o6) (owned_le o6) hb6 (by omega) (by omega)).mono fun ev w9 hh => ?_⟩
  obtain ⟨g9, hr9⟩ := hh
  rw [cnt] at hr9
  have hbad := blk_bad hNo hr9
  subst hbad
  have g79 := grown_trans g8 g9
  have g69 := grown_trans g7 g79
  refine ⟨_, _, _, _, _, _, _, rfl, by omega, a5, rfl, by omega, by omega, _, hT _ g69, by omega, (bread_calls (n := top + 1) (t0 := t + 1) (count := (n5 : Int)) (o6.kept g79).row (u8_len o6) (owned_le o6) hb6 (by omega) (by omega)).mono fun ev w10 hh => ?_⟩
  obtain ⟨g10, hr10⟩ := hh
  rw [cnt] at hr10
  obtain ⟨A10, n10, c10, A10', n10', c10', rfl, r10, hn10, r10', hn10'⟩ := blk_good hIs2 (by rw [List.length_map]; omega) hr10
  rw [List.length_map] at hn10'
  have gd := grown_drew (grown_refl w10 none)
  have g810 := grown_trans (grown_trans g9 g10) gd
  have g610 := grown_trans g68 g810
  refine ⟨_, _, _, _, _, _, _, rfl, fun _ => ⟨fun _ => ?_, fun h => absurd rfl h⟩, fun h => absurd rfl h⟩
  refine (sameEvents_calls (r8'.kept_none g810) hn8' (r5.kept_none g610) hn5 (by omega)).mono fun ev w11 hh => ?_
  obtain ⟨rfl, g11⟩ := hh
  refine ⟨_, rfl, fun _ => ⟨fun _ => ⟨fun _ => ?_, fun h => absurd rfl h⟩, fun h => absurd rfl h⟩, fun h => by simp at h⟩
  refine (sameEdges_calls ((r10.kept_none gd).kept_none g11) hn10 ((o4.kept g610).kept g11).row hn4 (by omega)).mono fun ev w12 hh => ?_
  obtain ⟨rfl, g12⟩ := hh
  have gz := grown_trans g11 g12
  refine ⟨_, rfl, fun _ => ⟨fun _ => ?_, fun h => absurd (by omega) h⟩, fun h => by simp at h⟩
  have hmne : x.map (laterE 1) ≠ [] := by simpa using hne
  have hA10 : ∃ a, A10' = some a := by
    obtain ⟨a, e1, _⟩ := evt_at r10' (show 0 < (x.map (laterE 1)).length by rw [List.length_map]; exact hx0)
    exact ⟨a, e1⟩
  obtain ⟨a10, rfl⟩ := hA10
  have q1 := first_t r10' hmne (grown_trans gd gz)
  rw [t0E_later hne, ← ht] at q1
  refine ⟨a10, rfl, by omega, by omega, _, q1, a5, rfl, by omega, by omega, _, hT _ (grown_trans g610 gz), by omega, by simp, grown_trans g14 (grown_trans g610 gz)⟩
end Go.Proofs.Ytgahfcdmgdnjiaa

/-! archipelagolaw17.BlockErrors: which errors (lists), a cell of an event written, the walk. -/
namespace Go.Proofs.Ytgahfcdmgdnjiaa
open Go Go.V Go.RowKit
set_option linter.unusedVariables false
set_option linter.unusedSimpArgs false
set_option maxHeartbeats 4000000
set_option maxRecDepth 100000

theorem put_own {w : World} {base size n c : Nat} {e : TypeId} {A : Option Addr} {xs : List Value} (h : OwnedK w base e size A n c xs) {a : Addr} (hA : A = some a) {j : Nat} (hj : j < xs.length) (u : Value) :
    OwnedK (w.setCell (a.add j) u) base e size A n c (xs.set j u) ∧ w.frozen? (a.add j) = false ∧ w.grownBy (w.setCell (a.add j) u) (Value.slice A n c).ownBlock := by
  obtain ⟨h1, ⟨rfl, _⟩ | ⟨g, cur, rfl, hb, hc, hn, hh, hs, ht⟩⟩ := h.cases
  · cases hA
  · cases hA
    rw [add_lit]
    refine ⟨OwnedK.of_block hb (blk_set hh j u) hn hc (by simpa using hs) (by simpa using h1) ?_, blk_free hh j, ?_⟩
    · rw [Array.toList_setIfInBounds, List.take_set, ht]
    · exact grown_set (grown_refl w _) rfl u
theorem evts_setB (b : Bool) : ∀ {l : List Evt} {j : Nat} (hj : j < l.length), (evts l).set (j * 4 + 3) (.bool b) = evts (l.set j ⟨l[j].t, l[j].u, l[j].v, b⟩)
  | e :: l, 0, _ => by simp [evts, evtC]
  | e :: l, j + 1, hj => by
    have ih := evts_setB b (l := l) (j := j) (by simpa using hj)
    rw [show (j + 1) * 4 + 3 = j * 4 + 3 + 1 + 1 + 1 + 1 by omega, List.set_cons_succ]
    show _ :: _ :: _ :: _ :: (evts l).set (j * 4 + 3) (.bool b) = _ :: _ :: _ :: _ :: evts _
    rw [ih]; rfl
theorem evts_setV (v : Int) : ∀ {l : List Evt} {j : Nat} (hj : j < l.length), (evts l).set (j * 4 + 2) (.int .u32 v) = evts (l.set j ⟨l[j].t, l[j].u, v, l[j].add⟩)
  | e :: l, 0, _ => by simp [evts, evtC]
  | e :: l, j + 1, hj => by
    have ih := evts_setV v (l := l) (j := j) (by simpa using hj)
    rw [show (j + 1) * 4 + 2 = j * 4 + 2 + 1 + 1 + 1 + 1 by omega, List.set_cons_succ]
    show _ :: _ :: _ :: _ :: (evts l).set (j * 4 + 2) (.int .u32 v) = _ :: _ :: _ :: _ :: evts _
    rw [ih]; rfl
theorem delL_prev {t0 : Int} {q q' : Evt} (l : List Evt) (h : q.t = q'.t ∧ q.u = q'.u ∧ q.v = q'.v) : delL t0 (some q) l = delL t0 (some q') l := by
  cases l with
  | nil => rfl
  | cons e l =>
    have : beforeV q e = beforeV q' e := by
      rw [Bool.eq_iff_iff, beforeV_iff, beforeV_iff, h.1, h.2.1, h.2.2]
    simp only [delL, this]
theorem delL_flip {t0 : Int} (b : Bool) : ∀ {l : List Evt} {j : Nat} (hj : j < l.length) (p : Option Evt), delL t0 p (l.set j ⟨l[j].t, l[j].u, l[j].v, b⟩) = delL t0 p l
  | e :: l, 0, _, p => by
    show delL t0 p ((⟨e.t, e.u, e.v, b⟩ : Evt) :: l) = delL t0 p (e :: l)
    unfold delL
    rw [delL_prev (q := ⟨e.t, e.u, e.v, b⟩) (q' := e) l ⟨rfl, rfl, rfl⟩]
    rfl
  | e :: l, j + 1, hj, p => by
    have hj' : j < l.length := by simpa using hj
    show delL t0 p (e :: l.set j ⟨l[j].t, l[j].u, l[j].v, b⟩) = delL t0 p (e :: l)
    unfold delL
    rw [delL_flip b hj']
theorem t0E_set {l : List Evt} {j : Nat} {e : Evt} (h : ∀ hj : j < l.length, e.t = l[j].t) : t0E (l.set j e) = t0E l := by
  cases l with
  | nil => rfl
  | cons a l =>
    cases j with
    | zero => exact h (by simp)
    | succ j => rfl
theorem BlkP.adjT {N : Int} {key : List Edge} {x : List Evt} (h : BlkP N key x) : adjL key = true := (adjL_iff h.edgesB (by have := h.kl; omega)).2 h.adj
theorem BlkP.delT {N : Int} {key : List Edge} {x : List Evt} (h : BlkP N key x) : delL (t0E x) none x = true := (delL_iff h.evtsB).2 h.del
theorem err_flip {N : Int} {key : List Edge} {x : List Evt} (h : BlkP N key x) {j : Nat} (hj : j < x.length) : blkErr key (x.set j ⟨x[j].t, x[j].u, x[j].v, decide (x[j].add = false)⟩) = 25 := by
  have hne : x.set j ⟨x[j].t, x[j].u, x[j].v, decide (x[j].add = false)⟩ ≠ [] := fun e => by have := congrArg List.length e; rw [List.length_set, List.length_nil] at this; omega
  unfold blkErr
  rw [if_neg (by rw [h.adjT]; exact fun e => e.elim (fun e => by cases e) hne), t0E_set (fun _ => rfl), if_neg (by rw [delL_flip _ hj, h.delT]; simp), if_pos]
  obtain ⟨y, hy, _⟩ := h.okh.step hj
  have hfr := (h.okh.take j).fold h.rise
  have e1 : x.set j ⟨x[j].t, x[j].u, x[j].v, decide (x[j].add = false)⟩ = x.take j ++ ((⟨x[j].t, x[j].u, x[j].v, decide (x[j].add = false)⟩ : Evt) :: x.drop (j + 1)) := List.set_eq_take_append_cons_drop.trans (if_pos hj)
  rw [e1, fitsL_append]
  have e2 : turnL (foldT (x.take j) key) ⟨x[j].t, x[j].u, x[j].v, decide (x[j].add = false)⟩ = none := by
    rw [turn_none hfr.1]
    have := (turn_some hy).2.2
    show decide (x[j].add = false) = decide ((x[j].u, x[j].v) ∈ foldT (x.take j) key)
    rw [this]
    cases decide ((x[j].u, x[j].v) ∈ foldT (x.take j) key) <;> rfl
  rw [fitsL, e2, Bool.and_false]
theorem err_same {N : Int} {key : List Edge} {x : List Evt} (h : BlkP N key x) {j : Nat} (hj : j < x.length) : blkErr key (x.set j ⟨x[j].t, x[j].u, x[j].u, x[j].add⟩) = 23 := by
  unfold blkErr
  split
  · rfl
  · rw [if_pos]
    rw [Bool.eq_false_iff]
    intro hd
    have := (delL_idx.1 hd).1 ⟨x[j].t, x[j].u, x[j].u, x[j].add⟩ (List.mem_iff_getElem.2 ⟨j, by simpa using hj, by simp⟩)
    simp only at this
    omega
theorem err_edge {key : List Edge} {x : List Evt} : blkErr (key ++ [(4, 2)]) x = 23 := by
  have h : adjL (key ++ [(4, 2)]) = false := by
    unfold adjL
    rw [List.all_append]
    simp
  unfold blkErr
  rw [if_pos (.inl h)]
theorem err_twice {key : List Edge} {x : List Evt} {e : Evt} (hx : x ≠ []) (he : x.getLast hx = e) : blkErr key (x ++ [e]) = 23 := by
  unfold blkErr
  split
  · rfl
  · rw [if_pos]
    rw [Bool.eq_false_iff]
    intro hd
    have h0 : 0 < x.length := List.length_pos_iff.2 hx
    have := (delL_idx.1 hd).2.1 (x.length - 1) (by simp; omega)
    have e1 : (x ++ [e])[x.length - 1]'(by simp; omega) = e := by
      rw [List.getElem_append_left (by omega), ← he, List.getLast_eq_getElem]
    have e2 : (x ++ [e])[x.length - 1 + 1]'(by simp; omega) = e := by
      rw [List.getElem_append_right (by omega)]; simp
    rw [e1, e2, beforeV_iff] at this
    omega
theorem err_done {N : Int} {key : List Edge} {x : List Evt} (h : BlkP N key x) (hx : x ≠ []) : blkErr (foldT (x.take 1) key) x = 25 ∧ EdgesB (foldT (x.take 1) key) := by
  have h0 : 0 < x.length := List.length_pos_iff.2 hx
  have hfr := (h.okh.take 1).fold h.rise
  have hr : ∀ a ∈ foldT (x.take 1) key, 0 ≤ a.1 ∧ a.1 < a.2 ∧ a.2 < N := fun a ha => by
    rcases hfr.2 a ha with k | ⟨e, he, rfl⟩
    · exact h.keyB a k
    · exact (h.evB e (List.mem_of_mem_take he)).2
  have hn := h.nl
  have hEB : EdgesB (foldT (x.take 1) key) := fun e he => by have := hr e he; omega
  refine ⟨?_, hEB⟩
  have hlen := foldT_len (x.take 1) key
  rw [List.length_take] at hlen
  have hkl := h.kl
  have hadj : adjL (foldT (x.take 1) key) = true := (adjL_iff hEB (by omega)).2 ⟨hfr.1, fun e he => by have := hr e he; omega, by omega⟩
  unfold blkErr
  rw [if_neg (by rw [hadj]; simp [hx]), if_neg (by rw [h.delT]; simp), if_pos]
  obtain ⟨y, hy, hy2⟩ := h.okh.step h0
  rw [List.take_zero] at hy
  have hy1 : foldT (x.take 1) key = y := hy2
  rw [hy1] at hfr ⊢
  cases x with
  | nil => exact absurd rfl hx
  | cons e x =>
    have e2 : turnL y e = none := by
      rw [turn_none hfr.1]
      exact (turn_has (e := e) hy).symm
    rw [fitsL, e2]
theorem adjl' {l : List Edge} (h : EdgesB l) (hl : l.length ≤ 100) : (adjB l).length ≤ 2 ^ 20 := by have := adjB_len h (by omega); omega
theorem dell' {l : List Evt} (h : EvtsB l) (hl : l.length ≤ 100) (hd : delL (t0E l) none l = true) : (deltaB (t0E l) l).length ≤ 2 ^ 20 := by have := (deltaB_len ((delL_iff h).1 hd)).1; omega
end Go.Proofs.Ytgahfcdmgdnjiaa

/-! archipelagolaw17.BlockErrors: the walk. -/
namespace Go.Proofs.Ytgahfcdmgdnjiaa
open Go Go.V Go.RowKit
set_option linter.unusedVariables false
set_option linter.unusedSimpArgs false
set_option maxHeartbeats 4000000
set_option maxRecDepth 100000

theorem walkBlockErrors {w : World} {A : Option Addr} {n c : Nat} {l : List Int} {k f nn what ii : Int} (hk : 0 ≤ k ∧ k ≤ 255) (hrow : Row w A (u8s l)) (hn : n = l.length) (hb : BytesB l) (hf : 0 ≤ f ∧ f ≤ 255) (hnn : 0 ≤ nn ∧ nn ≤ 255) (hwh : 0 ≤ what ∧ what ≤ 255) (hii : 0 ≤ ii ∧ ii ≤ 255) :
    Calls P 4 #[.int .u8 k, .slice A n c, .int .u8 f, .int .u8 nn, .int .u8 what, .int .u8 ii] w fun ev w' => ev = .returned (.bool true) ∧ w.grownBy w' none := by
  apply vc4; unfold VC4; try (conv => zeta)
  simp only [InK]
  refine known17_calls.mono fun ev w1 hh => ?_
  obtain ⟨rfl, g1⟩ := hh
  refine ⟨true, rfl, fun h => absurd h (by simp), fun _ => ⟨fun _ => ⟨by trivial, g1⟩, fun h90 => ?_⟩⟩
  refine (history_calls (hrow.kept_none g1) hn hb hk (by omega)).mono fun ev w2 hh => ?_
  have hNl := vertL_is k
  have hHl := historyL_length k l
  have hHi := historyL_is (k := k) hb (by omega)
  have hHc := historyL_check (k := k) hb (by omega)
  obtain ⟨L, hL⟩ : ∃ L, L = historyL k l := ⟨_, rfl⟩
  obtain ⟨N, hN⟩ : ∃ N, N = vertL k := ⟨_, rfl⟩
  rw [← hL, ← hN] at hh hHi hHc
  rw [← hL] at hHl
  rw [← hN] at hNl
  obtain ⟨A2, n2, c2, rfl, o2, g2⟩ := hh
  have hn2 : n2 = L.length := by have := o2.cases.1; rw [evts_length] at this; omega
  have sH0 : (w2.alloc (.cells #[.int .u64 0, .slice none 0 0] 27)).heap[w2.heap.size]? = some (.cells #[.int .u64 0, .slice none 0 0] 27 (0, 0)) := heap_alloc_new w2 _
  have sH1 := blk_set sH0 0 (.int .u64 N)
  have sH2 := blk_set sH1 1 (.slice A2 n2 c2)
  have bH : (((w2.alloc (.cells #[.int .u64 0, .slice none 0 0] 27)).setCell ⟨w2.heap.size, 0, none⟩ (.int .u64 N)).setCell ⟨w2.heap.size, 1, none⟩ (.slice A2 n2 c2)).heap[w2.heap.size]? = some (.cells #[.int .u64 N, .slice A2 n2 c2] 27 (0, 0)) := by simpa using sH2
  have gH : w2.grownBy (((w2.alloc (.cells #[.int .u64 0, .slice none 0 0] 27)).setCell ⟨w2.heap.size, 0, none⟩ (.int .u64 N)).setCell ⟨w2.heap.size, 1, none⟩ (.slice A2 n2 c2)) none := (Kp.grown (set1 (set1 (Kp.of_none (S := fun k => w2.heap.size ≤ k) (grown_alloc (grown_refl w2 none) _)) (Nat.le_refl _)) (Nat.le_refl _)) (fun k hk e => by omega))
  obtain ⟨w3, hH⟩ : ∃ w3, w3 = (((w2.alloc (.cells #[.int .u64 0, .slice none 0 0] 27)).setCell ⟨w2.heap.size, 0, none⟩ (.int .u64 N)).setCell ⟨w2.heap.size, 1, none⟩ (.slice A2 n2 c2)) := ⟨_, rfl⟩
  rw [← hH] at bH gH
  refine ⟨_, _, _, _, rfl, ⟨_, blk_cell sH0 0⟩, blk_free sH0 0, ⟨_, blk_cell sH1 1⟩, blk_free sH1 1, ?_⟩
  rw [← hH]
  have hP : BlkP N (keyP L f) (evP L f nn) := BlkP.mk' hHi.1 hHi.2 hHl hNl.2 f nn
  refine ⟨_, blk_cell bH 0, _, _, _, blk_cell bH 1, (parts17_calls (f := f) (n := nn) (o2.kept gH).row hn2 (owned_le o2) (owned_cap o2) (by omega) (fun e he => by have := hHi.2 e he; omega) hHc hf hnn).mono fun ev w4 hh => ?_⟩
  obtain ⟨key, hkey⟩ : ∃ key, key = keyP L f := ⟨_, rfl⟩
  obtain ⟨x, hx⟩ : ∃ x, x = evP L f nn := ⟨_, rfl⟩
  rw [← hkey, ← hx] at hh hP
  obtain ⟨A4, n4, c4, A5, n5, c5, rfl, o4, r5, hn5, hc5, hA5, g4⟩ := hh
  have hn4 : n4 = key.length := by have := o4.cases.1; rw [edges_length] at this; omega
  have hkl := hP.kl
  have hxl := hP.xl
  have g14 := grown_trans (grown_trans (grown_trans g1 g2) gH) g4
  refine ⟨_, _, _, _, _, _, rfl, fun h => ⟨by trivial, g14⟩, fun h => ?_⟩
  have hne : x ≠ [] := fun e => by rw [e] at hn5; simp at hn5; omega
  have hx0 : 0 < x.length := List.length_pos_iff.2 hne
  obtain ⟨B1, m1, d1, w5, e1, p1, e3, hm1⟩ := append_evts (n := 0) (c := 0) (A := none) (xs := []) (OwnedK.nil w4 w4.heap.size 41 4) r5 hn5 hA5 (by omega) (Nat.le_refl _)
  have g5 : w4.grownBy w5 none := grown_own (grown_refl w4 none) e3 (fun k hk => by simp [Value.ownBlock] at hk)
  rw [List.nil_append] at p1
  obtain ⟨B2, m2, d2, w6, f1, p2, f3, hm2⟩ := append_edges (n := 0) (c := 0) (A := none) (xs := []) (OwnedK.nil w5 w5.heap.size 39 2) ((o4.kept g5).row) hn4 (owned_cap o4) (by omega) (Nat.le_refl _)
  have g6 : w5.grownBy w6 none := grown_own (grown_refl w5 none) f3 (fun k hk => by simp [Value.ownBlock] at hk)
  rw [List.nil_append] at p2
  have p1' := p1.kept g6
  have g46 := grown_trans g5 g6
  have g16 := grown_trans g14 g46
  have hm1' : m1 = x.length := by omega
  have hm2' : m2 = key.length := by omega
  refine ⟨_, _, _, w5, e1, _, _, _, w6, f1, by omega, ⟨by omega, by omega⟩, ⟨by omega, by omega⟩, ?_⟩
  have hi0 := Int.emod_nonneg ii (show (m1 : Int) ≠ 0 by omega)
  have hi1 := Int.emod_lt_of_pos ii (show (0 : Int) < (m1 : Int) by omega)
  obtain ⟨j, hj⟩ : ∃ j : Nat, ii % (m1 : Int) = (j : Int) := ⟨(ii % (m1 : Int)).toNat, by omega⟩
  rw [hj] at hi0 hi1 ⊢
  have tj : (j : Int).toNat = j := by omega
  rw [tj]
  have lj : j < x.length := by omega
  -- what is put is told to be wrong
  have fin : ∀ {e : Int} {key' : List Edge} {x' : List Evt} (A n c B m d) (W : World), Row W A (edges key') → n = key'.length → Row W B (evts x') → m = x'.length → key'.length ≤ 100 → x'.length ≤ 100 → EdgesB key' → EvtsB x' → w.grownBy W none → blkErr key' x' = e → e ≠ 0 →
      Calls P 13 #[.slice A n c, .slice B m d] W fun ev W' => ∃ (x98A : Option Addr) (x98n x98c : Nat) (x98 : Int), ev = .returned (.tuple #[.slice x98A x98n x98c, .int .i64 x98]) ∧ ((x98 = e → Ending.returned (.bool (decide ((x98n : Int) = 0))) = Ending.returned (.bool true) ∧ w.grownBy W' none) ∧ (¬ x98 = e → Ending.returned (.bool false) = Ending.returned (.bool true) ∧ w.grownBy W' none)) := by
    intro e key' x' A n c B m d W rA hA rB hB lk lx hk' hx' gW he h0
    refine (bput_calls rA hA rB hB (by omega) (by omega) hk' hx' (fun _ => adjl' hk' lk) (fun hd => dell' hx' lx hd)).mono fun ev W' hh => ?_
    rw [he, if_neg h0] at hh
    obtain ⟨A6, n6, c6, rfl, o6, g7⟩ := hh
    have n60 := u8_len o6
    simp only [List.length_nil] at n60
    exact ⟨_, _, _, _, rfl, fun _ => ⟨by rw [n60]; rfl, grown_trans gW g7⟩, fun h => absurd rfl h⟩
  have hKB := hP.edgesB
  have hEB := hP.evtsB
  obtain ⟨a, q1, q2, q3, q4, q5⟩ := evt_at p1'.row lj
  have ap := owned_apart p2 p1' (by decide)
  have lset : ∀ i, i < 4 → j * 4 + i < (evts x).length := fun i hi => by rw [evts_length]; omega
  have gset : ∀ (W : World), w6.grownBy W (Value.slice B1 m1 d1).ownBlock → w.grownBy W none := fun W hg => grown_trans g14 (grown_own g46 hg (fun k hk => p1.block_ge k hk))
  refine ⟨fun h0 => ?_, fun h0 => ⟨fun h1 => ?_, fun h1 => ⟨fun h2 => ?_, fun h2 => ⟨fun h3 => ?_, fun h3 => ?_⟩⟩⟩⟩
  · have ea : (a.add (j * 4)).add 3 = a.add (j * 4 + 3) := add_add a (j * 4) 3
    refine ⟨a, q1, by omega, by omega, _, q5, a, q1, by omega, by omega, ⟨_, q5⟩, ?_⟩
    rw [ea]
    obtain ⟨s1, s2, s3⟩ := put_own p1' q1 (lset 3 (by omega)) (.bool (decide (x[j].add = false)))
    rw [evts_setB _ lj] at s1
    refine ⟨s2, fin _ _ _ _ _ _ _ (p2.apart s3 ap).row hm2' s1.row (by rw [List.length_set]; omega) (by omega) (by rw [List.length_set]; omega) hKB (fun e he => ?_) (gset _ s3) (err_flip hP lj) (by omega)⟩
    rcases List.mem_or_eq_of_mem_set he with h | rfl
    · exact hEB e h
    · have := hEB _ (List.getElem_mem lj)
      exact ⟨this.1, this.2⟩
  · have ea : ((a.add (j * 4)).add 1).add 1 = a.add (j * 4 + 2) := by rw [add_add (a.add (j * 4)) 1 1]; exact add_add a (j * 4) 2
    have eb : (a.add (j * 4)).add 2 = a.add (j * 4 + 2) := add_add a (j * 4) 2
    refine ⟨a, q1, by omega, by omega, _, q3, a, q1, by omega, by omega, ?_⟩
    rw [ea]
    rw [eb] at q4
    obtain ⟨s1, s2, s3⟩ := put_own p1' q1 (lset 2 (by omega)) (.int .u32 x[j].u)
    rw [evts_setV _ lj] at s1
    refine ⟨⟨_, q4⟩, s2, fin _ _ _ _ _ _ _ (p2.apart s3 ap).row hm2' s1.row (by rw [List.length_set]; omega) (by omega) (by rw [List.length_set]; omega) hKB (fun e he => ?_) (gset _ s3) (err_same hP lj) (by omega)⟩
    rcases List.mem_or_eq_of_mem_set he with h | rfl
    · exact hEB e h
    · have := hEB _ (List.getElem_mem lj)
      exact ⟨⟨this.1.1, this.1.1⟩, this.2⟩
  · have g7 := World.grownBy_alloc w6 (.cells #[.int .u32 4, .int .u32 2] 39) none
    have rK : Row (w6.alloc (.cells #[.int .u32 4, .int .u32 2] 39)) (some ⟨w6.heap.size, 0, none⟩) (edges [(4, 2)]) := row_allocM _ #[.int .u32 4, .int .u32 2] 39 (0, 0)
    obtain ⟨B3, m3, d3, w8, t1, t2, t3, hm3⟩ := append_edges (m := 1) (d := 1) (p2.kept g7) rK rfl (fun h => by cases h) (by omega) (Nat.le_trans g6.size g7.size)
    have g8 := grown_own (grown_trans g6 g7) t3 (fun k hk => p2.block_ge k hk)
    have ap' := owned_apart p1' p2 (by decide)
    refine ⟨_, _, _, w8, t1, fin _ _ _ _ _ _ _ t2.row (by rw [List.length_append, hm3, hm2']; rfl) ((p1'.kept g7).apart t3 ap').row hm1' (by rw [List.length_append, List.length_singleton]; omega) (by omega) (fun e he => ?_) hEB (grown_trans (grown_trans g14 g5) g8) err_edge (by omega)⟩
    rcases List.mem_append.1 he with h | h
    · exact hKB e h
    · simp at h; subst h; simp
  · have tm : ((m1 : Int) - 1).toNat = x.length - 1 := by omega
    have ll : x.length - 1 < x.length := by omega
    obtain ⟨a', q1', q2', q3', q4', q5'⟩ := evt_at p1'.row ll
    rw [tm]
    refine ⟨by omega, a', q1', by omega, by omega, _, q2', _, q3', _, q4', _, q5', ?_⟩
    have g7 := World.grownBy_alloc w6 (.cells #[.int .i64 x[x.length - 1].t, .int .u32 x[x.length - 1].u, .int .u32 x[x.length - 1].v, .bool x[x.length - 1].add] 41) none
    have rE : Row (w6.alloc (.cells #[.int .i64 x[x.length - 1].t, .int .u32 x[x.length - 1].u, .int .u32 x[x.length - 1].v, .bool x[x.length - 1].add] 41)) (some ⟨w6.heap.size, 0, none⟩) (evts [x[x.length - 1]]) := row_allocM _ #[.int .i64 x[x.length - 1].t, .int .u32 x[x.length - 1].u, .int .u32 x[x.length - 1].v, .bool x[x.length - 1].add] 41 (0, 0)
    obtain ⟨B3, m3, d3, w8, t1, t2, t3, hm3⟩ := append_evts (m := 1) (d := 1) (p1'.kept g7) rE rfl (fun h => by cases h) (by omega) (Nat.le_trans (Nat.le_trans g5.size g6.size) g7.size)
    have g8 := grown_own (grown_trans g46 g7) t3 (fun k hk => p1.block_ge k hk)
    refine ⟨_, _, _, w8, t1, fin _ _ _ _ _ _ _ ((p2.kept g7).apart t3 ap).row hm2' t2.row (by rw [List.length_append, hm3, hm1']; rfl) (by omega) (by rw [List.length_append, List.length_singleton]; omega) hKB (fun e he => ?_) (grown_trans g14 g8) (err_twice hne (List.getLast_eq_getElem hne)) (by omega)⟩
    rcases List.mem_append.1 he with h | h
    · exact hEB e h
    · simp at h; subst h; exact hEB _ (List.getElem_mem ll)
  · have hd1 := owned_le p1
    obtain ⟨hE, hEB2⟩ := err_done hP hne
    have hfl := foldT_len (x.take 1) key
    rw [List.length_take] at hfl
    refine ⟨⟨by omega, by omega⟩, (now17_calls p2.row hm2' (owned_le p2) (owned_cap p2) (takeV4 p1'.row 1) (show 1 = (x.take 1).length by rw [List.length_take]; omega) (by omega)).mono fun ev w8 hh => ?_⟩
    obtain ⟨B3, m3, d3, rfl, rk, hm3, _, _, g8⟩ := hh
    exact ⟨_, _, _, rfl, fin _ _ _ _ _ _ _ rk hm3 (p1'.kept g8).row hm1' (by omega) (by omega) hEB2 hEB (grown_trans g16 g8) hE (by omega)⟩
end Go.Proofs.Ytgahfcdmgdnjiaa
