/- archipelagoref5.Lengths: the walk. -/
import Derived.Test.YtmenmmgfdakeeaaE3
namespace Go.Proofs.Ytmenmmgfdakeeaa
open Go Go.V Go.RowKit
set_option linter.unusedVariables false
set_option linter.unusedSimpArgs false
set_option maxHeartbeats 4000000
set_option maxRecDepth 100000

theorem flat_len {l : List Coin} {B : Nat} (h : ∀ x ∈ l, x.2.length ≤ B) : (l.flatMap Prod.snd).length ≤ B * l.length := by
  induction l with
  | nil => simp
  | cons x l ih =>
    have h1 := h x (by simp)
    have h2 := ih (fun y hy => h y (by simp [hy]))
    simp only [List.flatMap_cons, List.length_append, List.length_cons, Nat.mul_succ]
    omega

theorem refLengths_calls {w : World} {A : Option Addr} {n c : Nat} {xs : List Int} {most : Int} (hrow : Row w A (ints xs)) (hn : n = xs.length) :
    Calls P 25 #[.slice A n c, .int .i64 most] w fun ev w' => ∃ (A' : Option Addr) (n' c' : Nat), ev = .returned (.slice A' n' c') ∧ Owned w' w.heap.size 3 A' n' c' (ints (lensL xs most)) ∧ w.grownBy w' none := by
  apply vc25; unfold VC25
  obtain ⟨hm, hm1, hm15⟩ := mostL_eq most
  rw [hm]
  simp only [InK]
  have tn : (mostL most : Int).toNat = mostL most := by omega
  have hmin : min (mostL most) 64 = mostL most := by omega
  rw [tn, hmin]
  have hpow : 2 ^ mostL most ≤ 2 ^ 15 := Nat.pow_le_pow_right (by omega) hm15
  obtain ⟨q, hq⟩ : ∃ q, q = 2 ^ mostL most := ⟨_, rfl⟩
  have hcast : (1 : Int) * 2 ^ mostL most = (q : Int) := by rw [hq]; simp
  rw [hcast]
  refine ⟨fun h => ⟨none, 0, 0, rfl, ?_, grown_refl _ _⟩, fun h => ?_⟩
  · have : lensL xs most = [] := by unfold lensL; rw [if_pos (by omega)]
    rw [this]; exact World.ownsRow_nil _ _ _ _
  have h256 : xs.length ≤ 256 := by omega
  refine ⟨fun ms A1 n1 c1 s w1 => ∃ (sn : Nat) (C : List RC), s = (sn : Int) ∧ sn ≤ xs.length ∧ ms = xs.length - sn ∧ OwnedK w1 w.heap.size 136 2 A1 n1 c1 (rcs C) ∧ n1 = C.length ∧ (∀ x ∈ C, SymOk w1 none x) ∧ C.map rcCoin = coinsL (xs.take sn) ∧ w.grownBy w1 none,
    ⟨_, 0, [], rfl, by omega, rfl, OwnedK.nil _ _ _ _, rfl, by simp, by simp [coinsL, rawCoins, inOrder], grown_refl _ _⟩, ?_⟩
  rintro ms A1 n1 c1 s w1 ⟨sn, C, rfl, hsn, rfl, ho, hn1, hC, hCm, hg⟩
  have hCl : C.length ≤ xs.length := by
    have h1 := congrArg List.length hCm
    have h2 := coinsL_length (xs.take sn)
    simp at h1 h2; omega
  have hcap : n1 ≤ c1 ∧ (A1 = none → c1 = 0) := by
    rcases ho.cases.2 with ⟨e, h, h', _⟩ | ⟨g, cur, e, _, _, h, _⟩
    · exact ⟨by omega, fun _ => h'⟩
    · exact ⟨h, fun h => by rw [e] at h; cases h⟩
  have hmono : ∀ i j (hi : i < C.length) (hj : j < C.length), i ≤ j → C[i].count ≤ C[j].count := by
    intro i j hi hj hij
    have hs : SortedK Prod.fst (C.map rcCoin) := by rw [hCm]; exact inOrder_sorted _
    rcases Nat.lt_or_eq_of_le hij with e | e
    · have := List.pairwise_iff_getElem.1 hs i j (by simpa using hi) (by simpa using hj) e
      simpa [rcCoin] using this
    · subst e; omega
  refine ⟨fun hlt => ?_, fun hge => ?_⟩
  · have l1 : sn < xs.length := by omega
    obtain ⟨a, ha1, ha2⟩ := (hrow.kept_none hg) sn (.int .i64 xs[sn]) (by simp [ints, l1])
    have ts : (sn : Int).toNat = sn := by omega
    rw [ts]
    refine ⟨a, ha1, by omega, by omega, xs[sn], ha2, ?_⟩
    refine clamp_calls ⟨_, rfl, ?_⟩
    have h3 := heap_alloc_new (w1.alloc (.cells #[.int .i64 (sn : Int)] 3)) (.cells #[.int .i64 0, .slice none 0 0] 136)
    have h0 := heap_alloc_new w1 (.cells #[.int .i64 (sn : Int)] 3)
    obtain ⟨k1, k2, k3, k4, k5, k6⟩ := lay_coin (u := .int .i64 (manyL xs[sn])) (v := .slice (some ⟨w1.heap.size, 0, none⟩) 1 1) h3
    have ga := World.grownBy_alloc w1 (.cells #[.int .i64 (sn : Int)] 3) none
    have gb := World.grownBy_alloc (w1.alloc (.cells #[.int .i64 (sn : Int)] 3)) (.cells #[.int .i64 0, .slice none 0 0] 136) none
    have hsz : (w1.alloc (.cells #[.int .i64 (sn : Int)] 3)).heap.size = w1.heap.size + 1 := by simp
    refine ⟨k1, k2, k3, k4, manyL xs[sn], by rw [World.cell?, k5]; rfl, ?_⟩
    obtain ⟨g, hgd⟩ : ∃ g, g = (w1.alloc (.cells #[.int .i64 (sn : Int)] 3)).heap.size := ⟨_, rfl⟩
    rw [← hgd] at k5 k6 hsz ⊢
    have hg4 := grown_own (grown_trans ga gb) k6 (by intro q hq; cases hq; omega)
    have hb4 : ((((w1.alloc (.cells #[.int .i64 (sn : Int)] 3)).alloc (.cells #[.int .i64 0, .slice none 0 0] 136)).setCell ⟨g, 0, none⟩ (.int .i64 (manyL xs[sn]))).setCell ⟨g, 1, none⟩ (.slice (some ⟨w1.heap.size, 0, none⟩) 1 1)).heap[w1.heap.size]? = some (.cells #[.int .i64 (sn : Int)] 3 (0, 0)) := by
      rw [k6.block _ (by have := gb.size; omega) (by simp; omega), gb.block _ (by omega) (by simp), h0]
    obtain ⟨w4, hw4⟩ : ∃ w4, w4 = (((w1.alloc (.cells #[.int .i64 (sn : Int)] 3)).alloc (.cells #[.int .i64 0, .slice none 0 0] 136)).setCell ⟨g, 0, none⟩ (.int .i64 (manyL xs[sn]))).setCell ⟨g, 1, none⟩ (.slice (some ⟨w1.heap.size, 0, none⟩) 1 1) := ⟨_, rfl⟩
    rw [← hw4] at k5 k6 hg4 hb4 ⊢
    clear k1 k2 k3 k4 k6 ga gb h3 h0 hw4
    obtain ⟨r, hr⟩ : ∃ r : RC, r = ⟨manyL xs[sn], some ⟨w1.heap.size, 0, none⟩, 1, 1, [sn]⟩ := ⟨_, rfl⟩
    have hsr : SymOk w4 none r := by
      subst hr
      refine ⟨?_, rfl, by simp, fun a ha => by cases ha; exact ⟨by simp, _, _, hb4⟩⟩
      intro j u hj
      cases j with
      | zero => exact ⟨_, rfl, by rw [add_lit]; simpa [World.cell?, hb4, nats] using hj⟩
      | succ j => simp [nats] at hj
    have hC4 : ∀ x ∈ C, SymOk w4 none x := fun x hx => (hC x hx).keep_none hg4
    have hcg : ∀ w', w4.grownBy w' none → w'.cell? ⟨g, 0, none⟩ = some (.int .i64 (manyL xs[sn])) ∧ w'.cell? ⟨g, 1, none⟩ = some (.slice (some ⟨w1.heap.size, 0, none⟩) 1 1) := by
      intro w' h
      have h5 := h.block g (Array.getElem?_eq_some_iff.1 k5).1 (by simp)
      rw [k5] at h5
      constructor <;> simp [World.cell?, h5]
    refine ⟨fun hz => ?_, fun hnz => ?_⟩
    · refine ⟨by omega, xs.length - (sn + 1), by omega, sn + 1, C, by omega, by omega, rfl, ho.kept hg4, hn1, hC4, ?_, grown_trans hg hg4⟩
      rw [coinsL_snoc l1, if_neg (by intro h; have := (manyL_pos h).1; omega)]
      exact hCm
    · have hpos : xs[sn] > 0 := by
        apply Decidable.byContradiction
        intro h
        exact hnz (manyL_none h)
      refine ⟨fun k w' => ∃ kn : Nat, k = (kn : Int) ∧ kn ≤ C.length ∧ (∀ i (h : i < C.length), i < kn → C[i].count ≤ manyL xs[sn]) ∧ (∀ i (h : i < C.length), kn ≤ i → manyL xs[sn] < C[i].count) ∧ w4.grownBy w' none, ?_, ?_⟩
      · refine ⟨fun ms k w' => ∃ kn : Nat, k = (kn : Int) ∧ ms = kn ∧ kn ≤ C.length ∧ (∀ i (h : i < C.length), kn ≤ i → manyL xs[sn] < C[i].count) ∧ w4.grownBy w' none,
          ⟨_, C.length, by omega, rfl, by omega, fun i h hi => by omega, grown_refl _ _⟩, ?_⟩
        rintro ms k w5 ⟨kn, rfl, hms, hkn, hgt, hg5⟩
        refine ⟨fun hp => ?_, fun hz => ⟨kn, rfl, hkn, fun i h hi => by omega, hgt, grown_drew hg5⟩⟩
        have lk : kn - 1 < C.length := by omega
        obtain ⟨b, hb1, hb2, _⟩ := row_rc ((ho.kept (grown_trans hg4 (grown_drew hg5))).row) lk
        have tk : ((kn : Int) - 1).toNat = kn - 1 := by omega
        rw [tk]
        refine ⟨by omega, b, hb1, by omega, by omega, C[kn - 1].count, hb2, manyL xs[sn], (hcg _ (grown_drew hg5)).1, fun hgt2 => ⟨by omega, kn - 1, by omega, kn - 1, by omega, rfl, by omega, fun i h hi => ?_, grown_drew hg5⟩, fun hle => ⟨kn, rfl, hkn, fun i h hi => ?_, hgt, grown_drew hg5⟩⟩
        · have := hmono (kn - 1) i lk h hi
          omega
        · have := hmono i (kn - 1) h lk (by omega)
          omega
      · rintro k w5 ⟨kn, rfl, hkn, hle, hgt, hg5⟩
        have tk : (kn : Int).toNat = kn := by omega
        rw [tk]
        have hwd := grown_drew hg5
        have rowC : ∀ w2 : World, w4.grownBy w2 none → Row w2 A1 (rcs C) := fun w2 h => (ho.kept (grown_trans hg4 h)).row
        have hlt2 : (C.take kn).length = kn := by simp; omega
        have step1 : ∀ w2 : World, w4.grownBy w2 none → w5.heap.size ≤ w2.heap.size → ∃ (A' : Option Addr) (n' c' : Nat) (w3 : World), Sem.run P (Builtin.append_ #[133, 133] 133 #[.slice none 0 0, .slice A1 kn c1]) w2 = .ok (.slice A' n' c') w3 ∧ OwnedK w3 w5.heap.size 136 2 A' n' c' (rcs (C.take kn)) ∧ n' = kn ∧ w2.grownBy w3 none := by
          intro w2 h h'
          have ht := (rowC w2 h).take (kn * 2)
          rw [rcs_take] at ht
          obtain ⟨A', n', c', w3, e1, e2, e3, e4⟩ := rc_appends (L := []) (n := 0) (c := 0) (A := none) (d := c1) (m := kn) (OwnedK.nil w2 w5.heap.size 136 2) ht hlt2.symm hcap.2 rfl (by omega) h'
          exact ⟨A', n', c', w3, e1, by simpa using e2, by rw [e3, List.nil_append, hlt2], e4⟩
        have step2 : ∀ (w2 : World) (A' : Option Addr) (n' c' g' : Nat), OwnedK w2 w5.heap.size 136 2 A' n' c' (rcs (C.take kn)) → n' = kn → Row w2 (some ⟨g', 0, none⟩) (rcs [r]) → w5.heap.size ≤ w2.heap.size → w4.grownBy w2 none → ∃ (A3 : Option Addr) (n3 c3 : Nat) (w3 : World),
            Sem.run P (Builtin.append_ #[133, 133] 133 #[.slice A' n' c', .slice (some ⟨g', 0, none⟩) 1 1]) w2 = .ok (.slice A3 n3 c3) w3 ∧ OwnedK w3 w5.heap.size 136 2 A3 n3 c3 (rcs (C.take kn ++ [r])) ∧ n3 = (C.take kn ++ [r]).length ∧ w4.grownBy w3 none ∧ w5.heap.size ≤ w3.heap.size := by
          intro w2 A' n' c' g' h1 h2 h3 h4 h5
          obtain ⟨A3, n3, c3, w3, e1, e2, e3, e4⟩ := rc_appends (d := 1) (m := 1) h1 h3 rfl (by simp) (by omega) (by omega) h4
          exact ⟨A3, n3, c3, w3, e1, e2, e3, grown_own h5 e4 (fun k hk => Nat.le_trans hg5.size (h1.block_ge k hk)), Nat.le_trans h4 e4.size⟩
        have step3 : ∀ (w2 : World) (A' : Option Addr) (n' c' : Nat), OwnedK w2 w5.heap.size 136 2 A' n' c' (rcs (C.take kn ++ [r])) → n' = (C.take kn ++ [r]).length → w5.heap.size ≤ w2.heap.size → w4.grownBy w2 none → ∃ (A3 : Option Addr) (n3 c3 : Nat) (w3 : World),
            Sem.run P (Builtin.append_ #[133, 133] 133 #[.slice A' n' c', .slice (cutA A1 c1 kn 2) (n1 - kn) (c1 - kn)]) w2 = .ok (.slice A3 n3 c3) w3 ∧ w4.grownBy w3 none ∧ OwnedK w3 w.heap.size 136 2 A3 n3 c3 (rcs (C.take kn ++ r :: C.drop kn)) ∧ n3 = (C.take kn ++ r :: C.drop kn).length ∧ w4.grownBy w3 none := by
          intro w2 A' n' c' h1 h2 h4 h5
          obtain ⟨cr1, cr2⟩ := cut_row (k := kn) (n := n1) (rowC w2 h5) hcap.2 (by omega)
          obtain ⟨A3, n3, c3, w3, e1, e2, e3, e4⟩ := rc_appends (d := c1 - kn) (m := n1 - kn) h1 cr1 (by simp; omega) cr2 h2 (by rw [h2, List.length_append, hlt2]; simp; omega) h4
          have hgr := grown_own h5 e4 (fun k hk => Nat.le_trans hg5.size (h1.block_ge k hk))
          have hap : C.take kn ++ [r] ++ C.drop kn = C.take kn ++ r :: C.drop kn := by simp
          rw [hap] at e2 e3
          exact ⟨A3, n3, c3, w3, e1, hgr, e2.mono (Nat.le_trans hg.size (Nat.le_trans hg4.size hg5.size)), e3, hgr⟩
        have rcr : rcs [r] = [.int .i64 (manyL xs[sn]), .slice (some ⟨w1.heap.size, 0, none⟩) 1 1] := by rw [hr]; rfl
        have hsd : w5.drew.heap.size = w5.heap.size := rfl
        refine ⟨fun A' n' c' w' => OwnedK w' w.heap.size 136 2 A' n' c' (rcs (C.take kn ++ r :: C.drop kn)) ∧ n' = (C.take kn ++ r :: C.drop kn).length ∧ w4.grownBy w' none, ⟨fun w2 => w4.grownBy w2 none, hwd, ⟨⟨by omega, ?_⟩, ⟨by omega, ?_⟩⟩⟩, ?_⟩
        · obtain ⟨A2, n2, c2, w6, e1, e2, e3, e4⟩ := step1 _ hwd (Nat.le_of_eq hsd.symm)
          have g6 := grown_trans hwd e4
          have s6 : w5.heap.size ≤ w6.heap.size := e4.size
          have g7 := grown_alloc g6 (.cells #[.int .i64 (manyL xs[sn]), .slice (some ⟨w1.heap.size, 0, none⟩) 1 1] 136)
          have ro := row_alloc w6 #[.int .i64 (manyL xs[sn]), .slice (some ⟨w1.heap.size, 0, none⟩) 1 1] 136
          obtain ⟨A3, n3, c3, w7, f1, f2, f3, f4, f5⟩ := step2 _ A2 n2 c2 _ (e2.kept (World.grownBy_alloc w6 _ none)) e3 (by rw [rcr]; exact ro) (Nat.le_trans s6 (World.grownBy_alloc w6 _ none).size) g7
          obtain ⟨A4, n4, c4, w8, q1, q2⟩ := step3 w7 A3 n3 c3 f2 f3 f5 f4
          exact ⟨A2, n2, c2, w6, e1, g6, _, fun w h => (hcg w h).1, _, _, _, fun w h => (hcg w h).2, g7, A3, n3, c3, w7, f1, f4, by omega, A4, n4, c4, w8, q1, q2⟩
        · have g7 := grown_alloc hwd (.cells #[.int .i64 (manyL xs[sn]), .slice (some ⟨w1.heap.size, 0, none⟩) 1 1] 136)
          have ro := row_alloc w5.drew #[.int .i64 (manyL xs[sn]), .slice (some ⟨w1.heap.size, 0, none⟩) 1 1] 136
          have s7 : w5.heap.size ≤ (w5.drew.alloc (.cells #[.int .i64 (manyL xs[sn]), .slice (some ⟨w1.heap.size, 0, none⟩) 1 1] 136)).heap.size := (World.grownBy_alloc w5.drew _ none).size
          obtain ⟨A2, n2, c2, w6, e1, e2, e3, e4⟩ := step1 _ g7 s7
          have g6 := grown_trans g7 e4
          obtain ⟨A3, n3, c3, w7, f1, f2, f3, f4, f5⟩ := step2 _ A2 n2 c2 _ e2 e3 (by rw [rcr]; exact ro.kept_none e4) (Nat.le_trans s7 e4.size) g6
          obtain ⟨A4, n4, c4, w8, q1, q2⟩ := step3 w7 A3 n3 c3 f2 f3 f5 f4
          exact ⟨_, fun w h => (hcg w h).1, _, _, _, fun w h => (hcg w h).2, g7, A2, n2, c2, w6, e1, g6, A3, n3, c3, w7, f1, f4, by omega, A4, n4, c4, w8, q1, q2⟩
        · rintro A4 n4 c4 w8 ⟨o8, e8, g8⟩
          refine ⟨by omega, xs.length - (sn + 1), by omega, sn + 1, _, by omega, by omega, rfl, o8, e8, fun x hx => ?_, ?_, grown_trans hg (grown_trans hg4 g8)⟩
          · have : SymOk w4 none x := by
              rcases List.mem_append.1 hx with e | e
              · exact hC4 x (List.mem_of_mem_take e)
              · rcases List.mem_cons.1 e with e | e
                · rw [e]; exact hsr
                · exact hC4 x (List.mem_of_mem_drop e)
            exact this.keep_none g8
          · rw [coinsL_snoc l1, if_pos hpos, ← hCm, ins_at (k := kn) (by simpa using hkn) (fun i h hi => by simpa [rcCoin] using hle i (by simpa using h) hi) (fun i h hi => by simpa [rcCoin] using hgt i (by simpa using h) hi)]
            have hrc : rcCoin r = (manyL xs[sn], [sn]) := by rw [hr]; rfl
            simp [List.map_take, List.map_drop, hrc]
  · have hsn' : sn = xs.length := by omega
    rw [hsn', List.take_length] at hCm
    have hlc : C.length = (coinsL xs).length := by rw [← hCm]; simp
    refine ⟨by omega, fun h2 => ?_, fun h2 => ?_⟩
    · refine ⟨none, 0, 0, rfl, ?_, hg⟩
      have : lensL xs most = [] := by unfold lensL; rw [if_neg (by omega), if_pos (by omega)]
      rw [this]; exact World.ownsRow_nil _ _ _ _
    have hlens : lensL xs most = addL (chosen xs (mostL most)) (List.replicate xs.length 0) := by unfold lensL; rw [if_neg (by omega), if_neg (by omega)]
    obtain ⟨w2, hr, hown, hg2⟩ := run_made (P := P) (w := w1) elemInt (by omega) (m := n) (by omega)
    refine ⟨_, _, _, w2, hr, ?_⟩
    have hown : Own w2 w1.heap.size 3 n (ints (List.replicate xs.length 0)) := by
      simpa [ints, hn] using hown
    have fin : ∀ w3 ys, ys = lensL xs most → Own w3 w1.heap.size 3 n (ints ys) → w2.grownBy w3 (some w1.heap.size) → ∃ (A' : Option Addr) (n' c' : Nat), Ending.returned (.slice (some ⟨w1.heap.size, 0, none⟩) n n) = .returned (.slice A' n' c') ∧ Owned w3 w.heap.size 3 A' n' c' (ints (lensL xs most)) ∧ w.grownBy w3 none := by
      intro w3 ys hys h3 h4
      subst hys
      have h5 := h3.ownsRow hg.size (by simp only [maxLen]; omega)
      have : (ints (lensL xs most)).length = n := by rw [hlens]; simp [ints, addL_length, hn]
      rw [this] at h5
      exact ⟨_, _, _, rfl, h5, grown_own (grown_trans hg hg2) h4 (by intro k hk; cases hk; exact hg.size)⟩
    have ho2 := ho.kept hg2
    have hC2 : ∀ x ∈ C, SymOk w2 (some w1.heap.size) x := fun x hx => ((hC x hx).away (Nat.le_refl _)).keep_none hg2
    have hglt : w1.heap.size < w2.heap.size := hown.lt
    refine ⟨fun w3 => (C.length = 1 → ∃ ys, ys = lensL xs most ∧ Own w3 w1.heap.size 3 n (ints ys)) ∧ (C.length ≠ 1 → w3 = w2) ∧ w2.grownBy w3 (some w1.heap.size), ⟨fun h1 => ?_, fun h1 => ⟨fun h => by omega, fun _ => rfl, grown_refl _ _⟩⟩, ?_⟩
    · obtain ⟨x, hx⟩ : ∃ x, C = [x] := List.length_eq_one_iff.1 (by omega)
      have hcoin : coinsL xs = [rcCoin x] := by rw [← hCm, hx]; rfl
      obtain ⟨_, _, s, hs1, hs2⟩ := coinsL_mem (xs := xs) (x := rcCoin x) (by rw [hcoin]; simp)
      have hs1' : x.syms = [s] := hs1
      obtain ⟨srow, sn1, sn2, _⟩ := hC2 x (by rw [hx]; simp)
      obtain ⟨b, hb1, hb2⟩ := srow 0 (.int .i64 (s : Int)) (by simp [nats, hs1'])
      have ho3 : Row w2 A1 (rcs [x]) := by rw [← hx]; exact ho2.row
      obtain ⟨a, e1, e2⟩ := ho3 1 (.slice x.A x.n x.c) (by simp [rcs, rcCells])
      have hb0 : b.add 0 = b := by simp [Addr.add]
      rw [hb0] at hb2
      have ts : (s : Int).toNat = s := by omega
      have hcell := hown.cell (j := s) (u := .int .i64 0) (by simp [ints, hs2])
      refine ⟨a, e1, by omega, by omega, x.A, x.n, x.c, e2, b, hb1, by omega, by omega, (s : Int), hb2, _, rfl, by omega, by omega, ⟨_, by rw [ts]; exact hcell⟩, hown.notFrozen (add_block _ _), ?_⟩
      rw [ts]
      have hset := hown.set (j := s) (by simpa [ints] using hs2) (.int .i64 1)
      refine ⟨fun _ => ⟨(List.replicate xs.length 0).set s 1, ?_, by simpa [ints, List.map_set] using hset⟩, fun h => by omega, grown_set (grown_refl _ _) (add_block _ _) _⟩
      rw [hlens]
      have : chosen xs (mostL most) = [s] := by unfold chosen; rw [hcoin]; simp [hs1]
      rw [this]
      simp [addL, bump, hs2]
    · rintro w3 ⟨h11, h12, hg3⟩
      refine ⟨fun hlt2 => ?_, fun hge2 => ?_⟩
      · by_cases h1 : C.length = 1
        · obtain ⟨ys, e1, e2⟩ := h11 h1
          exact fin w3 ys e1 e2 hg3
        · have := h12 h1
          subst this
          refine fin _ (List.replicate xs.length 0) ?_ hown (grown_refl _ _)
          have hnil : coinsL xs = [] := List.eq_nil_of_length_eq_zero (by omega)
          rw [hlens]
          have : chosen xs (mostL most) = [] := by unfold chosen; rw [hnil]; simp [lev_nil]
          rw [this]; rfl
      · have := h12 (by omega)
        subst this
        clear h11 h12 hg3
        refine ⟨fun ms lA ln lc i w4 => ∃ (k : Nat) (O : List RC), i = ((k + 1 : Nat) : Int) ∧ k ≤ mostL most - 1 ∧ ms = mostL most - 1 - k ∧ OwnedK w4 w.heap.size 136 2 lA ln lc (rcs O) ∧ ln = O.length ∧ (∀ x ∈ O, SymOk w4 (some w1.heap.size) x) ∧ O.map rcCoin = lev (coinsL xs) k ∧ w3.grownBy w4 none,
          ⟨_, 0, C, rfl, by omega, rfl, ho2, hn1, hC2, hCm, grown_refl _ _⟩, ?_⟩
        rintro ms lA ln lc i w4 ⟨k, O, rfl, hk, rfl, ho4, hln, hO, hOk, hg4⟩
        have hOl : O.length = (lev (coinsL xs) k).length := by rw [← hOk]; simp
        have hls := lev_short (coinsL xs) k
        have hcl := coinsL_length xs
        have hfine : ∀ x ∈ O, Fine xs.length k (rcCoin x) := fun x hx => fine_lev xs k _ (by rw [← hOk]; exact List.mem_map_of_mem hx)
        have hpk : 2 ^ k ≤ 2 ^ 15 := Nat.pow_le_pow_right (by omega) (by omega)
        refine ⟨fun hlt => ?_, fun hge => ?_⟩
        · refine (merged_calls (C := C) (L := O) (G := some w1.heap.size) (ho2.kept hg4).row ho4.row hn1 hln (fun x hx => (hC2 x hx).keep_none hg4) hO (fun g hg => by cases hg; exact Nat.lt_of_lt_of_le hglt hg4.size) hcap.1 (by omega) (by omega) (fun x hx => ?_) (by omega)).mono fun ev w5 hh => ?_
          · obtain ⟨f1, f2, f3, f4⟩ := hfine x hx
            have hp : (2 : Int) ^ k ≤ 2 ^ 15 := by
              have e1 : ((2 ^ k : Nat) : Int) = 2 ^ k := by simp
              have e2 : ((2 ^ 15 : Nat) : Int) = 2 ^ 15 := by simp
              omega
            have f1' : 0 < x.count := f1
            have f2' : x.count ≤ 1099511627776 * 2 ^ k := f2
            have f3' : x.syms.length ≤ 2 ^ k := f3
            exact ⟨by omega, by omega, by omega⟩
          · obtain ⟨A4, n4, c4, O4, rfl, q1, q2, q3, q4, q5⟩ := hh
            refine ⟨A4, n4, c4, rfl, by omega, mostL most - 1 - (k + 1), by omega, k + 1, O4, by omega, by omega, rfl, q1.mono (Nat.le_trans hg.size (Nat.le_trans hg2.size hg4.size)), q2, q3, ?_, grown_trans hg4 q5⟩
            rw [q4, hCm, hOk]; rfl
        · have hk' : k = mostL most - 1 := by omega
          have hlong := lev_long hm1 (first := coinsL xs) (by omega)
          rw [← hk'] at hlong
          have hchosen : chosen xs (mostL most) = ((lev (coinsL xs) k).take (2 * (coinsL xs).length - 2)).flatMap Prod.snd := by
            unfold chosen; rw [if_neg (by omega), hk']
          have ho4' : Own w4 w1.heap.size 3 n (ints (List.replicate xs.length 0)) := hown.kept_none hg4
          have hrowO : ∀ w5, w4.grownBy w5 (some w1.heap.size) → Row w5 lA (rcs O) := by
            intro w5 h5
            refine ho4.row.kept h5 ?_
            intro a ha e
            simp only [Option.some.injEq] at e
            rcases ho4.cases.2 with ⟨h, _⟩ | ⟨g, cur, h, _, _, _, hog, _⟩
            · rw [ha] at h; cases h
            · rw [ha] at h; cases h
              obtain ⟨cur', e2, _⟩ := ho4'
              simp only at e
              rw [e, e2] at hog
              cases hog
          refine ⟨fun ms i w5 => ∃ (j : Nat) (ys : List Int), i = (j : Int) ∧ j ≤ 2 * (coinsL xs).length - 2 ∧ ms = 2 * (coinsL xs).length - 2 - j ∧ ys = addL (((lev (coinsL xs) k).take j).flatMap Prod.snd) (List.replicate xs.length 0) ∧ Own w5 w1.heap.size 3 n (ints ys) ∧ w4.grownBy w5 (some w1.heap.size),
            ⟨_, 0, List.replicate xs.length 0, rfl, by omega, rfl, by simp [addL], ho4', grown_refl _ _⟩, ?_⟩
          rintro ms i w5 ⟨j, ys, rfl, hj, rfl, hys, ho5, hg5⟩
          have hyl : ys.length = n := by rw [hys, addL_length]; simp [hn]
          refine ⟨by omega, by omega, fun hlt => ⟨fun hlt2 => ?_, fun hge3 => by omega⟩, fun hge3 => ?_⟩
          · have hjO : j < O.length := by omega
            have tj : (j : Int).toNat = j := by omega
            rw [tj]
            obtain ⟨f1, f2, f3, f4⟩ := hfine _ (List.getElem_mem hjO)
            have f3' : O[j].syms.length ≤ 2 ^ k := f3
            have f4' : ∀ s ∈ O[j].syms, s < xs.length := f4
            obtain ⟨sr, sl, _, sb⟩ := hO _ (List.getElem_mem hjO)
            have hfl := flat_len (l := (lev (coinsL xs) k).take j) (B := 2 ^ 15) (fun x hx => by have := (fine_lev xs k x (List.mem_of_mem_take hx)).2.2.1; omega)
            have hfl2 : ((lev (coinsL xs) k).take j).length ≤ 512 := by simp; omega
            have hyb := addL_bound (((lev (coinsL xs) k).take j).flatMap Prod.snd) (xs := List.replicate xs.length 0) (B := 0) (by simp) (by omega)
            rw [← hys] at hyb
            refine ⟨fun ms2 kk w6 => ∃ t : Nat, kk = (t : Int) ∧ t ≤ O[j].syms.length ∧ ms2 = O[j].syms.length - t ∧ Own w6 w1.heap.size 3 n (ints (addL (O[j].syms.take t) ys)) ∧ w5.grownBy w6 (some w1.heap.size),
              ⟨_, 0, rfl, by omega, rfl, by simpa [addL] using ho5, grown_refl _ _⟩, ?_⟩
            rintro ms2 kk w6 ⟨t, rfl, ht, rfl, ho6, hg6⟩
            have g46 := grown_trans hg5 hg6
            obtain ⟨a, e1, e2, e3⟩ := row_rc (hrowO w6 g46) hjO
            refine ⟨a, e1, by omega, by omega, _, _, _, e3, fun hlt3 => ?_, fun hge3 => ?_⟩
            · have lt : t < O[j].syms.length := by omega
              have tt : (t : Int).toNat = t := by omega
              rw [tt]
              obtain ⟨b, hb1, hb2⟩ := (sr.kept g46 (fun a ha => (sb a ha).1)) t (.int .i64 (O[j].syms[t] : Int)) (by simp [nats, lt])
              have hsx : O[j].syms[t] < xs.length := f4' _ (List.getElem_mem lt)
              have ts : (O[j].syms[t] : Int).toNat = O[j].syms[t] := by omega
              have hzl : (addL (O[j].syms.take t) ys).length = xs.length := by rw [addL_length]; omega
              have hcell := ho6.cell (j := O[j].syms[t]) (u := .int .i64 ((addL (O[j].syms.take t) ys).getD O[j].syms[t] 0)) (by simp [ints, hzl, hsx, List.getD_eq_getElem?_getD])
              have hzb := addL_bound (O[j].syms.take t) hyb (by omega)
              have hv := hzb ((addL (O[j].syms.take t) ys).getD O[j].syms[t] 0) (by
                rw [List.getD_eq_getElem?_getD, List.getElem?_eq_getElem (by omega)]
                exact List.getElem_mem _)
              have htl : (O[j].syms.take t).length = t := by simp; omega
              refine ⟨a, e1, by omega, by omega, _, _, _, e3, b, hb1, by omega, by omega, (O[j].syms[t] : Int), hb2, _, rfl, by omega, by omega, _, by rw [ts]; exact hcell, by omega, _, rfl, by omega, by omega, ⟨_, by rw [ts]; exact hcell⟩, ho6.notFrozen (add_block _ _), by omega, O[j].syms.length - (t + 1), by omega, t + 1, by omega, by omega, rfl, ?_, ?_⟩
              · rw [ts, List.take_succ_eq_append_getElem lt, addL_append]
                have hset := ho6.set (j := O[j].syms[t]) (by simp [ints]; omega) (.int .i64 ((addL (O[j].syms.take t) ys).getD O[j].syms[t] 0 + 1))
                simpa [ints, List.map_set, addL, bump] using hset
              · exact grown_set hg6 (add_block _ _) _
            · have : t = O[j].syms.length := by omega
              subst this
              rw [List.take_length] at ho6
              refine ⟨by omega, 2 * (coinsL xs).length - 2 - (j + 1), by omega, j + 1, _, by omega, by omega, rfl, ?_, ho6, g46⟩
              have hjl : j < (lev (coinsL xs) k).length := by omega
              have : (lev (coinsL xs) k)[j] = rcCoin O[j] := by simp [← hOk]
              rw [hys, List.take_succ_eq_append_getElem hjl, List.flatMap_append, addL_append, this]
              simp [rcCoin]
          · have hj' : j = 2 * (coinsL xs).length - 2 := by omega
            refine fin w5 ys ?_ ho5 (grown_trans (grown_none hg4) hg5)
            rw [hys, hlens, hchosen, hj']
end Go.Proofs.Ytmenmmgfdakeeaa
