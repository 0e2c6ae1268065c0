/- The readers' heads: numbers and lengths: the walks. -/
import Derived.Test.YtmenmmgfdakeeaaH6g
namespace Go.Proofs.Ytmenmmgfdakeeaa
open Go Go.V Go.RowKit
set_option linter.unusedVariables false
set_option linter.unusedSimpArgs false
set_option maxHeartbeats 4000000
set_option maxRecDepth 100000

theorem u8s_drop (l : List Int) (k : Nat) : (u8s l).drop k = u8s (l.drop k) := by simp
theorem cut8 {w : World} {A : Option Addr} {c k : Nat} {l : List Int} (h : Row w A (u8s l)) (hc : l.length ≤ c) : Row w (cutA A c k 1) (u8s (l.drop k)) := by
  unfold cutA
  split
  · rename_i hck
    rw [List.drop_eq_nil_of_le (by omega)]
    intro j u hj; simp at hj
  · have := h.drop (k * 1)
    rw [Nat.mul_one, u8s_drop] at this
    rw [Nat.mul_one]
    exact this
theorem cut_block {A : Option Addr} {c k : Nat} {a : Addr} (h : cutA A c k 1 = some a) : ∃ a', A = some a' ∧ a.block = a'.block := by
  unfold cutA at h
  split at h
  · exact ⟨a, h, rfl⟩
  · cases A with
    | none => simp at h
    | some a' => simp at h; subst h; exact ⟨a', rfl, add_block _ _⟩

/-- The reader of numbers in memory: bytes that are left, is all right? -/
def NumAt (w : World) (g : Nat) (l : List Int) (ok : Bool) : Prop := ∃ (A : Option Addr) (n c : Nat), w.heap[g]? = some (.cells #[.slice A n c, .bool ok] 155 (0, 0)) ∧ Row w A (u8s l) ∧ n = l.length ∧ n ≤ c ∧ ∀ a, A = some a → l = [] ∨ a.block < g
theorem NumAt.kp {w w' : World} {S : Nat → Prop} {g : Nat} {l : List Int} {ok : Bool} (h : NumAt w g l ok) (hk : Kp w w' S) (hS : ∀ k, k ≤ g → ¬ S k) : NumAt w' g l ok := by
  obtain ⟨A, n, c, h1, h2, h3, h4, h5⟩ := h
  exact ⟨A, n, c, by rw [hk.block g (Array.getElem?_eq_some_iff.1 h1).1 (hS g (Nat.le_refl _))]; exact h1, h2.kpE hk (fun a ha => (h5 a ha).imp (fun e => by rw [e]; rfl) (fun e => hS _ (by omega))), h3, h4, h5⟩
theorem NumAt.lt {w : World} {g : Nat} {l : List Int} {ok : Bool} (h : NumAt w g l ok) : g < w.heap.size := by
  obtain ⟨A, n, c, h1, _⟩ := h
  exact (Array.getElem?_eq_some_iff.1 h1).1

theorem set1 {w w' : World} {S : Nat → Prop} {g j : Nat} {u : Value} (h : Kp w w' S) (hS : S g) : Kp w (w'.setCell ⟨g, j, none⟩ u) S := h.set (p := ⟨g, j, none⟩) (.inr hS) u
theorem set2 {w w' : World} {S : Nat → Prop} {b j : Nat} {u : Value} (h : Kp w w' S) (hS : S b) : Kp w (w'.setCell ((⟨b, 0, none⟩ : Addr).add j) u) S := h.set (.inr (by rw [add_block]; exact hS)) u
theorem num_calls {w : World} {g : Nat} {l : List Int} {ok : Bool} {most : Int} (h : NumAt w g l ok) (hb : BytesB l) (hl : l.length ≤ 2 ^ 40) (hm : 0 ≤ most ∧ most ≤ 9223372036854775807) :
    Calls P 100 #[.pointer (some ⟨g, 0, none⟩), .int .u64 most] w fun ev w' => ev = .returned (.int .i64 (takeV most l).1) ∧ NumAt w' g (l.drop (takeV most l).2.1) (ok && decide ((takeV most l).2.2 = 0)) ∧ Kp w w' (fun k => k = g) := by
  obtain ⟨A, n, c, h1, h2, h3, h4, h5⟩ := h
  apply vc100; unfold VC100
  simp only [InK]
  refine ⟨_, rfl, _, _, _, blk_cell h1 0, ?_⟩
  refine (vtake_calls (most := most) h2 h3 hb (by omega)).mono fun ev w1 hh => ?_
  obtain ⟨rfl, g1⟩ := hh
  have ht := takeV_is (most := most) (b := l) (fun x hx => (hb x hx).1)
  obtain ⟨v, k, e, hv⟩ : ∃ v k e, takeV most l = (v, k, e) := ⟨_, _, _, rfl⟩
  rw [hv] at ht ⊢
  simp only at ht ⊢
  have hg1 := grown_drew g1
  have lt : g < w.heap.size := (Array.getElem?_eq_some_iff.1 h1).1
  have h1' : w1.drew.heap[g]? = some (.cells #[.slice A n c, .bool ok] 155 (0, 0)) := by rw [hg1.block g lt (by simp)]; exact h1
  have tk : (k : Int).toNat = k := by omega
  have hkn : k ≤ n := by omega
  have hs1 := blk_set h1' 0 (.slice (cutA A c k 1) (n - k) (c - k))
  have fin : ∀ q : Bool, NumAt ((w1.drew.setCell ⟨g, 0, none⟩ (.slice (cutA A c k 1) (n - k) (c - k))).setCell ⟨g, 1, none⟩ (.bool q)) g (l.drop k) q ∧ Kp w ((w1.drew.setCell ⟨g, 0, none⟩ (.slice (cutA A c k 1) (n - k) (c - k))).setCell ⟨g, 1, none⟩ (.bool q)) (fun k => k = g) := by
    intro q
    have K : Kp w ((w1.drew.setCell ⟨g, 0, none⟩ (.slice (cutA A c k 1) (n - k) (c - k))).setCell ⟨g, 1, none⟩ (.bool q)) (fun k => k = g) := set1 (set1 (Kp.of_none hg1) rfl) rfl
    refine ⟨⟨_, _, _, by simpa using blk_set hs1 1 (.bool q), ?_, by simp; omega, by omega, ?_⟩, K⟩
    · exact cut8 (h2.kpE K (fun a ha => (h5 a ha).imp (fun e => by rw [e]; rfl) (fun e => by omega))) (by omega)
    · intro a ha
      obtain ⟨a', e1, e2⟩ := cut_block ha
      exact (h5 a' e1).imp (fun e => by rw [e]; simp) (fun e => by omega)
  refine ⟨v, (k : Int), e, rfl, _, rfl, _, _, _, blk_cell h1' 0, ⟨by omega, by omega⟩, ?_⟩
  rw [tk]
  refine ⟨_, rfl, ok, by rw [add_lit]; exact blk_cell h1' 1, fun h => ?_, fun h => ?_⟩
  · refine ⟨_, rfl, ⟨_, blk_cell h1' 0⟩, blk_free h1' 0, _, rfl, ⟨_, by rw [add_lit]; exact blk_cell hs1 1⟩, by rw [add_lit]; exact blk_free hs1 1, ⟨by omega, by omega⟩, rfl, ?_⟩
    rw [add_lit, h, Bool.true_and]
    exact fin _
  · refine ⟨_, rfl, ⟨_, blk_cell h1' 0⟩, blk_free h1' 0, _, rfl, ⟨_, by rw [add_lit]; exact blk_cell hs1 1⟩, by rw [add_lit]; exact blk_free hs1 1, ⟨by omega, by omega⟩, rfl, ?_⟩
    rw [add_lit, h, Bool.false_and]
    exact fin _

/-- Lengths' head, and what comes then. -/
def HdOk (l ls tail : List Int) : Prop := ls.length = 256 ∧ (∀ v ∈ ls, 0 ≤ v ∧ v ≤ 15) ∧ l = putV (posN ls) ++ (headR ls 0 0 ++ tail)

/-- One row of the head, under the numbers' taking. -/
theorem HdOk.step {ls tail r : List Int} {k : Nat} {n : Int} (hls : ls.length = 256) (hr : ∀ v ∈ ls, 0 ≤ v ∧ v ≤ 15) (hk : k ≤ 256) (hn : n = (posN (ls.drop k) : Int)) (hp : 0 < n) (he : r = headR (ls.drop k) k k ++ tail) :
    ∃ (i : Nat) (x : Int) (r1 : List Int), k + i < 256 ∧ 0 ≤ x ∧ x ≤ 15 ∧ r = putV i ++ r1 ∧ r1 = putV x.toNat ++ (headR (ls.drop (k + i + 1)) (k + i + 1) (k + i + 1) ++ tail) ∧ (upto ls k).set (k + i) x = upto ls (k + i + 1) ∧ n - 1 = (posN (ls.drop (k + i + 1)) : Int) := by
  obtain ⟨i, x, h1, h2, h3, h4, h5⟩ := head_step (ls.drop k) k k (Nat.le_refl _) (by omega)
  obtain ⟨u1, u2⟩ := upto_step hls (fun v hv => (hr v hv).1) hk h1 h3
  have hx := hr x (List.mem_of_mem_drop (List.mem_of_getElem? h1))
  rw [List.drop_drop, show k + (i + 1) = k + i + 1 by omega] at h4 h5
  refine ⟨i, x, _, u1, hx.1, hx.2, ?_, rfl, u2, by omega⟩
  rw [he, h4, show k + i - k = i by omega]
  simp

theorem lens_calls {w : World} {g : Nat} {l : List Int} (h : NumAt w g l true) (hb : BytesB l) (hl : l.length ≤ 2 ^ 40) :
    Calls P 101 #[.pointer (some ⟨g, 0, none⟩)] w fun ev w' => ∃ (A' : Option Addr) (c' : Nat) (out : List Int) (ok : Bool) (p : Nat), ev = .returned (.slice A' 256 c') ∧ Row w' A' (ints out) ∧ out.length = 256 ∧ NumAt w' g (l.drop p) ok ∧ Kp w w' (fun k => k = g) ∧ ∀ ls tail, HdOk l ls tail → ok = true ∧ out = ls ∧ l.drop p = tail := by
  apply vc101; unfold VC101
  simp only [InK]
  obtain ⟨w1, hr1, hown, g1⟩ := run_made (P := P) (w := w) elemInt (by omega) (m := 256) (by omega)
  have hgl := h.lt
  refine ⟨_, _, _, w1, hr1, ?_⟩
  have h1 : NumAt w1 g l true := h.kp (S := fun _ => False) (Kp.of_none g1) (fun _ _ h => h)
  refine (num_calls (most := 256) h1 hb hl (by omega)).mono fun ev w2 hh => ?_
  obtain ⟨rfl, hN2, k2⟩ := hh
  have ht := takeV_is (most := 256) (b := l) (fun x hx => (hb x hx).1)
  have o2 : Own w2 w.heap.size 3 256 (List.replicate 256 (.int .i64 0)) := hown.of_heap (k2.block _ hown.lt (by omega))
  have K2 : Kp w w2 (fun k => k = g) := (Kp.of_none g1).then k2 (fun k _ e => e)
  refine ⟨_, rfl, ?_⟩
  refine ⟨fun m next n w3 => ∃ (p k : Nat) (out : List Int) (ok : Bool), next = (k : Int) ∧ k ≤ 256 ∧ m = n.toNat ∧ 0 ≤ n ∧ n ≤ 256 ∧ Own w3 w.heap.size 3 256 (ints out) ∧ out.length = 256 ∧ NumAt w3 g (l.drop p) ok ∧ Kp w w3 (fun k => k = g) ∧ ∀ ls tail, HdOk l ls tail → ok = true ∧ out = upto ls k ∧ n = (posN (ls.drop k) : Int) ∧ l.drop p = headR (ls.drop k) k k ++ tail,
    ⟨_, _, 0, List.replicate 256 0, _, rfl, by omega, rfl, by omega, by omega, by simpa [ints] using o2, by simp, hN2, K2, ?_⟩, ?_⟩
  · rintro ls tail ⟨hls, hr, he⟩
    have hpn := posN_le ls
    have htk := takeV_put (most := 256) (n := posN ls) (by omega) (by omega) (headR ls 0 0 ++ tail)
    rw [← he] at htk
    rw [htk]
    refine ⟨by simp, (upto_zero ls).symm, by simp, ?_⟩
    show l.drop (putV (posN ls)).length = _
    rw [he]; simp
  rintro m next n w3 ⟨p, k, out, ok, rfl, hk, rfl, hn0, hn1, ho, hol, hN, K3, hc⟩
  have hout : ∀ w', w'.heap[w.heap.size]? = w3.heap[w.heap.size]? → Own w' w.heap.size 3 256 (ints out) := fun w' e => ho.of_heap e
  have fin : ∀ w' (o' : List Int), Own w' w.heap.size 3 256 (ints o') → Row w' (some ⟨w.heap.size, 0, none⟩) (ints o') := fun w' o' h => h.row
  refine ⟨fun hpos => ?_, fun hz => ?_⟩
  · obtain ⟨A, nn, cc, b1, b2, b3, b4, b5⟩ := hN
    have hN : NumAt w3 g (l.drop p) ok := ⟨A, nn, cc, b1, b2, b3, b4, b5⟩
    refine ⟨_, rfl, ok, by rw [add_lit]; exact blk_cell b1 1, fun hok => ?_, fun hok => ?_⟩
    · subst hok
      have hbd : BytesB (l.drop p) := fun x hx => hb x (List.mem_of_mem_drop hx)
      refine (num_calls (most := 256) hN hbd (by simp; omega) (by omega)).mono fun ev w4 hh => ?_
      obtain ⟨rfl, hN4, k4⟩ := hh
      have ht4 := takeV_is (most := 256) (b := l.drop p) (fun x hx => (hbd x hx).1)
      obtain ⟨v, q, e, hv⟩ : ∃ v q e, takeV 256 (l.drop p) = (v, q, e) := ⟨_, _, _, rfl⟩
      rw [hv] at ht4 hN4 ⊢
      simp only [Bool.true_and] at ht4 hN4 ⊢
      rw [List.drop_drop] at hN4
      have ho4 : Own w4 w.heap.size 3 256 (ints out) := ho.of_heap (k4.block _ ho.lt (by omega))
      have K4 : Kp w w4 (fun k => k = g) := K3.then k4 (fun k _ e => e)
      obtain ⟨A4, n4, c4, d1, d2, d3, d4, d5⟩ := hN4
      have hc4 : ∀ ls tail, HdOk l ls tail → ∃ (x : Int) (i : Nat), v = (i : Int) ∧ e = 0 ∧ k + i < 256 ∧ 0 ≤ x ∧ x ≤ 15 ∧ l.drop (p + q) = putV x.toNat ++ (headR (ls.drop (k + i + 1)) (k + i + 1) (k + i + 1) ++ tail) ∧ out.set (k + i) x = upto ls (k + i + 1) ∧ n - 1 = (posN (ls.drop (k + i + 1)) : Int) := by
        intro ls tail hd
        obtain ⟨_, c1, c2, c3⟩ := hc ls tail hd
        obtain ⟨i, x, r1, s1, s2, s3, s4, s5, s6, s7⟩ := HdOk.step hd.1 hd.2.1 hk c2 hpos c3
        have htk := takeV_put (most := 256) (n := i) (by omega) (by omega) r1
        rw [← s4, hv] at htk
        have e1 : v = (i : Int) := congrArg Prod.fst htk
        have e2 : q = (putV i).length := congrArg (fun t => t.2.1) htk
        have e3 : e = 0 := congrArg (fun t => t.2.2) htk
        refine ⟨x, i, e1, e3, s1, s2, s3, ?_, by rw [c1]; exact s6, s7⟩
        rw [← List.drop_drop, s4, e2, List.drop_left, s5]
      refine ⟨v, rfl, by omega, _, rfl, decide (e = 0), by rw [add_lit]; exact blk_cell d1 1, fun he => ?_, fun he => ?_⟩
      · have he0 : e = 0 := by simpa using he
        have hs1 := blk_set d1 1 (.bool (decide ((k : Int) + v < 256)))
        have K5 : Kp w4 (w4.setCell ⟨g, 1, none⟩ (.bool (decide ((k : Int) + v < 256)))) (fun k => k = g) := set1 (Kp.refl w4 _) rfl
        have ho5 := ho4.of_heap (K5.block _ ho4.lt (by omega))
        have hN5 : NumAt (w4.setCell ⟨g, 1, none⟩ (.bool (decide ((k : Int) + v < 256)))) g (l.drop (p + q)) (decide ((k : Int) + v < 256)) :=
          ⟨A4, n4, c4, by simpa using hs1, d2.kpE K5 (fun a ha => (d5 a ha).imp (fun e => by rw [e]; rfl) (fun e => by omega)), d3, d4, d5⟩
        refine ⟨_, rfl, ⟨_, by rw [add_lit]; exact blk_cell d1 1⟩, by rw [add_lit]; exact blk_free d1 1, _, rfl, decide ((k : Int) + v < 256), ?_, fun hlt => ?_, fun hge => ?_⟩
        · rw [add_lit]; simpa using blk_cell hs1 1
        · rw [add_lit]
          have hlt' : (k : Int) + v < 256 := by simpa using hlt
          rw [hlt] at hN5
          simp only [hlt] at ho5 hN5 K5 ⊢
          have hbd2 : BytesB (l.drop (p + q)) := fun x hx => hb x (List.mem_of_mem_drop hx)
          refine (num_calls (most := 15) hN5 hbd2 (by simp; omega) (by omega)).mono fun ev w6 hh => ?_
          obtain ⟨rfl, hN6, k6⟩ := hh
          have ho6 := ho5.of_heap (k6.block _ ho5.lt (by omega))
          have tv : ((k : Int) + v).toNat = k + v.toNat := by omega
          have hcell := ho6.cell (j := k + v.toNat) (u := .int .i64 (out.getD (k + v.toNat) 0)) (ints_at (by omega))
          refine ⟨_, rfl, by omega, _, rfl, by omega, by omega, ?_, ?_, by omega, (n - 1).toNat, by omega, ?_⟩
          · rw [tv]; exact ⟨_, hcell⟩
          · exact ho6.notFrozen (add_block _ _)
          · rw [tv]
            have hset := ho6.set (j := k + v.toNat) (by rw [List.length_map]; omega) (.int .i64 (takeV 15 (l.drop (p + q))).1)
            rw [ints_set] at hset
            have K6 : Kp w (w6.setCell ((⟨w.heap.size, 0, none⟩ : Addr).add (k + v.toNat)) (.int .i64 (takeV 15 (l.drop (p + q))).1)) (fun k => k = g) := ((K4.then K5 (fun k _ e => e)).then k6 (fun k _ e => e)).set (.inl (by rw [add_block]; exact Nat.le_refl _)) _
            have hN7 := hN6.kp (S := fun k => k = w.heap.size) (set2 (b := w.heap.size) (j := k + v.toNat) (u := .int .i64 (takeV 15 (l.drop (p + q))).1) (Kp.refl w6 _) rfl) (fun k hk e => by omega)
            rw [List.drop_drop] at hN7
            refine ⟨_, k + v.toNat + 1, out.set (k + v.toNat) (takeV 15 (l.drop (p + q))).1, _, by omega, by omega, rfl, by omega, by omega, hset, by simp; omega, hN7, K6, ?_⟩
            intro ls tail hd
            obtain ⟨x, i, a1, a2, a3, a4, a5, a6, a7, a8⟩ := hc4 ls tail hd
            have htk := takeV_put (most := 15) (n := x.toNat) (by omega) (by omega) (headR (ls.drop (k + i + 1)) (k + i + 1) (k + i + 1) ++ tail)
            rw [← a6] at htk
            have ti : v.toNat = i := by omega
            rw [htk, ti]
            refine ⟨by simp, ?_, a8, ?_⟩
            · show out.set (k + i) ((x.toNat : Nat) : Int) = _
              rw [show ((x.toNat : Nat) : Int) = x by omega]; exact a7
            · show l.drop (p + q + (putV x.toNat).length) = _
              rw [← List.drop_drop, a6, List.drop_left]
        · rw [add_lit]
          simp only [hge] at ho5 hN5 K5 ⊢
          refine ⟨by omega, (n - 1).toNat, by omega, p + q, k, out, false, rfl, hk, rfl, by omega, by omega, ho5, hol, hN5, K4.then K5 (fun k _ e => e), ?_⟩
          intro ls tail hd
          obtain ⟨x, i, a1, a2, a3, _⟩ := hc4 ls tail hd
          exfalso
          have : decide ((k : Int) + v < 256) = true := by simp; omega
          rw [hge] at this; cases this
      · have hs1 := blk_set d1 1 (.bool false)
        have K5 : Kp w4 (w4.setCell ⟨g, 1, none⟩ (.bool false)) (fun k => k = g) := set1 (Kp.refl w4 _) rfl
        have ho5 := ho4.of_heap (K5.block _ ho4.lt (by omega))
        have hN5 : NumAt (w4.setCell ⟨g, 1, none⟩ (.bool false)) g (l.drop (p + q)) false :=
          ⟨A4, n4, c4, by simpa using hs1, d2.kpE K5 (fun a ha => (d5 a ha).imp (fun e => by rw [e]; rfl) (fun e => by omega)), d3, d4, d5⟩
        refine ⟨_, rfl, ⟨_, by rw [add_lit]; exact blk_cell d1 1⟩, by rw [add_lit]; exact blk_free d1 1, _, rfl, false, ?_, fun h => (by cases h), fun _ => ?_⟩
        · rw [add_lit]; simpa using blk_cell hs1 1
        · rw [add_lit]
          refine ⟨by omega, (n - 1).toNat, by omega, p + q, k, out, false, rfl, hk, rfl, by omega, by omega, ho5, hol, hN5, K4.then K5 (fun k _ e => e), ?_⟩
          intro ls tail hd
          obtain ⟨x, i, a1, a2, _⟩ := hc4 ls tail hd
          exfalso
          have : decide (e = 0) = true := by simpa using a2
          rw [he] at this; cases this
    · exact ⟨_, _, out, ok, p, rfl, fin w3 out ho, hol, hN, K3, fun ls tail hd => by have := (hc ls tail hd).1; rw [hok] at this; cases this⟩
  · refine ⟨_, _, out, ok, p, rfl, fin w3 out ho, hol, hN, K3, fun ls tail hd => ?_⟩
    obtain ⟨c0, c1, c2, c3⟩ := hc ls tail hd
    have hp0 : posN (ls.drop k) = 0 := by omega
    obtain ⟨h1, h2⟩ := head_end (ls.drop k) k k hp0
    rw [h1, List.nil_append] at c3
    refine ⟨c0, ?_, c3⟩
    rw [c1]; exact upto_end hd.1 (fun v hv => (hd.2.1 v hv).1) hk h2
end Go.Proofs.Ytmenmmgfdakeeaa
