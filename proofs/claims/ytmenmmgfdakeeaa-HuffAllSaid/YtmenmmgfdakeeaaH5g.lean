/- huff.Put: the walk. -/
import Derived.Test.YtmenmmgfdakeeaaH4g
import Derived.Test.YtmenmmgfdakeeaaXHg
namespace Go.Proofs.Ytmenmmgfdakeeaa
open Go Go.V Go.RowKit
set_option linter.unusedVariables false
set_option linter.unusedSimpArgs false
set_option maxHeartbeats 4000000
set_option maxRecDepth 100000

theorem owned_apart {w : World} {b b' s s' n c n' c' : Nat} {e e' : TypeId} {A A' : Option Addr} {xs xs' : List Value} (h : OwnedK w b e s A n c xs) (h' : OwnedK w b' e' s' A' n' c' xs') (ne : e ≠ e') : (Value.slice A n c).ownBlock = none ∨ (Value.slice A n c).ownBlock ≠ (Value.slice A' n' c').ownBlock := by
  cases hk : (Value.slice A n c).ownBlock with
  | none => exact .inl rfl
  | some k =>
    refine .inr fun hq => ?_
    obtain ⟨c1, h1⟩ := h.block_type k hk
    obtain ⟨c2, h2⟩ := h'.block_type k hq.symm
    rw [h1] at h2
    cases h2
    exact ne rfl
theorem owned_cap {w : World} {b s n c : Nat} {e : TypeId} {A : Option Addr} {xs : List Value} (h : OwnedK w b e s A n c xs) : A = none → c = 0 := by
  obtain ⟨_, ⟨_, _, e, _⟩ | ⟨g, cur, e, _⟩⟩ := h.cases
  · exact fun _ => e
  · intro q; rw [q] at e; cases e
theorem posN_cons (x : Int) (l : List Int) : posN (x :: l) = (if 0 < x then 1 else 0) + posN l := by
  unfold posN
  rw [List.filter_cons]
  by_cases h : 0 < x
  · simp [h]; omega
  · simp [h]
theorem putVs_two (a b : Nat) : putVs [a, b] = putV a ++ putV b := by simp [putVs]
theorem putVs_one (a : Nat) : putVs [a] = putV a := by simp [putVs]
theorem u8_len {w : World} {b n c : Nat} {A : Option Addr} {xs : List Int} (h : OwnedK w b 5 1 A n c (u8s xs)) : n = xs.length := by
  have := h.cases.1; rw [List.length_map] at this; omega
theorem headR_length : ∀ (l : List Int) (s nx : Nat), (∀ v ∈ l, 0 ≤ v ∧ v ≤ 15) → s + l.length ≤ 256 → (headR l s nx).length ≤ 20 * l.length
  | [], s, nx, _, _ => by simp [headR]
  | x :: l, s, nx, h, hs => by
    have hx := h x (by simp)
    simp only [List.length_cons] at hs
    have ih1 := headR_length l (s + 1) (s + 1) (fun v hv => h v (by simp [hv])) (by omega)
    have ih2 := headR_length l (s + 1) nx (fun v hv => h v (by simp [hv])) (by omega)
    rw [headR]
    split
    · have a1 := putV_len10 (v := s - nx) (by omega)
      have a2 := putV_len10 (v := x.toNat) (by omega)
      simp only [List.length_append, List.length_cons]; omega
    · simp only [List.length_cons]; omega

theorem hput_calls {w : World} {A : Option Addr} {n c : Nat} {b : List Int} (hr : Row w A (u8s b)) (hn : n = b.length) (hb : BytesB b) (hl : n ≤ 2 ^ 20) :
    Calls P 52 #[.slice A n c] w fun ev w' => ∃ (A' : Option Addr) (n' c' : Nat), ev = .returned (.slice A' n' c') ∧ OwnedK w' w.heap.size 5 1 A' n' c' (u8s (putH b)) ∧ w.grownBy w' none := by
  apply vc52; unfold VC52
  simp only [InK]
  refine ⟨by omega, ?_⟩
  have gal := World.grownBy_alloc w (.cells #[.int .u64 (n : Int)] 78) none
  have hra : Row (w.alloc (.cells #[.int .u64 (n : Int)] 78)) (some ⟨w.heap.size, 0, none⟩) (u64s [n]) := row_alloc w _ 78
  refine (vput_calls (l := [n]) hra rfl (by simp; omega) (by simp)).mono fun ev w1 hh => ?_
  obtain ⟨A1, n1, c1, rfl, o1, g1⟩ := hh
  replace o1 := o1.mono (base' := w.heap.size) gal.size
  have g01 := grown_trans gal g1
  rw [putVs_one] at o1
  refine ⟨A1, n1, c1, rfl, fun h0 => ?_, fun h0 => ?_⟩
  · have e : b = [] := by apply List.eq_nil_of_length_eq_zero; omega
    subst e
    have e0 : n = 0 := by omega
    subst e0
    exact ⟨_, _, _, rfl, by simpa [putH] using o1, g01⟩
  have hne : b ≠ [] := fun e => by subst e; simp at hn; omega
  obtain ⟨hls, hR, hsym, hrng⟩ := lsB_facts hb hne
  have hput : putH b = putV n ++ (putV (posN (lsB b)) ++ (headR (lsB b) 0 0 ++ packB (encL (lsB b) (symB b)))) := by rw [putH, if_neg hne, hn]
  have r1 := hr.kept_none g01
  refine (hcounts_calls r1 hn hb (by omega)).mono fun ev w2 hh => ?_
  obtain ⟨A2, n2, c2, rfl, o2, g2⟩ := hh
  refine ⟨_, _, _, rfl, ?_⟩
  have hn2 : n2 = (cntB b).length := by rw [o2.cases.1]; simp [ints]
  refine (lengths_calls (most := 15) o2.row hn2).mono fun ev w3 hh => ?_
  obtain ⟨A3, n3, c3, rfl, o3, g3⟩ := hh
  replace o3 : Owned w3 w2.heap.size 3 A3 n3 c3 (ints (lsB b)) := o3
  generalize lsB b = ls at *
  have hn3 : n3 = 256 := by rw [o3.cases.1]; simp [ints, hls]
  have hpn := posN_le ls
  have hnl := putV_len10 (v := n) (by omega)
  have g13 := grown_trans g2 g3
  have g03 := grown_trans g01 g13
  refine ⟨_, _, _, rfl, ?_⟩
  refine ⟨fun m nn nx Ah nh ch i w4 => ∃ (j k : Nat) (hd : List Int), i = (j : Int) ∧ nx = (k : Int) ∧ k ≤ j ∧ j ≤ 256 ∧ m = 256 - j ∧ nn + (posN (ls.drop j) : Int) = (posN ls : Int) ∧ hd ++ headR (ls.drop j) j k = headR ls 0 0 ∧ OwnedK w4 w3.heap.size 5 1 Ah nh ch (u8s hd) ∧ hd.length ≤ 20 * j ∧ 0 ≤ nn ∧ w3.grownBy w4 none,
    ⟨_, 0, 0, [], rfl, rfl, by omega, by omega, rfl, by simp, by simp, OwnedK.nil _ _ _ _, by simp, by omega, grown_refl _ _⟩, ?_⟩
  rintro m nn nx Ah nh ch i w4 ⟨j, k, hd, rfl, rfl, hkj, hj, rfl, hnn, hhd, oh, hhl, hn0, hg4⟩
  have tj : (j : Int).toNat = j := by omega
  rw [tj]
  have hnh := u8_len oh
  refine ⟨fun hlt => ?_, fun hge => ?_⟩
  · have lj : j < ls.length := by omega
    have hdrop := List.drop_eq_getElem_cons lj
    have hrj := hrng _ (List.getElem_mem lj)
    obtain ⟨p, hp⟩ : ∃ p : Nat, ls[j] = (p : Int) := ⟨ls[j].toNat, by omega⟩
    obtain ⟨a, ha1, ha2⟩ := (o3.row.kept_none hg4) j (.int .i64 ls[j]) (by simp [ints, lj])
    rw [hp] at ha2 hdrop hrj
    rw [hdrop, headR] at hhd
    rw [hdrop, posN_cons] at hnn
    refine ⟨a, ha1, by omega, by omega, _, ha2, fun hpos => ?_, fun hz => ?_⟩
    · rw [if_pos (by omega)] at hhd hnn
      have ep : (p : Int).toNat = p := by omega
      rw [ep] at hhd
      refine ⟨by omega, by omega, by omega, ?_⟩
      rw [show ((j : Int) - (k : Int)) = ((j - k : Nat) : Int) by omega]
      have ga := World.grownBy_alloc w4 (.cells #[.int .u64 ((j - k : Nat) : Int), .int .u64 (p : Int)] 78) none
      have hra : Row (w4.alloc (.cells #[.int .u64 ((j - k : Nat) : Int), .int .u64 (p : Int)] 78)) (some ⟨w4.heap.size, 0, none⟩) (u64s [j - k, p]) := row_alloc w4 _ 78
      refine (vput_calls (l := [j - k, p]) hra rfl (by simp; omega) (by simp)).mono fun ev w5 hh => ?_
      obtain ⟨A5, n5, c5, rfl, o5, g5⟩ := hh
      have g45 := grown_trans ga g5
      rw [putVs_two] at o5
      have hn5 := u8_len o5
      have l1 := putV_len10 (v := j - k) (by omega)
      have l2 := putV_len10 (v := p) (by omega)
      have l5 : (putV (j - k) ++ putV p).length ≤ 20 := by rw [List.length_append]; omega
      obtain ⟨A6, n6, c6, w6, e1, e2, e3, e4⟩ := append_bytes (oh.kept g45) o5.row hn5 (owned_cap o5) (by omega) (Nat.le_trans hg4.size g45.size)
      refine ⟨_, _, _, rfl, _, _, _, w6, e1, by omega, by omega, by omega, 256 - (j + 1), by omega, j + 1, j + 1, hd ++ (putV (j - k) ++ putV p), by omega, by omega, by omega, by omega, rfl, by omega, ?_, e2, ?_, by omega, grown_own (grown_trans hg4 g45) e3 oh.block_ge⟩
      · rw [← hhd]; simp
      · rw [List.length_append]; omega
    · rw [if_neg (by omega)] at hhd hnn
      exact ⟨by omega, 256 - (j + 1), by omega, j + 1, k, hd, by omega, rfl, by omega, by omega, rfl, by omega, hhd, oh, by omega, hn0, hg4⟩
  have e256 : j = 256 := by omega
  subst e256
  rw [List.drop_eq_nil_of_le (by omega)] at hhd hnn
  simp only [headR, List.append_nil] at hhd
  subst hhd
  have hnn' : nn = (posN ls : Int) := by simp [posN] at hnn ⊢; omega
  subst hnn'
  refine ⟨by omega, ?_⟩
  have ga := World.grownBy_alloc w4 (.cells #[.int .u64 (posN ls : Int)] 78) none
  have hra : Row (w4.alloc (.cells #[.int .u64 (posN ls : Int)] 78)) (some ⟨w4.heap.size, 0, none⟩) (u64s [posN ls]) := row_alloc w4 _ 78
  refine (vput_calls (l := [posN ls]) hra rfl (by simp; omega) (by simp)).mono fun ev w7 hh => ?_
  obtain ⟨A7, n7, c7, rfl, o7, g7⟩ := hh
  have g47 := grown_trans ga g7
  have g37 := grown_trans hg4 g47
  have g17 := grown_trans g13 g37
  rw [putVs_one] at o7
  have hn7 := u8_len o7
  have hn1 := u8_len o1
  have l7 := putV_len10 (v := posN ls) (by omega)
  have o1' := o1.kept g17
  have oh7 := oh.kept g47
  have o37 := OwnedK.kept (size := 1) o3 g37
  obtain ⟨A8, n8, c8, w8, e1, e2, e3, e4⟩ := append_bytes o1' o7.row hn7 (owned_cap o7) (by omega) (Nat.le_trans g01.size g17.size)
  refine ⟨_, _, _, rfl, _, _, _, w8, e1, ?_⟩
  have oh8 := oh7.apart e3 (by
    cases hk : (Value.slice Ah nh ch).ownBlock with
    | none => exact .inl rfl
    | some k =>
      refine .inr fun hq => ?_
      have a1 := oh.block_ge k hk
      have a2 := o1.block_lt k hq.symm
      have a3 := g13.size
      omega)
  have o38 := o37.apart e3 (owned_apart o37 o1' (by decide))
  have K8 : Kp w w8 (fun k => w.heap.size ≤ k) := (Kp.of_none (grown_trans g01 g17)).step e3 (fun k hk => .inr (o1.block_ge k hk))
  obtain ⟨A9, n9, c9, w9, f1, f2, f3, f4⟩ := append_bytes e2 oh8.row (u8_len oh8) (owned_cap oh8) (by omega) K8.size
  refine ⟨_, _, _, w9, f1, ?_⟩
  have o39 := o38.apart f3 (owned_apart o38 e2 (by decide))
  have K9 : Kp w w9 (fun k => w.heap.size ≤ k) := K8.step f3 (fun k hk => .inr (e2.block_ge k hk))
  refine (new_calls (ls := ls) o39.row (by omega) (by omega)).mono fun ev w10 hh => ?_
  obtain ⟨g10, ⟨hf, rfl⟩ | ⟨_, gt, rfl, hT⟩⟩ := hh
  · rw [hR] at hf; cases hf
  refine ⟨_, _, rfl, ?_⟩
  refine (newWriter_calls (base := w10.heap.size) (Nat.le_refl _)).mono fun ev w11 hh => ?_
  obtain ⟨rfl, hW, g11⟩ := hh
  refine ⟨_, rfl, ?_⟩
  have K10 : Kp w w10 (fun k => w.heap.size ≤ k) := K9.step g10 (fun k hk => by cases hk)
  have r10 : Row w10 A (u8s b) := hr.kp K10 (fun a ha hk e => by omega)
  have hA : ∀ a, A = some a → a.block < w.heap.size := fun a ha => by
    obtain ⟨q, q1, q2⟩ := hr.blk (by simpa using hne)
    rw [ha] at q1; cases q1; exact q2
  have keepT : ∀ w', Kp w10 w' (fun k => w10.heap.size ≤ k) → TabAt w' w10.heap.size gt ls := fun w' h => hT.kp h (fun k hk e => by omega)
  refine ⟨fun m i w12 => ∃ j : Nat, i = (j : Int) ∧ j ≤ b.length ∧ m = b.length - j ∧ Wr w12 w10.heap.size w10.heap.size (encL ls ((symB b).take j)) ∧ Kp w10 w12 (fun k => w10.heap.size ≤ k),
    ⟨_, 0, rfl, by omega, rfl, by simpa [encL] using hW, Kp.of_none g11⟩, ?_⟩
  rintro m i w12 ⟨j, rfl, hj, rfl, hW12, K12⟩
  have tj : (j : Int).toNat = j := by omega
  rw [tj]
  have hel := encL_length hR ((symB b).take j)
  have hsb := sizeL_bound hR ((symB b).take j)
  have htl : ((symB b).take j).length = j := by simp; omega
  refine ⟨fun hlt => ?_, fun hge => ?_⟩
  · have lj : j < b.length := by omega
    obtain ⟨a, ha1, ha2⟩ := (r10.kp K12 (fun a ha _ e => by have := hA a ha; have := K10.size; omega)) j (.int .u8 b[j]) (by simp [lj])
    have hbj := hb _ (List.getElem_mem lj)
    refine ⟨a, ha1, by omega, by omega, _, ha2, by omega, ?_⟩
    refine (putSym_calls (s := b[j]) (keepT w12 K12) hR hW12 (by omega) K12.size).mono fun ev w13 hh => ?_
    obtain ⟨rfl, hW13, k13⟩ := hh
    refine ⟨_, rfl, by omega, b.length - (j + 1), by omega, j + 1, by omega, by omega, rfl, ?_, K12.then k13 (fun k _ e => e.1)⟩
    have hs := hsym b[j].toNat (by simp only [symB]; exact List.mem_map_of_mem (List.getElem_mem lj))
    have hv : validS ls b[j] = true := by simp [validS]; omega
    rw [List.take_succ_eq_append_getElem (by simpa using lj), encL_append]
    have : encL ls [(symB b)[j]'(by simpa using lj)] = bitsFor ls b[j] := by
      rw [bitsFor, if_pos hv]; simp [encL]
    rw [this]; exact hW13
  · have e : j = b.length := by omega
    subst e
    rw [List.take_of_length_le (by simp)] at hW12 hel hsb
    have hsl : (symB b).length = b.length := by simp
    refine (bytes_calls hW12 (by omega)).mono fun ev w14 hh => ?_
    obtain ⟨A14, n14, c14, rfl, o14, g14⟩ := hh
    refine ⟨_, _, _, rfl, ?_⟩
    have f2' := OwnedK.kp (f2.kept g10) (K12.step g14 (fun k hk => by cases hk)) (fun k hk e => by have := f2.block_lt k hk; have := g10.size; omega)
    have hn14 := u8_len o14
    rw [packB_length] at hn14
    have hn9 := u8_len f2
    have hn8 := u8_len e2
    obtain ⟨A15, n15, c15, w15, h1, h2, h3, h4⟩ := append_bytes f2' o14.row (u8_len o14) (owned_cap o14) (by omega) (Nat.le_trans K10.size (Nat.le_trans K12.size g14.size))
    refine ⟨_, _, _, w15, h1, _, _, _, rfl, ?_, ?_⟩
    · rw [hput]
      simpa using h2
    · have K12' : Kp w w12 (fun k => w.heap.size ≤ k) := K10.then K12 (fun k hk e => by have := K10.size; omega)
      exact ((K12'.step g14 (fun k hk => by cases hk)).step h3 (fun k hk => .inr (f2.block_ge k hk))).grown (fun k hk e => by omega)
end Go.Proofs.Ytmenmmgfdakeeaa
