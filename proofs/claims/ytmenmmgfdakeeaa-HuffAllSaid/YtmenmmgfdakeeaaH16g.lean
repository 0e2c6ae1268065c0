/- archipelagolaw7.HuffAll: the walk. -/
import Derived.Test.YtmenmmgfdakeeaaH15g
import Derived.Test.YtmenmmgfdakeeaaGBg
namespace Go.Proofs.Ytmenmmgfdakeeaa
open Go Go.V Go.RowKit
set_option linter.unusedVariables false
set_option linter.unusedSimpArgs false
set_option maxHeartbeats 4000000
set_option maxRecDepth 100000

theorem kraft_eight : ∀ l : List Int, (∀ x ∈ l, 1 ≤ x ∧ x ≤ 8) → 128 * (l.length : Int) ≤ kraftL l ∧ (kraftL l = 128 * (l.length : Int) → ∀ x ∈ l, x = 8)
  | [], _ => by simp [kraftL]
  | x :: l, h => by
    obtain ⟨h1, h2⟩ := kraft_eight l (fun y hy => h y (by simp [hy]))
    have hx := h x (by simp)
    have e : kraftL (x :: l) = kraft1 x + kraftL l := by simp [kraftL]
    have hk : 128 ≤ kraft1 x ∧ (kraft1 x = 128 → x = 8) := by
      have : kraft1 x = 2 ^ (15 - x).toNat := by unfold kraft1; rw [if_pos (by omega)]
      rw [this]
      by_cases h1 : x = 8
      · subst h1; exact ⟨by decide, fun _ => rfl⟩
      · have hle : 8 ≤ (15 - x).toNat := by omega
        have := Nat.pow_le_pow_right (n := 2) (by omega) hle
        have e2 : ((2 ^ (15 - x).toNat : Nat) : Int) = 2 ^ (15 - x).toNat := by simp
        omega
    rw [e, List.length_cons]
    refine ⟨by omega, fun he y hy => ?_⟩
    rcases List.mem_cons.1 hy with e | e
    · rw [e]; exact hk.2 (by omega)
    · exact h2 (by omega) y e

theorem ones_lens : lensL (List.replicate 256 1) 15 = List.replicate 256 8 := by
  have hc := coins_ones 256
  have hl : (List.replicate 256 (1 : Int)).length = 256 := List.length_replicate
  have hm15 := m15
  obtain ⟨lm, _⟩ := law_many (k := 256) (m := 15) (w := 8) (by omega) (by omega) (by omega) (by omega) (by omega) (by omega)
  generalize hxs : List.replicate 256 (1 : Int) = xs at *
  have hlen : (lensL xs 15).length = 256 := by rw [lensL_length (by omega) (by rw [hm15]; omega), hl]
  have hk := law_full (xs := xs) (most := 15) (by omega) (by omega) (by rw [hm15]; omega) (by rw [hm15]; omega) (by rw [hm15]; omega)
  have hall : ∀ x ∈ lensL xs 15, 1 ≤ x ∧ x ≤ 8 := by
    intro x hx
    obtain ⟨s, hs, rfl⟩ := List.mem_iff_getElem.1 hx
    have e : (lensL xs 15).getD s 0 = (lensL xs 15)[s] := by simp [List.getD_eq_getElem?_getD, hs]
    have h1 := lens_le (xs := xs) (most := 15) (by omega) (by rw [hm15]; omega) (by rw [hm15]; omega) (s := s) (by omega)
    have h2 := lensL_get (xs := xs) (most := 15) (by omega) (by rw [hm15]; omega) (s := s) (by omega)
    have h3 := lm s (by omega)
    rw [hm15] at h2
    have h4 : 0 < xs.getD s 0 := by
      rw [← hxs, List.getD_eq_getElem?_getD, List.getElem?_replicate, if_pos (by omega)]; decide
    have h5 := h1.2.2.2 h4
    omega
  obtain ⟨_, k2⟩ := kraft_eight _ hall
  have := k2 (by rw [hk, hlen]; decide)
  rw [List.eq_replicate_iff]
  exact ⟨hlen, this⟩

theorem headR_eight : ∀ (k s : Nat), s + k ≤ 256 → (headR (List.replicate k 8) s s).length = 2 * k
  | 0, s, _ => by simp [headR]
  | k + 1, s, h => by
    rw [List.replicate_succ, headR, if_pos (by omega), List.length_append, List.length_append, headR_eight k (s + 1) (by omega), putV_len1 (by omega), putV_len1 (by decide)]
    omega

def allB (f : Int) (j : Nat) : List Int := (List.range j).map fun i : Nat => (f + (i : Int)) % 256
theorem allB_length (f : Int) (j : Nat) : (allB f j).length = j := by simp [allB]
theorem allB_bytes (f : Int) (j : Nat) : BytesB (allB f j) := by
  intro y hy
  obtain ⟨i, _, rfl⟩ := List.mem_map.1 hy
  omega
theorem allB_succ (f : Int) (j : Nat) : allB f (j + 1) = allB f j ++ [(f + (j : Int)) % 256] := by simp [allB, List.range_succ]

theorem one_each {f c : Int} {s : Nat} (hs : s < 256) : ((List.range 256).map fun i : Nat => ((f + c + (i : Int)) % 256).toNat).count s = 1 := by
  have hnd : ((List.range 256).map fun i : Nat => ((f + c + (i : Int)) % 256).toNat).Nodup := by
    unfold List.Nodup
    rw [List.pairwise_map]
    refine List.Pairwise.imp_of_mem (fun {a b} ha hb hab => ?_) (List.nodup_range (n := 256))
    have h1 := List.mem_range.1 ha
    have h2 := List.mem_range.1 hb
    intro e
    apply hab
    omega
  have hmem : s ∈ (List.range 256).map fun i : Nat => ((f + c + (i : Int)) % 256).toNat := by
    refine List.mem_map.2 ⟨(((s : Int) - f - c) % 256).toNat, List.mem_range.2 (by omega), by omega⟩
  have h1 := List.count_pos_iff.2 hmem
  have h2 := List.nodup_iff_count.1 hnd s
  omega

theorem allB_count (f : Int) : ∀ k : Nat, ∀ s, s < 256 → (symB (allB f (256 * k))).count s = k
  | 0, s, _ => by simp [allB]
  | k + 1, s, hs => by
    have ih := allB_count f k s hs
    have e : allB f (256 * (k + 1)) = allB f (256 * k) ++ (List.range 256).map fun i : Nat => (f + ((256 * k : Nat) : Int) + (i : Int)) % 256 := by
      rw [allB, allB, show 256 * (k + 1) = 256 * k + 256 by omega, List.range_add, List.map_append, List.map_map]
      congr 1
      apply List.map_congr_left
      intro i _
      simp only [Function.comp]
      congr 1; omega
    rw [e, symB, List.map_append, List.count_append, List.map_map]
    have := one_each (f := f) (c := ((256 * k : Nat) : Int)) hs
    simp only [symB] at ih
    rw [ih]
    show k + (List.map (Int.toNat ∘ fun i : Nat => (f + ((256 * k : Nat) : Int) + (i : Int)) % 256) (List.range 256)).count s = k + 1
    rw [show (Int.toNat ∘ fun i : Nat => (f + ((256 * k : Nat) : Int) + (i : Int)) % 256) = fun i : Nat => ((f + ((256 * k : Nat) : Int) + (i : Int)) % 256).toNat from rfl, this]

theorem all_len {f : Int} {k : Nat} (hk : 1 ≤ k ∧ k ≤ 5) : (putH (allB f (256 * k))).length = 516 + 256 * k := by
  have hxb := allB_bytes f (256 * k)
  have hxl := allB_length f (256 * k)
  have hcount := allB_count f k
  generalize allB f (256 * k) = x at *
  have hne : x ≠ [] := fun e => by rw [e] at hxl; simp at hxl; omega
  have hc : cntB x = (List.replicate 256 (1 : Int)).map (· * (k : Int)) := by
    rw [List.map_replicate]
    rw [List.eq_replicate_iff]
    refine ⟨cntB_length x, fun y hy => ?_⟩
    obtain ⟨s, hs, rfl⟩ := List.mem_iff_getElem.1 hy
    rw [cntB_length] at hs
    have e : (cntB x)[s]'(by rw [cntB_length]; exact hs) = (cntB x).getD s 0 := by simp [List.getD_eq_getElem?_getD, cntB_length, hs]
    rw [e, cntB_get _ hs, hcount s hs]
    omega
  have hls : lsB x = List.replicate 256 8 := by
    rw [lsB, hc, law_scales (by omega) (fun y hy => by
      have := List.eq_of_mem_replicate hy
      subst this
      omega), ones_lens]
  obtain ⟨l1, r1, s1, v1⟩ := lsB_facts hxb hne
  rw [putH, if_neg hne]
  rw [hls] at r1 s1 ⊢
  have e1 := encL_length r1 (symB x)
  have hp : posN (List.replicate 256 8) = 256 := by decide +kernel
  have hsz : ∀ ss : List Nat, (∀ s ∈ ss, s < (List.replicate 256 (8 : Int)).length ∧ 0 < ln (List.replicate 256 8) s) → sizeL (List.replicate 256 8) ss = 8 * (ss.length : Int) := by
    intro ss
    induction ss with
    | nil => intro _; simp [sizeL]
    | cons s ss ih =>
      intro hh
      have e1 := ih (fun t ht => hh t (by simp [ht]))
      have e2 := (hh s (by simp)).1
      rw [List.length_replicate] at e2
      have e3 : ln (List.replicate 256 8) s = 8 := by rw [ln, List.getD_eq_getElem?_getD, List.getElem?_replicate, if_pos e2]; rfl
      simp only [sizeL, List.map_cons, List.sum_cons, List.length_cons] at e1 ⊢
      omega
  rw [hsz _ s1, List.length_map] at e1
  have e2 : (encL (List.replicate 256 8) (symB x)).length = 8 * x.length := by omega
  have v2 : (putV x.length).length = 2 := by rw [putV_big (by omega), putV_small (by omega)]; rfl
  have v3 : (putV 256).length = 2 := by rw [putV_big (by omega), putV_small (by omega)]; rfl
  rw [hp]
  simp only [List.length_append, packB_length, headR_eight 256 0 (by omega), e2, v2, v3]
  omega

theorem wrap_mod (z : Int) : IntKind.wrap .u8 z = z % 256 := by simp [IntKind.wrap, IntKind.bits, IntKind.signed]

theorem walkHuffAll {w : World} {n f : Int} (hnn : 0 ≤ n ∧ n ≤ 255) (hf : 0 ≤ f ∧ f ≤ 255) :
    Calls P 13 #[.int .u8 n, .int .u8 f] w fun ev w' => ev = .returned (.bool true) ∧ w.grownBy w' none := by
  apply vc13; unfold VC13
  simp only [InK]
  refine known7_calls.mono fun ev w1 hh => ?_
  obtain ⟨rfl, g1⟩ := hh
  obtain ⟨k, hK⟩ : ∃ k : Nat, n % 5 + 1 = (k : Int) := ⟨(n % 5 + 1).toNat, by omega⟩
  have hk : 1 ≤ k ∧ k ≤ 5 := by omega
  refine ⟨true, rfl, fun h => absurd h (by simp), fun _ => ⟨⟨by omega, by omega⟩, by omega, by omega, ?_⟩⟩
  rw [hK]
  refine ⟨fun m A n' c i w2 => ∃ j : Nat, i = (j : Int) ∧ j ≤ 256 * k ∧ m = 256 * k - j ∧ OwnedK w2 w1.heap.size 5 1 A n' c (u8s (allB f j)) ∧ w1.grownBy w2 none,
    ⟨_, 0, rfl, by omega, rfl, OwnedK.nil _ _ _ _, grown_refl _ _⟩, ?_⟩
  rintro m A n' c i w2 ⟨j, rfl, hj, rfl, ho, hg⟩
  have hn' := u8_len ho
  rw [allB_length] at hn'
  refine ⟨by omega, fun hlt => ?_, fun hge => ?_⟩
  · rw [wrap_mod, wrap_mod, show (f + (j : Int) % 256) % 256 = (f + (j : Int)) % 256 by omega]
    obtain ⟨A3, n3, c3, w3, e1, e2, e3, e4⟩ := append_byte (x := (f + (j : Int)) % 256) ho (by omega) hg.size
    rw [← allB_succ] at e2
    exact ⟨_, _, _, w3, e1, by omega, 256 * k - (j + 1), by omega, j + 1, by omega, by omega, rfl, e2, grown_own hg e3 ho.block_ge⟩
  · have e : j = 256 * k := by omega
    subst e
    have hxb := allB_bytes f (256 * k)
    have hxl := allB_length f (256 * k)
    have hlen := all_len (f := f) hk
    refine (hput_calls ho.row (by omega) hxb (by omega)).mono fun ev w5 hh => ?_
    obtain ⟨A5, n5, c5, rfl, o5, g5⟩ := hh
    have hn5 := u8_len o5
    refine ⟨_, _, _, rfl, ?_⟩
    refine (hread_calls o5.row hn5 (owned_le o5) (putH_bytes _) (by omega)).mono fun ev w6 hh => ?_
    obtain ⟨g6, h6⟩ := hh
    obtain ⟨A6, n6, c6, rfl, r6, hn6⟩ := read_good hxb (by omega) rfl h6
    have gall := grown_trans g1 (grown_trans hg (grown_trans g5 g6))
    refine ⟨_, _, _, _, rfl, fun _ => ⟨_, convert_calls r6 hn6, _, convert_calls ((ho.row.kept_none g5).kept_none g6) (by omega), _, fun w => run_eqlS _ _ _ _ w, fun _ => ⟨by omega, by omega, ?_, gall⟩, fun h => ?_⟩, fun h => absurd rfl h⟩
    · congr 2; simp; omega
    · simp at h
end Go.Proofs.Ytmenmmgfdakeeaa
