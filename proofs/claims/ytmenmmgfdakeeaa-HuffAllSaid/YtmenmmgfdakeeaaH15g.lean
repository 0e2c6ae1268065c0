/- archipelagolaw7.HuffSmall: the walk. -/
import Derived.Test.YtmenmmgfdakeeaaH12g
namespace Go.Proofs.Ytmenmmgfdakeeaa
open Go Go.V Go.RowKit
set_option linter.unusedVariables false
set_option linter.unusedSimpArgs false
set_option maxHeartbeats 4000000
set_option maxRecDepth 100000

theorem kraft_small : ∀ l : List Int, (∀ x ∈ l, 0 ≤ x ∧ x ≤ 15) → kraftL l ≤ 16384 * (posN l : Int) ∧ (kraftL l = 16384 * (posN l : Int) → ∀ x ∈ l, x ≤ 1)
  | [], _ => by simp [kraftL, posN]
  | x :: l, h => by
    obtain ⟨h1, h2⟩ := kraft_small l (fun y hy => h y (by simp [hy]))
    have hx := h x (by simp)
    have e : kraftL (x :: l) = kraft1 x + kraftL l := by simp [kraftL]
    rw [e, posN_cons]
    by_cases hp : 0 < x
    · rw [if_pos hp]
      have hk : kraft1 x ≤ 16384 ∧ (kraft1 x = 16384 → x = 1) := by
        have : kraft1 x = 2 ^ (15 - x).toNat := by unfold kraft1; rw [if_pos (by omega)]
        rw [this]
        by_cases h1 : x = 1
        · subst h1; exact ⟨by decide, fun _ => rfl⟩
        · have hle : (15 - x).toNat ≤ 13 := by omega
          have := Nat.pow_le_pow_right (n := 2) (by omega) hle
          have e2 : ((2 ^ (15 - x).toNat : Nat) : Int) = 2 ^ (15 - x).toNat := by simp
          omega
      refine ⟨by omega, fun he y hy => ?_⟩
      rcases List.mem_cons.1 hy with e | e
      · rw [e, hk.2 (by omega)]; omega
      · exact h2 (by omega) y e
    · rw [if_neg hp]
      have hk : kraft1 x = 0 := by unfold kraft1; rw [if_neg (by omega)]
      rw [hk]
      refine ⟨by omega, fun he y hy => ?_⟩
      rcases List.mem_cons.1 hy with e | e
      · omega
      · exact h2 (by omega) y e

theorem lsB_pos {b : List Int} {s : Nat} (hs : s < 256) : 0 < ln (lsB b) s ↔ 0 < (cntB b).getD s 0 := by
  have hl := cntB_length b
  have hcl := coinsL_length (cntB b)
  exact (lens_le (most := 15) (by omega) (by rw [m15]; omega) (by rw [m15]; omega) (by omega)).2.2

theorem two_long {p q : Nat} : ∀ l : List Nat, l.Nodup → (∀ x ∈ l, x = p ∨ x = q) → l.length ≤ 2
  | [], _, _ => by simp
  | [_], _, _ => by simp
  | [_, _], _, _ => by simp
  | x :: y :: z :: l, hn, h => by
    exfalso
    have h1 := h x (by simp)
    have h2 := h y (by simp)
    have h3 := h z (by simp)
    simp only [List.nodup_cons, List.mem_cons] at hn
    have a1 : x ≠ y := fun e => hn.1 (.inl e)
    have a2 : x ≠ z := fun e => hn.1 (.inr (.inl e))
    have a3 : y ≠ z := fun e => hn.2.1 (.inl e)
    omega

theorem putV_len2 {v : Nat} (h : v < 16384) : (putV v).length ≤ 2 := by
  by_cases h1 : v < 128
  · rw [putV_small h1]; simp
  · rw [putV_big h1, putV_small (by omega)]; simp
theorem putV_len1 {v : Nat} (h : v < 128) : (putV v).length = 1 := by rw [putV_small h]; rfl

theorem headR_small : ∀ (l : List Int) (s nx : Nat), (∀ x ∈ l, 0 ≤ x ∧ x ≤ 1) → s + l.length ≤ 256 → (headR l s nx).length ≤ 3 * posN l
  | [], s, nx, _, _ => by simp [headR, posN]
  | x :: l, s, nx, h, hs => by
    have hx := h x (by simp)
    simp only [List.length_cons] at hs
    rw [headR, posN_cons]
    have ih1 := headR_small l (s + 1) (s + 1) (fun v hv => h v (by simp [hv])) (by omega)
    have ih2 := headR_small l (s + 1) nx (fun v hv => h v (by simp [hv])) (by omega)
    split
    · have a1 := putV_len2 (v := s - nx) (by omega)
      have a2 := putV_len1 (v := x.toNat) (by omega)
      simp only [List.length_append]; omega
    · omega

theorem small_len {x : List Int} {a b : Int} (hx : BytesB x) (hne : x ≠ []) (hl : x.length ≤ 2000) (h : ∀ y ∈ x, y = a ∨ y = b) : (putH x).length ≤ 9 + (x.length + 7) / 8 ∧ (x.length + 7) / 8 < (putH x).length := by
  obtain ⟨l1, r1, s1, v1⟩ := lsB_facts hx hne
  have hp2 : posN (lsB x) ≤ 2 := by
    rw [← posL_len]
    refine two_long (p := a.toNat) (q := b.toNat) _ (posL_nodup _) (fun s hs => ?_)
    obtain ⟨hs1, hs2⟩ := posL_mem.1 hs
    rw [lsB_pos (by omega), cntB_get _ (by omega)] at hs2
    have : s ∈ symB x := List.count_pos_iff.1 (by omega)
    obtain ⟨y, hy, rfl⟩ := List.mem_map.1 this
    rcases h y hy with e | e
    · exact .inl (by rw [e])
    · exact .inr (by rw [e])
  have h1 : ∀ s, ln (lsB x) s ≤ 1 := by
    rcases (right_is r1).2.2 with ⟨_, e⟩ | e
    · exact e
    · obtain ⟨k1, k2⟩ := kraft_small (lsB x) v1
      have hall := k2 (by omega)
      intro s
      by_cases hs : s < (lsB x).length
      · have : ln (lsB x) s = (lsB x)[s] := by simp [ln, List.getD_eq_getElem?_getD, hs]
        rw [this]; exact hall _ (List.getElem_mem hs)
      · have : ln (lsB x) s = 0 := by simp [ln, List.getD_eq_getElem?_getD, List.getElem?_eq_none (Nat.le_of_not_lt hs)]
        omega
  have hall : ∀ v ∈ lsB x, 0 ≤ v ∧ v ≤ 1 := by
    intro v hv
    obtain ⟨s, hs, rfl⟩ := List.mem_iff_getElem.1 hv
    have : ln (lsB x) s = (lsB x)[s] := by simp [ln, List.getD_eq_getElem?_getD, hs]
    have := h1 s
    have := v1 _ hv
    omega
  have hsz : ∀ ss : List Nat, (∀ s ∈ ss, s < (lsB x).length ∧ 0 < ln (lsB x) s) → sizeL (lsB x) ss = ss.length := by
    intro ss
    induction ss with
    | nil => intro _; simp [sizeL]
    | cons s ss ih =>
      intro hh
      have e1 := ih (fun t ht => hh t (by simp [ht]))
      have e2 := h1 s
      have e3 := (hh s (by simp)).2
      simp only [sizeL, List.map_cons, List.sum_cons, List.length_cons] at e1 ⊢
      omega
  have e1 := encL_length r1 (symB x)
  rw [hsz _ s1, List.length_map] at e1
  have e2 := headR_small (lsB x) 0 0 hall (by omega)
  have e3 := putV_len2 (v := x.length) (by omega)
  have e4 := putV_len1 (v := posN (lsB x)) (by omega)
  have e5 := putV_pos x.length
  rw [putH, if_neg hne]
  simp only [List.length_append, packB_length]
  have e6 : (encL (lsB x) (symB x)).length = x.length := by omega
  rw [e6]
  omega

theorem walkHuffSmall {w : World} {n a b : Int} (hnn : 0 ≤ n ∧ n ≤ 65535) (ha : 0 ≤ a ∧ a ≤ 255) (hb : 0 ≤ b ∧ b ≤ 255) :
    Calls P 11 #[.int .u16 n, .int .u8 a, .int .u8 b] w fun ev w' => ev = .returned (.bool true) ∧ w.grownBy w' none := by
  apply vc11; unfold VC11
  simp only [InK]
  refine known7_calls.mono fun ev w1 hh => ?_
  obtain ⟨rfl, g1⟩ := hh
  obtain ⟨K, hK⟩ : ∃ K : Nat, n % 2000 + 1 = (K : Int) := ⟨(n % 2000 + 1).toNat, by omega⟩
  have hK1 : 1 ≤ K ∧ K ≤ 2000 := by omega
  refine ⟨true, rfl, fun h => absurd h (by simp), fun _ => ⟨⟨by omega, by omega⟩, by omega, by omega, ?_⟩⟩
  rw [hK]
  obtain ⟨w2, hr2, hown, g2⟩ := run_made (P := P) (w := w1) elemByte1 (by omega) (m := K) (by omega)
  refine ⟨_, _, _, w2, hr2, ?_⟩
  have tK : ((K : Int) - 1).toNat = K - 1 := by omega
  refine ⟨fun mm i w3 => ∃ (j : Nat) (xs : List Int), i = (j : Int) ∧ j ≤ K ∧ mm = K - j ∧ xs.length = K ∧ (∀ t, t < j → xs[t]? = some a) ∧ Own w3 w1.heap.size 5 K (u8s xs) ∧ w2.grownBy w3 (some w1.heap.size),
    ⟨_, 0, List.replicate K 0, rfl, by omega, rfl, by simp, fun t ht => by omega, by simpa using hown, grown_refl _ _⟩, ?_⟩
  rintro mm i w3 ⟨j, xs, rfl, hj, rfl, hxl, hxa, ho, hg⟩
  have tj : (j : Int).toNat = j := by omega
  rw [tj, tK]
  have hcell : ∀ t, t < K → ∃ u, w3.cell? ((⟨w1.heap.size, 0, none⟩ : Addr).add t) = some u := fun t ht => ⟨_, ho.cell (j := t) (u := .int .u8 (xs[t]'(by omega))) (by rw [List.getElem?_map, List.getElem?_eq_getElem (by omega)]; rfl)⟩
  refine ⟨fun hlt => ?_, fun hge => ?_⟩
  · have h5 := ho.set (j := j) (by rw [List.length_map]; omega) (.int .u8 a)
    rw [← List.map_set] at h5
    refine ⟨_, rfl, by omega, by omega, hcell j (by omega), ho.notFrozen (add_block _ _), by omega, K - (j + 1), by omega, j + 1, xs.set j a, by omega, by omega, rfl, by simp [hxl], ?_, h5, grown_set hg (add_block _ _) _⟩
    intro t ht
    rw [List.getElem?_set]
    by_cases e : j = t
    · subst e; rw [if_pos rfl, if_pos (by omega)]
    · rw [if_neg e]; exact hxa t (by omega)
  · have e : j = K := by omega
    subst e
    refine ⟨by omega, _, rfl, by omega, by omega, hcell (j - 1) (by omega), ho.notFrozen (add_block _ _), ?_⟩
    have h5 := ho.set (j := j - 1) (by rw [List.length_map]; omega) (.int .u8 b)
    rw [← List.map_set] at h5
    have g3 := grown_set hg (add_block (⟨w1.heap.size, 0, none⟩ : Addr) (j - 1)) (.int .u8 b)
    have gg : w1.grownBy (w3.setCell ((⟨w1.heap.size, 0, none⟩ : Addr).add (j - 1)) (.int .u8 b)) none := grown_own g2 g3 (fun k hk => by cases hk; exact Nat.le_refl _)
    generalize w3.setCell ((⟨w1.heap.size, 0, none⟩ : Addr).add (j - 1)) (.int .u8 b) = w4 at h5 gg ⊢
    have hmem : ∀ y ∈ xs.set (j - 1) b, y = a ∨ y = b := by
      intro y hy
      rcases List.mem_or_eq_of_mem_set hy with e | e
      · obtain ⟨t, ht, rfl⟩ := List.mem_iff_getElem.1 e
        have := hxa t (by omega)
        rw [List.getElem?_eq_getElem ht] at this
        exact .inl (by simpa using this)
      · exact .inr e
    have hxb : BytesB (xs.set (j - 1) b) := fun y hy => by rcases hmem y hy with e | e <;> rw [e] <;> assumption
    have hlen : (xs.set (j - 1) b).length = j := by simp [hxl]
    generalize xs.set (j - 1) b = x at hmem hxb hlen h5
    have hne : x ≠ [] := fun e => by rw [e] at hlen; simp at hlen; omega
    obtain ⟨z1, z2⟩ := small_len hxb hne (by omega) hmem
    refine (hput_calls h5.row hlen.symm hxb (by omega)).mono fun ev w5 hh => ?_
    obtain ⟨A5, n5, c5, rfl, o5, g5⟩ := hh
    have hn5 := u8_len o5
    refine ⟨_, _, _, rfl, ?_⟩
    refine (hread_calls o5.row hn5 (owned_le o5) (putH_bytes _) (by omega)).mono fun ev w6 hh => ?_
    obtain ⟨g6, h6⟩ := hh
    obtain ⟨A6, n6, c6, rfl, r6, hn6⟩ := read_good hxb (by omega) rfl h6
    have gall := grown_trans g1 (grown_trans gg (grown_trans g5 g6))
    refine ⟨_, _, _, _, rfl, fun _ => ⟨_, convert_calls r6 hn6, _, convert_calls ((h5.row.kept_none g5).kept_none g6) hlen.symm, _, fun w => run_eqlS _ _ _ _ w, fun _ => ⟨by omega, ⟨by omega, by omega, by omega⟩, by omega, fun _ => ⟨by omega, ⟨by omega, by omega, by omega⟩, ?_, gall⟩, fun h => absurd (by omega) h⟩, fun h => ?_⟩, fun h => absurd rfl h⟩
    · congr 2; simp; omega
    · simp at h
end Go.Proofs.Ytmenmmgfdakeeaa
