/- archipelagolaw7.HuffCounts: the walk. -/
import Derived.Test.YtmenmmgfdakeeaaH12g
namespace Go.Proofs.Ytmenmmgfdakeeaa
open Go Go.V Go.RowKit
set_option linter.unusedVariables false
set_option linter.unusedSimpArgs false
set_option maxHeartbeats 4000000
set_option maxRecDepth 100000

theorem bump_sum : ∀ (xs : List Int) (s : Nat), s < xs.length → (bump xs s).sum = xs.sum + 1
  | [], s, h => by simp at h
  | x :: xs, 0, _ => by simp [bump]; omega
  | x :: xs, s + 1, h => by
    have := bump_sum xs s (by simpa using h)
    simp only [bump, List.getD_cons_succ, List.set_cons_succ, List.sum_cons] at this ⊢
    omega
theorem addL_sum : ∀ (ss : List Nat) (xs : List Int), (∀ s ∈ ss, s < xs.length) → (addL ss xs).sum = xs.sum + ss.length
  | [], xs, _ => by simp [addL]
  | s :: ss, xs, h => by
    have h1 := bump_sum xs s (h s (by simp))
    have h2 := addL_sum ss (bump xs s) (fun t ht => by rw [bump_length]; exact h t (by simp [ht]))
    show (addL ss (bump xs s)).sum = _
    simp only [List.length_cons]
    omega
theorem zero_sum : ∀ k : Nat, (List.replicate k (0 : Int)).sum = 0
  | 0 => rfl
  | k + 1 => by rw [List.replicate_succ, List.sum_cons, zero_sum k]; rfl
theorem cntB_sum {b : List Int} (hb : BytesB b) : (cntB b).sum = (b.length : Int) := by
  rw [cntB, addL_sum _ _ (fun s hs => by
    obtain ⟨y, hy, rfl⟩ := List.mem_map.1 hs
    have := hb y hy
    rw [List.length_replicate]; omega), zero_sum, List.length_map]
  omega
theorem nn_sum : ∀ (xs : List Int), (∀ x ∈ xs, 0 ≤ x) → 0 ≤ xs.sum
  | [], _ => by simp
  | x :: xs, h => by
    have h1 := h x (by simp)
    have h2 := nn_sum xs (fun y hy => h y (by simp [hy]))
    rw [List.sum_cons]; omega
theorem cntB_nn (b : List Int) : ∀ x ∈ cntB b, 0 ≤ x := by
  have := addL_bound (symB b) (xs := List.replicate 256 0) (B := 0) (by simp) (by omega)
  exact fun x hx => (this x hx).1
theorem take_sum {b : List Int} (hb : BytesB b) (j : Nat) : 0 ≤ ((cntB b).take j).sum ∧ ((cntB b).take j).sum ≤ b.length := by
  have h1 := nn_sum ((cntB b).take j) (fun x hx => cntB_nn b x (List.mem_of_mem_take hx))
  have h2 := nn_sum ((cntB b).drop j) (fun x hx => cntB_nn b x (List.mem_of_mem_drop hx))
  have h3 := cntB_sum hb
  rw [← List.take_append_drop j (cntB b), List.sum_append] at h3
  omega
theorem cntB_perm {a b : List Int} (h : a.Perm b) : cntB a = cntB b := by
  apply List.ext_getElem?
  intro s
  by_cases hs : s < 256
  · rw [List.getElem?_eq_getElem (by rw [cntB_length]; exact hs), List.getElem?_eq_getElem (by rw [cntB_length]; exact hs)]
    have e : ∀ q : List Int, (cntB q)[s]'(by rw [cntB_length]; exact hs) = (cntB q).getD s 0 := fun q => by simp [List.getD_eq_getElem?_getD, cntB_length, hs]
    rw [e, e, cntB_get _ hs, cntB_get _ hs, (h.map Int.toNat).count_eq]
  · rw [List.getElem?_eq_none (by rw [cntB_length]; omega), List.getElem?_eq_none (by rw [cntB_length]; omega)]
theorem sum_perm {a b : List Int} (h : a.Perm b) : a.sum = b.sum := by
  induction h with
  | nil => rfl
  | cons x _ ih => simp [ih]
  | swap x y l => simp only [List.sum_cons]; omega
  | trans _ _ ih1 ih2 => rw [ih1, ih2]
theorem putH_perm {a b : List Int} (ha : BytesB a) (hb : BytesB b) (h : a.Perm b) : (putH a).length = (putH b).length := by
  have hl : a.length = b.length := h.length_eq
  by_cases ea : a = []
  · subst ea
    have : b = [] := List.eq_nil_of_length_eq_zero (by simpa using hl.symm)
    rw [this]
  · have eb : b ≠ [] := fun e => by subst e; exact ea (List.eq_nil_of_length_eq_zero (by simpa using hl))
    obtain ⟨l1, r1, s1, v1⟩ := lsB_facts ha ea
    have hls : lsB a = lsB b := by rw [lsB, lsB, cntB_perm h]
    have e1 := encL_length r1 (symB a)
    have e2 := encL_length r1 (symB b)
    have e3 : sizeL (lsB a) (symB a) = sizeL (lsB a) (symB b) := sum_perm ((h.map Int.toNat).map _)
    rw [putH, if_neg ea, putH, if_neg eb, ← hls, ← hl]
    simp only [List.length_append, packB_length]
    have : (encL (lsB a) (symB a)).length = (encL (lsB a) (symB b)).length := by omega
    rw [this]

theorem row_take' {w : World} {A : Option Addr} {l : List Int} (h : Row w A (u8s l)) (q : Nat) : Row w A (u8s (l.take q)) := by
  intro j u hj
  rw [show u8s (l.take q) = (u8s l).take q by rw [u8s, List.map_take], List.getElem?_take] at hj
  split at hj
  · exact h j u hj
  · cases hj

theorem walkHuffCounts {w : World} {B : Option Addr} {m d : Nat} {l : List Int} {k turn : Int} (hrow : Row w B (u8s l)) (hm : m = l.length) (hb : BytesB l) (hk : 0 ≤ k ∧ k ≤ 255) (htu : 0 ≤ turn ∧ turn ≤ 255) :
    Calls P 12 #[.slice B m d, .int .u8 k, .int .u8 turn] w fun ev w' => ev = .returned (.bool true) ∧ w.grownBy w' none := by
  apply vc12; unfold VC12
  simp only [InK]
  refine known7_calls.mono fun ev w1 hh => ?_
  obtain ⟨rfl, g1⟩ := hh
  refine ⟨true, rfl, fun h => absurd h (by simp), fun _ => ⟨fun _ => ⟨by trivial, g1⟩, fun h40 => ?_⟩⟩
  refine (text_calls (hrow.kept_none g1) hm hb hk (by omega)).mono fun ev w2 hh => ?_
  obtain ⟨A2, n2, c2, b, rfl, o2, hbb, hbl, g2⟩ := hh
  have hn2 := u8_len o2
  have hc2 := owned_le o2
  refine ⟨_, _, _, rfl, ?_⟩
  obtain ⟨A3, n3, c3, w3, e1, e2, e3, e4⟩ := append_bytes (n := 0) (c := 0) (A := none) (xs := []) (OwnedK.nil w2 w2.heap.size 5 1) o2.row hn2 (owned_cap o2) (by omega) (Nat.le_refl _)
  have g3 : w2.grownBy w3 none := grown_own (grown_refl w2 none) e3 (fun k hk => by simp [Value.ownBlock] at hk)
  rw [List.nil_append] at e2
  have hn3 : n3 = n2 := by omega
  subst hn3
  refine ⟨_, _, _, w3, e1, ?_⟩
  refine ⟨fun cA cn cc w' => ∃ cl : List Int, Row w' cA (u8s cl) ∧ cn = cl.length ∧ BytesB cl ∧ cl.Perm b ∧ w2.grownBy w' none, ⟨fun hpos => ?_, fun hz => ⟨b, e2.row, hn2, hbb, List.Perm.refl _, g3⟩⟩, ?_⟩
  · have hm0 := Int.emod_nonneg turn (show (n3 : Int) ≠ 0 by omega)
    have hm1 := Int.emod_lt_of_pos turn (show (0 : Int) < (n3 : Int) by omega)
    obtain ⟨q, hq⟩ : ∃ q : Nat, turn % (n3 : Int) = (q : Int) := ⟨(turn % (n3 : Int)).toNat, by omega⟩
    have tq : (q : Int).toNat = q := by omega
    refine ⟨by omega, ⟨by omega, by omega⟩, ⟨by omega, by omega⟩, ?_⟩
    rw [hq, tq]
    have gd := grown_drew g3
    have r2 : Row w3.drew A2 (u8s b) := o2.row.kept_none gd
    have rc := cut8 (c := c2) (k := q) r2 (by omega)
    have hlen : n3 - q = (b.drop q).length := by rw [List.length_drop]; omega
    obtain ⟨ac, hac, _⟩ := rc.blk (by intro e; have := congrArg List.length e; simp at this; omega)
    obtain ⟨A4, n4, c4, w4, f1, f2, f3, f4⟩ := append_bytes (n := 0) (c := 0) (A := none) (xs := []) (OwnedK.nil w3.drew w3.drew.heap.size 5 1) (m := n3 - q) (d := c2 - q) rc hlen (fun h => by rw [hac] at h; cases h) (by omega) (Nat.le_refl _)
    have g4 : w3.drew.grownBy w4 none := grown_own (grown_refl w3.drew none) f3 (fun k hk => by simp [Value.ownBlock] at hk)
    rw [List.nil_append] at f2
    have r4 := row_take' (r2.kept_none g4) q
    obtain ⟨A5, n5, c5, w5, p1, p2, p3, p4⟩ := append_bytes f2 (m := q) (d := c2) r4 (by rw [List.length_take]; omega) (owned_cap o2) (by omega) g4.size
    have g5 := grown_own g4 p3 f2.block_ge
    refine ⟨_, _, _, w4, f1, ⟨by omega, by omega⟩, _, _, _, w5, p1, b.drop q ++ b.take q, p2.row, u8_len p2, ?_, ?_, grown_trans gd g5⟩
    · intro y hy
      rcases List.mem_append.1 hy with e | e
      · exact hbb y (List.mem_of_mem_drop e)
      · exact hbb y (List.mem_of_mem_take e)
    · have := (List.perm_append_comm (l₁ := b.drop q) (l₂ := b.take q))
      rwa [List.take_append_drop] at this
  rintro cA cn cc w6 ⟨cl, rc, hcn, hcb, hperm, g26⟩
  have hcl : cl.length = b.length := hperm.length_eq
  have r6 := o2.row.kept_none g26
  refine (hcounts_calls r6 hn2 hbb (by omega)).mono fun ev w7 hh => ?_
  obtain ⟨A7, n7, c7, rfl, o7, g7⟩ := hh
  refine ⟨_, _, _, rfl, ?_⟩
  refine (hcounts_calls (rc.kept_none g7) hcn hcb (by omega)).mono fun ev w8 hh => ?_
  obtain ⟨A8, n8, c8, rfl, o8, g8⟩ := hh
  refine ⟨_, _, _, rfl, ?_⟩
  have hn7 : n7 = (cntB b).length := by rw [o7.cases.1]; simp [ints]
  have hn8 : n8 = (cntB cl).length := by rw [o8.cases.1]; simp [ints]
  have h256 := cntB_length b
  have h256' := cntB_length cl
  refine ⟨fun mm n i w' => ∃ j : Nat, i = (j : Int) ∧ j ≤ 256 ∧ mm = 256 - j ∧ n = ((cntB b).take j).sum ∧ w8.grownBy w' none, ⟨_, 0, rfl, by omega, rfl, by simp, grown_refl _ _⟩, ?_⟩
  rintro mm n i w9 ⟨j, rfl, hj, rfl, rfl, g9⟩
  have tj : (j : Int).toNat = j := by omega
  rw [tj]
  refine ⟨fun hlt => ?_, fun hge => ?_⟩
  · have lj : j < (cntB b).length := by omega
    obtain ⟨a, ha1, ha2⟩ := ((o7.row.kept_none g8).kept_none g9) j (.int .i64 (cntB b)[j]) (by simp [ints, lj])
    have t1 := take_sum hbb (j + 1)
    have e : ((cntB b).take (j + 1)).sum = ((cntB b).take j).sum + (cntB b)[j] := by rw [List.take_succ_eq_append_getElem lj, List.sum_append]; simp
    exact ⟨a, ha1, by omega, by omega, _, ha2, by omega, by omega, 256 - (j + 1), by omega, j + 1, by omega, by omega, rfl, e.symm, g9⟩
  · have e : j = 256 := by omega
    subst e
    rw [List.take_of_length_le (by omega), cntB_sum hbb]
    refine (ints_calls ((o7.row.kept_none g8).kept_none g9) (o8.row.kept_none g9) hn7 hn8 (by omega)).mono fun ev w10 hh => ?_
    obtain ⟨rfl, g10⟩ := hh
    have g79 := grown_trans (grown_trans (grown_trans g7 g8) g9) g10
    refine ⟨_, rfl, fun _ => ⟨fun _ => ⟨fun _ => ?_, fun h => absurd (by omega) h⟩, fun h => absurd (by omega) h⟩, fun h => ?_⟩
    · refine (hput_calls (r6.kept_none g79) hn2 hbb (by omega)).mono fun ev w11 hh => ?_
      obtain ⟨A11, n11, c11, rfl, o11, g11⟩ := hh
      refine ⟨_, _, _, rfl, ?_⟩
      refine (hput_calls ((rc.kept_none g79).kept_none g11) hcn hcb (by omega)).mono fun ev w12 hh => ?_
      obtain ⟨A12, n12, c12, rfl, o12, g12⟩ := hh
      have q1 := u8_len o11
      have q2 := u8_len o12
      have q3 := putH_perm hcb hbb hperm
      refine ⟨_, _, _, rfl, ?_, grown_trans g1 (grown_trans g2 (grown_trans g26 (grown_trans g79 (grown_trans g11 g12))))⟩
      congr 2; simp; omega
    · rw [cntB_perm hperm] at h; simp at h
end Go.Proofs.Ytmenmmgfdakeeaa
