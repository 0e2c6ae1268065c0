/- Own texts, packed: O1, O2, O3. -/
import Derived.Test.YtgahfcdmgdnjiaaGNg
import Derived.Test.YtgahfcdmgdnjiaaGIg

/-! Edges as numbers: lists alone. -/
namespace Go.Proofs.Ytgahfcdmgdnjiaa
open Go Go.V Go.RowKit
set_option linter.unusedVariables false
set_option linter.unusedSimpArgs false

/-- How many edges, at the beginning, are of a vertex. -/
def runU (u : Int) (l : List Edge) : Nat := (l.takeWhile fun x => decide (x.1 = u)).length
/-- The numbers of edges behind a vertex (-1: none) and its last neighbour. -/
def adjG (u v : Int) : List Edge → List Nat
  | [] => []
  | e :: r => if e.1 = u then (e.2 - v - 1).toNat :: adjG u e.2 r
      else (e.1 - u - 1).toNat :: (1 + runU e.1 r) :: (e.2 - e.1 - 1).toNat :: adjG e.1 e.2 r
/-- How many vertices there are that have edges. -/
def grpN (u : Int) : List Edge → Nat
  | [] => 0
  | e :: r => if e.1 = u then grpN u r else 1 + grpN e.1 r
def adjN (l : List Edge) : List Nat := grpN (-1) l :: adjG (-1) 0 l
def adjB (l : List Edge) : List Int := putVs (adjN l)
/-- Edges that may be written. -/
def adjL (l : List Edge) : Bool := risingL l && l.all fun e => decide (e.1 < e.2)
def EdgesB (l : List Edge) : Prop := ∀ e ∈ l, (0 ≤ e.1 ∧ e.1 ≤ 4294967295) ∧ 0 ≤ e.2 ∧ e.2 ≤ 4294967295
structure AdjOk (l : List Edge) : Prop where
  rise : Rise l
  right : ∀ e ∈ l, 0 ≤ e.1 ∧ e.1 < e.2 ∧ e.2 ≤ 4294967295
  len : l.length ≤ 2 ^ 30
theorem adjL_iff {l : List Edge} (hb : EdgesB l) (hl : l.length ≤ 2 ^ 30) : adjL l = true ↔ AdjOk l := by
  unfold adjL
  rw [Bool.and_eq_true, risingL_iff, List.all_eq_true]
  constructor
  · rintro ⟨h1, h2⟩
    refine ⟨h1, fun e he => ?_, hl⟩
    have := h2 e he
    simp only [decide_eq_true_eq] at this
    have := hb e he
    omega
  · rintro ⟨h1, h2, _⟩
    exact ⟨h1, fun e he => by have := h2 e he; simp; omega⟩
theorem AdjOk.edgesB {l : List Edge} (h : AdjOk l) : EdgesB l := fun e he => by have := h.right e he; omega
theorem putVs_cons (a : Nat) (l : List Nat) : putVs (a :: l) = putV a ++ putVs l := by simp [putVs]
theorem putVs_nil : putVs [] = [] := rfl
theorem putVs_append (a b : List Nat) : putVs (a ++ b) = putVs a ++ putVs b := by simp [putVs]
theorem putVs_bytes (l : List Nat) : BytesB (putVs l) := by
  intro y hy
  simp only [putVs, List.mem_flatMap] at hy
  obtain ⟨a, _, h⟩ := hy
  exact putV_bytes a y h
theorem putVs_ge (l : List Nat) : l.length ≤ (putVs l).length := by
  induction l with
  | nil => simp
  | cons a l ih => rw [putVs_cons, List.length_append, List.length_cons]; have := putV_pos a; omega
theorem putVs_inj {a b : List Nat} (ha : ∀ x ∈ a, x < 2 ^ 64) (hb : ∀ x ∈ b, x < 2 ^ 64) (h : putVs a = putVs b) : a = b := by
  induction a generalizing b with
  | nil =>
    cases b with
    | nil => rfl
    | cons y b =>
      rw [putVs_nil, putVs_cons] at h
      have := congrArg List.length h
      have hp := putV_pos y
      rw [List.length_append, List.length_nil] at this; omega
  | cons x a ih =>
    cases b with
    | nil =>
      rw [putVs_nil, putVs_cons] at h
      have := congrArg List.length h
      have hp := putV_pos x
      rw [List.length_append, List.length_nil] at this; omega
    | cons y b =>
      rw [putVs_cons, putVs_cons] at h
      obtain ⟨e1, e2⟩ := putV_pre (ha x (by simp)) (hb y (by simp)) h
      rw [e1, ih (fun z hz => ha z (by simp [hz])) (fun z hz => hb z (by simp [hz])) e2]
theorem runU_cons (u : Int) (e : Edge) (l : List Edge) : runU u (e :: l) = if e.1 = u then 1 + runU u l else 0 := by
  unfold runU
  rw [List.takeWhile_cons]
  by_cases h : e.1 = u
  · simp [h]; omega
  · simp [h]
theorem runU_le (u : Int) (l : List Edge) : runU u l ≤ l.length := by
  unfold runU
  exact (List.takeWhile_sublist _).length_le
theorem runU_zero {u : Int} {l : List Edge} (h : ∀ e, l.head? = some e → e.1 ≠ u) : runU u l = 0 := by
  cases l with
  | nil => rfl
  | cons e l => rw [runU_cons, if_neg (h e rfl)]
theorem grpN_le (u : Int) (l : List Edge) : grpN u l ≤ l.length := by
  induction l generalizing u with
  | nil => simp [grpN]
  | cons e l ih =>
    rw [grpN]
    have h1 := ih u
    have h2 := ih e.1
    split <;> simp <;> omega
theorem adjG_same (u v : Int) (e : Edge) (r : List Edge) (h : e.1 = u) : adjG u v (e :: r) = (e.2 - v - 1).toNat :: adjG u e.2 r := by rw [adjG, if_pos h]
/-- A vertex's numbers begin. -/
theorem adjG_head (u v : Int) (e : Edge) (r : List Edge) (h : e.1 ≠ u) : adjG u v (e :: r) = (e.1 - u - 1).toNat :: runU e.1 (e :: r) :: adjG e.1 e.1 (e :: r) := by
  rw [adjG, if_neg h, runU_cons, if_pos rfl, adjG_same _ _ _ _ rfl]
theorem adjG_len (u v : Int) (l : List Edge) : (adjG u v l).length ≤ 3 * l.length := by
  induction l generalizing u v with
  | nil => simp [adjG]
  | cons e l ih =>
    rw [adjG]
    split
    · have := ih u e.2; simp; omega
    · have := ih e.1 e.2; simp; omega
theorem adjG_lt (u v : Int) (l : List Edge) (hu : -1 ≤ u) (hv : 0 ≤ v) (h : EdgesB l) (hl : l.length ≤ 2 ^ 30) : ∀ x ∈ adjG u v l, x < 2 ^ 32 := by
  induction l generalizing u v with
  | nil => simp [adjG]
  | cons e l ih =>
    have he := h e (by simp)
    have hr : EdgesB l := fun a ha => h a (by simp [ha])
    simp only [List.length_cons] at hl
    intro x hx
    rw [adjG] at hx
    split at hx
    · rcases List.mem_cons.1 hx with rfl | hx
      · omega
      · exact ih u e.2 hu (by omega) hr (by omega) x hx
    · rcases List.mem_cons.1 hx with rfl | hx
      · omega
      rcases List.mem_cons.1 hx with rfl | hx
      · have := runU_le e.1 l; omega
      rcases List.mem_cons.1 hx with rfl | hx
      · omega
      exact ih e.1 e.2 (by omega) (by omega) hr (by omega) x hx
theorem adjN_lt {l : List Edge} (h : EdgesB l) (hl : l.length ≤ 2 ^ 30) : ∀ x ∈ adjN l, x < 2 ^ 32 := by
  intro x hx
  rcases List.mem_cons.1 hx with rfl | hx
  · have := grpN_le (-1) l; omega
  · exact adjG_lt _ _ l (by omega) (by omega) h hl x hx
theorem adjB_len {l : List Edge} (h : EdgesB l) (hl : l.length ≤ 2 ^ 30) : (adjB l).length ≤ 30 * l.length + 10 := by
  have h1 := putVs_len (l := adjN l) fun x hx => by have := adjN_lt h hl x hx; omega
  have h2 := adjG_len (-1) 0 l
  unfold adjB
  simp only [adjN, List.length_cons] at *
  omega
theorem adjB_bytes (l : List Edge) : BytesB (adjB l) := putVs_bytes _
/-- Where an edge stands, its numbers tell it. -/
theorem adjG_inj : ∀ {l m : List Edge} {u v : Int}, -1 ≤ u → Rise l → Rise m → (∀ e ∈ l, 0 ≤ e.1 ∧ e.1 < e.2) → (∀ e ∈ m, 0 ≤ e.1 ∧ e.1 < e.2) → (∀ e ∈ l, u < e.1 ∨ e.1 = u ∧ v < e.2) → (∀ e ∈ m, u < e.1 ∨ e.1 = u ∧ v < e.2) → runU u l = runU u m → adjG u v l = adjG u v m → l = m
  | [], [], u, v, _, _, _, _, _, _, _, _, _ => rfl
  | [], e :: m, u, v, _, _, _, _, _, _, _, _, h => by rw [adjG, adjG] at h; split at h <;> simp at h
  | e :: l, [], u, v, _, _, _, _, _, _, _, _, h => by rw [adjG, adjG] at h; split at h <;> simp at h
  | e :: l, e' :: m, u, v, hu, hl, hm, rl, rm, bl, bm, hr, h => by
    rw [runU_cons, runU_cons] at hr
    rw [adjG, adjG] at h
    have r1 := rl e (by simp)
    have r2 := rm e' (by simp)
    have b1 := bl e (by simp)
    have b2 := bm e' (by simp)
    have pl := List.pairwise_cons.1 hl
    have pm := List.pairwise_cons.1 hm
    have key : e = e' → runU e.1 l = runU e.1 m → adjG e.1 e.2 l = adjG e.1 e.2 m → e :: l = e' :: m := by
      rintro rfl h1 h2
      rw [adjG_inj (by omega) pl.2 pm.2 (fun a ha => rl a (by simp [ha])) (fun a ha => rm a (by simp [ha])) (fun a ha => by have := lessE_iff.1 (pl.1 a ha); omega) (fun a ha => by have := lessE_iff.1 (pm.1 a ha); omega) h1 h2]
    by_cases c1 : e.1 = u
    · by_cases c2 : e'.1 = u
      · rw [if_pos c1, if_pos c2] at h hr
        simp only [List.cons.injEq] at h
        have he : e = e' := Prod.ext (by omega) (by omega)
        refine key he (by rw [c1]; omega) ?_
        rw [c1]
        have : e.2 = e'.2 := by omega
        rw [this] at h ⊢
        exact h.2
      · rw [if_pos c1, if_neg c2] at hr; omega
    · by_cases c2 : e'.1 = u
      · rw [if_neg c1, if_pos c2] at hr; omega
      · rw [if_neg c1, if_neg c2] at h
        simp only [List.cons.injEq] at h
        obtain ⟨h1, h2, h3, h4⟩ := h
        have he1 : e.1 = e'.1 := by omega
        have he2 : e.2 = e'.2 := by omega
        refine key (Prod.ext he1 he2) ?_ ?_
        · rw [← he1] at h2; omega
        · rw [← he1, ← he2] at h4; exact h4
theorem adjB_inj {l m : List Edge} (hl : AdjOk l) (hm : AdjOk m) (h : adjB l = adjB m) : l = m := by
  have h1 := putVs_inj (fun x hx => by have := adjN_lt hl.edgesB hl.len x hx; omega) (fun x hx => by have := adjN_lt hm.edgesB hm.len x hx; omega) h
  simp only [adjN, List.cons.injEq] at h1
  have z : ∀ {l : List Edge}, AdjOk l → runU (-1) l = 0 := fun {l} h => runU_zero fun e he => by
    have := h.right e (List.mem_of_head? he); omega
  exact adjG_inj (u := -1) (v := 0) (by omega) hl.rise hm.rise (fun e he => by have := hl.right e he; omega) (fun e he => by have := hm.right e he; omega)
    (fun e he => by have := hl.right e he; omega) (fun e he => by have := hm.right e he; omega) (by rw [z hl, z hm]) h1.2
theorem adjG_ge (u v : Int) (l : List Edge) : l.length ≤ (adjG u v l).length := by
  induction l generalizing u v with
  | nil => simp
  | cons e l ih =>
    rw [adjG]
    split
    · have := ih u e.2; simp; omega
    · have := ih e.1 e.2; simp; omega
theorem adjB_ge (l : List Edge) : l.length ≤ (adjB l).length := by
  have h1 := putVs_ge (adjN l)
  have h2 := adjG_ge (-1) 0 l
  unfold adjB
  simp only [adjN, List.length_cons] at *
  omega
end Go.Proofs.Ytgahfcdmgdnjiaa

/-! Numbers in Elias's gamma; events as bits: lists alone. -/
namespace Go.Proofs.Ytgahfcdmgdnjiaa
open Go Go.V Go.RowKit
set_option linter.unusedVariables false
set_option linter.unusedSimpArgs false

/-- How many bits a number has. -/
def blen (v : Nat) : Nat := if v = 0 then 0 else 1 + blen (v / 2)
termination_by v
decreasing_by omega
theorem blen_pos {v : Nat} (h : 0 < v) : blen v = 1 + blen (v / 2) := by rw [blen, if_neg (by omega)]
theorem blen_zero : blen 0 = 0 := by rw [blen, if_pos rfl]
theorem blen_is (v : Nat) : v < 2 ^ blen v ∧ (0 < v → 2 ^ (blen v - 1) ≤ v ∧ 0 < blen v) := by
  induction v using Nat.strongRecOn with
  | _ v ih =>
    by_cases h : v = 0
    · subst h; rw [blen_zero]; simp
    · rw [blen_pos (by omega)]
      obtain ⟨h1, h2⟩ := ih (v / 2) (by omega)
      refine ⟨by rw [Nat.add_comm, Nat.pow_succ]; omega, fun _ => ⟨?_, by omega⟩⟩
      rw [Nat.add_sub_cancel_left]
      by_cases h0 : 0 < v / 2
      · obtain ⟨k1, k2⟩ := h2 h0
        obtain ⟨q, hq⟩ : ∃ q, blen (v / 2) = q + 1 := ⟨blen (v / 2) - 1, by omega⟩
        rw [hq, Nat.add_sub_cancel] at k1
        rw [hq, Nat.pow_succ]; omega
      · have : v / 2 = 0 := by omega
        rw [this, blen_zero]; omega
theorem blen_le {v k : Nat} (h : v < 2 ^ k) : blen v ≤ k := by
  by_cases h0 : 0 < v
  · obtain ⟨h1, h2⟩ := (blen_is v).2 h0
    have : blen v - 1 < k := (Nat.pow_lt_pow_iff_right (a := 2) (by omega)).1 (by omega)
    omega
  · have : v = 0 := by omega
    rw [this, blen_zero]; omega
def gamB (v : Nat) : List Bool := List.replicate (blen v - 1) false ++ bitsOf (v : Int) (blen v)
theorem gamB_length {v : Nat} (h : 0 < v) : (gamB v).length = 2 * (blen v - 1) + 1 := by
  have := ((blen_is v).2 h).2
  unfold gamB
  rw [List.length_append, List.length_replicate, bitsOf_length]; omega
theorem valOf_bits {v : Int} (h : 0 ≤ v) : ∀ (n : Nat) (a : Int), (bitsOf v n).foldl (fun v b => 2 * v + b2i b) a = a * 2 ^ n + v % 2 ^ n
  | 0, a => by simp [bitsOf]
  | n + 1, a => by
    rw [bitsOf, List.foldl_cons, valOf_bits h n]
    have hp : (0 : Int) < 2 ^ n := Int.pow_pos (by omega)
    have e : v % 2 ^ (n + 1) = v % 2 ^ n + 2 ^ n * b2i (bitV v n) := by
      have h1 : (2 : Int) ^ (n + 1) = 2 ^ n * 2 := by rw [Int.pow_succ]
      have hq := Int.emod_add_mul_ediv (v / 2 ^ n) 2
      have hv := Int.emod_add_mul_ediv v (2 ^ n)
      have hr1 := Int.emod_nonneg v (show (2 : Int) ^ n ≠ 0 by omega)
      have hr2 := Int.emod_lt_of_pos v hp
      have hb : b2i (bitV v n) = v / 2 ^ n % 2 := by
        unfold b2i bitV
        have h2 := Int.emod_nonneg (v / 2 ^ n) (show (2 : Int) ≠ 0 by omega)
        have h3 := Int.emod_lt_of_pos (v / 2 ^ n) (show (0 : Int) < 2 by omega)
        by_cases h4 : v / 2 ^ n % 2 = 1
        · simp [h4]
        · have h5 : v / 2 ^ n % 2 = 0 := by omega
          simp [h5]
      have hb2 := b2i_bound (bitV v n)
      have hs : v = (v % 2 ^ n + 2 ^ n * b2i (bitV v n)) + 2 ^ n * 2 * (v / 2 ^ n / 2) := by
        rw [hb, Int.mul_assoc, Int.add_assoc, ← Int.mul_add, hq, hv]
      rw [h1]
      conv => lhs; rw [hs]
      rw [Int.add_mul_emod_self_left]
      refine Int.emod_eq_of_lt ?_ ?_
      · have : 0 ≤ 2 ^ n * b2i (bitV v n) := Int.mul_nonneg (Int.le_of_lt hp) hb2.1
        omega
      · have : 2 ^ n * b2i (bitV v n) ≤ 2 ^ n * 1 := Int.mul_le_mul_of_nonneg_left hb2.2 (Int.le_of_lt hp)
        omega
    rw [e]
    have h6 : (2 * a + b2i (bitV v n)) * 2 ^ n = a * 2 ^ (n + 1) + 2 ^ n * b2i (bitV v n) := by
      rw [Int.add_mul, Int.pow_succ, Int.mul_comm (b2i (bitV v n)), Int.mul_comm 2 a, Int.mul_assoc a 2, Int.mul_comm 2 (2 ^ n)]
    rw [h6]
    omega
theorem bitV_top {v : Nat} (h : 0 < v) : bitV (v : Int) (blen v - 1) = true := by
  obtain ⟨h1, h2⟩ := (blen_is v).2 h
  have h3 := (blen_is v).1
  obtain ⟨q, hq⟩ : ∃ q, blen v = q + 1 := ⟨blen v - 1, by omega⟩
  rw [hq] at h1 h3 ⊢
  rw [Nat.add_sub_cancel] at h1 ⊢
  rw [Nat.pow_succ] at h3
  have : v / 2 ^ q = 1 := by
    apply Nat.div_eq_of_lt_le <;> omega
  unfold bitV
  rw [show (2 : Int) ^ q = ((2 ^ q : Nat) : Int) by simp, show ((v : Int) / ((2 ^ q : Nat) : Int)) = ((v / 2 ^ q : Nat) : Int) by simp, this]
  rfl
theorem bits_top {v : Nat} (h : 0 < v) : bitsOf (v : Int) (blen v) = true :: bitsOf (v : Int) (blen v - 1) := by
  obtain ⟨q, hq⟩ : ∃ q, blen v = q + 1 := ⟨blen v - 1, by have := ((blen_is v).2 h).2; omega⟩
  have := bitV_top h
  rw [hq, Nat.add_sub_cancel] at *
  rw [bitsOf, this]
/-- How many bits, at the beginning, are nought. -/
def zer (bs : List Bool) : Nat := (bs.takeWhile fun b => !b).length
theorem zer_rep (k : Nat) (r : List Bool) : zer (List.replicate k false ++ true :: r) = k := by
  induction k with
  | zero => simp [zer]
  | succ k ih =>
    unfold zer at ih ⊢
    rw [List.replicate_succ, List.cons_append, List.takeWhile_cons]
    simp [ih]
theorem zer_is {bs : List Bool} {z : Nat} (h : ∀ i, i < z → bs[i]? = some false) (h1 : bs[z]? ≠ some false) : zer bs = z := by
  induction z generalizing bs with
  | zero =>
    cases bs with
    | nil => rfl
    | cons b bs => cases b <;> simp_all [zer]
  | succ z ih =>
    cases bs with
    | nil => have := h 0 (by omega); simp at this
    | cons b bs =>
      have h0 := h 0 (by omega)
      simp at h0; subst h0
      have := ih (bs := bs) (fun i hi => by simpa using h (i + 1) (by omega)) (by simpa using h1)
      unfold zer at this ⊢
      rw [List.takeWhile_cons]; simp [this]
/-- The number with which bits begin, and how many bits it is. -/
def gamT (bs : List Bool) : Option (Int × Nat) :=
  if zer bs < 64 ∧ 2 * zer bs + 1 ≤ bs.length then some (2 ^ zer bs + valOf ((bs.drop (zer bs + 1)).take (zer bs)), 2 * zer bs + 1) else none
theorem gamB_eq {v : Nat} (h : 0 < v) (rest : List Bool) : gamB v ++ rest = List.replicate (blen v - 1) false ++ true :: (bitsOf (v : Int) (blen v - 1) ++ rest) := by
  unfold gamB
  rw [bits_top h, List.append_assoc, List.cons_append]
theorem gamT_put {v : Nat} (h : 0 < v) (h64 : v < 2 ^ 64) (rest : List Bool) : gamT (gamB v ++ rest) = some ((v : Int), (gamB v).length) := by
  have hz : zer (gamB v ++ rest) = blen v - 1 := by rw [gamB_eq h, zer_rep]
  have hl := gamB_length h
  have hb := blen_le h64
  obtain ⟨h1, h2⟩ := (blen_is v).2 h
  have h3 := (blen_is v).1
  unfold gamT
  rw [hz, if_pos ⟨by omega, by rw [List.length_append, hl]; omega⟩, hl]
  have hd : ((gamB v ++ rest).drop (blen v - 1 + 1)).take (blen v - 1) = bitsOf (v : Int) (blen v - 1) := by
    rw [gamB_eq h, ← List.drop_drop, List.drop_left' (by simp), List.drop_succ_cons, List.drop_zero, List.take_left' (bitsOf_length _ _)]
  rw [hd]
  unfold valOf
  rw [valOf_bits (by omega)]
  obtain ⟨q, hq⟩ : ∃ q, blen v = q + 1 := ⟨blen v - 1, by omega⟩
  rw [hq] at h1 h3 ⊢
  rw [Nat.add_sub_cancel] at h1 ⊢
  rw [Nat.pow_succ] at h3
  have e : (v : Int) % 2 ^ q = (v : Int) - 2 ^ q := by
    have e1 : ((2 ^ q : Nat) : Int) = 2 ^ q := by simp
    rw [← e1, show (v : Int) = ((v - 2 ^ q : Nat) : Int) + ((2 ^ q : Nat) : Int) by omega, Int.add_emod_right, Int.emod_eq_of_lt (by omega) (by omega)]
    omega
  rw [e]
  congr 2
  omega
theorem gamB_pre {u v : Nat} {s t : List Bool} (hu : 0 < u ∧ u < 2 ^ 64) (hv : 0 < v ∧ v < 2 ^ 64) (h : gamB u ++ s = gamB v ++ t) : u = v ∧ s = t := by
  have h1 := gamT_put hu.1 hu.2 s
  have h2 := gamT_put hv.1 hv.2 t
  rw [h, h2] at h1
  simp only [Option.some.injEq, Prod.mk.injEq] at h1
  have e : u = v := by omega
  subst e
  exact ⟨rfl, List.append_cancel_left h⟩
theorem gamT_is {bs : List Bool} {v : Int} {n : Nat} (h : gamT bs = some (v, n)) : 1 ≤ v ∧ v < 2 ^ 64 ∧ 0 < n ∧ n ≤ bs.length ∧ n ≤ 127 := by
  unfold gamT at h
  split at h
  · rename_i hz
    simp only [Option.some.injEq, Prod.mk.injEq] at h
    obtain ⟨h1, h2⟩ := h
    have hv := valOf_lt ((bs.drop (zer bs + 1)).take (zer bs))
    have hl : ((bs.drop (zer bs + 1)).take (zer bs)).length = zer bs := by rw [List.length_take, List.length_drop]; omega
    rw [hl] at hv
    have hp : (0 : Int) < 2 ^ zer bs := Int.pow_pos (by omega)
    have hq : ((2 : Int)) ^ zer bs ≤ 2 ^ 63 := by
      have := Nat.pow_le_pow_right (n := 2) (by omega) (show zer bs ≤ 63 by omega)
      have e1 : ((2 ^ zer bs : Nat) : Int) = 2 ^ zer bs := by simp
      omega
    omega
  · cases h

/-- The numbers of an event behind another one (or behind the first time). -/
def evGap (t0 : Int) (p : Option Evt) (e : Evt) : Nat := (e.t - (match p with | some q => q.t | none => t0)).toNat + 1
def evFst (p : Option Evt) (e : Evt) : Nat := match p with
  | some q => if e.t = q.t then (e.u - q.u).toNat + 1 else e.u.toNat + 1
  | none => e.u.toNat + 1
def evSnd (p : Option Evt) (e : Evt) : Nat := match p with
  | some q => if e.t = q.t ∧ e.u = q.u then (e.v - q.v).toNat else (e.v - e.u).toNat
  | none => (e.v - e.u).toNat
def evB (t0 : Int) (p : Option Evt) (e : Evt) : List Bool := gamB (evGap t0 p e) ++ (e.add :: (gamB (evFst p e) ++ gamB (evSnd p e)))
def dBits (t0 : Int) : Option Evt → List Evt → List Bool
  | _, [] => []
  | p, e :: l => evB t0 p e ++ dBits t0 (some e) l
/-- The bytes of events. -/
def deltaB (t0 : Int) (l : List Evt) : List Int := packB (dBits t0 none l)
def EvtsB (l : List Evt) : Prop := ∀ e ∈ l, ((0 ≤ e.u ∧ e.u ≤ 4294967295) ∧ 0 ≤ e.v ∧ e.v ≤ 4294967295) ∧ -9223372036854775808 ≤ e.t ∧ e.t ≤ 9223372036854775807
/-- An event that may be behind another one. -/
def OkE (t0 : Int) (p : Option Evt) (e : Evt) : Prop := (0 ≤ e.t ∧ e.t ≤ 4611686018427387903) ∧ (0 ≤ e.u ∧ e.u < e.v ∧ e.v ≤ 4294967295) ∧ (match p with | none => e.t = t0 | some q => beforeV q e = true)
def DelOk (t0 : Int) : Option Evt → List Evt → Prop
  | _, [] => True
  | p, e :: l => OkE t0 p e ∧ DelOk t0 (some e) l
def delL (t0 : Int) : Option Evt → List Evt → Bool
  | _, [] => true
  | p, e :: l => (decide (0 ≤ e.t ∧ e.t ≤ 4611686018427387903 ∧ e.u < e.v) && (match p with | none => decide (e.t = t0) | some q => beforeV q e)) && delL t0 (some e) l
theorem delL_iff {t0 : Int} : ∀ {l : List Evt} {p : Option Evt}, EvtsB l → (delL t0 p l = true ↔ DelOk t0 p l)
  | [], p, _ => by simp [delL, DelOk]
  | e :: l, p, h => by
    have he := h e (by simp)
    have ih := delL_iff (t0 := t0) (l := l) (p := some e) fun a ha => h a (by simp [ha])
    unfold delL DelOk
    rw [Bool.and_eq_true, ih, Bool.and_eq_true, decide_eq_true_eq]
    unfold OkE
    constructor
    · rintro ⟨⟨h1, h2⟩, h3⟩
      refine ⟨⟨by omega, by omega, ?_⟩, h3⟩
      cases p with
      | none => simpa using h2
      | some q => exact h2
    · rintro ⟨⟨h1, h2, h4⟩, h3⟩
      refine ⟨⟨by omega, ?_⟩, h3⟩
      cases p with
      | none => simpa using h4
      | some q => exact h4
theorem OkE.nums {t0 : Int} {p : Option Evt} {e : Evt} (h : OkE t0 p e) (hp : ∀ q, p = some q → 0 ≤ q.t ∧ 0 ≤ q.u ∧ 0 ≤ q.v) : evGap t0 p e ≤ 2 ^ 62 ∧ (0 < evFst p e ∧ evFst p e ≤ 2 ^ 32) ∧ 0 < evSnd p e ∧ evSnd p e ≤ 2 ^ 32 := by
  obtain ⟨h1, h2, h3⟩ := h
  cases p with
  | none =>
    simp only at h3
    unfold evGap evFst evSnd
    simp only
    omega
  | some q =>
    have hq := hp q rfl
    simp only [beforeV_iff] at h3
    unfold evGap evFst evSnd
    simp only
    refine ⟨by omega, by split <;> omega, ?_⟩
    split <;> omega
theorem OkE.inj {t0 : Int} {p : Option Evt} {e e' : Evt} (h : OkE t0 p e) (h' : OkE t0 p e') (h1 : evGap t0 p e = evGap t0 p e') (h2 : evFst p e = evFst p e') (h3 : evSnd p e = evSnd p e') (h4 : e.add = e'.add) : e = e' := by
  obtain ⟨a1, a2, a3⟩ := h
  obtain ⟨b1, b2, b3⟩ := h'
  obtain ⟨t, u, v, ad⟩ := e
  obtain ⟨t', u', v', ad'⟩ := e'
  simp only at *
  subst h4
  cases p with
  | none =>
    simp only [evGap, evFst, evSnd] at *
    have : t = t' := by omega
    have : u = u' := by omega
    have : v = v' := by omega
    simp [*]
  | some q =>
    simp only [evGap, evFst, evSnd, beforeV_iff] at *
    have e1 : t = t' := by omega
    subst e1
    by_cases c : t = q.t
    · simp only [c, if_true, true_and] at *
      have e2 : u = u' := by omega
      subst e2
      have e3 : v = v' := by split at h3 <;> omega
      simp [*]
    · simp only [c, if_false, false_and] at *
      have e2 : u = u' := by omega
      subst e2
      have e3 : v = v' := by omega
      simp [*]
def PrevOk (p : Option Evt) : Prop := ∀ q, p = some q → 0 ≤ q.t ∧ 0 ≤ q.u ∧ 0 ≤ q.v
theorem OkE.prev {t0 : Int} {p : Option Evt} {e : Evt} (h : OkE t0 p e) : PrevOk (some e) := by
  intro q hq; cases hq
  have := h.1; have := h.2.1; omega
theorem evB_pre {t0 : Int} {p : Option Evt} {e e' : Evt} {s s' : List Bool} (hp : PrevOk p) (h : OkE t0 p e) (h' : OkE t0 p e') (he : evB t0 p e ++ s = evB t0 p e' ++ s') : e = e' ∧ s = s' := by
  have n1 := h.nums hp
  have n2 := h'.nums hp
  unfold evB at he
  simp only [List.append_assoc, List.cons_append] at he
  obtain ⟨g1, g2⟩ := gamB_pre ⟨by unfold evGap; omega, by omega⟩ ⟨by unfold evGap; omega, by omega⟩ he
  simp only [List.cons.injEq] at g2
  obtain ⟨g3, g4⟩ := g2
  obtain ⟨g5, g6⟩ := gamB_pre ⟨n1.2.1.1, by omega⟩ ⟨n2.2.1.1, by omega⟩ g4
  obtain ⟨g7, g8⟩ := gamB_pre ⟨n1.2.2.1, by omega⟩ ⟨n2.2.2.1, by omega⟩ g6
  exact ⟨h.inj h' g1 g5 g7 g3, g8⟩
theorem evB_true {t0 : Int} {p : Option Evt} {e : Evt} : true ∈ evB t0 p e := by
  unfold evB gamB
  rw [bits_top (by unfold evGap; omega)]
  simp
theorem dBits_pre {t0 : Int} : ∀ {l l' : List Evt} {p : Option Evt} {s s' : List Bool}, PrevOk p → DelOk t0 p l → DelOk t0 p l' → l.length = l'.length → dBits t0 p l ++ s = dBits t0 p l' ++ s' → l = l' ∧ s = s'
  | [], [], p, s, s', _, _, _, _, h => ⟨rfl, h⟩
  | [], _ :: _, p, s, s', _, _, _, h, _ => by simp at h
  | _ :: _, [], p, s, s', _, _, _, h, _ => by simp at h
  | e :: l, e' :: l', p, s, s', hp, h, h', hl, he => by
    rw [dBits, dBits, List.append_assoc, List.append_assoc] at he
    obtain ⟨e1, e2⟩ := evB_pre hp h.1 h'.1 he
    subst e1
    obtain ⟨e3, e4⟩ := dBits_pre h.1.prev h.2 h'.2 (by simpa using hl) e2
    exact ⟨by rw [e3], e4⟩
theorem dBits_more {t0 : Int} : ∀ {l l' : List Evt} {p : Option Evt} {k : Nat} {s : List Bool}, PrevOk p → DelOk t0 p l → DelOk t0 p l' → l.length < l'.length → dBits t0 p l ++ List.replicate k false ≠ dBits t0 p l' ++ s
  | [], [], p, k, s, _, _, _, h, _ => by simp at h
  | [], e :: l', p, k, s, _, _, _, _, h => by
    rw [dBits, dBits, List.nil_append, List.append_assoc] at h
    have : true ∈ List.replicate k false := by rw [h]; simp [evB_true]
    simp at this
  | _ :: _, [], p, k, s, _, _, _, h, _ => by simp at h
  | e :: l, e' :: l', p, k, s, hp, h, h', hl, he => by
    rw [dBits, dBits, List.append_assoc, List.append_assoc] at he
    obtain ⟨e1, e2⟩ := evB_pre hp h.1 h'.1 he
    subst e1
    exact dBits_more h.1.prev h.2 h'.2 (by simpa using hl) e2
theorem deltaB_inj {t0 : Int} {l l' : List Evt} (h : DelOk t0 none l) (h' : DelOk t0 none l') (he : deltaB t0 l = deltaB t0 l') : l = l' := by
  have h1 := congrArg unpackB he
  unfold deltaB at h1
  rw [unpack_pack, unpack_pack] at h1
  have hn : PrevOk none := fun q hq => by cases hq
  rcases Nat.lt_trichotomy l.length l'.length with k | k | k
  · exact absurd h1 (dBits_more hn h h' k)
  · exact (dBits_pre hn h h' k h1).1
  · exact absurd h1.symm (dBits_more hn h' h k)
theorem gamB_len_le {v : Nat} (h : 0 < v) (h64 : v ≤ 2 ^ 63) : (gamB v).length ≤ 127 := by
  rw [gamB_length h]
  have := blen_le (v := v) (k := 64) (by omega)
  omega
theorem evB_len {t0 : Int} {p : Option Evt} {e : Evt} (hp : PrevOk p) (h : OkE t0 p e) : (evB t0 p e).length ≤ 400 ∧ 4 ≤ (evB t0 p e).length := by
  have n := h.nums hp
  have g1 := gamB_len_le (v := evGap t0 p e) (by unfold evGap; omega) (by omega)
  have g2 := gamB_len_le (v := evFst p e) n.2.1.1 (by omega)
  have g3 := gamB_len_le (v := evSnd p e) n.2.2.1 (by omega)
  have k1 := gamB_length (v := evGap t0 p e) (by unfold evGap; omega)
  have k2 := gamB_length (v := evFst p e) n.2.1.1
  have k3 := gamB_length (v := evSnd p e) n.2.2.1
  unfold evB
  simp only [List.length_append, List.length_cons]
  omega
theorem dBits_len {t0 : Int} : ∀ {l : List Evt} {p : Option Evt}, PrevOk p → DelOk t0 p l → (dBits t0 p l).length ≤ 400 * l.length ∧ 4 * l.length ≤ (dBits t0 p l).length
  | [], p, _, _ => by simp [dBits]
  | e :: l, p, hp, h => by
    have h1 := evB_len hp h.1
    have h2 := dBits_len h.1.prev h.2
    rw [dBits, List.length_append, List.length_cons]; omega
theorem deltaB_len {t0 : Int} {l : List Evt} (h : DelOk t0 none l) : (deltaB t0 l).length ≤ 50 * l.length + 1 ∧ l.length ≤ 2 * (deltaB t0 l).length := by
  have := dBits_len (fun q hq => by cases hq) h
  unfold deltaB
  rw [packB_length]; omega
theorem deltaB_bytes (t0 : Int) (l : List Evt) : BytesB (deltaB t0 l) := packB_bytes _
theorem dBits_append {t0 : Int} : ∀ {l m : List Evt} {p : Option Evt}, dBits t0 p (l ++ m) = dBits t0 p l ++ dBits t0 (lastE l p) m
  | [], m, p => by simp [dBits, lastE]
  | e :: l, m, p => by
    rw [List.cons_append, dBits, dBits, dBits_append, List.append_assoc]; rfl
theorem DelOk.append {t0 : Int} : ∀ {l m : List Evt} {p : Option Evt}, DelOk t0 p (l ++ m) ↔ DelOk t0 p l ∧ DelOk t0 (lastE l p) m
  | [], m, p => by simp [DelOk, lastE]
  | e :: l, m, p => by
    rw [List.cons_append, DelOk, DelOk, DelOk.append]
    have : lastE (e :: l) p = lastE l (some e) := rfl
    rw [this, and_assoc]
theorem lastE_snoc (l : List Evt) (e : Evt) (p : Option Evt) : lastE (l ++ [e]) p = some e := by simp [lastE]
/-- The same events, later, are the same bits. -/
def laterE (d : Int) (e : Evt) : Evt := ⟨e.t + d, e.u, e.v, e.add⟩
theorem evB_later (t0 d : Int) (p : Option Evt) (e : Evt) : evB (t0 + d) (p.map (laterE d)) (laterE d e) = evB t0 p e := by
  unfold evB evGap evFst evSnd laterE
  cases p with
  | none => simp; congr 2; omega
  | some q =>
    simp only [Option.map_some]
    have h1 : e.t + d - (q.t + d) = e.t - q.t := by omega
    have h2 : (e.t + d = q.t + d) ↔ e.t = q.t := by omega
    simp only [h1, h2]
theorem dBits_later (t0 d : Int) : ∀ (l : List Evt) (p : Option Evt), dBits (t0 + d) (p.map (laterE d)) (l.map (laterE d)) = dBits t0 p l
  | [], p => by simp [dBits]
  | e :: l, p => by
    rw [List.map_cons, dBits, dBits, evB_later]
    have := dBits_later t0 d l (some e)
    rw [Option.map_some] at this
    rw [this]
theorem DelOk.later {t0 d : Int} : ∀ {l : List Evt} {p : Option Evt}, DelOk t0 p l → (∀ e ∈ l, 0 ≤ e.t + d ∧ e.t + d ≤ 4611686018427387903) → DelOk (t0 + d) (p.map (laterE d)) (l.map (laterE d))
  | [], p, _, _ => by simp [DelOk]
  | e :: l, p, h, hd => by
    rw [List.map_cons, DelOk]
    have he := hd e (by simp)
    have ih := DelOk.later (d := d) h.2 fun a ha => hd a (by simp [ha])
    rw [Option.map_some] at ih
    obtain ⟨⟨h1, h2, h3⟩, _⟩ := h
    refine ⟨⟨he, h2, ?_⟩, ih⟩
    cases p with
    | none => simp only [laterE, Option.map_none] at *; omega
    | some q =>
      simp only [Option.map_some, beforeV_iff, laterE] at *
      omega
/-- The events of a right history may be written. -/
theorem OkH.delOk {N t0 : Int} (hN : N ≤ 4294967296) : ∀ {l : List Evt} {p : Option Evt} {now : List Edge}, OkH N l p now → (∀ e ∈ l, 0 ≤ e.u) → (p = none → ∀ e, l.head? = some e → e.t = t0) → DelOk t0 p l
  | [], p, now, _, _, _ => trivial
  | e :: l, p, now, h, hu, h0 => by
    obtain ⟨h1, h2, h3, x, _, h4⟩ := h
    refine ⟨⟨h1, ⟨hu e (by simp), h2.1, by omega⟩, ?_⟩, h4.delOk hN (fun a ha => hu a (by simp [ha])) (fun hq => by cases hq)⟩
    cases p with
    | none => exact h0 rfl e rfl
    | some q => exact h3 q rfl
end Go.Proofs.Ytgahfcdmgdnjiaa

/-! Blocks: lists alone. -/
namespace Go.Proofs.Ytgahfcdmgdnjiaa
open Go Go.V Go.RowKit
set_option linter.unusedVariables false
set_option linter.unusedSimpArgs false

/-- May events be behind a graph? -/
def fitsL : List Edge → List Evt → Bool
  | _, [] => true
  | now, e :: l => match turnL now e with
    | none => false
    | some x => fitsL x l
theorem fitsL_append : ∀ {l m : List Evt} {now : List Edge}, fitsL now (l ++ m) = (fitsL now l && fitsL (foldT l now) m)
  | [], m, now => by simp [fitsL, foldT]
  | e :: l, m, now => by
    rw [List.cons_append, fitsL, fitsL, foldT_cons]
    cases turnL now e with
    | none => simp
    | some x => simp [fitsL_append]
theorem OkH.fits {N : Int} : ∀ {l : List Evt} {p : Option Evt} {now : List Edge}, OkH N l p now → fitsL now l = true
  | [], p, now, _ => rfl
  | e :: l, p, now, h => by
    obtain ⟨h1, h2, h3, x, hx, h4⟩ := h
    rw [fitsL, hx]
    exact h4.fits
def t0E (l : List Evt) : Int := match l with
  | [] => 0
  | e :: _ => e.t
theorem DelOk.t0 {t0 : Int} {l : List Evt} (h : DelOk t0 none l) (hne : l ≠ []) : t0E l = t0 := by
  cases l with
  | nil => exact absurd rfl hne
  | cons e l => exact h.1.2.2
/-- The bytes of a block. -/
def blockB (t0 : Int) (key : List Edge) (l : List Evt) : List Int := putV (putH (adjB key)).length ++ (putH (adjB key) ++ putH (deltaB t0 l))
structure BlkOk (t0 : Int) (key : List Edge) (l : List Evt) : Prop where
  adj : AdjOk key
  ne : l ≠ []
  del : DelOk t0 none l
  fit : fitsL key l = true
/-- What may not be. -/
def blkErr (key : List Edge) (l : List Evt) : Int := if adjL key = false ∨ l = [] then 23 else if delL (t0E l) none l = false then 23 else if fitsL key l = false then 25 else 0
theorem blkErr_ok {key : List Edge} {l : List Evt} (hk : EdgesB key) (hkl : key.length ≤ 2 ^ 30) (hl : EvtsB l) : blkErr key l = 0 ↔ BlkOk (t0E l) key l := by
  unfold blkErr
  have h1 := adjL_iff hk hkl
  have h2 := delL_iff (t0 := t0E l) (p := none) hl
  constructor
  · intro h
    split at h
    · omega
    · rename_i a
      split at h
      · omega
      · rename_i b
        split at h
        · omega
        · rename_i c
          simp only [not_or, Bool.not_eq_false] at a b c
          exact ⟨h1.1 a.1, a.2, h2.1 b, c⟩
  · rintro ⟨a, b, c, d⟩
    rw [if_neg (by rw [h1.2 a]; simp [b]), if_neg (by rw [h2.2 c]; simp), if_neg (by rw [d]; simp)]
theorem headR_len3 : ∀ (l : List Int) (s nx : Nat), (∀ v ∈ l, 0 ≤ v ∧ v ≤ 15) → s + l.length ≤ 256 → (headR l s nx).length ≤ 3 * l.length
  | [], s, nx, _, _ => by simp [headR]
  | x :: l, s, nx, h, hs => by
    have hx := h x (by simp)
    simp only [List.length_cons] at hs
    have ih1 := headR_len3 l (s + 1) (s + 1) (fun v hv => h v (by simp [hv])) (by omega)
    have ih2 := headR_len3 l (s + 1) nx (fun v hv => h v (by simp [hv])) (by omega)
    rw [headR]
    split
    · have a1 := putV_len (s - nx) 2 (by omega) (by omega)
      have a2 := putV_len x.toNat 1 (by omega) (by omega)
      simp only [List.length_append, List.length_cons]; omega
    · simp only [List.length_cons]; omega
theorem putH_len2 {b : List Int} (hb : BytesB b) (hl : b.length < 2 ^ 60) : (putH b).length ≤ 2 * b.length + 800 := by
  unfold putH
  split
  · have := putV_len10 (v := 0) (by omega); omega
  · rename_i hne
    obtain ⟨l1, r1, s1, v1⟩ := lsB_facts hb hne
    have h1 := putV_len10 (v := b.length) (by omega)
    have hp := posN_le (lsB b)
    have h2 := putV_len10 (v := posN (lsB b)) (by omega)
    have h3 := headR_len3 (lsB b) 0 0 v1 (by omega)
    have h4 := encL_length r1 (symB b)
    have h5 := sizeL_bound r1 (symB b)
    have h6 : (symB b).length = b.length := by simp
    simp only [List.length_append, packB_length]
    omega
theorem blockB_bytes (t0 : Int) (key : List Edge) (l : List Evt) : BytesB (blockB t0 key l) := by
  intro y hy
  unfold blockB at hy
  rcases List.mem_append.1 hy with h | h
  · exact putV_bytes _ y h
  rcases List.mem_append.1 h with h | h
  · exact putH_bytes _ y h
  · exact putH_bytes _ y h
theorem blockB_len {t0 : Int} {key : List Edge} {l : List Evt} (h : BlkOk t0 key l) (hk : key.length ≤ 2 ^ 20) (hl : l.length ≤ 2 ^ 20) : (blockB t0 key l).length ≤ 60 * key.length + 100 * l.length + 1640 := by
  have h1 := adjB_len h.adj.edgesB h.adj.len
  have h2 := (deltaB_len h.del).1
  have h3 := putH_len2 (adjB_bytes key) (by omega)
  have h4 := putH_len2 (deltaB_bytes t0 l) (by omega)
  have h5 := putV_len10 (v := (putH (adjB key)).length) (by omega)
  unfold blockB
  simp only [List.length_append]
  omega
/-- One block is not the beginning of another one, but for more events. -/
theorem blockB_pre {t0 t1 : Int} {key key' : List Edge} {l l' : List Evt} {s s' : List Int} (h : BlkOk t0 key l) (h' : BlkOk t1 key' l') (hl : l.length ≤ 2 ^ 50) (hl' : l'.length ≤ 2 ^ 50) (he : blockB t0 key l ++ s = blockB t1 key' l' ++ s') : key = key' ∧ deltaB t0 l = deltaB t1 l' ∧ s = s' := by
  have b1 := adjB_bytes key
  have b2 := adjB_bytes key'
  have c1 := adjB_len h.adj.edgesB h.adj.len
  have c2 := adjB_len h'.adj.edgesB h'.adj.len
  have m1 := h.adj.len
  have m2 := h'.adj.len
  have d1 := (deltaB_len h.del).1
  have d2 := (deltaB_len h'.del).1
  have e1 := putH_len2 b1 (by omega)
  have e2 := putH_len2 b2 (by omega)
  unfold blockB at he
  simp only [List.append_assoc] at he
  obtain ⟨f1, f2⟩ := putV_pre (by omega) (by omega) he
  have g1 := putH_pre b1 b2 (by omega) (by omega) f2
  have g2 := adjB_inj h.adj h'.adj g1
  subst g2
  have f3 := List.append_cancel_left f2
  have g3 := putH_pre (deltaB_bytes _ _) (deltaB_bytes _ _) (by omega) (by omega) f3
  rw [g3] at f3
  exact ⟨rfl, g3, List.append_cancel_left f3⟩
/-- These bytes are those of a block of so many vertices and events, from a time on. -/
structure BlkIs (x : List Int) (n t0 count : Int) (key : List Edge) (l : List Evt) : Prop where
  ok : BlkOk t0 key l
  keyV : ∀ e ∈ key, e.2 < n
  evtV : ∀ e ∈ l, e.v < n
  len : (l.length : Int) = count
  eq : x = blockB t0 key l
theorem BlkIs.uniq {x : List Int} {n t0 count n' t0' count' : Int} {key key' : List Edge} {l l' : List Evt} (h : BlkIs x n t0 count key l) (h' : BlkIs x n' t0' count' key' l') (hl : l.length ≤ 2 ^ 50) (hl' : l'.length ≤ 2 ^ 50) : key = key' ∧ deltaB t0 l = deltaB t0' l' := by
  have := blockB_pre (s := []) (s' := []) h.ok h'.ok hl hl' (by rw [← h.eq, ← h'.eq])
  exact ⟨this.1, this.2.1⟩
theorem blk_size {x a d : List Int} (ha : BytesB a) (hd : BytesB d) (h : x = putV (putH a).length ++ (putH a ++ putH d)) : a.length ≤ 8 * x.length ∧ d.length ≤ 8 * x.length := by
  have h1 := putH_size ha rfl
  have h2 := putH_size hd rfl
  rw [h]; simp only [List.length_append]
  omega
end Go.Proofs.Ytgahfcdmgdnjiaa
