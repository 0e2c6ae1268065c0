/- huff.Read: the walk. -/
import Derived.Test.YtmenmmgfdakeeaaH8g
namespace Go.Proofs.Ytmenmmgfdakeeaa
open Go Go.V Go.RowKit
set_option linter.unusedVariables false
set_option linter.unusedSimpArgs false
set_option maxHeartbeats 4000000
set_option maxRecDepth 100000

theorem headR_bytes : ∀ (l : List Int) (s nx : Nat), BytesB (headR l s nx)
  | [], s, nx => by intro y hy; simp [headR] at hy
  | x :: l, s, nx => by
    rw [headR]
    split
    · intro y hy
      rcases List.mem_append.1 hy with e | e
      · exact putV_bytes _ y e
      · rcases List.mem_append.1 e with e | e
        · exact putV_bytes _ y e
        · exact headR_bytes l _ _ y e
    · exact headR_bytes l _ _
theorem putH_bytes (b : List Int) : BytesB (putH b) := by
  unfold putH
  split
  · exact putV_bytes 0
  · intro y hy
    rcases List.mem_append.1 hy with e | e
    · exact putV_bytes _ y e
    · rcases List.mem_append.1 e with e | e
      · exact putV_bytes _ y e
      · rcases List.mem_append.1 e with e | e
        · exact headR_bytes _ _ _ y e
        · exact packB_bytes _ y e

abbrev badRead : Value := .tuple #[.slice none 0 0, .int .i64 21]
def ReadR (x : List Int) (ev : Ending) (w' : World) : Prop :=
  (∃ (A' : Option Addr) (n' c' : Nat) (o : List Int), ev = .returned (.tuple #[.slice A' n' c', .int .i64 0]) ∧ Row w' A' (u8s o) ∧ n' = o.length ∧ BytesB o ∧ o.length ≤ 2 ^ 20 ∧ putH o = x) ∨
  (ev = .returned badRead ∧ ∀ o, BytesB o → o.length < 2 ^ 62 → putH o ≠ x)

theorem put_equal {w : World} {A B : Option Addr} {n c m d : Nat} {x o : List Int} {R : Ending → World → Prop} {bad good : Ending} (hA : Row w A (u8s x)) (hn : n = x.length) (hb : BytesB x) (hB : Row w B (u8s o)) (hm : m = o.length) (hbo : BytesB o) (hl : m ≤ 2 ^ 20)
    (hbad : putH o ≠ x → ∀ w', w.grownBy w' none → R bad w') (hgood : putH o = x → ∀ w', w.grownBy w' none → R good w') :
    Calls P 52 #[.slice B m d] w fun ev w1 => ∃ (C : Option Addr) (k e : Nat), ev = .returned (.slice C k e) ∧ Calls P 102 #[.slice C k e, .slice A n c] w1 fun ev2 w2 => ∃ q : Bool, ev2 = .returned (.bool q) ∧ ((q = false → R bad w2) ∧ (¬ q = false → R good w2)) := by
  refine (hput_calls hB hm hbo hl).mono fun ev w1 hh => ?_
  obtain ⟨C, k, e, rfl, oC, g1⟩ := hh
  refine ⟨_, _, _, rfl, ?_⟩
  refine (equal_calls oC.row (u8_len oC) (hA.kept_none g1) hn (putH_bytes o) hb).mono fun ev w2 hh => ?_
  obtain ⟨rfl, rfl⟩ := hh
  exact ⟨_, rfl, fun h => hbad (by simpa using h) _ g1, fun h => hgood (by simpa using h) _ g1⟩

/-- What a text tells of its bytes. -/
theorem putH_is {o x : List Int} (ho : BytesB o) (hl : o.length < 2 ^ 62) (h : putH o = x) {most : Int} (hm : 2 ^ 62 ≤ most) : ∃ k, takeV most x = ((o.length : Int), k, 0) ∧ k ≤ x.length ∧ (o ≠ [] → HdOk (x.drop k) (lsB o) (packB (encL (lsB o) (symB o)))) := by
  by_cases hne : o = []
  · subst hne
    have := takeV_put (most := most) (n := 0) (by omega) (by omega) []
    rw [List.append_nil, show putV 0 = x by simpa [putH] using h] at this
    refine ⟨_, by simpa using this, ?_, fun e => absurd rfl e⟩
    rw [← show putV 0 = x by simpa [putH] using h]; exact Nat.le_refl _
  · rw [putH, if_neg hne] at h
    have := takeV_put (most := most) (n := o.length) (by omega) (by omega) (putV (posN (lsB o)) ++ (headR (lsB o) 0 0 ++ packB (encL (lsB o) (symB o))))
    rw [h] at this
    obtain ⟨l1, r1, s1, v1⟩ := lsB_facts ho hne
    refine ⟨_, this, ?_, fun _ => ⟨l1, v1, ?_⟩⟩
    · rw [← h, List.length_append]; omega
    · rw [← h, List.drop_left]

theorem hread_calls {w : World} {A : Option Addr} {n c : Nat} {x : List Int} (hr : Row w A (u8s x)) (hn : n = x.length) (hc : n ≤ c) (hb : BytesB x) (hl : x.length ≤ 2 ^ 16) :
    Calls P 55 #[.slice A n c] w fun ev w' => w.grownBy w' none ∧ ReadR x ev w' := by
  apply vc55; unfold VC55
  simp only [InK]
  have gal := World.grownBy_alloc w (.cells #[.slice A n c, .bool true] 155) none
  have hAb : ∀ a, A = some a → x = [] ∨ a.block < w.heap.size := fun a ha => by
    by_cases e : x = []
    · exact .inl e
    · obtain ⟨q, q1, q2⟩ := hr.blk (by simpa using e)
      rw [ha] at q1; cases q1; exact .inr q2
  have hN0 : NumAt (w.alloc (.cells #[.slice A n c, .bool true] 155)) w.heap.size x true := ⟨A, n, c, heap_alloc_new w _, hr.kept_none gal, hn, hc, hAb⟩
  refine (num_calls (most := 9223372036854775807) hN0 hb (by omega) (by omega)).mono fun ev w1 hh => ?_
  obtain ⟨rfl, hN1, k1⟩ := hh
  have K1 : Kp w w1 (fun k => w.heap.size ≤ k) := (Kp.of_none gal).then k1 (fun k _ e => by omega)
  have keepX : ∀ w', Kp w w' (fun k => w.heap.size ≤ k) → Row w' A (u8s x) := fun w' K => hr.kpE K (fun a ha => (hAb a ha).imp (fun e => by rw [e]; rfl) (fun e => by omega))
  have grw : ∀ w', Kp w w' (fun k => w.heap.size ≤ k) → w.grownBy w' none := fun w' K => K.grown (fun k hk e => by omega)
  have ht := takeV_is (most := 9223372036854775807) (b := x) (fun y hy => (hb y hy).1)
  have hO : ∀ o, BytesB o → o.length < 2 ^ 62 → putH o = x → ∃ k, takeV 9223372036854775807 x = ((o.length : Int), k, 0) ∧ k ≤ x.length ∧ (o ≠ [] → HdOk (x.drop k) (lsB o) (packB (encL (lsB o) (symB o)))) := fun o h1 h2 h3 => putH_is h1 h2 h3 (by omega)
  obtain ⟨N, k0, e0, hv⟩ : ∃ v k e, takeV 9223372036854775807 x = (v, k, e) := ⟨_, _, _, rfl⟩
  rw [hv] at ht hO hN1 ⊢
  simp only [Bool.true_and] at ht hN1 ⊢
  obtain ⟨A1, n1, c1, b1, b2, b3, b4, b5⟩ := hN1
  have hN1 : NumAt w1 w.heap.size (x.drop k0) (decide (e0 = 0)) := ⟨A1, n1, c1, b1, b2, b3, b4, b5⟩
  have hcell : w1.cell? ((⟨w.heap.size, 0, none⟩ : Addr).add 1) = some (.bool (decide (e0 = 0))) := by rw [add_lit]; exact blk_cell b1 1
  have hbd : BytesB (x.drop k0) := fun y hy => hb y (List.mem_of_mem_drop hy)
  refine ⟨N, rfl, _, rfl, decide (e0 = 0), hcell, fun hok => ⟨fun hpos => ?_, fun hz => ?_⟩, fun hok => ?_⟩
  · have he0 : e0 = 0 := by simpa using hok
    rw [hok] at hN1
    have hO2 : ∀ o, BytesB o → o.length < 2 ^ 62 → putH o = x → (o.length : Int) = N ∧ o ≠ [] ∧ HdOk (x.drop k0) (lsB o) (packB (encL (lsB o) (symB o))) := by
      intro o h1 h2 h3
      obtain ⟨k, e1, e2, e3⟩ := hO o h1 h2 h3
      have a1 : N = (o.length : Int) := congrArg Prod.fst e1
      have a2 : k0 = k := congrArg (fun t => t.2.1) e1
      have hne : o ≠ [] := fun e => by rw [e] at a1; simp at a1; omega
      subst a2
      exact ⟨a1.symm, hne, e3 hne⟩
    refine (lens_calls hN1 hbd (by simp; omega)).mono fun ev w2 hh => ?_
    obtain ⟨A2, c2, ls, ok, p, rfl, r2, hls, hN2, k2, hcl⟩ := hh
    have K2 : Kp w w2 (fun k => w.heap.size ≤ k) := K1.then k2 (fun k _ e => by omega)
    refine ⟨_, _, _, rfl, ?_⟩
    refine (new_calls (ls := ls) r2 hls.symm (by omega)).mono fun ev w3 hh => ?_
    obtain ⟨g3, hcase⟩ := hh
    have K3 : Kp w w3 (fun k => w.heap.size ≤ k) := K2.step g3 (fun k hk => by cases hk)
    have hN3 : NumAt w3 w.heap.size ((x.drop k0).drop p) ok := hN2.kp (S := fun _ => False) (Kp.of_none g3) (fun _ _ h => h)
    obtain ⟨A3, n3, c3, d1, d2, d3, d4, d5⟩ := hN3
    have hN3 : NumAt w3 w.heap.size ((x.drop k0).drop p) ok := ⟨A3, n3, c3, d1, d2, d3, d4, d5⟩
    have hcell3 : w3.cell? ((⟨w.heap.size, 0, none⟩ : Addr).add 1) = some (.bool ok) := by rw [add_lit]; exact blk_cell d1 1
    have hg3 := grw w3 K3
    have hbadok : ok = false → ReadR x (.returned badRead) w3 := fun h => .inr ⟨rfl, fun o h1 h2 h3 => by
      obtain ⟨_, _, a3⟩ := hO2 o h1 h2 h3
      have := (hcl _ _ a3).1
      rw [h] at this; cases this⟩
    rcases hcase with ⟨hf, rfl⟩ | ⟨hR, gt, rfl, hT⟩
    · refine ⟨_, _, rfl, _, rfl, ok, hcell3, fun h => ⟨hg3, hbadok h⟩, fun h => ⟨fun _ => ⟨hg3, .inr ⟨rfl, fun o h1 h2 h3 => ?_⟩⟩, fun h => absurd rfl h⟩⟩
      obtain ⟨_, a2, a3⟩ := hO2 o h1 h2 h3
      have e := (hcl _ _ a3).2.1
      rw [e, (lsB_facts h1 a2).2.1] at hf
      cases hf
    refine ⟨_, _, rfl, _, rfl, ok, hcell3, fun h => ⟨hg3, hbadok h⟩, fun hok3 => ⟨fun h => (by cases h), fun _ => ?_⟩⟩
    have hok3' : ok = true := by simpa using hok3
    generalize hrest : (x.drop k0).drop p = rest at *
    have hrl : rest.length ≤ x.length := by rw [← hrest]; simp only [List.length_drop]; omega
    have hrb : BytesB rest := fun y hy => by rw [← hrest] at hy; exact hb y (List.mem_of_mem_drop (List.mem_of_mem_drop hy))
    refine ⟨_, rfl, _, _, _, blk_cell d1 0, ?_⟩
    have glt := hN3.lt
    refine (newReader_calls d2 d3 (fun a ha => (d5 a ha).imp id (fun e => by omega))).mono fun ev w4 hh => ?_
    obtain ⟨rfl, hRd, g4⟩ := hh
    have l34 : w3.heap.size < w4.heap.size := (Array.getElem?_eq_some_iff.1 hRd.blk).1
    refine ⟨_, rfl, ?_⟩
    refine ⟨fun m n' Ao no co w5 => ∃ (j at_ : Nat) (out : List Int), n' = N - (j : Int) ∧ (j : Int) ≤ N ∧ m = (N - (j : Int)).toNat ∧ out.length = j ∧ j ≤ at_ ∧ BytesB out ∧ OwnedK w5 w4.heap.size 5 1 Ao no co (u8s out) ∧ RdAt w5 w3.heap.size A3 n3 c3 rest at_ ∧ Kp w3 w5 (fun k => w3.heap.size ≤ k) ∧ w4.heap.size ≤ w5.heap.size ∧
        ∀ o, BytesB o → o.length < 2 ^ 62 → putH o = x → (∃ r, (unpackB rest).drop at_ = encL ls (symB (o.drop j)) ++ r) ∧ out = o.take j,
      ⟨_, 0, 0, [], by omega, by omega, rfl, rfl, by omega, (fun y hy => by cases hy), OwnedK.nil _ _ _ _, hRd, Kp.of_none g4, Nat.le_refl _, fun o h1 h2 h3 => ?_⟩, ?_⟩
    · obtain ⟨a1, a2, a3⟩ := hO2 o h1 h2 h3
      obtain ⟨_, e1, e2⟩ := hcl _ _ a3
      refine ⟨?_, by simp⟩
      rw [e2, unpack_pack, e1]
      exact ⟨_, rfl⟩
    rintro m n' Ao no co w5 ⟨j, at_, out, rfl, hjN, rfl, hol, hja, hbo, ho, hRd5, K5, s45, hcd⟩
    have K05 : Kp w w5 (fun k => w.heap.size ≤ k) := K3.then K5 (fun k hk e => by have := K3.size; omega)
    have hle5 := hRd5.le
    have hno := u8_len ho
    refine ⟨fun hlt => ?_, fun hge => ?_⟩
    · have hT5 : TabAt w5 w3.heap.size gt ls := hT.kp K5 (fun k hk e => by omega)
      refine (takeSym_calls hT5 (Nat.le_refl _) hRd5 (by omega) hrb hR).mono fun ev w6 hh => ?_
      obtain ⟨rfl, hRd6, k6⟩ := hh
      have K06 : Kp w w6 (fun k => w.heap.size ≤ k) := K05.then k6 (fun k _ e => by have := K3.size; omega)
      cases hq : takeC ls 15 0 0 ((unpackB rest).drop at_) with
      | none =>
        have htr : takeR ls rest at_ = (.tuple #[.int .i64 0, .bool false], at_) := by unfold takeR; rw [hq]
        rw [htr]
        refine ⟨_, _, rfl, fun _ => ⟨grw w6 K06, .inr ⟨rfl, fun o h1 h2 h3 => ?_⟩⟩, fun h => absurd rfl h⟩
        obtain ⟨a1, a2, a3⟩ := hO2 o h1 h2 h3
        obtain ⟨_, e1, e2⟩ := hcl _ _ a3
        obtain ⟨⟨r, f1⟩, f2⟩ := hcd o h1 h2 h3
        have hj : j < o.length := by omega
        rw [List.drop_eq_getElem_cons hj] at f1
        have hs := (lsB_facts h1 a2).2.2.1 o[j].toNat (by simp only [symB]; exact List.mem_map_of_mem (List.getElem_mem hj))
        rw [← e1] at hs
        rw [symB, List.map_cons, encL_cons, List.append_assoc] at f1
        rw [f1, takeC_put hR hs] at hq
        cases hq
      | some sk =>
        obtain ⟨s, k⟩ := sk
        have htr : takeR ls rest at_ = (.tuple #[.int .i64 (s : Int), .bool true], at_ + k) := by unfold takeR; rw [hq]
        rw [htr] at hRd6 ⊢
        have hlen := takeC_len _ _ _ _ _ _ _ hq
        have ho6 := ho.kp k6 (fun k hk e => by have := ho.block_ge k hk; omega)
        refine ⟨_, _, rfl, fun h => (by cases h), fun _ => ?_⟩
        have hle6 := hRd6.le
        obtain ⟨A7, n7, c7, w7, e1, e2, e3, e4⟩ := append_byte (x := (s : Int)) ho6 (by omega) (Nat.le_trans s45 k6.size)
        refine ⟨by omega, _, _, _, w7, e1, by omega, (N - ((j + 1 : Nat) : Int)).toNat, by omega, j + 1, at_ + k, out ++ [(s : Int)], by omega, by omega, rfl, by simp; omega, by omega, ?_, e2, ?_, ?_, ?_, ?_⟩
        · intro y hy
          rcases List.mem_append.1 hy with e | e
          · exact hbo y e
          · have : y = (s : Int) := by simpa using e
            omega
        · refine hRd6.kp (Kp.of_grown e3) (fun e => by have := ho6.block_ge _ e.symm; omega) (fun a ha => (d5 a ha).imp id (fun e1 e => by have := ho6.block_ge _ e.symm; omega))
        · exact (K5.then k6 (fun k _ e => by omega)).step e3 (fun k hk => .inr (by have := ho6.block_ge _ hk; omega))
        · exact Nat.le_trans s45 (Nat.le_trans k6.size e3.size)
        · intro o h1 h2 h3
          obtain ⟨a1, a2, a3⟩ := hO2 o h1 h2 h3
          obtain ⟨_, q1, q2⟩ := hcl _ _ a3
          obtain ⟨⟨r, f1⟩, f2⟩ := hcd o h1 h2 h3
          have hj : j < o.length := by omega
          rw [List.drop_eq_getElem_cons hj] at f1
          have hs := (lsB_facts h1 a2).2.2.1 o[j].toNat (by simp only [symB]; exact List.mem_map_of_mem (List.getElem_mem hj))
          rw [← q1] at hs
          rw [symB, List.map_cons, encL_cons, List.append_assoc] at f1
          rw [f1, takeC_put hR hs] at hq
          have s1 : o[j].toNat = s := by simpa using congrArg (fun q => q.map Prod.fst) hq
          have s2 : (ln ls o[j].toNat).toNat = k := by simpa using congrArg (fun q => q.map Prod.snd) hq
          have hoj := h1 _ (List.getElem_mem hj)
          refine ⟨⟨r, ?_⟩, ?_⟩
          · rw [← List.drop_drop, f1, ← s2]
            have : (bitsOf (cd ls o[j].toNat) (ln ls o[j].toNat).toNat).length = (ln ls o[j].toNat).toNat := bitsOf_length _ _
            rw [show (bitsOf (cd ls o[j].toNat) (ln ls o[j].toNat).toNat ++ (encL ls (List.map Int.toNat (o.drop (j + 1))) ++ r)).drop (ln ls o[j].toNat).toNat = (encL ls (List.map Int.toNat (o.drop (j + 1))) ++ r) by
              conv => lhs; arg 1; rw [← this]
              exact List.drop_left]
          · rw [List.take_succ_eq_append_getElem hj, ← f2]
            congr 2; omega
    · have hjN' : (j : Int) = N := by omega
      have hN5 := hN3.kp K5 (fun k hk e => by omega)
      obtain ⟨A5, n5, c5, q1, q2, q3, q4, q5⟩ := hN5
      refine ⟨_, rfl, ok, by rw [add_lit]; exact blk_cell q1 1, fun h => absurd h hok3, fun _ => ?_⟩
      refine put_equal (R := fun ev w' => w.grownBy w' none ∧ ReadR x ev w') (keepX w5 K05) hn hb ho.row hno hbo (by omega) (fun hne w' g => ⟨grown_trans (grw w5 K05) g, .inr ⟨rfl, fun o h1 h2 h3 => ?_⟩⟩) (fun he w' g => ⟨grown_trans (grw w5 K05) g, .inl ⟨_, _, _, out, rfl, (ho.kept g).row, hno, hbo, by omega, he⟩⟩)
      obtain ⟨a1, a2, a3⟩ := hO2 o h1 h2 h3
      have f2 := (hcd o h1 h2 h3).2
      rw [List.take_of_length_le (by omega)] at f2
      rw [← f2] at h3
      exact hne h3
  · refine ⟨_, rfl, decide (e0 = 0), hcell, fun h => (by rw [hok] at h; cases h), fun _ => ?_⟩
    refine put_equal (R := fun ev w' => w.grownBy w' none ∧ ReadR x ev w') (o := []) (keepX w1 K1) hn hb (Row.nil _ _) rfl (fun y hy => by cases hy) (by omega) (fun hne w' g => ⟨grown_trans (grw w1 K1) g, .inr ⟨rfl, fun o h1 h2 h3 => ?_⟩⟩) (fun he w' g => ⟨grown_trans (grw w1 K1) g, .inl ⟨_, _, _, [], rfl, Row.nil _ _, rfl, (fun y hy => by cases hy), by simp, he⟩⟩)
    obtain ⟨k, e1, _⟩ := hO o h1 h2 h3
    have a1 : N = (o.length : Int) := congrArg Prod.fst e1
    have : o = [] := List.eq_nil_of_length_eq_zero (by omega)
    rw [this] at h3
    exact hne h3
  · refine ⟨_, rfl, decide (e0 = 0), hcell, fun h => ⟨grw w1 K1, .inr ⟨rfl, fun o h1 h2 h3 => ?_⟩⟩, fun h => absurd hok h⟩
    obtain ⟨k, e1, _⟩ := hO o h1 h2 h3
    have a1 : e0 = 0 := congrArg (fun t => t.2.2) e1
    rw [a1] at hok; simp at hok
end Go.Proofs.Ytmenmmgfdakeeaa
