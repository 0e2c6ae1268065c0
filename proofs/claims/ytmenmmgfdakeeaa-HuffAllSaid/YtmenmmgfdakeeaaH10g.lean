/- archipelagoref5.Read: the walk. -/
import Derived.Test.YtmenmmgfdakeeaaH9g
namespace Go.Proofs.Ytmenmmgfdakeeaa
open Go Go.V Go.RowKit
set_option linter.unusedVariables false
set_option linter.unusedSimpArgs false
set_option maxHeartbeats 4000000
set_option maxRecDepth 100000

theorem rput_equal {w : World} {A B : Option Addr} {n c m d : Nat} {x o : List Int} {R : Ending → World → Prop} {bad good : Ending} {s t : Operand} (hA : Row w A (u8s x)) (hn : n = x.length) (hb : BytesB x) (hB : Row w B (u8s o)) (hm : m = o.length) (hbo : BytesB o) (hl : m ≤ 2 ^ 20)
    (hbad : putH o ≠ x → ∀ w', w.grownBy w' none → R bad w') (hgood : putH o = x → ∀ w', w.grownBy w' none → R good w') :
    ∃ C : World → Prop, C w.drew ∧ Calls P 51 #[.slice B m d] w.drew fun ev w1 => ∃ (Y : Option Addr) (k e : Nat), ev = .returned (.slice Y k e) ∧ (C w1 ∧ ∃ s1 : ByteArray, Sem.run P (Go.convert 39 9 (.slice Y k e)) w1 = .ok (.string s1) w1 ∧
      ∃ s2 : ByteArray, (∀ w, C w → Sem.run P (Go.convert 39 9 (.slice A n c)) w = .ok (.string s2) w) ∧ ∃ q : Bool, (∀ w, Sem.run P (do eqGuard .neq 9 s t (.string s1) (.string s2); Go.binOp .neq 9 (.string s1) (.string s2) : Sem Value) w = .ok (.bool q) w) ∧ ((q = true → R bad w1) ∧ (q = false → R good w1))) := by
  have gd := grown_drew (grown_refl w none)
  refine ⟨fun w' => Row w' A (u8s x), hA.kept_none gd, ?_⟩
  refine (rhput_calls (hB.kept_none gd) hm hbo hl).mono fun ev w1 hh => ?_
  obtain ⟨C, k, e, rfl, oC, g1⟩ := hh
  refine ⟨_, _, _, rfl, (hA.kept_none gd).kept_none g1, _, convert_calls oC.row (u8_len oC), _, fun w' h => convert_calls h hn, _, fun w => run_neqS _ _ _ _ w, fun h => hbad ?_ _ (grown_trans gd g1), fun h => hgood ?_ _ (grown_trans gd g1)⟩
  · intro e; rw [e] at h; simp at h
  · exact strOf_inj (putH_bytes o) hb (by simpa using h)

theorem enc_ge {ls : List Int} (hR : rightL ls = true) : ∀ ss : List Nat, (∀ s ∈ ss, s < ls.length ∧ 0 < ln ls s) → ss.length ≤ (encL ls ss).length
  | [], _ => by simp
  | s :: ss, h => by
    have ih := enc_ge hR ss (fun t ht => h t (by simp [ht]))
    have := h s (by simp)
    rw [encL_cons, List.length_append, bitsOf_length, List.length_cons]
    omega
theorem putH_size {o x : List Int} (ho : BytesB o) (h : putH o = x) : o.length ≤ 8 * x.length := by
  by_cases hne : o = []
  · subst hne; simp
  · obtain ⟨l1, r1, s1, v1⟩ := lsB_facts ho hne
    have h1 := enc_ge r1 (symB o) s1
    have h2 : (packB (encL (lsB o) (symB o))).length ≤ x.length := by
      rw [← h, putH, if_neg hne]; simp only [List.length_append]; omega
    rw [packB_length] at h2
    have h3 : (symB o).length = o.length := by simp
    omega

theorem rread_calls {w : World} {A : Option Addr} {n c : Nat} {x : List Int} (hr : Row w A (u8s x)) (hn : n = x.length) (hc : n ≤ c) (hb : BytesB x) (hl : x.length ≤ 2 ^ 16) :
    Calls P 56 #[.slice A n c] w fun ev w' => w.grownBy w' none ∧ ReadR x ev w' := by
  apply vc56; unfold VC56
  simp only [InK]
  have hAb : ∀ a, A = some a → x = [] ∨ a.block < w.heap.size := fun a ha => by
    by_cases e : x = []
    · exact .inl e
    · obtain ⟨q, q1, q2⟩ := hr.blk (by simpa using e)
      rw [ha] at q1; cases q1; exact .inr q2
  refine (rvtake_calls (most := 4611686018427387904) hr hn hb (by omega)).mono fun ev w1 hh => ?_
  obtain ⟨rfl, g1⟩ := hh
  have ht := takeV_is (most := 4611686018427387904) (b := x) (fun y hy => (hb y hy).1)
  have hO : ∀ o, BytesB o → o.length < 2 ^ 62 → putH o = x → ∃ k, takeV 4611686018427387904 x = ((o.length : Int), k, 0) ∧ k ≤ x.length ∧ (o ≠ [] → HdOk (x.drop k) (lsB o) (packB (encL (lsB o) (symB o)))) := fun o h1 h2 h3 => putH_is h1 h2 h3 (by omega)
  obtain ⟨N, k0, e0, hv⟩ : ∃ v k e, takeV 4611686018427387904 x = (v, k, e) := ⟨_, _, _, rfl⟩
  rw [hv] at ht hO ⊢
  simp only at ht ⊢
  refine ⟨N, (k0 : Int), e0, rfl, fun he => ⟨g1, .inr ⟨rfl, fun o h1 h2 h3 => ?_⟩⟩, fun he => ⟨by omega, by omega, fun hbig => ⟨g1, .inr ⟨rfl, fun o h1 h2 h3 => ?_⟩⟩, fun hsm => ⟨fun hpos => ?_, fun hz => ?_⟩⟩⟩
  · obtain ⟨k, e1, _⟩ := hO o h1 h2 h3
    exact he (congrArg (fun t => t.2.2) e1)
  · obtain ⟨k, e1, _⟩ := hO o h1 h2 h3
    have a1 : N = (o.length : Int) := congrArg Prod.fst e1
    have := putH_size h1 h3
    omega
  · have tk : (k0 : Int).toNat = k0 := by omega
    rw [tk]
    have he0 : e0 = 0 := by omega
    have hO2 : ∀ o, BytesB o → o.length < 2 ^ 62 → putH o = x → (o.length : Int) = N ∧ o ≠ [] ∧ HdOk (x.drop k0) (lsB o) (packB (encL (lsB o) (symB o))) := by
      intro o h1 h2 h3
      obtain ⟨k, e1, e2, e3⟩ := hO o h1 h2 h3
      have a1 : N = (o.length : Int) := congrArg Prod.fst e1
      have a2 : k0 = k := congrArg (fun t => t.2.1) e1
      have hne : o ≠ [] := fun e => by rw [e] at a1; simp at a1; omega
      subst a2
      exact ⟨a1.symm, hne, e3 hne⟩
    have hbd : BytesB (x.drop k0) := fun y hy => hb y (List.mem_of_mem_drop hy)
    refine ⟨⟨by omega, by omega⟩, ?_⟩
    refine (rlens_calls (cut8 (c := c) (k := k0) (hr.kept_none g1) (by omega)) (by simp; omega) (by omega) hbd (by simp; omega)).mono fun ev w2 hh => ?_
    obtain ⟨g2, ⟨rfl, hno⟩ | ⟨A2, c2, ls, p, rfl, o2, hls, hp, hcl⟩⟩ := hh
    · exact ⟨_, _, _, _, _, rfl, fun _ => ⟨grown_trans g1 g2, .inr ⟨rfl, fun o h1 h2 h3 => hno _ _ (hO2 o h1 h2 h3).2.2⟩⟩, fun h => absurd rfl h⟩
    have g02 := grown_trans g1 g2
    refine ⟨_, _, _, _, _, rfl, fun h => (by cases h), fun _ => ?_⟩
    refine (refRight_calls (ls := ls) o2.row hls.symm).mono fun ev w3 hh => ?_
    obtain ⟨rfl, g3⟩ := hh
    have g03 := grown_trans g02 g3
    refine ⟨_, rfl, fun hf => ⟨g03, .inr ⟨rfl, fun o h1 h2 h3 => ?_⟩⟩, fun hR0 => ?_⟩
    · obtain ⟨_, a2, a3⟩ := hO2 o h1 h2 h3
      have e := (hcl _ _ a3).1
      rw [e, (lsB_facts h1 a2).2.1] at hf
      cases hf
    have hR : rightL ls = true := by simpa using hR0
    refine (refCodes_calls (ls := ls) (o2.row.kept_none g3) hls.symm (by omega)).mono fun ev w4 hh => ?_
    obtain ⟨A4, n4, c4, rfl, o4, g4⟩ := hh
    have g04 := grown_trans g03 g4
    have hcl4 := codesL_length hR
    have hn4 : n4 = ls.length := by rw [o4.cases.1]; simp [ints, hcl4]
    have hp' : p ≤ x.length - k0 := by simpa using hp
    have tkp : ((k0 : Int) + (p : Int)).toNat = k0 + p := by omega
    refine ⟨_, _, _, rfl, by omega, ⟨by omega, by omega⟩, ?_⟩
    rw [tkp]
    have hrr := cut8 (c := c) (k := k0 + p) (hr.kept_none g04) (by omega)
    have hrest0 : x.drop (k0 + p) = (x.drop k0).drop p := by rw [List.drop_drop]
    rw [hrest0] at hrr
    have hrlen : n - (k0 + p) = ((x.drop k0).drop p).length := by rw [List.drop_drop, List.length_drop]; omega
    have hX : ∀ a, cutA A c (k0 + p) 1 = some a → (x.drop k0).drop p = [] ∨ a.block < w.heap.size := by
      intro a ha
      obtain ⟨a', e1, e2⟩ := cut_block ha
      exact (hAb a' e1).imp (fun e => by rw [e]; simp) (fun e => by omega)
    generalize hrest : (x.drop k0).drop p = rest at *
    generalize cutA A c (k0 + p) 1 = A5 at *
    generalize n - (k0 + p) = n5 at *
    generalize c - (k0 + p) = c5 at *
    have hrl : rest.length ≤ x.length := by rw [← hrest]; simp only [List.length_drop]; omega
    have hrb : BytesB rest := fun y hy => by rw [← hrest] at hy; exact hb y (List.mem_of_mem_drop (List.mem_of_mem_drop hy))
    have gw := World.grownBy_alloc w4 (.cells #[.slice A5 n5 c5, .int .i64 0] 56) none
    obtain ⟨w5, hw5⟩ : ∃ w5, w5 = w4.alloc (.cells #[.slice A5 n5 c5, .int .i64 0] 56) := ⟨_, rfl⟩
    have s04 := g04.size
    have hRd : RRdAt w5 w4.heap.size A5 n5 c5 rest 0 := by
      rw [hw5]
      exact ⟨by simpa using heap_alloc_new w4 (.cells #[.slice A5 n5 c5, .int .i64 0] 56), hrr.kept_none gw, hrlen, by omega, fun a ha => (hX a ha).imp id (fun e => by omega)⟩
    rw [← hw5] at gw ⊢
    have l45 : w4.heap.size < w5.heap.size := (Array.getElem?_eq_some_iff.1 hRd.blk).1
    have L5 : Row w5 A2 (ints ls) := ((o2.row.kept_none g3).kept_none g4).kept_none gw
    have D5 : Row w5 A4 (ints (codesL ls)) := o4.row.kept_none gw
    have b2 : ∀ a, A2 = some a → a.block < w4.heap.size := fun a ha => Nat.lt_of_lt_of_le (owned_blk o2 a ha) (Nat.le_trans g3.size g4.size)
    have b4 : ∀ a, A4 = some a → a.block < w4.heap.size := owned_blk o4
    refine ⟨fun m Ao no co i w6 => ∃ (j at_ : Nat) (out : List Int), i = (j : Int) ∧ (j : Int) ≤ N ∧ m = (N - (j : Int)).toNat ∧ out.length = j ∧ j ≤ at_ ∧ BytesB out ∧ OwnedK w6 w5.heap.size 5 1 Ao no co (u8s out) ∧ RRdAt w6 w4.heap.size A5 n5 c5 rest at_ ∧ Kp w5 w6 (fun k => w4.heap.size ≤ k) ∧
        ∀ o, BytesB o → o.length < 2 ^ 62 → putH o = x → (∃ r, (unpackB rest).drop at_ = encL ls (symB (o.drop j)) ++ r) ∧ out = o.take j,
      ⟨_, 0, 0, [], rfl, by omega, rfl, rfl, by omega, (fun y hy => by cases hy), OwnedK.nil _ _ _ _, hRd, Kp.refl _ _, fun o h1 h2 h3 => ?_⟩, ?_⟩
    · obtain ⟨a1, a2, a3⟩ := hO2 o h1 h2 h3
      obtain ⟨e1, e2⟩ := hcl _ _ a3
      refine ⟨?_, by simp⟩
      rw [e2, unpack_pack, e1]
      exact ⟨_, rfl⟩
    rintro m Ao no co i w6 ⟨j, at_, out, rfl, hjN, rfl, hol, hja, hbo, ho, hRd6, K6, hcd⟩
    have K06 : Kp w w6 (fun k => w4.heap.size ≤ k) := (Kp.of_none (grown_trans g04 gw)).then K6 (fun k _ e => e)
    have grw : ∀ w', Kp w w' (fun k => w4.heap.size ≤ k) → w.grownBy w' none := fun w' K => K.grown (fun k hk e => by omega)
    have hle6 := hRd6.le
    have hno := u8_len ho
    refine ⟨fun hlt => ?_, fun hge => ?_⟩
    · have L6 : Row w6 A2 (ints ls) := L5.kp K6 (fun a ha _ e => by have := b2 a ha; omega)
      have D6 : Row w6 A4 (ints (codesL ls)) := D5.kp K6 (fun a ha _ e => by have := b4 a ha; omega)
      refine (takeCode_calls hRd6 (by omega) hrb L6 hls.symm D6 hn4 hR (fun a ha e => by have := b2 a ha; omega) (fun a ha e => by have := b4 a ha; omega)).mono fun ev w7 hh => ?_
      obtain ⟨rfl, hRd7, k7⟩ := hh
      have K07 : Kp w w7 (fun k => w4.heap.size ≤ k) := K06.then k7 (fun k _ e => by omega)
      cases hq : takeC ls 15 0 0 ((unpackB rest).drop at_) with
      | none =>
        have htr : takeR ls rest at_ = (.tuple #[.int .i64 0, .bool false], at_) := by unfold takeR; rw [hq]
        rw [htr]
        refine ⟨_, _, rfl, fun _ => ⟨grw w7 K07, .inr ⟨rfl, fun o h1 h2 h3 => ?_⟩⟩, fun h => absurd rfl h⟩
        obtain ⟨a1, a2, a3⟩ := hO2 o h1 h2 h3
        obtain ⟨e1, e2⟩ := hcl _ _ a3
        obtain ⟨⟨r, f1⟩, f2⟩ := hcd o h1 h2 h3
        have hj : j < o.length := by omega
        rw [List.drop_eq_getElem_cons hj] at f1
        have hs := (lsB_facts h1 a2).2.2.1 o[j].toNat (by simp only [symB]; exact List.mem_map_of_mem (List.getElem_mem hj))
        rw [← e1] at hs
        rw [symB, List.map_cons, encL_cons, List.append_assoc] at f1
        rw [f1, takeC_put hR hs] at hq
        cases hq
      | some sk =>
        obtain ⟨s, k⟩ := sk
        have htr : takeR ls rest at_ = (.tuple #[.int .i64 (s : Int), .bool true], at_ + k) := by unfold takeR; rw [hq]
        rw [htr] at hRd7 ⊢
        have hlen := takeC_len _ _ _ _ _ _ _ hq
        have ho7 := ho.kp k7 (fun k hk e => by have := ho.block_ge k hk; omega)
        refine ⟨_, _, rfl, fun h => (by cases h), fun _ => ?_⟩
        have hle7 := hRd7.le
        obtain ⟨A8, n8, c8, w8, e1, e2, e3, e4⟩ := append_byte (x := (s : Int)) ho7 (by omega) (Nat.le_trans K6.size k7.size)
        refine ⟨by omega, _, _, _, w8, e1, by omega, (N - ((j + 1 : Nat) : Int)).toNat, by omega, j + 1, at_ + k, out ++ [(s : Int)], by omega, by omega, rfl, by simp; omega, by omega, ?_, e2, ?_, ?_, ?_⟩
        · intro y hy
          rcases List.mem_append.1 hy with e | e
          · exact hbo y e
          · have : y = (s : Int) := by simpa using e
            omega
        · refine hRd7.kp (Kp.of_grown e3) (fun e => by have := ho7.block_ge _ e.symm; omega) (fun a ha => (hX a ha).imp id (fun e1 e => by have := ho7.block_ge _ e.symm; omega))
        · exact (K6.then k7 (fun k _ e => by omega)).step e3 (fun k hk => .inr (by have := ho7.block_ge _ hk; omega))
        · intro o h1 h2 h3
          obtain ⟨a1, a2, a3⟩ := hO2 o h1 h2 h3
          obtain ⟨q1, q2⟩ := hcl _ _ a3
          obtain ⟨⟨r, f1⟩, f2⟩ := hcd o h1 h2 h3
          have hj : j < o.length := by omega
          rw [List.drop_eq_getElem_cons hj] at f1
          have hs := (lsB_facts h1 a2).2.2.1 o[j].toNat (by simp only [symB]; exact List.mem_map_of_mem (List.getElem_mem hj))
          rw [← q1] at hs
          rw [symB, List.map_cons, encL_cons, List.append_assoc] at f1
          rw [f1, takeC_put hR hs] at hq
          have s1 : o[j].toNat = s := by simpa using congrArg (fun q => q.map Prod.fst) hq
          have s2 : (ln ls o[j].toNat).toNat = k := by simpa using congrArg (fun q => q.map Prod.snd) hq
          have hoj := h1 _ (List.getElem_mem hj)
          refine ⟨⟨r, ?_⟩, ?_⟩
          · rw [← List.drop_drop, f1, ← s2]
            have : (bitsOf (cd ls o[j].toNat) (ln ls o[j].toNat).toNat).length = (ln ls o[j].toNat).toNat := bitsOf_length _ _
            rw [show (bitsOf (cd ls o[j].toNat) (ln ls o[j].toNat).toNat ++ (encL ls (List.map Int.toNat (o.drop (j + 1))) ++ r)).drop (ln ls o[j].toNat).toNat = (encL ls (List.map Int.toNat (o.drop (j + 1))) ++ r) by
              conv => lhs; arg 1; rw [← this]
              exact List.drop_left]
          · rw [List.take_succ_eq_append_getElem hj, ← f2]
            congr 2; omega
    · have hjN' : (j : Int) = N := by omega
      have X6 : Row w6 A (u8s x) := hr.kpE K06 (fun a ha => (hAb a ha).imp (fun e => by rw [e]; rfl) (fun e => by omega))
      refine rput_equal (R := fun ev w' => w.grownBy w' none ∧ ReadR x ev w') X6 hn hb ho.row hno hbo (by omega) (fun hne w' g => ⟨grown_trans (grw w6 K06) g, .inr ⟨rfl, fun o h1 h2 h3 => ?_⟩⟩) (fun he w' g => ⟨grown_trans (grw w6 K06) g, .inl ⟨_, _, _, out, rfl, (ho.kept g).row, hno, hbo, by omega, he⟩⟩)
      obtain ⟨a1, a2, a3⟩ := hO2 o h1 h2 h3
      have f2 := (hcd o h1 h2 h3).2
      rw [List.take_of_length_le (by omega)] at f2
      rw [← f2] at h3
      exact hne h3
  · refine rput_equal (R := fun ev w' => w.grownBy w' none ∧ ReadR x ev w') (o := []) (hr.kept_none g1) hn hb (Row.nil _ _) rfl (fun y hy => by cases hy) (by omega) (fun hne w' g => ⟨grown_trans g1 g, .inr ⟨rfl, fun o h1 h2 h3 => ?_⟩⟩) (fun he w' g => ⟨grown_trans g1 g, .inl ⟨_, _, _, [], rfl, Row.nil _ _, rfl, (fun y hy => by cases hy), by simp, he⟩⟩)
    obtain ⟨k, e1, _⟩ := hO o h1 h2 h3
    have a1 : N = (o.length : Int) := congrArg Prod.fst e1
    have : o = [] := List.eq_nil_of_length_eq_zero (by omega)
    rw [this] at h3
    exact hne h3
end Go.Proofs.Ytmenmmgfdakeeaa
