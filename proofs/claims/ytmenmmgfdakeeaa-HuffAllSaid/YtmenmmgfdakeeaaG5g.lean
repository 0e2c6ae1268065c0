/- archipelagolaw6.CodeTexts: the walk. -/
import Derived.Test.YtmenmmgfdakeeaaG3g
namespace Go.V

/-- Symbols, written one behind another, and the bits that they are. -/
def encL (ls : List Int) (ss : List Nat) : List Bool := ss.flatMap fun s => bitsOf (cd ls s) (ln ls s).toNat
theorem encL_append (ls : List Int) (a b : List Nat) : encL ls (a ++ b) = encL ls a ++ encL ls b := by simp [encL]
theorem encL_cons (ls : List Int) (a : Nat) (b : List Nat) : encL ls (a :: b) = bitsOf (cd ls a) (ln ls a).toNat ++ encL ls b := by simp [encL]
def sizeL (ls : List Int) (ss : List Nat) : Int := (ss.map (ln ls)).sum
theorem encL_length {ls : List Int} (h : rightL ls = true) (ss : List Nat) : ((encL ls ss).length : Int) = sizeL ls ss := by
  induction ss with
  | nil => rfl
  | cons a ss ih =>
    have := (right_is h).2.1 a
    rw [encL_cons, List.length_append, bitsOf_length]
    simp only [sizeL, List.map_cons, List.sum_cons] at ih ⊢
    omega
theorem sizeL_bound {ls : List Int} (h : rightL ls = true) (ss : List Nat) : 0 ≤ sizeL ls ss ∧ sizeL ls ss ≤ 15 * (ss.length : Int) := by
  induction ss with
  | nil => simp [sizeL]
  | cons a ss ih =>
    have := (right_is h).2.1 a
    simp only [sizeL, List.map_cons, List.sum_cons, List.length_cons] at ih ⊢
    omega
end Go.V
namespace Go.Proofs.Ytmenmmgfdakeeaa
open Go Go.V Go.RowKit
set_option linter.unusedVariables false
set_option linter.unusedSimpArgs false
set_option maxHeartbeats 4000000
set_option maxRecDepth 100000

theorem pack_rest (bs : List Bool) : ∃ rest, unpackB (packB bs) = bs ++ rest ∧ rest.length < 8 := by
  refine ⟨_, unpack_pack bs, ?_⟩
  simp; omega

theorem walkTexts {w : World} {A B : Option Addr} {n c m d : Nat} {l sy : List Int} (hrow : Row w A (u16s l)) (hn : n = l.length) (hb : ∀ x ∈ l, 0 ≤ x ∧ x ≤ 65535) (hsy : Row w B (u8s sy)) (hm : m = sy.length) (hsb : ∀ x ∈ sy, 0 ≤ x ∧ x ≤ 255) :
    Calls P 7 #[.slice A n c, .slice B m d] w fun ev w' => ev = .returned (.bool true) ∧ w.grownBy w' none := by
  apply vc7; unfold VC7
  refine known6_calls.mono fun ev w1 hh => ?_
  obtain ⟨rfl, g1⟩ := hh
  refine ⟨true, rfl, fun h => absurd h (by simp), fun _ => ⟨fun _ => ⟨rfl, g1⟩, fun h40 => ⟨fun _ => ⟨rfl, g1⟩, fun h60 => ?_⟩⟩⟩
  refine (lengths6_calls (hrow.kept_none g1) hn hb (by omega) (by omega) (by omega)).mono fun ev w2 hh => ?_
  obtain ⟨A2, n2, c2, rfl, o2, g2⟩ := hh
  have hll := lens6_length (l := l) (by omega) 0 1
  generalize hx : lens6 l 0 1 = ls at *
  have hn2 : n2 = ls.length := by rw [o2.cases.1]; simp [ints]
  refine ⟨_, _, _, rfl, ?_⟩
  have g12 := grown_trans g1 g2
  refine (new_calls o2.row hn2 (by omega)).mono fun ev w3 hh => ?_
  obtain ⟨g3, ⟨hf, rfl⟩ | ⟨hR, gt, rfl, hT⟩⟩ := hh
  · refine ⟨_, _, rfl, fun _ => ?_, fun h => absurd rfl h⟩
    refine (refRight_calls (o2.row.kept_none g3) hn2).mono fun ev w4 hh => ?_
    obtain ⟨rfl, g4⟩ := hh
    rw [hf]
    exact ⟨_, rfl, rfl, grown_trans (grown_trans g12 g3) g4⟩
  have g13 := grown_trans g12 g3
  obtain ⟨h256, hrng, hone⟩ := right_is hR
  have hpos : 0 < ls.length := by
    have h1 := List.length_pos_iff.2 (posL_pos hR)
    rcases Nat.eq_zero_or_pos ls.length with e | e
    · have : ls = [] := List.eq_nil_of_length_eq_zero e
      rw [this] at h1; simp [ordL, posL, inOrder] at h1
    · exact e
  refine ⟨_, _, rfl, fun h => (by cases h), fun _ => ⟨fun h => (by cases h), fun _ => ?_⟩⟩
  refine (newWriter_calls (base := w3.heap.size) (Nat.le_refl _)).mono fun ev w4 hh => ?_
  obtain ⟨rfl, hW, g4⟩ := hh
  refine ⟨_, rfl, ?_⟩
  have r3 := o2.row.kept_none g3
  have b2 : ∀ a, A2 = some a → a.block < w3.heap.size := fun a ha => Nat.lt_of_lt_of_le (owned_blk o2 a ha) g3.size
  have hsy3 := hsy.kept_none g13
  have bB : ∀ a, B = some a → a.block < w3.heap.size ∨ sy = [] := by
    intro a ha
    by_cases e : sy = []
    · exact .inr e
    · obtain ⟨b, e1, e2⟩ := hsy3.blk (by simpa using e)
      rw [ha] at e1; cases e1; exact .inl e2
  -- rows of the world at the writer's birth stay
  have keepL : ∀ w', Kp w3 w' (fun k => w3.heap.size ≤ k) → Row w' A2 (ints ls) := fun w' h => r3.kp h (fun a ha _ e => by have := b2 a ha; omega)
  have keepS : ∀ w', Kp w3 w' (fun k => w3.heap.size ≤ k) → Row w' B (u8s sy) := fun w' h => by
    by_cases e : sy = []
    · rw [e]; intro j u hj; simp at hj
    · exact hsy3.kp h (fun a ha _ e' => by rcases bB a ha with h | h; omega; exact e h)
  have keepT : ∀ w', Kp w3 w' (fun k => w3.heap.size ≤ k) → TabAt w' w3.heap.size gt ls := fun w' h => hT.kp h (fun k hk e => by omega)
  have K4 : Kp w3 w4 (fun k => w3.heap.size ≤ k) := Kp.of_none g4
  simp only [InK]
  refine ⟨fun q Aw nw cw size i w5 => ∃ (j : Nat) (ss : List Nat), i = (j : Int) ∧ j ≤ sy.length ∧ q = sy.length - j ∧ ss.length ≤ j ∧ (∀ s ∈ ss, s < ls.length ∧ 0 < ln ls s) ∧ size = sizeL ls ss ∧ Owned w5 w4.heap.size 3 Aw nw cw (ints (nI ss)) ∧ Wr w5 w3.heap.size w3.heap.size (encL ls ss) ∧ Kp w3 w5 (fun k => w3.heap.size ≤ k) ∧ w4.heap.size ≤ w5.heap.size,
    ⟨_, 0, [], rfl, by omega, rfl, by simp, by simp, rfl, World.ownsRow_nil _ _ _ _, by simpa [encL] using hW, K4, Nat.le_refl _⟩, ?_⟩
  rintro q Aw nw cw size i w5 ⟨j, ss, rfl, hj, rfl, hsl, hss, rfl, ow, hW5, K5, hsz⟩
  have tj : (j : Int).toNat = j := by omega
  rw [tj]
  have hsb2 := sizeL_bound hR ss
  have hel := encL_length hR ss
  have hnw : nw = ss.length := by rw [ow.cases.1]; simp [ints, nI]
  refine ⟨fun hlt => ?_, fun hge => ?_⟩
  · have lj : j < sy.length := by omega
    obtain ⟨a, ha1, ha2⟩ := (keepS w5 K5) j (.int .u8 sy[j]) (by simp [lj])
    have hsj := hsb _ (List.getElem_mem lj)
    obtain ⟨s, hs⟩ : ∃ s : Nat, sy[j] % (n2 : Int) = (s : Int) := ⟨(sy[j] % (n2 : Int)).toNat, by have := Int.emod_nonneg sy[j] (show (n2 : Int) ≠ 0 by omega); omega⟩
    have hsl2 : s < ls.length := by have := Int.emod_lt_of_pos sy[j] (show (0 : Int) < (n2 : Int) by omega); omega
    have ts : (s : Int).toNat = s := by omega
    refine ⟨a, ha1, by omega, by omega, _, ha2, by omega, by omega, ?_⟩
    rw [hs, ts]
    have rdL : ∀ w', Kp w3 w' (fun k => w3.heap.size ≤ k) → ∃ a, A2 = some a ∧ w'.cell? (a.add s) = some (.int .i64 (ln ls s)) := by
      intro w' h
      obtain ⟨a, e1, e2⟩ := (keepL w' h) s (.int .i64 ls[s]) (by simp [ints, hsl2])
      rw [show ls[s] = ln ls s from (ln_mem hsl2).symm] at e2
      exact ⟨a, e1, e2⟩
    obtain ⟨b, hb1, _⟩ := rdL w5 K5
    have rd : ∀ w', Kp w3 w' (fun k => w3.heap.size ≤ k) → w'.cell? (b.add s) = some (.int .i64 (ln ls s)) := by
      intro w' h
      obtain ⟨a, e1, e2⟩ := rdL w' h
      rw [hb1] at e1; cases e1; exact e2
    have hrs := hrng s
    refine ⟨fun w' => Kp w3 w' (fun k => w3.heap.size ≤ k), K5.drew, ?_⟩
    have hWd : Wr w5.drew w3.heap.size w3.heap.size (encL ls ss) := hW5.kept (grown_drew (grown_refl w5 none))
    refine (putSym_calls (keepT _ K5.drew) hR hWd (by omega) K5.size).mono fun ev w6 hh => ?_
    obtain ⟨rfl, hW6, k6⟩ := hh
    have K6 : Kp w3 w6 (fun k => w3.heap.size ≤ k) := K5.drew.then k6 (fun k _ e => e.1)
    have hval : validS ls (s : Int) = decide (ln ls s > 0) := by
      by_cases h : ln ls s > 0
      · have : validS ls (s : Int) = true := by simp [validS, hsl2]; omega
        rw [this]; simp [h]
      · have : validS ls (s : Int) = false := by simp [validS]; omega
        rw [this]; simp; omega
    refine ⟨_, rfl, K6, b, hb1, by omega, by omega, ln ls s, rd, _, fun w => run_neq _ _ _ _ w, fun h => ?_, fun _ => ⟨b, hb1, by omega, by omega, _, rd w6 K6, fun hp => ?_, fun hp => ?_⟩⟩
    · rw [hval] at h; simp at h
    · -- the row of what is wanted is older than the writer's bytes, or another block
      have hvt : validS ls (s : Int) = true := by rw [hval]; simpa using hp
      have hbf : bitsFor ls (s : Int) = bitsOf (cd ls s) (ln ls s).toNat := by simp [bitsFor, hvt]
      rw [hbf] at hW6
      have ow6 : Owned w6 w4.heap.size 3 Aw nw cw (ints (nI ss)) := by
        refine OwnedK.kp (size := 1) (ow.kept (grown_drew (grown_refl w5 none))) k6 fun k hk e => ?_
        obtain ⟨t, ht, hty⟩ := e.2
        obtain ⟨cur, hcur⟩ := OwnedK.block_type (size := 1) ow k hk
        have : t = 3 := hty.ne ⟨_, _, hcur⟩
        subst this
        simp at ht
      have gd := grown_drew (grown_refl w6 none)
      have s6 : w4.heap.size ≤ w6.drew.heap.size := Nat.le_trans hsz k6.size
      obtain ⟨A7, n7, c7, w7, e1, e2, e3⟩ := append_int (x := (s : Int)) (ow6.kept gd) (by omega) s6
      have hown : ∀ k, (Value.slice Aw nw cw).ownBlock = some k → w3.heap.size ≤ k := fun k hk => Nat.le_trans g4.size (ow6.block_ge k hk)
      have K7 : Kp w3 w7 (fun k => w3.heap.size ≤ k) := K6.drew.step e3 (fun k hk => .inr (hown k hk))
      have hW7 : Wr w7 w3.heap.size w3.heap.size (encL ls ss ++ bitsOf (cd ls s) (ln ls s).toNat) := by
        refine Wr.kp (hW6.kept gd) (Kp.of_grown e3) fun k hk e h => ?_
        obtain ⟨t, ht, hty⟩ := e.2
        obtain ⟨cur, hcur⟩ := OwnedK.block_type (size := 1) ow6 k h.symm
        have : t = 3 := hty.ne (w := w6.drew) ⟨_, _, hcur⟩
        subst this
        simp at ht
      refine ⟨fun w' => Kp w3 w' (fun k => w3.heap.size ≤ k), K6.drew, K6.drew.alloc _, A7, n7, c7, w7, e1, K7, b, hb1, by omega, by omega, ln ls s, rd, by omega, by omega, sy.length - (j + 1), by omega, j + 1, ss ++ [s], by omega, by omega, rfl, by simp; omega, ?_, ?_, ?_, ?_, K7, Nat.le_trans s6 ?_⟩
      · intro t ht
        rcases List.mem_append.1 ht with h | h
        · exact hss t h
        · have : t = s := by simpa using h
          rw [this]; exact ⟨hsl2, hp⟩
      · simp [sizeL]
      · simpa [nI] using e2
      · rw [encL_append]; simpa [encL] using hW7
      · exact e3.size
    · have hvt : validS ls (s : Int) = false := by rw [hval]; simpa using hp
      have hbf : bitsFor ls (s : Int) = [] := by simp [bitsFor, hvt]
      rw [hbf, List.append_nil] at hW6
      have ow6 : Owned w6 w4.heap.size 3 Aw nw cw (ints (nI ss)) := by
        refine OwnedK.kp (size := 1) (ow.kept (grown_drew (grown_refl w5 none))) k6 fun k hk e => ?_
        obtain ⟨t, ht, hty⟩ := e.2
        obtain ⟨cur, hcur⟩ := OwnedK.block_type (size := 1) ow k hk
        have : t = 3 := hty.ne ⟨_, _, hcur⟩
        subst this
        simp at ht
      exact ⟨by omega, sy.length - (j + 1), by omega, j + 1, ss, by omega, by omega, rfl, by omega, hss, rfl, ow6, hW6, K6, Nat.le_trans hsz k6.size⟩
  · refine (bytes_calls hW5 (by omega)).mono fun ev w6 hh => ?_
    obtain ⟨A6, n6, c6, rfl, o6, g6⟩ := hh
    refine ⟨_, _, _, rfl, ?_⟩
    have hn6 : n6 = (packB (encL ls ss)).length := by have := o6.cases.1; rw [List.length_map] at this; omega
    refine (newReader_calls o6.row hn6 (fun a ha => .inr (ownedK_blk o6 a ha).2)).mono fun ev w7 hh => ?_
    obtain ⟨rfl, hRd, g7⟩ := hh
    refine ⟨_, rfl, ?_⟩
    have g67 := grown_trans g6 g7
    have hW7 := hW5.kept g67
    have ow7 := ow.kept g67
    have K7 : Kp w3 w7 (fun k => w3.heap.size ≤ k) := K5.then (Kp.of_none (S := fun _ => False) g67) (fun k _ e => e.elim)
    obtain ⟨rest, hrest, hrl⟩ := pack_rest (encL ls ss)
    have hpl : (packB (encL ls ss)).length ≤ 2 ^ 40 := by rw [packB_length]; omega
    have hs56 : w5.heap.size ≤ w6.heap.size := g6.size
    have hs37 : w3.heap.size ≤ w6.heap.size := Nat.le_trans K5.size hs56
    refine ⟨fun q i w8 => ∃ k : Nat, i = (k : Int) ∧ k ≤ ss.length ∧ q = ss.length - k ∧ RdAt w8 w6.heap.size A6 n6 c6 (packB (encL ls ss)) (encL ls (ss.take k)).length ∧ Kp w7 w8 (fun x => x = w6.heap.size), ⟨_, 0, rfl, by omega, rfl, by simpa [encL] using hRd, Kp.refl _ _⟩, ?_⟩
    rintro q i w8 ⟨k, rfl, hk, rfl, hRd8, K8⟩
    have tk : (k : Int).toNat = k := by omega
    rw [tk]
    have K38 : Kp w3 w8 (fun k => w3.heap.size ≤ k) := K7.then K8 (fun x _ e => by have : x = w6.heap.size := e; show w3.heap.size ≤ x; omega)
    refine ⟨fun hlt => ?_, fun hge2 => ?_⟩
    · have lk : k < ss.length := by omega
      refine (takeSym_calls (keepT _ K38) hs37 hRd8 hpl (packB_bytes _) hR).mono fun ev w9 hh => ?_
      obtain ⟨rfl, hRd9, k9⟩ := hh
      have hsplit : ss = ss.take k ++ ss[k] :: ss.drop (k + 1) := by rw [List.getElem_cons_drop, List.take_append_drop]
      have hssk := hss _ (List.getElem_mem lk)
      have htk : takeC ls 15 0 0 ((unpackB (packB (encL ls ss))).drop (encL ls (ss.take k)).length) = some (ss[k], (ln ls ss[k]).toNat) := by
        have e : unpackB (packB (encL ls ss)) = encL ls (ss.take k) ++ (bitsOf (cd ls ss[k]) (ln ls ss[k]).toNat ++ (encL ls (ss.drop (k + 1)) ++ rest)) := by
          rw [hrest]
          conv => lhs; rw [hsplit]
          rw [encL_append, encL_cons]; simp
        rw [e, List.drop_left]
        exact takeC_put hR hssk _
      have hT9 : takeR ls (packB (encL ls ss)) (encL ls (ss.take k)).length = (.tuple #[.int .i64 (ss[k] : Int), .bool true], (encL ls (ss.take k)).length + (ln ls ss[k]).toNat) := by simp only [takeR, htk]
      rw [hT9] at hRd9 ⊢
      have K9 := K8.trans k9
      have ow9 : Row w9 Aw (ints (nI ss)) := ow7.row.kp K9 fun a ha hl e => by
        have hb1 := owned_blk (ow.kept g6) a ha
        omega
      obtain ⟨b, hb1, hb2⟩ := ow9 k (.int .i64 (ss[k] : Int)) (by simp [ints, nI, lk])
      refine ⟨_, _, rfl, fun h => (by cases h), fun _ => ⟨b, hb1, by omega, by omega, _, hb2, fun h => absurd rfl h, fun _ => ⟨by omega, ss.length - (k + 1), by omega, k + 1, by omega, by omega, rfl, ?_, K9⟩⟩⟩
      have e : (encL ls (ss.take (k + 1))).length = (encL ls (ss.take k)).length + (ln ls ss[k]).toNat := by
        rw [List.take_succ_eq_append_getElem lk, encL_append, List.length_append]
        simp [encL, bitsOf_length]
      rw [e]; exact hRd9
    · have hk' : k = ss.length := by omega
      subst hk'
      rw [List.take_length] at hRd8
      have hW8 : Wr w8 w3.heap.size w3.heap.size (encL ls ss) := hW7.kp K8 fun x hx e h => by
        have h2 : x = w6.heap.size := h
        obtain ⟨t, ht, hty⟩ := e.2
        have hg : IsTy w7 x 148 := by rw [h2]; exact ⟨_, _, hRd.blk⟩
        have := hty.ne hg
        subst this
        simp at ht
      refine (len_calls hW8).mono fun ev w9 hh => ?_
      obtain ⟨rfl, g9⟩ := hh
      refine ⟨_, rfl, fun _ => ?_, fun h => absurd hel h⟩
      refine (left_calls (hRd8.kept g9) hpl).mono fun ev w10 hh => ?_
      obtain ⟨rfl, g10⟩ := hh
      have gAll : w3.grownBy w10 none := ((K38.then (Kp.of_none (S := fun _ => False) (grown_trans g9 g10)) (fun k _ e => e.elim))).grown fun k hk e => by omega
      refine ⟨_, rfl, ?_, grown_trans g13 gAll⟩
      have hlen : 8 * (packB (encL ls ss)).length = (encL ls ss).length + rest.length := by
        have := congrArg List.length hrest
        rw [unpackB_length, List.length_append] at this
        exact this
      have : ((8 * (packB (encL ls ss)).length - (encL ls ss).length : Nat) : Int) < 8 := by omega
      simp; omega
end Go.Proofs.Ytmenmmgfdakeeaa
