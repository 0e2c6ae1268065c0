/- merge: packed, add, Lengths: what they compute. -/
import Derived.Test.YtmenmmgfdakeeaaD1
namespace Go.Proofs.Ytmenmmgfdakeeaa
open Go Go.V Go.RowKit
set_option linter.unusedVariables false
set_option linter.unusedSimpArgs false
set_option maxHeartbeats 2000000

theorem ptrs_get {L : List (Option Addr × Coin)} {i : Nat} (h : i < L.length) : (ptrs L)[i]? = some (.pointer L[i].1) := by simp [ptrs, h]

theorem packed_calls {w : World} {A B : Option Addr} {n c m d : Nat} {C L : List (Option Addr × Coin)} (hA : Row w A (ptrs C)) (hB : Row w B (ptrs L)) (hn : n = C.length) (hm : m = L.length)
    (hC : ∀ x ∈ C, Is w x) (hL : ∀ x ∈ L, Is w x) (hcA : n ≤ c) (hnone : A = none → c = 0) (hnb : n ≤ 2 ^ 30) (hmb : m ≤ 2 ^ 30) (hb : ∀ x ∈ L, 0 ≤ x.2.1 ∧ x.2.1 ≤ 2 ^ 60) :
    Calls P 83 #[.slice A n c, .slice B m d] w fun ev w' => ∃ (A' : Option Addr) (n' c' : Nat) (O : List (Option Addr × Coin)), ev = .returned (.slice A' n' c') ∧ Owned w' w.heap.size 127 A' n' c' (ptrs O) ∧ (∀ x ∈ O, Is w' x) ∧
      O.map Prod.snd = packedL (C.map Prod.snd) (L.map Prod.snd) ∧ w.grownBy w' none := by
  apply vc83; unfold VC83
  simp only [InK]
  refine ⟨fun ms A' n' c' k i w' => ∃ (kn j : Nat) (O : List (Option Addr × Coin)), k = (kn : Int) ∧ i = ((2 * j : Nat) : Int) ∧ kn ≤ C.length ∧ 2 * j ≤ L.length ∧ O.length ≤ kn + j ∧ ms = L.length - 2 * j ∧ Owned w' w.heap.size 127 A' n' c' (ptrs O) ∧ (∀ x ∈ O, Is w' x) ∧
      O.map Prod.snd ++ mergeC ((C.drop kn).map Prod.snd) (packs ((L.drop (2 * j)).map Prod.snd)) = packedL (C.map Prod.snd) (L.map Prod.snd) ∧ w.grownBy w' none,
    ⟨_, 0, 0, [], rfl, rfl, by omega, by omega, by simp, rfl, World.ownsRow_nil _ _ _ _, by simp, by simp [packedL], grown_refl _ _⟩, ?_⟩
  rintro ms A' n' c' k i w' ⟨kn, j, O, rfl, rfl, hk, hj, hOl, rfl, ho, hO, heq, hg⟩
  refine ⟨by omega, fun hlt => ?_, fun hge => ?_⟩
  · have l1 : 2 * j < L.length := by omega
    have l2 : 2 * j + 1 < L.length := by omega
    -- the two items
    obtain ⟨a, ea, ia⟩ := (hL _ (List.getElem_mem l1)).keep (keeps_none hg)
    obtain ⟨b, eb, ib⟩ := (hL _ (List.getElem_mem l2)).keep (keeps_none hg)
    have ba := hb _ (List.getElem_mem l1)
    have bb := hb _ (List.getElem_mem l2)
    have hdrop : L.drop (2 * j) = L[2 * j] :: L[2 * j + 1] :: L.drop (2 * (j + 1)) := by
      rw [List.drop_eq_getElem_cons l1, List.drop_eq_getElem_cons l2]; rfl
    obtain ⟨r, hr1, hr2⟩ := (hB.kept_none hg) _ _ (ptrs_get l1)
    obtain ⟨r', hr1', hr2'⟩ := (hB.kept_none hg) _ _ (ptrs_get l2)
    obtain rfl : r' = r := by rw [hr1] at hr1'; cases hr1'; rfl
    have t1 : ((2 * j : Nat) : Int).toNat = 2 * j := by omega
    have t2 : (((2 * j : Nat) : Int) + 1).toNat = 2 * j + 1 := by omega
    refine ⟨r', hr1, by omega, by omega, L[2 * j].1, by rw [t1]; exact hr2, a, ea, L[2 * j].2.1, ia.count, by omega, r', hr1, by omega, by omega, L[2 * j + 1].1, by rw [t2]; exact hr2', b, eb, L[2 * j + 1].2.1, ib.count, by omega,
      r', hr1, by omega, by omega, L[2 * j].1, by rw [t1]; exact hr2, by omega, r', hr1, by omega, by omega, L[2 * j + 1].1, by rw [t2]; exact hr2', ?_⟩
    rw [ea, eb]
    generalize hcc : L[2 * j].2 = ca at *
    generalize hcd : L[2 * j + 1].2 = cb at *
    have gd := grown_drew (grown_refl w' none)
    have sd : w'.drew.heap.size = w'.heap.size := rfl
    generalize w'.drew = wd at *
    have g1 := World.grownBy_alloc wd (.cells #[.int .i64 (ca.1 + cb.1), .int .i64 0, .pointer (some a), .pointer (some b)] 130) none
    have b1 : (wd.alloc (.cells #[.int .i64 (ca.1 + cb.1), .int .i64 0, .pointer (some a), .pointer (some b)] 130)).heap[wd.heap.size]? = some (.cells #[.int .i64 (ca.1 + cb.1), .int .i64 0, .pointer (some a), .pointer (some b)] 130) := heap_alloc_new wd _
    generalize wd.alloc (.cells #[.int .i64 (ca.1 + cb.1), .int .i64 0, .pointer (some a), .pointer (some b)] 130) = w1 at *
    have kd1 : KeepsItems w' w1 := (keeps_none gd).trans (keeps_none g1)
    have ip : ItemAt w1 ⟨wd.heap.size, 0, none⟩ (ca.1 + cb.1) (ca.2 ++ cb.2) := .pack b1 (ia.keep kd1) (ib.keep kd1)
    have hg1 : w.grownBy w1 none := grown_trans (grown_trans hg gd) g1
    -- coins ahead of the package
    refine ⟨fun ms A2 n2 c2 k2 w2 => ∃ (kn : Nat) (O : List (Option Addr × Coin)), k2 = (kn : Int) ∧ kn ≤ C.length ∧ O.length ≤ kn + j ∧ ms = C.length - kn ∧ Owned w2 w.heap.size 127 A2 n2 c2 (ptrs O) ∧ (∀ x ∈ O, Is w2 x) ∧
        O.map Prod.snd ++ mergeC ((C.drop kn).map Prod.snd) ((ca.1 + cb.1, ca.2 ++ cb.2) :: packs ((L.drop (2 * (j + 1))).map Prod.snd)) = packedL (C.map Prod.snd) (L.map Prod.snd) ∧ w.grownBy w2 none ∧ KeepsItems w1 w2,
      ⟨_, kn, O, rfl, hk, by omega, rfl, (ho.kept gd).kept g1, fun x hx => (hO x hx).keep kd1, ?_, hg1, KeepsItems.refl _⟩, ?_⟩
    · rw [← heq, hdrop]
      simp only [List.map_cons, packs, hcc, hcd]
    clear heq ho hO hOl hk
    rintro ms A2 n2 c2 k2 w2 ⟨kn, O, rfl, hk, hOl, rfl, ho, hO, heq, hg2, hk2⟩
    have ip2 := ip.keep hk2
    -- the package behind the coins
    have one : ∀ (u : Option Addr), ∃ (A4 : Option Addr) (n4 c4 : Nat), ∃ w4 : World,
        Sem.run P (Builtin.append_ #[125, 125] 125 #[.slice A2 n2 c2, .slice (some ⟨w2.drew.heap.size, 0, none⟩) 1 1]) (w2.drew.alloc (.cells #[.pointer u] 127)) = .ok (.slice A4 n4 c4) w4 ∧
        Owned w4 w.heap.size 127 A4 n4 c4 (ptrs O ++ [.pointer u]) ∧ w.grownBy w4 none ∧ KeepsItems w2 w4 := by
      intro u
      have g3 := grown_drew (grown_refl w2 none)
      have s3 : w2.drew.heap.size = w2.heap.size := rfl
      generalize w2.drew = w3 at *
      have g4 := World.grownBy_alloc w3 (.cells #[.pointer u] 127) none
      have b4 : (w3.alloc (.cells #[.pointer u] 127)).cell? ⟨w3.heap.size, 0, none⟩ = some (.pointer u) := by simp
      generalize w3.alloc (.cells #[.pointer u] 127) = w4 at *
      have ho4 := (ho.kept g3).kept g4
      obtain ⟨A5, n5, c5, w5, h3, h4, h5⟩ := ho4.append1 (ty := 125) elemItem (by omega) (cc := 1) b4 rfl (by rw [ho.cases.1]; simp; omega) (Nat.le_trans hg2.size (Nat.le_trans g3.size g4.size))
      exact ⟨A5, n5, c5, w5, h3, h4, grown_own (grown_trans (grown_trans hg2 g3) g4) h5 ho4.block_ge, ((keeps_none g3).trans (keeps_none g4)).trans (keeps_owned ho4 (by decide) h5)⟩
    have last : (∀ ps, mergeC ((C.drop kn).map Prod.snd) ((ca.1 + cb.1, ca.2 ++ cb.2) :: ps) = (ca.1 + cb.1, ca.2 ++ cb.2) :: mergeC ((C.drop kn).map Prod.snd) ps) → ∃ (A4 : Option Addr) (n4 c4 : Nat), ∃ w4 : World,
        Sem.run P (Builtin.append_ #[125, 125] 125 #[.slice A2 n2 c2, .slice (some ⟨w2.drew.heap.size, 0, none⟩) 1 1]) (w2.drew.alloc (.cells #[.pointer (some ⟨wd.heap.size, 0, none⟩)] 127)) = .ok (.slice A4 n4 c4) w4 ∧
        (-9223372036854775808 ≤ ((2 * j : Nat) : Int) + 2 ∧ ((2 * j : Nat) : Int) + 2 ≤ 9223372036854775807) ∧ ∃ ms, ms < L.length - 2 * j ∧ ∃ (kn' j' : Nat) (O : List (Option Addr × Coin)), (kn : Int) = (kn' : Int) ∧ ((2 * j : Nat) : Int) + 2 = ((2 * j' : Nat) : Int) ∧ kn' ≤ C.length ∧ 2 * j' ≤ L.length ∧ O.length ≤ kn' + j' ∧ ms = L.length - 2 * j' ∧ Owned w4 w.heap.size 127 A4 n4 c4 (ptrs O) ∧ (∀ x ∈ O, Is w4 x) ∧
      O.map Prod.snd ++ mergeC ((C.drop kn').map Prod.snd) (packs ((L.drop (2 * j')).map Prod.snd)) = packedL (C.map Prod.snd) (L.map Prod.snd) ∧ w.grownBy w4 none := by
      intro hmerge
      obtain ⟨A4, n4, c4, w4, h1, h2, h3, h4⟩ := one (some ⟨wd.heap.size, 0, none⟩)
      refine ⟨A4, n4, c4, w4, h1, by omega, L.length - 2 * (j + 1), by omega, kn, j + 1, O ++ [(some ⟨wd.heap.size, 0, none⟩, (ca.1 + cb.1, ca.2 ++ cb.2))], rfl, by omega, hk, by omega, by simp; omega, rfl, by simpa [ptrs] using h2, ?_, ?_, h3⟩
      · intro x hx
        rcases List.mem_append.1 hx with e | e
        · exact (hO x e).keep h4
        · have : x = (some ⟨wd.heap.size, 0, none⟩, (ca.1 + cb.1, ca.2 ++ cb.2)) := by simpa using e
          subst this
          exact ⟨_, rfl, ip2.keep h4⟩
      · rw [← heq, hmerge]
        simp
    refine ⟨fun hlt2 => ?_, fun hge2 => ?_⟩
    · have l3 : kn < C.length := by omega
      obtain ⟨e, ee, ie⟩ := (hC _ (List.getElem_mem l3)).keep (keeps_none hg2)
      obtain ⟨q, hq1, hq2⟩ := (hA.kept_none hg2) _ _ (ptrs_get l3)
      have hdc : (C.drop kn).map Prod.snd = C[kn].2 :: (C.drop (kn + 1)).map Prod.snd := by
        rw [List.drop_eq_getElem_cons l3]; rfl
      refine ⟨q, hq1, by omega, by omega, C[kn].1, hq2, e, ee, C[kn].2.1, ie.count, _, rfl, ca.1 + cb.1, ip2.count, fun hle => ?_, fun hgt => ?_⟩
      · refine ⟨q, hq1, by omega, by omega, C[kn].1, hq2, ?_⟩
        obtain ⟨A4, n4, c4, w4, h1, h2, h3, h4⟩ := one C[kn].1
        refine ⟨A4, n4, c4, w4, h1, by omega, C.length - (kn + 1), by omega, kn + 1, O ++ [C[kn]], by omega, by omega, by simp; omega, rfl, by simpa [ptrs] using h2, ?_, ?_, h3, hk2.trans h4⟩
        · intro x hx
          rcases List.mem_append.1 hx with e | e
          · exact (hO x e).keep h4
          · have : x = C[kn] := by simpa using e
            subst this
            exact ((hC _ (List.getElem_mem l3)).keep (keeps_none hg2)).keep h4
        · rw [← heq, hdc, mergeC_le hle]
          simp
      · refine last fun ps => ?_
        rw [hdc]
        exact mergeC_gt hgt
    · have : kn = C.length := by omega
      refine last fun ps => ?_
      rw [this, List.drop_length]
      exact mergeC_none
  · -- the rest of the coins
    have hend : packs ((L.drop (2 * j)).map Prod.snd) = [] := by
      have : (L.drop (2 * j)).length ≤ 1 := by simp; omega
      match h : L.drop (2 * j) with
      | [] => rfl
      | [x] => simp [packs]
      | x :: y :: r => rw [h] at this; simp at this
    rw [hend] at heq
    simp only [mergeC] at heq
    have fin : ∀ w5, w'.grownBy w5 (Value.slice A' n' c').ownBlock → KeepsItems w' w5 ∧ w.grownBy w5 none := fun w5 h5 => ⟨keeps_owned ho (by decide) h5, grown_own hg h5 ho.block_ge⟩
    have kt : (kn : Int).toNat = kn := by omega
    refine ⟨by omega, ?_⟩
    rw [kt]
    cases A with
    | none =>
      have hc0 := hnone rfl
      have hC0 : C = [] := List.eq_nil_of_length_eq_zero (by omega)
      subst hC0
      obtain ⟨i, e1, e2, _⟩ := elemItem.ex
      have hr := run_append_owned_none (P := P) w' w.heap.size 125 125 127 i 1 e1 e2 _ _ _ ho
      have hkn : kn = 0 := by simpa using hk
      subst hkn
      refine ⟨A', n', c', w', ?_, A', n', c', O, rfl, ho, hO, ?_, hg⟩
      · have : (.slice (cutA none c 0 1) (n - 0) (c - 0) : Value) = .slice none 0 0 := by
          have : n = 0 := by simpa using hn
          subst this; subst hc0; rfl
        rw [this]
        exact hr
      · rw [← heq]; simp
    | some a =>
      have hrow : ∃ a', cutA (some a) c kn 1 = some a' ∧ ∀ j u, (ptrs (C.drop kn))[j]? = some u → w'.cell? (a'.add j) = some u := by
        by_cases hck : c = kn
        · refine ⟨a, by simp [cutA, hck], fun j u hj => ?_⟩
          have : C.drop kn = [] := List.drop_eq_nil_of_le (by omega)
          rw [this] at hj; simp at hj
        · refine ⟨a.add kn, by simp [cutA, hck], fun j u hj => ?_⟩
          obtain ⟨a2, h1, h2⟩ := ((hA.kept_none hg).drop kn) j u (by simpa [ptrs] using hj)
          cases h1
          exact h2
      obtain ⟨a', ha1, ha2⟩ := hrow
      obtain ⟨A4, n4, c4, w4, h1, h2, h3⟩ := ho.appends (ty := 125) elemItem (by omega) (cc := c - kn) (m := n - kn) (by simp; omega) ha2 (fun u hu => by obtain ⟨x, _, rfl⟩ := List.mem_map.1 hu; rfl) (by rw [ho.cases.1]; simp; omega) hg.size
      obtain ⟨f1, f2⟩ := fin w4 h3
      refine ⟨A4, n4, c4, w4, by rw [ha1]; exact h1, A4, n4, c4, O ++ C.drop kn, rfl, by simpa [ptrs] using h2, ?_, ?_, f2⟩
      · intro x hx
        rcases List.mem_append.1 hx with e | e
        · exact (hO x e).keep f1
        · exact ((hC x (List.mem_of_mem_drop e)).keep (keeps_none hg)).keep f1
      · rw [← heq]; simp
end Go.Proofs.Ytmenmmgfdakeeaa
