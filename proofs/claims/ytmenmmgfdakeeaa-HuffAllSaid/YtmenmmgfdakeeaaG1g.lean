/- archipelagolaw6: known; lengths of numbers. -/
import Derived.Test.YtmenmmgfdakeeaaGHg
import Derived.Test.YtmenmmgfdakeeaaGFg
import Derived.Test.YtmenmmgfdakeeaaX6g
namespace Go.Proofs.Ytmenmmgfdakeeaa
open Go Go.V Go.RowKit
set_option linter.unusedVariables false
set_option linter.unusedSimpArgs false
set_option maxHeartbeats 4000000
set_option maxRecDepth 100000

theorem newReader_calls {w : World} {A : Option Addr} {n c : Nat} {l : List Int} (hr : Row w A (u8s l)) (hn : n = l.length) (hA : ∀ a, A = some a → l = [] ∨ a.block < w.heap.size) :
    Calls P 44 #[.slice A n c] w fun ev w' => ev = .returned (.pointer (some ⟨w.heap.size, 0, none⟩)) ∧ RdAt w' w.heap.size A n c l 0 ∧ w.grownBy w' none := by
  apply vc44; unfold VC44
  have g := World.grownBy_alloc w (.cells #[.slice A n c, .int .i64 0] 148) none
  exact ⟨rfl, ⟨by simpa using heap_alloc_new w (.cells #[.slice A n c, .int .i64 0] 148), hr.kept_none g, hn, by omega, fun a ha => (hA a ha).imp id (fun h => by omega)⟩, g⟩

theorem ownedK_blk {w : World} {base size : Nat} {e : TypeId} {A : Option Addr} {n c : Nat} {xs : List Value} (h : OwnedK w base e size A n c xs) : ∀ a, A = some a → base ≤ a.block ∧ a.block < w.heap.size := by
  intro a ha
  rcases h.cases.2 with ⟨e, _⟩ | ⟨g, cur, e, h1, _, _, h, _⟩
  · rw [e] at ha; cases ha
  · rw [e] at ha; cases ha; exact ⟨h1, (Array.getElem?_eq_some_iff.1 h).1⟩

theorem known6_calls {w : World} : Calls P 30 #[] w fun ev w' => ev = .returned (.bool true) ∧ w.grownBy w' none := by
  apply vc30; unfold VC30
  have r1 : rightL [1, 2, 2] = true := by decide +kernel
  have r2 : rightL [1] = true := by decide +kernel
  have r3 : rightL [1, 1, 1] = false := by decide +kernel
  have r4 : rightL [0, 1] = true := by decide +kernel
  have r5 : rightL [2] = false := by decide +kernel
  have v1 : validS [1, 2, 2] 2 = true := by decide +kernel
  have v2 : validS [1, 2, 2] 3 = false := by decide +kernel
  have b1 : bitsFor [1, 2, 2] 2 = [true, true] := by decide +kernel
  have b2 : bitsFor [1, 2, 2] 3 = [] := by decide +kernel
  have t1 : takeC [1, 2, 2] 15 0 0 ((unpackB (packB [true, true])).drop 0) = some (2, 2) := by decide +kernel
  have c1 : codesL [1, 2, 2] = [0, 2, 3] := by decide +kernel
  have gA := fun (w : World) o => World.grownBy_alloc w o none
  refine (new_calls (ls := [1, 2, 2]) (row_alloc w _ 3) rfl (by decide)).mono fun ev w1 hh => ?_
  obtain ⟨g1, ⟨h, _⟩ | ⟨_, g, rfl, hT⟩⟩ := hh
  · rw [r1] at h; cases h
  have g1 := grown_trans (gA w _) g1
  refine ⟨_, _, rfl, ?_⟩
  refine (new_calls (ls := [1]) (row_alloc w1 _ 3) rfl (by decide)).mono fun ev w2 hh => ?_
  obtain ⟨g2, ⟨h, _⟩ | ⟨_, g', rfl, _⟩⟩ := hh
  · rw [r2] at h; cases h
  have g2 := grown_trans (gA w1 _) g2
  refine ⟨_, _, rfl, ?_⟩
  refine (new_calls (ls := [1, 1, 1]) (row_alloc w2 _ 3) rfl (by decide)).mono fun ev w3 hh => ?_
  obtain ⟨g3, ⟨_, rfl⟩ | ⟨h, _⟩⟩ := hh
  rotate_left
  · rw [r3] at h; cases h
  have g3 := grown_trans (gA w2 _) g3
  refine ⟨_, _, rfl, ?_⟩
  have g13 := grown_trans g2 g3
  refine (newWriter_calls (base := w3.heap.size) (Nat.le_refl _)).mono fun ev w4 hh => ?_
  obtain ⟨rfl, hW, g4⟩ := hh
  have g14 := grown_trans g13 g4
  refine ⟨_, rfl, fun h => (by simp at h), fun _ => ⟨fun h => (by simp at h), fun _ => ?_⟩⟩
  have hT4 := hT.kept g14
  have htop : w1.heap.size ≤ w3.heap.size := g13.size
  refine (putSym_calls hT4 r1 hW (by simp) g4.size).mono fun ev w5 hh => ?_
  obtain ⟨rfl, hW5, k5⟩ := hh
  rw [v1]
  refine ⟨_, rfl, ?_⟩
  have hT5 := hT4.kp k5 (fun k hk e => by have := e.1; omega)
  have hs5 := k5.size
  refine (putSym_calls hT5 r1 hW5 (by rw [b1]; simp) (Nat.le_trans g4.size hs5)).mono fun ev w6 hh => ?_
  obtain ⟨rfl, hW6, k6⟩ := hh
  rw [v2]
  refine ⟨_, rfl, ?_⟩
  have hW6 : Wr w6 w3.heap.size w3.heap.size [true, true] := by simpa [b1, b2] using hW6
  have hT6 := hT5.kp k6 (fun k hk e => by have := e.1; omega)
  have k46 : w3.grownBy w6 none := by
    refine (Kp.then (Kp.then (Kp.of_none (S := fun k => w3.heap.size ≤ k) g4) k5 (fun k _ e => e.1)) k6 (fun k _ e => e.1)).grown fun k hk e => by omega
  refine (bytes_calls hW6 (by simp)).mono fun ev w7 hh => ?_
  obtain ⟨A7, n7, c7, rfl, o7, g7⟩ := hh
  refine ⟨_, _, _, rfl, ?_⟩
  have hn7 : n7 = (packB [true, true]).length := by have := o7.cases.1; rw [List.length_map] at this; simp at this ⊢; omega
  refine (newReader_calls o7.row hn7 (fun a ha => .inr (ownedK_blk o7 a ha).2)).mono fun ev w8 hh => ?_
  obtain ⟨rfl, hRd, g8⟩ := hh
  refine ⟨_, rfl, ?_⟩
  have g78 := grown_trans g7 g8
  have hT8 := hT6.kept g78
  have hs6 := k46.size
  have hs7 := g7.size
  refine (takeSym_calls hT8 (by omega) hRd (by rw [packB_length]; simp) (packB_bytes _) r1).mono fun ev w9 hh => ?_
  obtain ⟨rfl, _, k9⟩ := hh
  have hT9 : (takeR [1, 2, 2] (packB [true, true]) 0).1 = .tuple #[.int .i64 2, .bool true] := by simp only [takeR, t1]; rfl
  rw [hT9]
  have hW9 : Wr w9 w3.heap.size w3.heap.size [true, true] := (hW6.kept g78).kp k9 (fun k hk e h => by
    have h2 : k = w7.heap.size := h
    obtain ⟨t, ht, hty⟩ := e.2
    have hg : IsTy w8 k 148 := by rw [h2]; exact ⟨_, _, hRd.blk⟩
    have := hty.ne hg
    subst this
    simp at ht)
  have g39 : w3.grownBy w9 none := (Kp.then (Kp.of_none (S := fun k => w3.heap.size ≤ k) (grown_trans k46 g78)) k9 (fun k _ e => by have : k = w7.heap.size := e; omega)).grown fun k hk e => by omega
  have g09 := grown_trans (grown_trans g1 g13) g39
  refine ⟨_, _, rfl, fun _ => ⟨fun _ => ⟨fun _ => ⟨fun _ => ⟨fun _ => ?_, fun h => absurd rfl h⟩, fun h => (by cases h)⟩, fun h => absurd rfl h⟩, fun h => (by cases h)⟩, fun h => (by cases h)⟩
  refine (len_calls hW9).mono fun ev w10 hh => ?_
  obtain ⟨rfl, g10⟩ := hh
  refine ⟨_, rfl, fun _ => ⟨fun _ => ⟨fun _ => ?_, fun h => absurd rfl h⟩, fun h => (by cases h)⟩, fun h => absurd rfl h⟩
  refine (codes_calls (ls := [1, 2, 2]) (row_alloc w10 _ 3) rfl (by decide)).mono fun ev w11 hh => ?_
  obtain ⟨A11, n11, c11, rfl, o11, g11⟩ := hh
  refine ⟨_, _, _, rfl, ?_⟩
  rw [c1] at o11
  have hn11 : n11 = 3 := by have := o11.cases.1; simpa [ints] using this
  refine (ints_calls (xs := [0, 2, 3]) (ys := [0, 2, 3]) (o11.row.kept_none (gA w11 _)) (row_alloc w11 _ 3) hn11 rfl (by omega)).mono fun ev w12 hh => ?_
  obtain ⟨rfl, g12⟩ := hh
  refine ⟨_, rfl, fun _ => ?_, fun h => (by simp at h)⟩
  refine (right_calls (ls := [0, 1]) (row_alloc w12 _ 3) rfl (by decide)).mono fun ev w13 hh => ?_
  obtain ⟨rfl, g13'⟩ := hh
  rw [r4]
  refine ⟨_, rfl, fun _ => ?_, fun h => (by cases h)⟩
  refine (right_calls (ls := [2]) (row_alloc w13 _ 3) rfl (by decide)).mono fun ev w14 hh => ?_
  obtain ⟨rfl, g14'⟩ := hh
  rw [r5]
  refine ⟨_, rfl, rfl, ?_⟩
  exact grown_trans g09 (grown_trans g10 (grown_trans (grown_trans (gA w10 _) g11) (grown_trans (grown_trans (gA w11 _) g12) (grown_trans (grown_trans (gA w12 _) g13') (grown_trans (gA w13 _) g14')))))

/-- The counts out of numbers, and the lengths, some of them turned. -/
def cnt6 (x : Int) : Int := (x % 50) * (x % 3)
def pert (xs : List Int) (at_ by_ : Int) : List Int := if xs.length > 0 ∧ by_ % 4 = 0 then xs.set (at_ % xs.length).toNat (xs.getD (at_ % xs.length).toNat 0 + ((by_ % 8) / 4 * 2 - 1)) else xs
def lens6 (l : List Int) (at_ by_ : Int) : List Int := pert (lensL (l.map cnt6) 15) at_ by_

theorem cnt6_bound {x : Int} (h : 0 ≤ x ∧ x ≤ 65535) : 0 ≤ cnt6 x ∧ cnt6 x ≤ 1000 := by
  unfold cnt6
  have h1 : 0 ≤ x % 50 ∧ x % 50 ≤ 49 := by omega
  have h2 : 0 ≤ x % 3 ∧ x % 3 ≤ 2 := by omega
  have h3 : 0 ≤ (x % 50) * (x % 3) := Int.mul_nonneg h1.1 h2.1
  have h4 : (x % 50) * (x % 3) ≤ 49 * 2 := Int.mul_le_mul h1.2 h2.2 h2.1 (by omega)
  omega

theorem pert_length (xs : List Int) (at_ by_ : Int) : (pert xs at_ by_).length = xs.length := by unfold pert; split <;> simp

theorem lens6_length {l : List Int} (h : l.length ≤ 256) (at_ by_ : Int) : (lens6 l at_ by_).length = l.length := by
  unfold lens6
  rw [pert_length, lensL_length (by simpa using h)]
  · simp
  · have := coinsL_length (l.map cnt6)
    have hm : mostL 15 = 15 := by decide
    rw [hm]; simp at this; omega

theorem lengths6_calls {w : World} {A : Option Addr} {n c : Nat} {l : List Int} {at_ by_ : Int} (hrow : Row w A (u16s l)) (hn : n = l.length) (hb : ∀ x ∈ l, 0 ≤ x ∧ x ≤ 65535) (hat : 0 ≤ at_ ∧ at_ ≤ 255) (hby : 0 ≤ by_ ∧ by_ ≤ 255) (hbig : n ≤ 256) :
    Calls P 31 #[.slice A n c, .int .u8 at_, .int .u8 by_] w fun ev w' => ∃ (A' : Option Addr) (n' c' : Nat), ev = .returned (.slice A' n' c') ∧ Owned w' w.heap.size 3 A' n' c' (ints (lens6 l at_ by_)) ∧ w.grownBy w' none := by
  apply vc31; unfold VC31
  simp only [InK]
  refine ⟨fun m Ac nc cc i w1 => ∃ j : Nat, i = (j : Int) ∧ j ≤ l.length ∧ m = l.length - j ∧ Owned w1 w.heap.size 3 Ac nc cc (ints ((l.take j).map cnt6)) ∧ w.grownBy w1 none, ⟨_, 0, rfl, by omega, rfl, World.ownsRow_nil _ _ _ _, grown_refl _ _⟩, ?_⟩
  rintro m Ac nc cc i w1 ⟨j, rfl, hj, rfl, ho, hg⟩
  have tj : (j : Int).toNat = j := by omega
  rw [tj]
  have hnc : nc = j := by rw [ho.cases.1]; simp [ints]; omega
  refine ⟨fun hlt => ?_, fun hge => ?_⟩
  · have l1 : j < l.length := by omega
    obtain ⟨a, ha1, ha2⟩ := (hrow.kept_none (grown_drew hg)) j (.int .u16 l[j]) (by simp [l1])
    have hx := hb _ (List.getElem_mem l1)
    have hcb := cnt6_bound hx
    have gd := grown_drew (grown_refl w1 none)
    obtain ⟨A2, n2, c2, w2, e1, e2, e3⟩ := append_int (x := cnt6 l[j]) (ho.kept gd) (by omega) (show w.heap.size ≤ w1.drew.heap.size from hg.size)
    have hcu : l[j] % 50 * (l[j] % 3) = cnt6 l[j] := rfl
    refine ⟨a, ha1, by omega, by omega, _, ha2, by omega, by omega, a, ha1, by omega, by omega, _, ha2, by omega, by omega, ?_⟩
    rw [hcu]
    refine ⟨by omega, A2, n2, c2, w2, e1, by omega, l.length - (j + 1), by omega, j + 1, by omega, by omega, rfl, ?_, grown_own (grown_drew hg) e3 (ho.kept gd).block_ge⟩
    rw [List.take_succ_eq_append_getElem l1, List.map_append]
    exact e2
  · have hj' : j = l.length := by omega
    subst hj'
    rw [List.take_length] at ho
    refine (refLengths_calls ho.row (by rw [ho.cases.1]; simp [ints])).mono fun ev w2 hh => ?_
    obtain ⟨A2, n2, c2, rfl, o2, g2⟩ := hh
    refine ⟨_, _, _, rfl, ?_⟩
    have hg2 := grown_trans hg g2
    have hx256 : (l.map cnt6).length ≤ 256 := by simp; omega
    have hm15 : mostL 15 = 15 := by decide
    have hp : (coinsL (l.map cnt6)).length ≤ 2 ^ mostL 15 := by have := coinsL_length (l.map cnt6); rw [hm15]; simp at this; omega
    have hll := lensL_length hx256 hp
    have hn2 : n2 = l.length := by rw [o2.cases.1]; simp [ints, hll]
    have plain : ¬ ((lensL (l.map cnt6) 15).length > 0 ∧ by_ % 4 = 0) → ∃ (A' : Option Addr) (n' c' : Nat), Ending.returned (.slice A2 n2 c2) = .returned (.slice A' n' c') ∧ Owned w2 w.heap.size 3 A' n' c' (ints (lens6 l at_ by_)) ∧ w.grownBy w2 none := by
      intro h
      have : lens6 l at_ by_ = lensL (l.map cnt6) 15 := by unfold lens6 pert; rw [if_neg h]
      rw [this]
      exact ⟨_, _, _, rfl, o2.mono hg.size, hg2⟩
    refine ⟨fun hpos => ⟨by omega, fun h4 => ?_, fun h4 => plain (fun h => h4 h.2)⟩, fun hpos => plain (fun h => hpos (by rw [hll] at h; simp at h; omega))⟩
    have hpl : 0 < l.length := by omega
    obtain ⟨k, hk⟩ : ∃ k : Nat, at_ % (n2 : Int) = (k : Int) := ⟨(at_ % (n2 : Int)).toNat, by have := Int.emod_nonneg at_ (show (n2 : Int) ≠ 0 by omega); omega⟩
    have hkl : k < l.length := by have := Int.emod_lt_of_pos at_ (show (0 : Int) < (n2 : Int) by omega); omega
    have tk : (k : Int).toNat = k := by omega
    rw [hk, tk]
    obtain ⟨_, h | ⟨q, rfl, hqb, hqm, hqc, hown⟩⟩ := o2.cases
    · omega
    have hkx : k < (lensL (l.map cnt6) 15).length := by rw [hll]; simpa using hkl
    have hle := lens_le hx256 hp (by rw [hm15]; omega) (s := k) (by simpa using hkl)
    have hcell := hown.cell (j := k) (u := .int .i64 ((lensL (l.map cnt6) 15).getD k 0)) (by simp [ints, List.getD_eq_getElem?_getD, hkx])
    obtain ⟨d, hd⟩ : ∃ d, by_ % 8 / 4 * 2 - 1 = d := ⟨_, rfl⟩
    rw [hd]
    have hdb : -1 ≤ d ∧ d ≤ 1 := by omega
    refine ⟨by omega, by omega, _, rfl, by omega, by omega, _, hcell, by omega, by omega, by omega, by omega, by omega, by rw [hm15] at hle; omega, _, rfl, by omega, by omega, ⟨_, hcell⟩, hown.notFrozen (add_block _ _), ?_⟩
    have hset := hown.set (j := k) (by simpa [ints] using hkx) (.int .i64 ((lensL (l.map cnt6) 15).getD k 0 + d))
    have heq : lens6 l at_ by_ = (lensL (l.map cnt6) 15).set k ((lensL (l.map cnt6) 15).getD k 0 + d) := by
      unfold lens6 pert
      have e : ((lensL (l.map cnt6) 15).length : Int) = (n2 : Int) := by rw [hll, hn2]; simp
      rw [if_pos ⟨by rw [hll]; simpa using hpl, h4⟩, e, hk, tk, hd]
    have hset' : Own (w2.setCell ((⟨q, 0, none⟩ : Addr).add k) (.int .i64 ((lensL (l.map cnt6) 15).getD k 0 + d))) q 3 c2 (ints (lens6 l at_ by_)) := by
      rw [heq]; simpa [ints, List.map_set] using hset
    have h5 := hset'.ownsRow (Nat.le_trans hg.size hqb) hqm
    have hl5 : (ints (lens6 l at_ by_)).length = n2 := by simp [ints, lens6_length (show l.length ≤ 256 by omega), hn2]
    rw [hl5] at h5
    exact ⟨_, _, _, rfl, h5, grown_own hg2 (grown_set (grown_refl w2 (some q)) (add_block _ _) _) (by intro z hz; cases hz; exact Nat.le_trans hg.size hqb)⟩
end Go.Proofs.Ytmenmmgfdakeeaa
