/- slices.Sort of numbers; tour.Part: the walk. -/
import Derived.Test.YtpfkpmapimonbaaGTCg
import Derived.Shelf.Sort.Plain
import Derived.Sort.OwnSortedInts
namespace Go.Proofs.Ytpfkpmapimonbaa
open Go Go.V Go.RowKit Go.Shelf
set_option linter.unusedVariables false
set_option linter.unusedSimpArgs false
set_option maxHeartbeats 4000000
set_option maxRecDepth 100000

def lays189_ren : Go.Shelf.Ren := ⟨fun | 189 => 59 | 125 => 80 | 257 => 79 | 128 => 94 | 129 => 95 | 294 => 85 | 295 => 86 | 296 => 87 | 297 => 88 | 298 => 89 | 299 => 90 | 216 => 91 | 300 => 92 | 301 => 93 | 328 => 104 | 329 => 105 | 330 => 106 | 331 => 107 | 332 => 108 | 215 => 83 | 343 => 112 | n => n, fun | 28 => 37 | 3 => 3 | 46 => 96 | 0 => 0 | 51 => 118 | 53 => 22 | 4 => 4 | 183 => 112 | 182 => 111 | 131 => 66 | 5 => 5 | 9 => 9 | 218 => 127 | 222 => 131 | 228 => 135 | 229 => 100 | n => n, fun | n => n⟩
theorem lays189 : Go.Proofs.Lays.n189 Try.prog lays189_ren := {
  mixed := by kernel_rfl
  f125 := Try.func80.trans (congrArg some (by kernel_rfl))
  f128 := Try.func94.trans (congrArg some (by kernel_rfl))
  f129 := Try.func95.trans (congrArg some (by kernel_rfl))
  f189 := Try.func59.trans (congrArg some (by kernel_rfl))
  f215 := Try.func83.trans (congrArg some (by kernel_rfl))
  f216 := Try.func91.trans (congrArg some (by kernel_rfl))
  f257 := Try.func79.trans (congrArg some (by kernel_rfl))
  f294 := Try.func85.trans (congrArg some (by kernel_rfl))
  f295 := Try.func86.trans (congrArg some (by kernel_rfl))
  f296 := Try.func87.trans (congrArg some (by kernel_rfl))
  f297 := Try.func88.trans (congrArg some (by kernel_rfl))
  f298 := Try.func89.trans (congrArg some (by kernel_rfl))
  f299 := Try.func90.trans (congrArg some (by kernel_rfl))
  f300 := Try.func92.trans (congrArg some (by kernel_rfl))
  f301 := Try.func93.trans (congrArg some (by kernel_rfl))
  f328 := Try.func104.trans (congrArg some (by kernel_rfl))
  f329 := Try.func105.trans (congrArg some (by kernel_rfl))
  f330 := Try.func106.trans (congrArg some (by kernel_rfl))
  f331 := Try.func107.trans (congrArg some (by kernel_rfl))
  f332 := Try.func108.trans (congrArg some (by kernel_rfl))
  f343 := Try.func112.trans (congrArg some (by kernel_rfl))
  t0 := Try.underlying0
  a0 := Try.isAgg0
  z0 := Try.sizeOf0
  v0 := Try.zeroValue0
  t3 := Try.underlying3
  a3 := Try.isAgg3
  z3 := Try.sizeOf3
  v3 := Try.zeroValue3
  t4 := Try.underlying4
  a4 := Try.isAgg4
  z4 := Try.sizeOf4
  v4 := Try.zeroValue4
  t5 := Try.underlying5
  a5 := Try.isAgg5
  z5 := Try.sizeOf5
  v5 := Try.zeroValue5
  t9 := Try.underlying9
  a9 := Try.isAgg9
  z9 := Try.sizeOf9
  v9 := Try.zeroValue9
  t28 := Try.underlying37
  a28 := Try.isAgg37
  z28 := Try.sizeOf37
  v28 := Try.zeroValue37
  t46 := Try.underlying96
  a46 := Try.isAgg96
  z46 := Try.sizeOf96
  v46 := Try.zeroValue96
  t51 := Try.underlying118
  a51 := Try.isAgg118
  z51 := Try.sizeOf118
  v51 := Try.zeroValue118
  t53 := Try.underlying22
  a53 := Try.isAgg22
  z53 := Try.sizeOf22
  v53 := Try.zeroValue22
  t131 := Try.underlying66
  a131 := Try.isAgg66
  z131 := Try.sizeOf66
  v131 := Try.zeroValue66
  t182 := Try.underlying111
  a182 := Try.isAgg111
  z182 := Try.sizeOf111
  v182 := Try.zeroValue111
  t183 := Try.underlying112
  a183 := Try.isAgg112
  z183 := Try.sizeOf112
  v183 := Try.zeroValue112
  t218 := Try.underlying127
  a218 := Try.isAgg127
  z218 := Try.sizeOf127
  v218 := Try.zeroValue127
  t222 := Try.underlying131
  a222 := Try.isAgg131
  z222 := Try.sizeOf131
  v222 := Try.zeroValue131
  t228 := Try.underlying135
  a228 := Try.isAgg135
  z228 := Try.sizeOf135
  v228 := Try.zeroValue135
  t229 := Try.underlying100
  a229 := Try.isAgg100
  z229 := Try.sizeOf100
  v229 := Try.zeroValue100 }
theorem sort_calls {w : World} {base n c : Nat} {A : Option Addr} {zs : List Int} (ho : OwnedK w base 3 1 A n c (i64s zs)) (hn : n = zs.length) (h0 : 0 < n) (hl : n ≤ 2 ^ 30) :
    Calls P 59 #[.slice A n c] w fun ev w' => ev = .returned (.tuple #[]) ∧ OwnedK w' base 3 1 A n c (i64s (zs.mergeSort fun x y => decide (x ≤ y))) ∧ w.grownBy w' (Value.slice A n c).ownBlock := by
  obtain ⟨h1, h2 | ⟨b, cur, rfl, h3, h4, h5, h6, h7, h8⟩⟩ := ho.cases
  · obtain ⟨_, rfl, _⟩ := h2; omega
  have hH := holds_of_blockI (w := w) (ss := zs) h6 (by rw [← hn]; simpa using h8)
  have := Go.Proofs.Any.slices_Sort_int lays189 b 0 c zs w hH (Array.getElem?_eq_some_iff.1 h6).1 (by omega)
  rw [hn]
  refine this.mono fun ev w' hh => ?_
  obtain ⟨rfl, k, os, rfl⟩ := hh
  refine ⟨rfl, ?_, by simpa [Value.ownBlock] using grownBy_sortedI (w := w) (g := b) (n := k) (os := os) (zs.mergeSort fun x y => decide (x ≤ y)).toArray⟩
  exact ownsRow_sortedI (w := w) (ss := zs) (ts := zs.mergeSort fun x y => decide (x ≤ y)) (List.length_mergeSort zs) h3 h6 (by omega) h4 h7
def partN (N : Nat) (σ : Nat → List Nat) (u : Int) : List Nat := if 0 ≤ u ∧ u < N then verts N σ u.toNat else []
section
variable {w w' : World} {base f g N : Nat} {S : Nat → Prop} {L : List Nd} {M : List (Arc × Nat)} {free : List Nat} {σ : Nat → List Nat} {lab : Nat → It} {E : List (Nat × Nat)}
theorem fpart_calls (h : FO w base f g N S L M free) (hT : TG N L σ M free lab E) (hL : L.length ≤ 2 ^ 20) (u : Int) :
    Calls P 24 #[.pointer (some ⟨f, 0, none⟩), .int .i64 u] w fun ev w' => ∃ (A : Option Addr) (m k : Nat), ev = .returned (.slice A m k) ∧ OwnedK w' w.heap.size 3 1 A m k (i64s (intsN (partN N σ u))) ∧ w.grownBy w' none := by
  apply vc24; unfold VC24; try (conv => zeta)
  have hle := hT.le
  have g1 := World.grownBy_alloc w (.cells #[.pointer (some ⟨f, 0, none⟩)] 25) none
  have b1 : (w.alloc (.cells #[.pointer (some ⟨f, 0, none⟩)] 25)).heap[w.heap.size]? = some (.cells #[.pointer (some ⟨f, 0, none⟩)] 25 (0, 0)) := heap_alloc_new w _
  obtain ⟨w1, hw_w1⟩ : ∃ w1, w1 = w.alloc (.cells #[.pointer (some ⟨f, 0, none⟩)] 25) := ⟨_, rfl⟩
  rw [← hw_w1] at g1 b1 ⊢
  have h1 := h.kept g1
  refine ⟨_, blk_cell b1 0, (fhas_calls h1 u).mono fun ev w2 hh => ?_⟩
  obtain ⟨rfl, rfl⟩ := hh
  refine ⟨_, rfl, fun hno => ⟨none, 0, 0, rfl, ?_, g1⟩, fun hyes => ?_⟩
  · have : partN N σ u = [] := if_neg (of_decide_eq_false hno)
    rw [this]; exact OwnedK.nil _ _ _ _
  have hu : 0 ≤ u ∧ u < (N : Int) := by simpa using hyes
  have hp : partN N σ u = verts N σ u.toNat := if_pos hu
  obtain ⟨mb, A, n, c, B, m, k, seed, hM, hS1, hS, c0, c1, c2, c3⟩ := h1.open
  have hlist := list_calls hM.ar hT.ars hL (x := u.toNat) (by omega)
  rw [show ((u.toNat : Nat) : Int) = u by omega] at hlist
  refine ⟨_, blk_cell b1 0, _, rfl, _, c0, hlist.mono fun ev w3 hh => ?_⟩
  obtain ⟨A3, m3, k3, rfl, o3, g3⟩ := hh
  have hsl := hT.ars.short u.toNat
  have hm3 : m3 = (σ u.toNat).length := by have := o3.cases.1; simp at this; omega
  have env3 : Env w3 w.heap.size f N := ⟨⟨25, by decide, by rw [g3.block _ (Array.getElem?_eq_some_iff.1 b1).1 (by simp)]; exact b1⟩, _, _, _, 60, by decide, by rw [g3.block _ (Array.getElem?_eq_some_iff.1 hM.blk).1 (by simp)]; exact hM.blk⟩
  refine ⟨_, _, _, rfl, (deleteFunc_calls env3 o3 (by omega)).mono fun ev w4 hh => ?_⟩
  obtain ⟨k4, rfl, o4, K4⟩ := hh
  have hk4 : k4 = ((intsN (σ u.toNat)).filter fun x => !decide (x ≥ (N : Int))).length := by have := o4.cases.1; simpa using this.symm
  have uin : u.toNat ∈ σ u.toNat := hT.ars.self (by omega)
  have hk0 : 0 < k4 := by
    rw [hk4]
    refine List.length_pos_of_mem (a := u) (List.mem_filter.2 ⟨List.mem_map.2 ⟨u.toNat, uin, by omega⟩, by simp; omega⟩)
  have hfl : ((intsN (σ u.toNat)).filter fun x => !decide (x ≥ (N : Int))).length ≤ (σ u.toNat).length := by
    have := List.length_filter_le (fun x => !decide (x ≥ (N : Int))) (intsN (σ u.toNat)); simpa using this
  refine ⟨_, _, _, rfl, (sort_calls o4 hk4 hk0 (by omega)).mono fun ev w5 hh => ?_⟩
  obtain ⟨rfl, o5, g5⟩ := hh
  rw [sort_part (hT.ars.nodup _), ← hp] at o5
  have g13 := grown_trans g1 g3
  refine ⟨rfl, A3, k4, k3, rfl, o5.mono g1.size, ?_⟩
  have K : Kp w w5 (fun q => w.heap.size ≤ q) := ((Kp.of_none g13).then K4 (fun q hq e => by have := o3.block_ge q e.symm; have := g1.size; omega)).step g5 (fun q hq => by
    left
    have := o4.block_ge q hq
    have := g1.size; omega)
  exact K.grown (fun q hq e => by omega)
end
end Go.Proofs.Ytpfkpmapimonbaa
