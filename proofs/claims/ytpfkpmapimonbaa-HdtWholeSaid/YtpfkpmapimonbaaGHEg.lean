/- slices.SortFunc of rows of pairs, with the closure of hdt.Graph.Tree. -/
import Derived.Test.YtpfkpmapimonbaaGHDg
import Derived.Shelf.SlGeneric
import Derived.Shelf.SlSortCmp.NoneTotal
import Derived.Sort.OwnSortedInts
namespace Go.Proofs.Ytpfkpmapimonbaa
open Go Go.V Go.RowKit Go.Shelf Go.Sort
set_option linter.unusedVariables false
set_option linter.unusedSimpArgs false
set_option maxHeartbeats 8000000
set_option maxRecDepth 100000

def laysSF_ren : Go.Shelf.Ren := ⟨fun | 6 => 67 | 15 => 80 | 14 => 82 | 28 => 94 | 29 => 95 | 20 => 96 | 21 => 97 | 22 => 98 | 23 => 99 | 24 => 100 | 25 => 101 | 26 => 102 | 27 => 103 | 46 => 109 | 47 => 105 | 48 => 106 | 49 => 110 | 50 => 111 | 57 => 113 | n => n, fun | 22 => 32 | 24 => 35 | 25 => 92 | 3 => 3 | 39 => 96 | 0 => 0 | 53 => 118 | 55 => 22 | 4 => 4 | 46 => 112 | 45 => 111 | 50 => 66 | 5 => 5 | 9 => 9 | 66 => 127 | 70 => 131 | 76 => 135 | 77 => 100 | n => n, fun | n => n⟩
theorem laysSF : Go.Proofs.SlLaysF0.n6 Try.prog laysSF_ren := {
  mixed := by kernel_rfl
  f6 := ⟨Try.f67.name, by decide, Try.func67.trans (congrArg some (by kernel_rfl))⟩
  f14 := ⟨Try.f82.name, by decide, Try.func82.trans (congrArg some (by kernel_rfl))⟩
  f15 := Try.func80.trans (congrArg some (by kernel_rfl))
  f20 := ⟨Try.f96.name, by decide, Try.func96.trans (congrArg some (by kernel_rfl))⟩
  f21 := ⟨Try.f97.name, by decide, Try.func97.trans (congrArg some (by kernel_rfl))⟩
  f22 := ⟨Try.f98.name, by decide, Try.func98.trans (congrArg some (by kernel_rfl))⟩
  f23 := ⟨Try.f99.name, by decide, Try.func99.trans (congrArg some (by kernel_rfl))⟩
  f24 := ⟨Try.f100.name, by decide, Try.func100.trans (congrArg some (by kernel_rfl))⟩
  f25 := ⟨Try.f101.name, by decide, Try.func101.trans (congrArg some (by kernel_rfl))⟩
  f26 := ⟨Try.f102.name, by decide, Try.func102.trans (congrArg some (by kernel_rfl))⟩
  f27 := ⟨Try.f103.name, by decide, Try.func103.trans (congrArg some (by kernel_rfl))⟩
  f28 := Try.func94.trans (congrArg some (by kernel_rfl))
  f29 := Try.func95.trans (congrArg some (by kernel_rfl))
  f46 := ⟨Try.f109.name, by decide, Try.func109.trans (congrArg some (by kernel_rfl))⟩
  f47 := Try.func105.trans (congrArg some (by kernel_rfl))
  f48 := Try.func106.trans (congrArg some (by kernel_rfl))
  f49 := ⟨Try.f110.name, by decide, Try.func110.trans (congrArg some (by kernel_rfl))⟩
  f50 := ⟨Try.f111.name, by decide, Try.func111.trans (congrArg some (by kernel_rfl))⟩
  f57 := ⟨Try.f113.name, by decide, Try.func113.trans (congrArg some (by kernel_rfl))⟩
  t0 := Try.underlying0
  a0 := Try.isAgg0
  z0 := Try.sizeOf0
  v0 := Try.zeroValue0
  t3 := Try.underlying3
  a3 := Try.isAgg3
  z3 := Try.sizeOf3
  v3 := Try.zeroValue3
  t4 := Try.underlying4
  a4 := Try.isAgg4
  z4 := Try.sizeOf4
  v4 := Try.zeroValue4
  t5 := Try.underlying5
  a5 := Try.isAgg5
  z5 := Try.sizeOf5
  v5 := Try.zeroValue5
  t9 := Try.underlying9
  a9 := Try.isAgg9
  z9 := Try.sizeOf9
  v9 := Try.zeroValue9
  t22 := Try.underlying32
  a22 := Try.isAgg32
  z22 := Try.sizeOf32
  v22 := Try.zeroValue32
  t25 := Try.underlying92
  a25 := Try.isAgg92
  z25 := Try.sizeOf92
  v25 := Try.zeroValue92
  t39 := Try.underlying96
  a39 := Try.isAgg96
  z39 := Try.sizeOf96
  v39 := Try.zeroValue96
  t45 := Try.underlying111
  a45 := Try.isAgg111
  z45 := Try.sizeOf111
  v45 := Try.zeroValue111
  t46 := Try.underlying112
  a46 := Try.isAgg112
  z46 := Try.sizeOf112
  v46 := Try.zeroValue112
  t50 := Try.underlying66
  a50 := Try.isAgg66
  z50 := Try.sizeOf66
  v50 := Try.zeroValue66
  t53 := Try.underlying118
  a53 := Try.isAgg118
  z53 := Try.sizeOf118
  v53 := Try.zeroValue118
  t55 := Try.underlying22
  a55 := Try.isAgg22
  z55 := Try.sizeOf22
  v55 := Try.zeroValue22
  t66 := Try.underlying127
  a66 := Try.isAgg127
  z66 := Try.sizeOf127
  v66 := Try.zeroValue127
  t70 := Try.underlying131
  a70 := Try.isAgg131
  z70 := Try.sizeOf131
  v70 := Try.zeroValue131
  t76 := Try.underlying135
  a76 := Try.isAgg135
  z76 := Try.sizeOf135
  v76 := Try.zeroValue135
  t77 := Try.underlying100
  a77 := Try.isAgg100
  z77 := Try.sizeOf100
  v77 := Try.zeroValue100 }
theorem isAgg_pr (w : World) : (isAgg 35).run P w = .ok true w := by
  simp [isAgg, run_underlying Try.underlying35]
theorem sizeOf_pr (w : World) : (Go.sizeOf 35).run P w = .ok 2 w := by
  have h : ((P.info? 35).getD default).size = 2 := by kernel_rfl
  have h2 : (P.info? 35).isSome = true := by kernel_rfl
  cases hq : P.info? 35 with
  | none => rw [hq] at h2; cases h2
  | some i => rw [hq] at h; simp at h; simp [Go.sizeOf, typeInfo, hq, h]
def ltP (a b : Nat × Nat) : Bool := decide (a.1 < b.1 ∨ (a.1 = b.1 ∧ a.2 < b.2))
theorem ltOf_cmpP : ltOf cmpP = ltP := by
  funext a b
  unfold ltOf ltP
  exact decide_eq_decide.2 (cmpP_lt a b)
theorem ltP_swo : SWO ltP where
  irrefl x := by unfold ltP; simp
  trans x y z h1 h2 := by unfold ltP at *; simp at *; omega
  ntrans x y z h1 h2 := by unfold ltP at *; simp at *; omega
theorem ltP_tot (x y : Nat × Nat) (h1 : ltP x y = false) (h2 : ltP y x = false) : x = y := by
  obtain ⟨a, b⟩ := x
  obtain ⟨c, d⟩ := y
  unfold ltP at *; simp at *; omega
def sortP (E : Eds) : Eds := E.mergeSort fun x y => !ltP y x
theorem flat_prs (E : Eds) : flatK prC 2 E.toArray = (prs E).toArray := by
  refine ext_get! (by simp [prs_length]) fun t ht => ?_
  have ht' : t < E.length * 2 := by simpa using ht
  rw [get_flatK _ _ _ _ (by simpa using ht')]
  have hd : t / 2 < E.length := by omega
  have := prs_get E (t / 2) hd (t % 2) (by omega)
  rw [show t / 2 * 2 + t % 2 = t by omega] at this
  have h1 : (prs E).toArray[t]! = ((prs E)[t]?).getD default := by
    rw [Array.getElem!_eq_getD, Array.getD_eq_getD_getElem?]; simp
  rw [h1, this]
  have h2 : E.toArray[t / 2]! = E[t / 2] := by rw [getElem!_pos _ _ (by simpa using hd)]; simp
  rw [h2, List.getElem!_eq_getElem?_getD]
theorem holdsP {w : World} {g : Nat} {cur : Array Value} {e : TypeId} {E : Eds} (hb : w.heap[g]? = some (.cells cur e (0, 0))) (ht : cur.toList.take (E.length * 2) = prs E) : HoldsK prC 2 w g 0 E.toArray := by
  unfold HoldsK
  rw [flat_prs]
  intro j hj
  have hj' : j < (prs E).length := by simpa using hj
  have hl := prs_length E
  refine ⟨?_, by simp [World.frozen?, hb]⟩
  have h1 : (cur.toList.take (E.length * 2))[j]? = (prs E)[j]? := by rw [ht]
  rw [List.getElem?_take_of_lt (by omega)] at h1
  simp only [World.cell?, hb, Nat.zero_add]
  simp only [Option.isSome_none, Bool.false_eq_true, if_false]
  rw [← Array.getElem?_toList, h1, List.getElem?_eq_getElem hj']
  show some (prs E)[j] = some ((prs E).toArray[j]!)
  rw [getElem!_pos (prs E).toArray j (by simpa using hj')]
  simp
theorem heap_putP {w : World} {g n : Nat} {os : Array Obj} {cur : Array Value} {e : TypeId} {fr : Nat × Nat} (d : Array Value) (hb : w.heap[g]? = some (.cells cur e fr)) :
    (grow (putRow id (Sort.ahead w n) g 0 d) os).heap[g]? = some (.cells (putCells id 0 d cur) e fr) := by
  have hg : g < w.heap.size := (Array.getElem?_eq_some_iff.1 hb).1
  rw [heap_grow_old _ _ (by simpa using hg)]
  simp [putRow, mapBlock, Sort.ahead, Array.getElem?_modify, hb, onCells]
theorem grownBy_putP {w : World} {g n : Nat} {os : Array Obj} (d : Array Value) : w.grownBy (grow (putRow id (Sort.ahead w n) g 0 d) os) (some g) := by
  refine ⟨rfl, rfl, rfl, by simp, fun k hk hne => ?_⟩
  rw [heap_grow_old _ _ (by simpa using hk)]
  have : g ≠ k := fun e => hne (by rw [e])
  simp [putRow, mapBlock, Sort.ahead, Array.getElem?_modify, this]
theorem take_putP (cur : Array Value) (ts : List Value) (h : ts.length ≤ cur.size) : (putCells id 0 ts.toArray cur).toList.take ts.length = ts := by
  apply List.ext_getElem?
  intro j
  by_cases hj : j < ts.length
  · rw [List.getElem?_take_of_lt hj, Array.getElem?_toList]
    simp [putCells, hj, show j < cur.size by omega]
  · rw [List.getElem?_take_eq_none (by omega), List.getElem?_eq_none (by omega)]
theorem sortF_calls {w : World} {base n c : Nat} {A : Option Addr} {E : Eds} (ho : OwnedK w base 35 2 A n c (prs E)) (hl : n ≤ 2 ^ 40) :
    Calls P 67 #[.slice A n c, .func (.func 68) #[] #[]] w fun ev w' => ev = .returned (.tuple #[]) ∧ OwnedK w' base 35 2 A n c (prs (sortP E)) ∧ w.grownBy w' (Value.slice A n c).ownBlock := by
  have hlen : n = E.length := by have := ho.cases.1; rw [prs_length] at this; omega
  by_cases h0 : n = 0
  · subst h0
    have hE : E = [] := List.length_eq_zero_iff.1 hlen.symm
    subst hE
    have := AnyF.slices_SortFunc_none laysSF A c (.func (.func 68) #[] #[]) w
    refine this.mono fun ev w' hh => ?_
    obtain ⟨rfl, rfl⟩ := hh
    rw [show sortP [] = [] by simp [sortP]]
    exact ⟨rfl, ho, grown_refl _ _⟩
  obtain ⟨h1, h2 | ⟨b, cur, rfl, h3, h4, h5, h6, h7, h8⟩⟩ := ho.cases
  · obtain ⟨_, rfl, _⟩ := h2; omega
  have hH := holdsP (w := w) (E := E) h6 (by rw [← hlen]; exact h8)
  have eg : ∀ args w, (callFunc 68 args).run P w = .ok (.enter 68 args) w := enters_of Try.func68 (by kernel_rfl) rfl
  have hcmp : CmpLays P 68 #[] prC 2 cmpP b 0 E.toArray.size w := fun _ _ _ _ x y => tree1_calls x y _
  have hs : E.toArray.size < 4611686018427387904 := by simp; omega
  have key := AnyQ.slices_SortFunc_total laysSF 2 isAgg_pr sizeOf_pr prC (fun _ => rfl) (fun x v hv => by simp [prC] at hv; rcases hv with rfl | rfl <;> rfl) cmpP (by rw [ltOf_cmpP]; exact ltP_swo) 68 #[] b 0 c E.toArray w eg hcmp hH (Array.getElem?_eq_some_iff.1 h6).1 hs (by rw [ltOf_cmpP]; exact ltP_tot)
  have hz : E.toArray.size = n := by simp [hlen]
  rw [hz] at key
  refine key.mono fun ev w' hh => ?_
  obtain ⟨rfl, k, os, rfl⟩ := hh
  have he : (E.toArray.toList.mergeSort fun x y => !(ltOf cmpP) y x).toArray = (sortP E).toArray := by rw [ltOf_cmpP]; rfl
  rw [he]
  have hsl : (sortP E).length = E.length := List.length_mergeSort E
  unfold sortWorldK putRowK
  rw [flat_prs]
  have hp := prs_length (sortP E)
  refine ⟨rfl, OwnedK.of_block h3 (heap_putP _ h6) h5 h4 (by simp [putCells, h7]) (by omega) ?_, ?_⟩
  · rw [show n * 2 = (prs (sortP E)).length by omega]
    exact take_putP cur _ (by rw [h7]; omega)
  · exact grownBy_putP _
theorem sortP_perm (E : Eds) : (sortP E).Perm E := List.mergeSort_perm _ _
theorem sortP_sorted {E : Eds} (hn : E.Nodup) : (sortP E).Pairwise fun a b => ltP a b = true := by
  have h1 : (sortP E).Pairwise fun a b => (!ltP b a) = true := List.pairwise_mergeSort (fun a b c h1 h2 => by
    simp at *
    exact ltP_swo.ntrans _ _ _ h2 h1) (fun a b => by
    simp
    cases h : ltP b a with
    | false => simp
    | true =>
      right
      cases h' : ltP a b with
      | false => rfl
      | true => have := ltP_swo.trans _ _ _ h h'; rw [ltP_swo.irrefl] at this; cases this) E
  have h2 : (sortP E).Nodup := (sortP_perm E).nodup_iff.2 hn
  exact (h1.and h2).imp fun {a b} h => by
    obtain ⟨h1, h2⟩ := h
    cases h' : ltP a b with
    | true => rfl
    | false => exact absurd (ltP_tot a b h' (by simpa using h1)) h2
end Go.Proofs.Ytpfkpmapimonbaa
