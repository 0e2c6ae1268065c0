/- Own texts, packed: D1, D2, D3, D4, D5, E0, E1, E2, E3, E4. -/
import Derived.Test.YtmenmmgfdakeeaaXMg
import Derived.Test.YtmenmmgfdakeeaaGDg
import Derived.Test.YtmenmmgfdakeeaaGCg
import Derived.Test.YtmenmmgfdakeeaaGBg
import Derived.Test.YtmenmmgfdakeeaaXKg
import Derived.KernelRfl
import Derived.Test.YtmenmmgfdakeeaaXRg

/-! merge: items in memory; many, the comparison, the list of coins. -/
namespace Go.Proofs.Ytmenmmgfdakeeaa
open Go Go.V Go.RowKit
set_option linter.unusedVariables false
set_option linter.unusedSimpArgs false
set_option maxHeartbeats 2000000

theorem elemItem : Elem P 125 127 (.pointer none) 8 := ⟨(P.info? 127).getD default, by kernel_rfl, by kernel_rfl, by kernel_rfl, by kernel_rfl, by kernel_rfl, by kernel_rfl⟩
theorem elemInt : Elem P 22 3 (.int .i64 0) 8 := ⟨(P.info? 3).getD default, by kernel_rfl, by kernel_rfl, by kernel_rfl, by kernel_rfl, by kernel_rfl, by kernel_rfl⟩

/-- An item stands in memory: a coin, or a package of two items. -/
inductive ItemAt (w : World) : Addr → Int → List Nat → Prop
  | coin {k : Nat} {c : Int} {s : Nat} {y : Value} : w.heap[k]? = some (.cells #[.int .i64 c, .int .i64 (s : Int), .pointer none, y] 130 (0, 0)) → ItemAt w ⟨k, 0, none⟩ c [s]
  | pack {k : Nat} {c1 c2 : Int} {s1 s2 : List Nat} {z : Value} {p q : Addr} : w.heap[k]? = some (.cells #[.int .i64 (c1 + c2), z, .pointer (some p), .pointer (some q)] 130 (0, 0)) →
      ItemAt w p c1 s1 → ItemAt w q c2 s2 → ItemAt w ⟨k, 0, none⟩ (c1 + c2) (s1 ++ s2)

def Is (w : World) (x : Option Addr × Coin) : Prop := ∃ a, x.1 = some a ∧ ItemAt w a x.2.1 x.2.2

/-- What turns no block of items. -/
def KeepsItems (w w' : World) : Prop := ∀ (k : Nat) (cur : Array Value), w.heap[k]? = some (Obj.cells cur 130 (0, 0)) → w'.heap[k]? = some (Obj.cells cur 130 (0, 0))

theorem KeepsItems.refl (w : World) : KeepsItems w w := fun _ _ h => h
theorem KeepsItems.trans {a b c : World} (h : KeepsItems a b) (h' : KeepsItems b c) : KeepsItems a c := fun k cur hk => h' k cur (h k cur hk)
theorem keeps_grown {w w' : World} {r : Option Nat} (hg : w.grownBy w' r) (hr : ∀ g, r = some g → ∃ (cur : Array Value) (e : TypeId) (fr : Nat × Nat), w.heap[g]? = some (Obj.cells cur e fr) ∧ e ≠ 130) : KeepsItems w w' := by
  intro k cur hk
  rw [hg.block k (Array.getElem?_eq_some_iff.1 hk).1, hk]
  intro e
  obtain ⟨cur', e', fr, h1, h2⟩ := hr k e.symm
  rw [hk] at h1
  cases h1
  exact h2 rfl
theorem keeps_none {w w' : World} (hg : w.grownBy w' none) : KeepsItems w w' := keeps_grown hg (by simp)
theorem keeps_own {w w' : World} {g cap : Nat} {e : TypeId} {xs : List Value} (ho : Own w g e cap xs) (he : e ≠ 130) (hg : w.grownBy w' (some g)) : KeepsItems w w' :=
  keeps_grown hg fun g' e' => by
    cases e'
    obtain ⟨cur, h1, _⟩ := ho
    exact ⟨cur, e, _, h1, he⟩
theorem keeps_owned {w w' : World} {base n c : Nat} {e : TypeId} {A : Option Addr} {xs : List Value} (ho : Owned w base e A n c xs) (he : e ≠ 130) (hg : w.grownBy w' (Value.slice A n c).ownBlock) : KeepsItems w w' := by
  obtain ⟨_, h | ⟨g, rfl, _, _, _, h⟩⟩ := ho.cases
  · obtain ⟨rfl, _⟩ := h
    exact keeps_none hg
  · exact keeps_own h he hg

theorem ItemAt.keep {w w' : World} (hk : KeepsItems w w') {a : Addr} {c : Int} {s : List Nat} (h : ItemAt w a c s) : ItemAt w' a c s := by
  induction h with
  | coin h => exact .coin (hk _ _ h)
  | pack h _ _ ih1 ih2 => exact .pack (hk _ _ h) ih1 ih2
theorem Is.keep {w w' : World} (hk : KeepsItems w w') {x : Option Addr × Coin} (h : Is w x) : Is w' x := by
  obtain ⟨a, h1, h2⟩ := h
  exact ⟨a, h1, h2.keep hk⟩

theorem ItemAt.block {w : World} {a : Addr} {c : Int} {s : List Nat} (h : ItemAt w a c s) : ∃ cur, w.heap[a.block]? = some (.cells cur 130 (0, 0)) := by
  cases h with
  | coin h => exact ⟨_, h⟩
  | pack h _ _ => exact ⟨_, h⟩

theorem ItemAt.count {w : World} {a : Addr} {c : Int} {s : List Nat} (h : ItemAt w a c s) : w.cell? a = some (.int .i64 c) := by
  cases h with
  | coin h => simp [World.cell?, h]
  | pack h _ _ => simp [World.cell?, h]

theorem ItemAt.lt {w : World} {a : Addr} {c : Int} {s : List Nat} (h : ItemAt w a c s) : a.block < w.heap.size := by
  obtain ⟨cur, h⟩ := h.block
  exact (Array.getElem?_eq_some_iff.1 h).1

theorem many_calls {n : Int} {w : World} {R : Ending → World → Prop} (h : R (.returned (.int .i64 (manyL n))) w) : Calls P 87 #[.int .i64 n] w R := vc87 n w R h

theorem isNaN_calls {x : Int} {w : World} {R : Ending → World → Prop} (h : R (.returned (.bool false)) w) : Calls P 134 #[.int .i64 x] w R := by
  apply vc134; unfold VC134; simpa using h

theorem compare_calls {x y : Int} {w : World} : Calls P 92 #[.int .i64 x, .int .i64 y] w fun ev w' => ∃ c : Int, ev = .returned (.int .i64 c) ∧ (c < 0 ↔ x < y) ∧ w' = w := by
  apply vc92; unfold VC92
  refine isNaN_calls ⟨false, rfl, isNaN_calls ⟨false, rfl, by simp, fun _ => ⟨by simp, fun _ => ⟨fun h => ⟨_, rfl, by omega, rfl⟩, fun h => ⟨fun h' => ⟨_, rfl, by omega, rfl⟩, fun h' => ⟨_, rfl, by omega, rfl⟩⟩⟩⟩⟩⟩

/-- The number by which items are put in order: the count. -/
def keyW (w : World) (p : Option Addr) : Int := match p with
  | some a => match w.cell? a with
    | some (.int _ c) => c
    | _ => 0
  | none => 0

theorem keyW_is {w : World} {x : Option Addr × Coin} (h : Is w x) : keyW w x.1 = x.2.1 := by
  obtain ⟨a, h1, h2⟩ := h
  simp [keyW, h1, h2.count]

theorem cmpItems {w : World} {g cap : Nat} {e : TypeId} {xs : List Value} {L : List (Option Addr × Coin)} (ho : Own w g e cap xs) (he : e ≠ 130) (hL : ∀ x ∈ L, Is w x) : CmpOkT w g (keyW w) (L.map Prod.fst) := by
  intro w' hg x hx y hy
  obtain ⟨x, hx', rfl⟩ := List.mem_map.1 hx
  obtain ⟨y, hy', rfl⟩ := List.mem_map.1 hy
  have hx := hx'
  have hy := hy'
  have kx := hL x hx
  have ky := hL y hy
  have hk := keeps_own ho he hg
  show Calls P 131 #[.pointer x.1, .pointer y.1] w' _
  apply vc131; unfold VC131
  obtain ⟨a, ea, ia⟩ := kx.keep hk
  obtain ⟨b, eb, ib⟩ := ky.keep hk
  refine ⟨a, ea, x.2.1, ia.count, b, eb, y.2.1, ib.count, ?_⟩
  refine compare_calls.mono fun ev w2 hh => ?_
  obtain ⟨c, h1, h2, rfl⟩ := hh
  exact ⟨c, h1, c, rfl, by rw [h2, keyW_is kx, keyW_is ky], grown_drew (grown_refl _ _)⟩

theorem ins_map {α β : Type} (f : α → β) (key : β → Int) (key' : α → Int) (x : α) : ∀ (l : List α), (∀ y ∈ x :: l, key (f y) = key' y) → ins key (f x) (l.map f) = (ins key' x l).map f
  | [], _ => rfl
  | y :: ys, h => by
    have hx := h x (by simp)
    have hy := h y (by simp)
    have ih := ins_map f key key' x ys (fun z hz => h z (by rcases List.mem_cons.1 hz with e | e <;> simp [e]))
    simp only [List.map_cons, ins, hx, hy]
    split
    · rw [ih]; simp
    · simp

theorem inOrder_map {α β : Type} (f : α → β) (key : β → Int) (key' : α → Int) (xs : List α) (h : ∀ y ∈ xs, key (f y) = key' y) : inOrder key (xs.map f) = (inOrder key' xs).map f := by
  have : ∀ (xs l : List α), (∀ y ∈ xs, key (f y) = key' y) → (∀ y ∈ l, key (f y) = key' y) → SortedK key' l → (xs.map f).foldl (fun l x => ins key x l) (l.map f) = (xs.foldl (fun l x => ins key' x l) l).map f := by
    intro xs
    induction xs with
    | nil => intros; rfl
    | cons x xs ih =>
      intro l h1 h2 h3
      simp only [List.map_cons, List.foldl_cons]
      rw [ins_map f key key' x l (fun z hz => by rcases List.mem_cons.1 hz with e | e; exact h1 z (by simp [e]); exact h2 z e)]
      refine ih _ (fun y hy => h1 y (by simp [hy])) (fun y hy => ?_) (ins_sorted x h3)
      rcases List.mem_append.1 ((ins_same (key := key') x h3).mem hy) with e | e
      · exact h2 y e
      · have : y = x := by simpa using e
        rw [this]; exact h1 x (by simp)
  simpa [inOrder] using this xs [] h (by simp) (by simp [SortedK])

theorem sortedNilT {w : World} : Calls P 130 #[.slice none 0 0, .func (.func 131) #[] #[]] w fun ev w' => ev = .returned (.tuple #[]) ∧ w.grownBy w' none := by
  apply vc130; unfold VC130
  have h : Calls P 153 #[.slice none 0 0, .int .i64 0, .func (.func 131) #[] #[]] w fun ev w' => ev = .returned (.tuple #[]) ∧ w.grownBy w' none := by
    apply vc153; unfold VC153
    refine ⟨fun m a b w' => m = 0 ∧ a = 0 ∧ b = 20 ∧ w' = w, ⟨0, rfl, rfl, rfl, rfl⟩, ?_⟩
    rintro m a b w' ⟨rfl, rfl, rfl, rfl⟩
    refine ⟨fun h => by omega, fun h => ?_⟩
    have h2 : Calls P 182 #[.slice none 0 0, .int .i64 0, .int .i64 0, .func (.func 131) #[] #[]] w' fun ev w2 => ev = .returned (.tuple #[]) ∧ w' = w2 := by
      apply vc182; unfold VC182
      simp only [InK]
      refine ⟨by omega, fun m i w2 => i = 1 ∧ w2 = w', ⟨0, by omega, rfl⟩, ?_⟩
      rintro m i w2 ⟨rfl, rfl⟩
      exact ⟨fun h => by omega, fun h => ⟨trivial, rfl⟩⟩
    refine h2.mono fun ev w2 hh => ?_
    obtain ⟨h3, rfl⟩ := hh
    refine ⟨h3, fun m s w3 => s = 20 ∧ w3 = w', ⟨0, rfl, rfl⟩, ?_⟩
    rintro m s w3 ⟨rfl, rfl⟩
    exact ⟨fun h => by omega, fun h => ⟨rfl, grown_refl _ _⟩⟩
  refine h.mono fun ev w' hh => ?_
  exact ⟨hh.1, rfl, hh.2⟩

abbrev ptrs (L : List (Option Addr × Coin)) : List Value := (L.map Prod.fst).map Value.pointer

theorem coins_calls {w : World} {A : Option Addr} {n c : Nat} {xs : List Int} (hrow : Row w A (xs.map (Value.int .i64))) (hn : n = xs.length) (hbig : n ≤ 2 ^ 30) :
    Calls P 82 #[.slice A n c] w fun ev w' => ∃ (A' : Option Addr) (n' c' : Nat) (L : List (Option Addr × Coin)), ev = .returned (.slice A' n' c') ∧ Owned w' w.heap.size 127 A' n' c' (ptrs L) ∧ (∀ x ∈ L, Is w' x) ∧ L.map Prod.snd = coinsL xs ∧ w.grownBy w' none := by
  apply vc82; unfold VC82
  simp only [InK]
  refine ⟨fun m A' n' c' i w' => ∃ (k : Nat) (L : List (Option Addr × Coin)), i = (k : Int) ∧ k ≤ xs.length ∧ m = xs.length - k ∧ Owned w' w.heap.size 127 A' n' c' (ptrs L) ∧ (∀ x ∈ L, Is w' x) ∧ L.map Prod.snd = rawCoins 0 (xs.take k) ∧ L.length ≤ k ∧ w.grownBy w' none,
    ⟨_, 0, [], rfl, by omega, rfl, World.ownsRow_nil _ _ _ _, by simp, by simp [rawCoins], by simp, grown_refl _ _⟩, ?_⟩
  rintro m A' n' c' i w' ⟨k, L, rfl, hk, rfl, ho, hL, hLx, hLk, hg⟩
  refine ⟨fun hlt => ?_, fun hge => ?_⟩
  · have hk' : k < xs.length := by omega
    obtain ⟨a, h1, h2⟩ := (hrow.kept_none hg) k (.int .i64 xs[k]) (by simp [hk'])
    have htake : rawCoins 0 (xs.take (k + 1)) = rawCoins 0 (xs.take k) ++ rawCoins k [xs[k]] := by
      rw [List.take_succ_eq_append_getElem hk', rawCoins_append]
      simp [Nat.min_eq_left hk]
    refine ⟨a, h1, by omega, by omega, xs[k], by simpa using h2, fun hpos => ?_, fun hpos => ?_⟩
    · refine many_calls ⟨_, rfl, ?_⟩
      have g1 := World.grownBy_alloc w' (.cells #[(.int .i64 (manyL xs[k])), (.int .i64 (k : Int)), (.pointer none), (.pointer none)] 130) none
      have b1 : (w'.alloc (.cells #[(.int .i64 (manyL xs[k])), (.int .i64 (k : Int)), (.pointer none), (.pointer none)] 130)).heap[w'.heap.size]? = some (.cells #[(.int .i64 (manyL xs[k])), (.int .i64 (k : Int)), (.pointer none), (.pointer none)] 130) := heap_alloc_new w' _
      generalize w'.alloc (.cells #[(.int .i64 (manyL xs[k])), (.int .i64 (k : Int)), (.pointer none), (.pointer none)] 130) = w1 at *
      have g2 := World.grownBy_alloc w1 (.cells #[.pointer (some ⟨w'.heap.size, 0, none⟩)] 127) none
      have b2 : (w1.alloc (.cells #[.pointer (some ⟨w'.heap.size, 0, none⟩)] 127)).cell? ⟨w1.heap.size, 0, none⟩ = some (.pointer (some ⟨w'.heap.size, 0, none⟩)) := by simp
      generalize w1.alloc (.cells #[.pointer (some ⟨w'.heap.size, 0, none⟩)] 127) = w2 at *
      have ho2 := (ho.kept g1).kept g2
      obtain ⟨A2, n2, c2, w3, h3, h4, h5⟩ := ho2.append1 (ty := 125) elemItem (by omega) (cc := 1) b2 rfl (by rw [ho.cases.1]; simp; omega) (Nat.le_trans hg.size (Nat.le_trans g1.size g2.size))
      have hk3 : KeepsItems w1 w3 := (keeps_none g2).trans (keeps_owned ho2 (by decide) h5)
      refine ⟨A2, n2, c2, w3, h3, by omega, xs.length - (k + 1), by omega, k + 1, L ++ [(some ⟨w'.heap.size, 0, none⟩, (manyL xs[k], [k]))], by omega, by omega, rfl, by simpa using h4, ?_, ?_, by simp; omega, ?_⟩
      · intro x hx
        rcases List.mem_append.1 hx with e | e
        · exact ((hL x e).keep (keeps_none g1)).keep hk3
        · have : x = (some ⟨w'.heap.size, 0, none⟩, (manyL xs[k], [k])) := by simpa using e
          subst this
          exact ⟨_, rfl, (ItemAt.coin b1).keep hk3⟩
      · rw [htake, List.map_append, hLx]
        simp [rawCoins, hpos]
      · exact grown_own (grown_trans (grown_trans hg g1) g2) h5 ho2.block_ge
    · refine ⟨by omega, xs.length - (k + 1), by omega, k + 1, L, by omega, by omega, rfl, ho, hL, ?_, by omega, hg⟩
      rw [htake, hLx]
      simp [rawCoins, hpos]
  · have hk' : k = xs.length := by omega
    subst hk'
    rw [List.take_length] at hLx
    obtain ⟨hl, h | ⟨g, rfl, hb, hc, hnc, ho'⟩⟩ := ho.cases
    · obtain ⟨rfl, rfl, rfl, hx⟩ := h
      have : L = [] := by simpa using hx
      subst this
      refine sortedNilT.mono fun ev w2 hh => ?_
      refine ⟨hh.1, none, 0, 0, [], rfl, World.ownsRow_nil _ _ _ _, by simp, ?_, grown_trans hg hh.2⟩
      unfold coinsL
      rw [← hLx]; rfl
    · have hl' : n' = L.length := by simpa using hl
      refine (sortedT (key := keyW w') ho' (cmpItems ho' (by decide) hL) (by simpa using hl) (by omega)).mono fun ev w2 hh => ?_
      obtain ⟨h1, h2, h3⟩ := hh
      have hk2 := keeps_own ho' (by decide) h3
      have hm : inOrder (keyW w') (L.map Prod.fst) = (inOrder (fun x => x.2.1) L).map Prod.fst := inOrder_map _ _ _ _ (fun y hy => keyW_is (hL y hy))
      have hs : SameK (fun x : Option Addr × Coin => x.2.1) (inOrder (fun x => x.2.1) L) L := inOrder_same L
      rw [hm] at h2
      refine ⟨h1, _, n', c', inOrder (fun x => x.2.1) L, rfl, ?_, fun x hx => (hL x (hs.mem hx)).keep hk2, ?_, ?_⟩
      · have := h2.ownsRow hb hc
        simp only [List.length_map, hs.length, ← hl'] at this
        exact this
      · have := inOrder_map Prod.snd (Prod.fst : Coin → Int) (fun x : Option Addr × Coin => x.2.1) L (fun _ _ => rfl)
        rw [← this, hLx]; rfl
      · exact grown_own hg h3 (by intro k hk; cases hk; exact hb)
end Go.Proofs.Ytmenmmgfdakeeaa

/-! merge: packed, add, Lengths: what they compute. -/
namespace Go.Proofs.Ytmenmmgfdakeeaa
open Go Go.V Go.RowKit
set_option linter.unusedVariables false
set_option linter.unusedSimpArgs false
set_option maxHeartbeats 2000000

theorem ptrs_get {L : List (Option Addr × Coin)} {i : Nat} (h : i < L.length) : (ptrs L)[i]? = some (.pointer L[i].1) := by simp [ptrs, h]

theorem packed_calls {w : World} {A B : Option Addr} {n c m d : Nat} {C L : List (Option Addr × Coin)} (hA : Row w A (ptrs C)) (hB : Row w B (ptrs L)) (hn : n = C.length) (hm : m = L.length)
    (hC : ∀ x ∈ C, Is w x) (hL : ∀ x ∈ L, Is w x) (hcA : n ≤ c) (hnone : A = none → c = 0) (hnb : n ≤ 2 ^ 30) (hmb : m ≤ 2 ^ 30) (hb : ∀ x ∈ L, 0 ≤ x.2.1 ∧ x.2.1 ≤ 2 ^ 60) :
    Calls P 83 #[.slice A n c, .slice B m d] w fun ev w' => ∃ (A' : Option Addr) (n' c' : Nat) (O : List (Option Addr × Coin)), ev = .returned (.slice A' n' c') ∧ Owned w' w.heap.size 127 A' n' c' (ptrs O) ∧ (∀ x ∈ O, Is w' x) ∧
      O.map Prod.snd = packedL (C.map Prod.snd) (L.map Prod.snd) ∧ w.grownBy w' none := by
  apply vc83; unfold VC83
  simp only [InK]
  refine ⟨fun ms A' n' c' k i w' => ∃ (kn j : Nat) (O : List (Option Addr × Coin)), k = (kn : Int) ∧ i = ((2 * j : Nat) : Int) ∧ kn ≤ C.length ∧ 2 * j ≤ L.length ∧ O.length ≤ kn + j ∧ ms = L.length - 2 * j ∧ Owned w' w.heap.size 127 A' n' c' (ptrs O) ∧ (∀ x ∈ O, Is w' x) ∧
      O.map Prod.snd ++ mergeC ((C.drop kn).map Prod.snd) (packs ((L.drop (2 * j)).map Prod.snd)) = packedL (C.map Prod.snd) (L.map Prod.snd) ∧ w.grownBy w' none,
    ⟨_, 0, 0, [], rfl, rfl, by omega, by omega, by simp, rfl, World.ownsRow_nil _ _ _ _, by simp, by simp [packedL], grown_refl _ _⟩, ?_⟩
  rintro ms A' n' c' k i w' ⟨kn, j, O, rfl, rfl, hk, hj, hOl, rfl, ho, hO, heq, hg⟩
  refine ⟨by omega, fun hlt => ?_, fun hge => ?_⟩
  · have l1 : 2 * j < L.length := by omega
    have l2 : 2 * j + 1 < L.length := by omega
    -- the two items
    obtain ⟨a, ea, ia⟩ := (hL _ (List.getElem_mem l1)).keep (keeps_none hg)
    obtain ⟨b, eb, ib⟩ := (hL _ (List.getElem_mem l2)).keep (keeps_none hg)
    have ba := hb _ (List.getElem_mem l1)
    have bb := hb _ (List.getElem_mem l2)
    have hdrop : L.drop (2 * j) = L[2 * j] :: L[2 * j + 1] :: L.drop (2 * (j + 1)) := by
      rw [List.drop_eq_getElem_cons l1, List.drop_eq_getElem_cons l2]; rfl
    obtain ⟨r, hr1, hr2⟩ := (hB.kept_none hg) _ _ (ptrs_get l1)
    obtain ⟨r', hr1', hr2'⟩ := (hB.kept_none hg) _ _ (ptrs_get l2)
    obtain rfl : r' = r := by rw [hr1] at hr1'; cases hr1'; rfl
    have t1 : ((2 * j : Nat) : Int).toNat = 2 * j := by omega
    have t2 : (((2 * j : Nat) : Int) + 1).toNat = 2 * j + 1 := by omega
    refine ⟨r', hr1, by omega, by omega, L[2 * j].1, by rw [t1]; exact hr2, a, ea, L[2 * j].2.1, ia.count, by omega, r', hr1, by omega, by omega, L[2 * j + 1].1, by rw [t2]; exact hr2', b, eb, L[2 * j + 1].2.1, ib.count, by omega,
      r', hr1, by omega, by omega, L[2 * j].1, by rw [t1]; exact hr2, by omega, r', hr1, by omega, by omega, L[2 * j + 1].1, by rw [t2]; exact hr2', ?_⟩
    rw [ea, eb]
    generalize hcc : L[2 * j].2 = ca at *
    generalize hcd : L[2 * j + 1].2 = cb at *
    have gd := grown_drew (grown_refl w' none)
    have sd : w'.drew.heap.size = w'.heap.size := rfl
    generalize w'.drew = wd at *
    have g1 := World.grownBy_alloc wd (.cells #[.int .i64 (ca.1 + cb.1), .int .i64 0, .pointer (some a), .pointer (some b)] 130) none
    have b1 : (wd.alloc (.cells #[.int .i64 (ca.1 + cb.1), .int .i64 0, .pointer (some a), .pointer (some b)] 130)).heap[wd.heap.size]? = some (.cells #[.int .i64 (ca.1 + cb.1), .int .i64 0, .pointer (some a), .pointer (some b)] 130) := heap_alloc_new wd _
    generalize wd.alloc (.cells #[.int .i64 (ca.1 + cb.1), .int .i64 0, .pointer (some a), .pointer (some b)] 130) = w1 at *
    have kd1 : KeepsItems w' w1 := (keeps_none gd).trans (keeps_none g1)
    have ip : ItemAt w1 ⟨wd.heap.size, 0, none⟩ (ca.1 + cb.1) (ca.2 ++ cb.2) := .pack b1 (ia.keep kd1) (ib.keep kd1)
    have hg1 : w.grownBy w1 none := grown_trans (grown_trans hg gd) g1
    -- coins ahead of the package
    refine ⟨fun ms A2 n2 c2 k2 w2 => ∃ (kn : Nat) (O : List (Option Addr × Coin)), k2 = (kn : Int) ∧ kn ≤ C.length ∧ O.length ≤ kn + j ∧ ms = C.length - kn ∧ Owned w2 w.heap.size 127 A2 n2 c2 (ptrs O) ∧ (∀ x ∈ O, Is w2 x) ∧
        O.map Prod.snd ++ mergeC ((C.drop kn).map Prod.snd) ((ca.1 + cb.1, ca.2 ++ cb.2) :: packs ((L.drop (2 * (j + 1))).map Prod.snd)) = packedL (C.map Prod.snd) (L.map Prod.snd) ∧ w.grownBy w2 none ∧ KeepsItems w1 w2,
      ⟨_, kn, O, rfl, hk, by omega, rfl, (ho.kept gd).kept g1, fun x hx => (hO x hx).keep kd1, ?_, hg1, KeepsItems.refl _⟩, ?_⟩
    · rw [← heq, hdrop]
      simp only [List.map_cons, packs, hcc, hcd]
    clear heq ho hO hOl hk
    rintro ms A2 n2 c2 k2 w2 ⟨kn, O, rfl, hk, hOl, rfl, ho, hO, heq, hg2, hk2⟩
    have ip2 := ip.keep hk2
    -- the package behind the coins
    have one : ∀ (u : Option Addr), ∃ (A4 : Option Addr) (n4 c4 : Nat), ∃ w4 : World,
        Sem.run P (Builtin.append_ #[125, 125] 125 #[.slice A2 n2 c2, .slice (some ⟨w2.drew.heap.size, 0, none⟩) 1 1]) (w2.drew.alloc (.cells #[.pointer u] 127)) = .ok (.slice A4 n4 c4) w4 ∧
        Owned w4 w.heap.size 127 A4 n4 c4 (ptrs O ++ [.pointer u]) ∧ w.grownBy w4 none ∧ KeepsItems w2 w4 := by
      intro u
      have g3 := grown_drew (grown_refl w2 none)
      have s3 : w2.drew.heap.size = w2.heap.size := rfl
      generalize w2.drew = w3 at *
      have g4 := World.grownBy_alloc w3 (.cells #[.pointer u] 127) none
      have b4 : (w3.alloc (.cells #[.pointer u] 127)).cell? ⟨w3.heap.size, 0, none⟩ = some (.pointer u) := by simp
      generalize w3.alloc (.cells #[.pointer u] 127) = w4 at *
      have ho4 := (ho.kept g3).kept g4
      obtain ⟨A5, n5, c5, w5, h3, h4, h5⟩ := ho4.append1 (ty := 125) elemItem (by omega) (cc := 1) b4 rfl (by rw [ho.cases.1]; simp; omega) (Nat.le_trans hg2.size (Nat.le_trans g3.size g4.size))
      exact ⟨A5, n5, c5, w5, h3, h4, grown_own (grown_trans (grown_trans hg2 g3) g4) h5 ho4.block_ge, ((keeps_none g3).trans (keeps_none g4)).trans (keeps_owned ho4 (by decide) h5)⟩
    have last : (∀ ps, mergeC ((C.drop kn).map Prod.snd) ((ca.1 + cb.1, ca.2 ++ cb.2) :: ps) = (ca.1 + cb.1, ca.2 ++ cb.2) :: mergeC ((C.drop kn).map Prod.snd) ps) → ∃ (A4 : Option Addr) (n4 c4 : Nat), ∃ w4 : World,
        Sem.run P (Builtin.append_ #[125, 125] 125 #[.slice A2 n2 c2, .slice (some ⟨w2.drew.heap.size, 0, none⟩) 1 1]) (w2.drew.alloc (.cells #[.pointer (some ⟨wd.heap.size, 0, none⟩)] 127)) = .ok (.slice A4 n4 c4) w4 ∧
        (-9223372036854775808 ≤ ((2 * j : Nat) : Int) + 2 ∧ ((2 * j : Nat) : Int) + 2 ≤ 9223372036854775807) ∧ ∃ ms, ms < L.length - 2 * j ∧ ∃ (kn' j' : Nat) (O : List (Option Addr × Coin)), (kn : Int) = (kn' : Int) ∧ ((2 * j : Nat) : Int) + 2 = ((2 * j' : Nat) : Int) ∧ kn' ≤ C.length ∧ 2 * j' ≤ L.length ∧ O.length ≤ kn' + j' ∧ ms = L.length - 2 * j' ∧ Owned w4 w.heap.size 127 A4 n4 c4 (ptrs O) ∧ (∀ x ∈ O, Is w4 x) ∧
      O.map Prod.snd ++ mergeC ((C.drop kn').map Prod.snd) (packs ((L.drop (2 * j')).map Prod.snd)) = packedL (C.map Prod.snd) (L.map Prod.snd) ∧ w.grownBy w4 none := by
      intro hmerge
      obtain ⟨A4, n4, c4, w4, h1, h2, h3, h4⟩ := one (some ⟨wd.heap.size, 0, none⟩)
      refine ⟨A4, n4, c4, w4, h1, by omega, L.length - 2 * (j + 1), by omega, kn, j + 1, O ++ [(some ⟨wd.heap.size, 0, none⟩, (ca.1 + cb.1, ca.2 ++ cb.2))], rfl, by omega, hk, by omega, by simp; omega, rfl, by simpa [ptrs] using h2, ?_, ?_, h3⟩
      · intro x hx
        rcases List.mem_append.1 hx with e | e
        · exact (hO x e).keep h4
        · have : x = (some ⟨wd.heap.size, 0, none⟩, (ca.1 + cb.1, ca.2 ++ cb.2)) := by simpa using e
          subst this
          exact ⟨_, rfl, ip2.keep h4⟩
      · rw [← heq, hmerge]
        simp
    refine ⟨fun hlt2 => ?_, fun hge2 => ?_⟩
    · have l3 : kn < C.length := by omega
      obtain ⟨e, ee, ie⟩ := (hC _ (List.getElem_mem l3)).keep (keeps_none hg2)
      obtain ⟨q, hq1, hq2⟩ := (hA.kept_none hg2) _ _ (ptrs_get l3)
      have hdc : (C.drop kn).map Prod.snd = C[kn].2 :: (C.drop (kn + 1)).map Prod.snd := by
        rw [List.drop_eq_getElem_cons l3]; rfl
      refine ⟨q, hq1, by omega, by omega, C[kn].1, hq2, e, ee, C[kn].2.1, ie.count, _, rfl, ca.1 + cb.1, ip2.count, fun hle => ?_, fun hgt => ?_⟩
      · refine ⟨q, hq1, by omega, by omega, C[kn].1, hq2, ?_⟩
        obtain ⟨A4, n4, c4, w4, h1, h2, h3, h4⟩ := one C[kn].1
        refine ⟨A4, n4, c4, w4, h1, by omega, C.length - (kn + 1), by omega, kn + 1, O ++ [C[kn]], by omega, by omega, by simp; omega, rfl, by simpa [ptrs] using h2, ?_, ?_, h3, hk2.trans h4⟩
        · intro x hx
          rcases List.mem_append.1 hx with e | e
          · exact (hO x e).keep h4
          · have : x = C[kn] := by simpa using e
            subst this
            exact ((hC _ (List.getElem_mem l3)).keep (keeps_none hg2)).keep h4
        · rw [← heq, hdc, mergeC_le hle]
          simp
      · refine last fun ps => ?_
        rw [hdc]
        exact mergeC_gt hgt
    · have : kn = C.length := by omega
      refine last fun ps => ?_
      rw [this, List.drop_length]
      exact mergeC_none
  · -- the rest of the coins
    have hend : packs ((L.drop (2 * j)).map Prod.snd) = [] := by
      have : (L.drop (2 * j)).length ≤ 1 := by simp; omega
      match h : L.drop (2 * j) with
      | [] => rfl
      | [x] => simp [packs]
      | x :: y :: r => rw [h] at this; simp at this
    rw [hend] at heq
    simp only [mergeC] at heq
    have fin : ∀ w5, w'.grownBy w5 (Value.slice A' n' c').ownBlock → KeepsItems w' w5 ∧ w.grownBy w5 none := fun w5 h5 => ⟨keeps_owned ho (by decide) h5, grown_own hg h5 ho.block_ge⟩
    have kt : (kn : Int).toNat = kn := by omega
    refine ⟨by omega, ?_⟩
    rw [kt]
    cases A with
    | none =>
      have hc0 := hnone rfl
      have hC0 : C = [] := List.eq_nil_of_length_eq_zero (by omega)
      subst hC0
      obtain ⟨i, e1, e2, _⟩ := elemItem.ex
      have hr := run_append_owned_none (P := P) w' w.heap.size 125 125 127 i 1 e1 e2 _ _ _ ho
      have hkn : kn = 0 := by simpa using hk
      subst hkn
      refine ⟨A', n', c', w', ?_, A', n', c', O, rfl, ho, hO, ?_, hg⟩
      · have : (.slice (cutA none c 0 1) (n - 0) (c - 0) : Value) = .slice none 0 0 := by
          have : n = 0 := by simpa using hn
          subst this; subst hc0; rfl
        rw [this]
        exact hr
      · rw [← heq]; simp
    | some a =>
      have hrow : ∃ a', cutA (some a) c kn 1 = some a' ∧ ∀ j u, (ptrs (C.drop kn))[j]? = some u → w'.cell? (a'.add j) = some u := by
        by_cases hck : c = kn
        · refine ⟨a, by simp [cutA, hck], fun j u hj => ?_⟩
          have : C.drop kn = [] := List.drop_eq_nil_of_le (by omega)
          rw [this] at hj; simp at hj
        · refine ⟨a.add kn, by simp [cutA, hck], fun j u hj => ?_⟩
          obtain ⟨a2, h1, h2⟩ := ((hA.kept_none hg).drop kn) j u (by simpa [ptrs] using hj)
          cases h1
          exact h2
      obtain ⟨a', ha1, ha2⟩ := hrow
      obtain ⟨A4, n4, c4, w4, h1, h2, h3⟩ := ho.appends (ty := 125) elemItem (by omega) (cc := c - kn) (m := n - kn) (by simp; omega) ha2 (fun u hu => by obtain ⟨x, _, rfl⟩ := List.mem_map.1 hu; rfl) (by rw [ho.cases.1]; simp; omega) hg.size
      obtain ⟨f1, f2⟩ := fin w4 h3
      refine ⟨A4, n4, c4, w4, by rw [ha1]; exact h1, A4, n4, c4, O ++ C.drop kn, rfl, by simpa [ptrs] using h2, ?_, ?_, f2⟩
      · intro x hx
        rcases List.mem_append.1 hx with e | e
        · exact (hO x e).keep f1
        · exact ((hC x (List.mem_of_mem_drop e)).keep (keeps_none hg)).keep f1
      · rw [← heq]; simp
end Go.Proofs.Ytmenmmgfdakeeaa

/-! merge: add and Lengths: what they compute. -/
namespace Go.Proofs.Ytmenmmgfdakeeaa
open Go Go.V Go.RowKit
set_option linter.unusedVariables false
set_option linter.unusedSimpArgs false
set_option maxHeartbeats 2000000

theorem cell_blk {w : World} {k j : Nat} {cur : Array Value} {e : TypeId} {fr : Nat × Nat} (h : w.heap[k]? = some (.cells cur e fr)) : w.cell? ((⟨k, 0, none⟩ : Addr).add j) = cur[j]? := by
  rw [add_lit, World.cell?, h]; rfl

theorem ItemAt.pos {w : World} {a : Addr} {c : Int} {s : List Nat} (h : ItemAt w a c s) : 0 < s.length := by
  induction h with
  | coin _ => simp
  | pack _ _ _ ih _ => simp; omega

theorem ItemAt.single {w : World} {a : Addr} {c : Int} {t : List Nat} (h : ItemAt w a c t) {s : Nat} (ht : t = [s]) : w.cell? (a.add 1) = some (.int .i64 (s : Int)) := by
  cases h with
  | coin h => cases ht; rw [cell_blk h]; rfl
  | pack h i1 i2 =>
    have := congrArg List.length ht
    have := i1.pos
    have := i2.pos
    simp at *; omega

abbrev ints (xs : List Int) : List Value := xs.map (Value.int .i64)

theorem addItem {w : World} {g cap : Nat} {a : Addr} {c : Int} {s : List Nat} (h : ItemAt w a c s) : ∀ {w' : World} {xs : List Int} {n : Nat} {B : Int}, KeepsItems w w' → Own w' g 3 cap (ints xs) → n = xs.length → (∀ i ∈ s, i < n) → (∀ v ∈ xs, 0 ≤ v ∧ v ≤ B) → 0 ≤ B → B + s.length ≤ 2 ^ 62 →
    Calls P 84 #[.pointer (some a), .slice (some ⟨g, 0, none⟩) n cap] w' fun ev w2 => ev = .returned (.tuple #[]) ∧ Own w2 g 3 cap (ints (addL s xs)) ∧ w'.grownBy w2 (some g) := by
  induction h with
  | @coin k c s y hk =>
    intro w' xs n B hkeep ho hn hs hx hB hBs
    have hb := hkeep _ _ hk
    apply vc84; unfold VC84
    simp only [InK]
    have hsn : s < xs.length := by have := hs s (by simp); omega
    have hrow := ho.cell (j := s) (u := .int .i64 xs[s]) (by simp [hsn])
    have hv := hx xs[s] (List.getElem_mem hsn)
    have ts : (s : Int).toNat = s := by omega
    refine ⟨_, rfl, by omega, none, by rw [cell_blk hb]; rfl, fun _ => ?_, fun h => absurd rfl h⟩
    refine ⟨_, rfl, (s : Int), by rw [cell_blk hb]; rfl, _, rfl, by omega, by omega, xs[s], by rw [ts]; exact hrow, by simp at hBs; omega, _, rfl, by omega, by omega, ⟨_, by rw [ts]; exact hrow⟩, ho.notFrozen (add_block _ _), trivial, ?_, grown_set (grown_refl _ _) (add_block _ _) _⟩
    rw [ts]
    have := ho.set (j := s) (by simpa using hsn) (.int .i64 (xs[s] + 1))
    refine cast ?_ this
    congr 1
    simp [addL, bump, hsn, List.map_set]
  | @pack k c1 c2 s1 s2 z p q hk h1 h2 ih1 ih2 =>
    intro w' xs n B hkeep ho hn hs hx hB hBs
    have hb := hkeep _ _ hk
    simp only [List.length_append] at hBs
    apply vc84; unfold VC84
    simp only [InK]
    refine ⟨_, rfl, by omega, some p, by rw [cell_blk hb]; rfl, fun h => absurd h (by simp), fun _ => ?_⟩
    refine ⟨_, rfl, some p, by rw [cell_blk hb]; rfl, some q, by rw [add_add, cell_blk hb]; rfl, ?_⟩
    refine ⟨fun m i w2 => w'.grownBy w2 (some g) ∧ ((i = 0 ∧ m = 2 ∧ Own w2 g 3 cap (ints xs)) ∨ (i = 1 ∧ m = 1 ∧ Own w2 g 3 cap (ints (addL s1 xs))) ∨ (i = 2 ∧ m = 0 ∧ Own w2 g 3 cap (ints (addL (s1 ++ s2) xs)))), ⟨2, grown_refl _ _, .inl ⟨rfl, rfl, ho⟩⟩, ?_⟩
    rintro m i w2 ⟨hg, hi⟩
    have hk2 := hkeep.trans (keeps_own ho (by decide) hg)
    refine ⟨fun hlt => ⟨by omega, fun h0 => ?_, fun h1 => ?_, trivial⟩, fun hge => ⟨trivial, ?_, hg⟩⟩
    · subst h0
      rcases hi with ⟨_, rfl, ho2⟩ | ⟨h, _⟩ | ⟨h, _⟩
      · refine (ih1 hk2 ho2 hn (fun i hi => hs i (by simp [hi])) hx hB (by omega)).mono fun ev w3 hh => ?_
        obtain ⟨e1, e2, e3⟩ := hh
        exact ⟨e1, by omega, 1, by omega, grown_trans hg e3, .inr (.inl ⟨rfl, rfl, e2⟩)⟩
      · omega
      · omega
    · subst h1
      rcases hi with ⟨h, _⟩ | ⟨_, rfl, ho2⟩ | ⟨h, _⟩
      · omega
      · refine (ih2 hk2 ho2 (by rw [addL_length]; exact hn) (fun i hi => hs i (by simp [hi])) (addL_bound s1 hx hB) (by omega) (by omega)).mono fun ev w3 hh => ?_
        obtain ⟨e1, e2, e3⟩ := hh
        exact ⟨e1, by omega, 0, by omega, grown_trans hg e3, .inr (.inr ⟨rfl, rfl, by rw [addL_append]; exact e2⟩)⟩
      · omega
    · rcases hi with ⟨h, _⟩ | ⟨h, _⟩ | ⟨_, _, ho2⟩
      · omega
      · omega
      · exact ho2

/-- What holds of the members of the lists. -/
def Fine (N : Nat) (k : Nat) (x : Coin) : Prop := 0 < x.1 ∧ x.1 ≤ 1099511627776 * 2 ^ k ∧ x.2.length ≤ 2 ^ k ∧ ∀ s ∈ x.2, s < N

theorem fine_lev (xs : List Int) : ∀ k, ∀ x ∈ lev (coinsL xs) k, Fine xs.length k x := by
  apply lev_mem
  · rintro k a b ⟨a1, a2, a3, a4⟩ ⟨b1, b2, b3, b4⟩
    have hp : 0 < 2 ^ k := Nat.two_pow_pos k
    refine ⟨by show 0 < a.1 + b.1; omega, ?_, ?_, ?_⟩
    · show a.1 + b.1 ≤ _
      rw [Int.pow_succ]; omega
    · show (a.2 ++ b.2).length ≤ _
      rw [List.length_append, Nat.pow_succ]; omega
    · intro s hs
      rcases List.mem_append.1 hs with e | e
      · exact a4 s e
      · exact b4 s e
  · intro k x hx
    obtain ⟨h1, h2, s, h3, h4⟩ := coinsL_mem hx
    have hp : 0 < 2 ^ k := Nat.two_pow_pos k
    have hp' : (1 : Int) ≤ 2 ^ k := by have : ((2 ^ k : Nat) : Int) = 2 ^ k := by simp
                                       omega
    refine ⟨h1, ?_, by rw [h3]; simp; omega, by rw [h3]; simpa using h4⟩
    have : (1099511627776 : Int) * 1 ≤ 1099511627776 * 2 ^ k := Int.mul_le_mul_of_nonneg_left hp' (by omega)
    omega

theorem lev_short (first : List Coin) : ∀ k, (lev first k).length ≤ 2 * first.length
  | 0 => by simp [lev]; omega
  | k + 1 => by
    have := lev_short first k
    simp only [lev, packedL, mergeC_length, packs_length]
    omega

theorem mostL_eq (most : Int) : mn (mx most 1) 15 = (mostL most : Int) ∧ 1 ≤ mostL most ∧ mostL most ≤ 15 := by
  unfold mostL mx mn
  split <;> split <;> omega

theorem lengths_calls {w : World} {A : Option Addr} {n c : Nat} {xs : List Int} {most : Int} (hrow : Row w A (ints xs)) (hn : n = xs.length) :
    Calls P 24 #[.slice A n c, .int .i64 most] w fun ev w' => ∃ (A' : Option Addr) (n' c' : Nat), ev = .returned (.slice A' n' c') ∧ Owned w' w.heap.size 3 A' n' c' (ints (lensL xs most)) ∧ w.grownBy w' none := by
  apply vc24; unfold VC24
  obtain ⟨hm, hm1, hm15⟩ := mostL_eq most
  rw [hm]
  simp only [InK]
  have tn : (mostL most : Int).toNat = mostL most := by omega
  have hmin : min (mostL most) 64 = mostL most := by omega
  rw [tn, hmin]
  have hpow : 2 ^ mostL most ≤ 2 ^ 15 := Nat.pow_le_pow_right (by omega) hm15
  obtain ⟨q, hq⟩ : ∃ q, q = 2 ^ mostL most := ⟨_, rfl⟩
  have hcast : (1 : Int) * 2 ^ mostL most = (q : Int) := by rw [hq]; simp
  rw [hcast]
  refine ⟨fun h => ⟨none, 0, 0, rfl, ?_, grown_refl _ _⟩, fun h => ?_⟩
  · have : lensL xs most = [] := by unfold lensL; rw [if_pos (by omega)]
    rw [this]; exact World.ownsRow_nil _ _ _ _
  · have h256 : xs.length ≤ 256 := by omega
    refine (coins_calls hrow hn (by omega)).mono fun ev w1 hh => ?_
    obtain ⟨A1, n1, c1, L, rfl, ho, hL, hLx, hg⟩ := hh
    have hn1 : n1 = (coinsL xs).length := by rw [ho.cases.1, ← hLx]; simp
    have hLl : L.length = (coinsL xs).length := by rw [← hLx]; simp
    refine ⟨A1, n1, c1, rfl, by omega, fun h2 => ?_, fun h2 => ?_⟩
    · refine ⟨none, 0, 0, rfl, ?_, hg⟩
      have : lensL xs most = [] := by unfold lensL; rw [if_neg (by omega), if_pos (by omega)]
      rw [this]; exact World.ownsRow_nil _ _ _ _
    · have hlens : lensL xs most = addL (chosen xs (mostL most)) (List.replicate xs.length 0) := by unfold lensL; rw [if_neg (by omega), if_neg (by omega)]
      obtain ⟨w2, hr, hown, hg2⟩ := run_made (P := P) (w := w1) elemInt (by omega) (m := n) (by omega)
      refine ⟨_, _, _, w2, hr, ?_⟩
      have hown : Own w2 w1.heap.size 3 n (ints (List.replicate xs.length 0)) := by
        simpa [ints, hn] using hown
      have fin : ∀ w3 ys, ys = lensL xs most → Own w3 w1.heap.size 3 n (ints ys) → w2.grownBy w3 (some w1.heap.size) → ∃ (A' : Option Addr) (n' c' : Nat), Ending.returned (.slice (some ⟨w1.heap.size, 0, none⟩) n n) = .returned (.slice A' n' c') ∧ Owned w3 w.heap.size 3 A' n' c' (ints (lensL xs most)) ∧ w.grownBy w3 none := by
        intro w3 ys hys h3 h4
        subst hys
        have h5 := h3.ownsRow hg.size (by simp only [maxLen]; omega)
        have : (ints (lensL xs most)).length = n := by rw [hlens]; simp [ints, addL_length, hn]
        rw [this] at h5
        exact ⟨_, _, _, rfl, h5, grown_own (grown_trans hg hg2) h4 (by intro k hk; cases hk; exact hg.size)⟩
      have hL2 : ∀ x ∈ L, Is w2 x := fun x hx => (hL x hx).keep (keeps_none hg2)
      have ho2 := ho.kept hg2
      refine ⟨fun h1 => ?_, fun h1 => ?_⟩
      · -- one symbol
        obtain ⟨x, rfl⟩ : ∃ x, L = [x] := List.length_eq_one_iff.1 (by omega)
        obtain ⟨a, h3, h4⟩ := ho2.row 0 (.pointer x.1) (by simp [ptrs])
        have ha0 : a.add 0 = a := by simp [Addr.add]
        rw [ha0] at h4
        have hcoin : coinsL xs = [x.2] := by rw [← hLx]; rfl
        obtain ⟨_, _, s, hs1, hs2⟩ := coinsL_mem (xs := xs) (x := x.2) (by rw [hcoin]; simp)
        obtain ⟨b, hb1, hb2⟩ := hL2 x (by simp)
        have hbs := hb2.single hs1
        have ts : (s : Int).toNat = s := by omega
        have hcell := hown.cell (j := s) (u := .int .i64 0) (by simp [ints, hs2])
        refine ⟨a, h3, by omega, by omega, x.1, h4, b, hb1, (s : Int), hbs, _, rfl, by omega, by omega, ⟨_, by rw [ts]; exact hcell⟩, hown.notFrozen (add_block _ _), ?_⟩
        rw [ts]
        have hset := hown.set (j := s) (by simpa [ints] using hs2) (.int .i64 1)
        refine fin _ ((List.replicate xs.length 0).set s 1) ?_ ?_ (grown_set (grown_refl _ _) (add_block _ _) _)
        · rw [hlens]
          have : chosen xs (mostL most) = [s] := by unfold chosen; rw [hcoin]; simp [hs1]
          rw [this]
          simp [addL, bump, hs2]
        · simpa [ints, List.map_set] using hset
      · refine ⟨by omega, ?_⟩
        -- list after list
        refine ⟨fun ms lA ln lc i w3 => ∃ (k : Nat) (O : List (Option Addr × Coin)), i = (k : Int) ∧ k ≤ mostL most - 1 ∧ ms = mostL most - 1 - k ∧ Owned w3 w.heap.size 127 lA ln lc (ptrs O) ∧ (∀ x ∈ O, Is w3 x) ∧ O.map Prod.snd = lev (coinsL xs) k ∧ w2.grownBy w3 none,
          ⟨_, 0, L, rfl, by omega, rfl, ho2, hL2, hLx, grown_refl _ _⟩, ?_⟩
        rintro ms lA ln lc i w3 ⟨k, O, rfl, hk, rfl, ho3, hO, hOk, hg3⟩
        have hOl : O.length = (lev (coinsL xs) k).length := by rw [← hOk]; simp
        have hls := lev_short (coinsL xs) k
        have hcl := coinsL_length xs
        have hln : ln = O.length := by rw [ho3.cases.1]; simp
        refine ⟨fun hlt => ?_, fun hge => ?_⟩
        · have hfine : ∀ x ∈ O, 0 ≤ x.2.1 ∧ x.2.1 ≤ 2 ^ 60 := by
            intro x hx
            have h := fine_lev xs k x.2 (by rw [← hOk]; exact List.mem_map_of_mem hx)
            have hp : (2 : Int) ^ k ≤ 2 ^ 15 := by
              have := Nat.pow_le_pow_right (n := 2) (by omega) (show k ≤ 15 by omega)
              have e1 : ((2 ^ k : Nat) : Int) = 2 ^ k := by simp
              have e2 : ((2 ^ 15 : Nat) : Int) = 2 ^ 15 := by simp
              omega
            have h2 := h.2.1
            exact ⟨by have := h.1; omega, by omega⟩
          have hnone : A1 = none → c1 = 0 ∧ n1 = 0 := by
            intro e
            rcases ho.cases.2 with ⟨_, h, h', _⟩ | ⟨g, h, _⟩
            · exact ⟨h', h⟩
            · rw [e] at h; cases h
          have hcap : n1 ≤ c1 := by
            rcases ho.cases.2 with ⟨_, h, h', _⟩ | ⟨g, _, _, _, h, _⟩
            · omega
            · exact h
          refine (packed_calls (C := L) (L := O) ((ho2.kept hg3).row) ho3.row (by omega) hln (fun x hx => (hL2 x hx).keep (keeps_none hg3)) hO hcap (fun e => (hnone e).1) (by omega) (by omega) hfine).mono fun ev w4 hh => ?_
          obtain ⟨A4, n4, c4, O4, rfl, q1, q2, q3, q4⟩ := hh
          have hsz : w.heap.size ≤ w3.heap.size := Nat.le_trans hg.size (Nat.le_trans hg2.size hg3.size)
          refine ⟨A4, n4, c4, rfl, by omega, mostL most - 1 - (k + 1), by omega, k + 1, O4, by omega, by omega, rfl, Owned.mono q1 hsz, q2, ?_, grown_trans hg3 q4⟩
          rw [q3, hLx, hOk]; rfl
        · have hk' : k = mostL most - 1 := by omega
          have hlong := lev_long hm1 (first := coinsL xs) (by omega)
          rw [← hk'] at hlong
          have hlc : ln ≤ lc := by
            rcases ho3.cases.2 with ⟨_, h, h', _⟩ | ⟨g, _, _, _, h, _⟩
            · omega
            · exact h
          have hmx : mx (2 * (n1 : Int) - 2) 0 = ((2 * (coinsL xs).length - 2 : Nat) : Int) := by unfold mx; split <;> omega
          rw [hmx]
          have tm : (((2 * (coinsL xs).length - 2 : Nat) : Int)).toNat = 2 * (coinsL xs).length - 2 := by omega
          rw [tm]
          refine ⟨by omega, by omega, by omega, ?_⟩
          have hchosen : chosen xs (mostL most) = ((lev (coinsL xs) k).take (2 * (coinsL xs).length - 2)).flatMap Prod.snd := by
            unfold chosen; rw [if_neg (by omega), hk']
          refine ⟨fun ms i w4 => ∃ (j : Nat) (ys : List Int), i = (j : Int) ∧ j ≤ 2 * (coinsL xs).length - 2 ∧ ms = 2 * (coinsL xs).length - 2 - j ∧ ys = addL (((lev (coinsL xs) k).take j).flatMap Prod.snd) (List.replicate xs.length 0) ∧ (∀ v ∈ ys, 0 ≤ v ∧ v ≤ 2 ^ 15 * (j : Int)) ∧
              Own w4 w1.heap.size 3 n (ints ys) ∧ w2.grownBy w4 (some w1.heap.size) ∧ w3.grownBy w4 (some w1.heap.size),
            ⟨_, 0, List.replicate xs.length 0, rfl, by omega, rfl, by simp [addL], by simp, hown.kept hg3 (by simp), grown_none hg3, grown_refl _ _⟩, ?_⟩
          rintro ms i w4 ⟨j, ys, rfl, hj, rfl, hys, hyb, ho4, hg4, hg34⟩
          have hyl : ys.length = n := by rw [hys, addL_length]; simp [hn]
          have ho3' : Own w3 w1.heap.size 3 n (ints (List.replicate xs.length 0)) := hown.kept hg3 (by simp)
          have hkeep := keeps_own ho3' (by decide) hg34
          refine ⟨fun hlt => ?_, fun hge2 => ?_⟩
          · have hjO : j < O.length := by omega
            -- the row of items is another block than the lengths
            have hrowne : Row w4 lA (ptrs O) := by
              refine Row.kept ho3.row hg34 ?_
              intro a ha e
              rcases ho3.cases.2 with ⟨h, _⟩ | ⟨g, h, _, _, _, hog⟩
              · rw [ha] at h; cases h
              · rw [ha] at h; cases h
                simp only [Option.some.injEq] at e
                subst e
                obtain ⟨cur, e1, _⟩ := hog
                obtain ⟨cur', e2, _⟩ := ho3'
                rw [e1] at e2
                cases e2
            obtain ⟨a, h3, h4⟩ := hrowne j _ (ptrs_get hjO)
            obtain ⟨b, hb1, hb2⟩ := hO _ (List.getElem_mem hjO)
            have hmem : O[j].2 ∈ lev (coinsL xs) k := by rw [← hOk]; exact List.mem_map_of_mem (List.getElem_mem hjO)
            obtain ⟨f1, f2, f3, f4⟩ := fine_lev xs k _ hmem
            have hpk : 2 ^ k ≤ 2 ^ 15 := Nat.pow_le_pow_right (by omega) (by omega)
            refine ⟨a, h3, by omega, by omega, O[j].1, h4, ?_⟩
            rw [hb1]
            refine (addItem hb2 hkeep ho4 (by omega) (fun i hi => by have := f4 i hi; omega) hyb (by omega) (by omega)).mono fun ev w5 hh => ?_
            obtain ⟨e1, e2, e3⟩ := hh
            refine ⟨e1, by omega, 2 * (coinsL xs).length - 2 - (j + 1), by omega, j + 1, addL O[j].2.2 ys, by omega, by omega, rfl, ?_, ?_, e2, grown_trans hg4 e3, grown_trans hg34 e3⟩
            · have hjl : j < (lev (coinsL xs) k).length := by omega
              have : (lev (coinsL xs) k)[j] = O[j].2 := by simp [← hOk]
              rw [hys, List.take_succ_eq_append_getElem hjl, List.flatMap_append, addL_append, this]
              simp
            · intro v hv
              have := addL_bound O[j].2.2 hyb (by omega) v hv
              omega
          · have hj' : j = 2 * (coinsL xs).length - 2 := by omega
            refine fin w4 ys ?_ ho4 hg4
            rw [hys, hlens, hchosen, hj']
end Go.Proofs.Ytmenmmgfdakeeaa

/-! archipelagohelp.Ints, merge.Kraft, merge.Cost, archipelagolaw5.known: what they compute. -/
namespace Go.Proofs.Ytmenmmgfdakeeaa
open Go Go.V Go.RowKit
set_option linter.unusedVariables false
set_option linter.unusedSimpArgs false
set_option maxHeartbeats 2000000
set_option maxRecDepth 100000

theorem row_alloc (w : World) (cs : Array Value) (t : TypeId) : Row (w.alloc (.cells cs t)) (some ⟨w.heap.size, 0, none⟩) cs.toList := by
  intro j u hj
  refine ⟨_, rfl, ?_⟩
  rw [add_lit, World.cell?_alloc_new]
  simpa using hj

theorem ints_calls {w : World} {A B : Option Addr} {n c m d : Nat} {xs ys : List Int} (hA : Row w A (ints xs)) (hB : Row w B (ints ys)) (hn : n = xs.length) (hm : m = ys.length) (hb : n ≤ 2 ^ 60) :
    Calls P 23 #[.slice A n c, .slice B m d] w fun ev w' => ev = .returned (.bool (decide (xs = ys))) ∧ w.grownBy w' none := by
  apply vc23; unfold VC23
  simp only [InK]
  refine ⟨fun h => ⟨?_, grown_refl _ _⟩, fun h => ?_⟩
  · have : xs ≠ ys := fun e => by subst e; omega
    simp [this]
  · have hl : xs.length = ys.length := by omega
    refine ⟨fun ms i w' => ∃ k : Nat, i = (k : Int) ∧ k ≤ xs.length ∧ ms = xs.length - k ∧ xs.take k = ys.take k ∧ w.grownBy w' none, ⟨_, 0, rfl, by omega, rfl, by simp, grown_refl _ _⟩, ?_⟩
    rintro ms i w' ⟨k, rfl, hk, rfl, ht, hg⟩
    refine ⟨fun hlt => ?_, fun hge => ?_⟩
    · have l1 : k < xs.length := by omega
      have l2 : k < ys.length := by omega
      obtain ⟨a, ha1, ha2⟩ := (hA.kept_none hg) k (.int .i64 xs[k]) (by simp [ints, l1])
      obtain ⟨b, hb1, hb2⟩ := (hB.kept_none hg) k (.int .i64 ys[k]) (by simp [ints, l2])
      refine ⟨a, ha1, by omega, by omega, xs[k], ha2, b, hb1, by omega, by omega, ys[k], hb2, fun hne => ⟨?_, grown_drew hg⟩, fun he => ?_⟩
      · have : xs ≠ ys := fun e => hne (by subst e; rfl)
        simp [this]
      · have he : xs[k] = ys[k] := Decidable.not_not.1 he
        refine ⟨by omega, xs.length - (k + 1), by omega, k + 1, by omega, by omega, rfl, ?_, grown_drew hg⟩
        rw [List.take_succ_eq_append_getElem l1, List.take_succ_eq_append_getElem l2, ht, he]
    · have : k = xs.length := by omega
      subst this
      have : xs = ys := by
        have h1 := ht
        rw [List.take_length, hl, List.take_length] at h1
        exact h1
      simp [this]
      exact hg

theorem kraft1_bound (x : Int) : 0 ≤ kraft1 x ∧ kraft1 x ≤ 2 ^ 14 := by
  unfold kraft1
  split
  · have h : (15 - x).toNat ≤ 14 := by omega
    have h1 := Nat.pow_le_pow_right (n := 2) (by omega) h
    obtain ⟨q, hq⟩ : ∃ q : Nat, q = 2 ^ (15 - x).toNat := ⟨_, rfl⟩
    have e1 : (2 : Int) ^ (15 - x).toNat = (q : Int) := by rw [hq]; simp
    rw [e1]
    omega
  · omega

theorem sum_snoc (l : List Int) (x : Int) : (l ++ [x]).sum = l.sum + x := by simp

theorem kraft_take_bound (xs : List Int) : 0 ≤ kraftL xs ∧ kraftL xs ≤ 2 ^ 14 * xs.length := by
  induction xs with
  | nil => simp [kraftL]
  | cons x xs ih =>
    have := kraft1_bound x
    simp only [kraftL, List.map_cons, List.sum_cons, List.length_cons] at *
    omega

theorem kraft_calls {w : World} {A : Option Addr} {n c : Nat} {xs : List Int} (hA : Row w A (ints xs)) (hn : n = xs.length) (hb : n ≤ 2 ^ 40) :
    Calls P 26 #[.slice A n c] w fun ev w' => ev = .returned (.int .i64 (kraftL xs)) ∧ w.grownBy w' none := by
  apply vc26; unfold VC26
  simp only [InK]
  refine ⟨fun ms s i w' => ∃ k : Nat, i = (k : Int) ∧ k ≤ xs.length ∧ ms = xs.length - k ∧ s = kraftL (xs.take k) ∧ w.grownBy w' none, ⟨_, 0, rfl, by omega, rfl, by simp [kraftL], grown_refl _ _⟩, ?_⟩
  rintro ms s i w' ⟨k, rfl, hk, rfl, rfl, hg⟩
  refine ⟨fun hlt => ?_, fun hge => ?_⟩
  · have l1 : k < xs.length := by omega
    obtain ⟨a, ha1, ha2⟩ := (hA.kept_none hg) k (.int .i64 xs[k]) (by simp [ints, l1])
    have hs : kraftL (xs.take (k + 1)) = kraftL (xs.take k) + kraft1 xs[k] := by
      rw [List.take_succ_eq_append_getElem l1]
      simp only [kraftL, List.map_append, List.sum_append, List.map_cons, List.map_nil, List.sum_cons, List.sum_nil]
      omega
    have b1 := kraft_take_bound (xs.take k)
    have hl : (xs.take k).length = k := by simp; omega
    rw [hl] at b1
    refine ⟨a, ha1, by omega, by omega, xs[k], ha2, fun h1 => ⟨fun h2 => ?_, fun h2 => ?_⟩, fun h1 => ?_⟩
    · have hv : kraft1 xs[k] = 2 ^ (15 - xs[k]).toNat := by unfold kraft1; rw [if_pos ⟨by omega, h2⟩]
      have hm : min (15 - xs[k]).toNat 64 = (15 - xs[k]).toNat := by omega
      have b2 := kraft1_bound xs[k]
      rw [hm, Int.one_mul, ← hv]
      exact ⟨by omega, by omega, by omega, by omega, xs.length - (k + 1), by omega, k + 1, by omega, by omega, rfl, hs.symm, hg⟩
    · have hv : kraft1 xs[k] = 0 := by unfold kraft1; rw [if_neg (by omega)]
      exact ⟨by omega, xs.length - (k + 1), by omega, k + 1, by omega, by omega, rfl, by rw [hs, hv]; omega, hg⟩
    · have hv : kraft1 xs[k] = 0 := by unfold kraft1; rw [if_neg (by omega)]
      exact ⟨by omega, xs.length - (k + 1), by omega, k + 1, by omega, by omega, rfl, by rw [hs, hv]; omega, hg⟩
  · have : k = xs.length := by omega
    subst this
    rw [List.take_length]
    exact ⟨rfl, hg⟩

theorem costL_bound : ∀ (cs ls : List Int) (B : Int), 0 ≤ B → (∀ l ∈ ls, 0 ≤ l ∧ l ≤ B) → 0 ≤ costL cs ls ∧ costL cs ls ≤ 1099511627776 * B * cs.length
  | [], ls, B, hB, h => by simp [costL]
  | c :: cs, [], B, hB, h => by
    simp only [costL]
    have : 0 ≤ 1099511627776 * B * ((c :: cs).length : Int) := Int.mul_nonneg (by omega) (by omega)
    omega
  | c :: cs, l :: ls, B, hB, h => by
    have ih := costL_bound cs ls B hB (fun x hx => h x (by simp [hx]))
    have hl := h l (by simp)
    have hc := manyL_bound c
    have h1 : 0 ≤ manyL c * l := Int.mul_nonneg hc.1 hl.1
    have h2 : manyL c * l ≤ 1099511627776 * B := Int.mul_le_mul hc.2 hl.2 hl.1 (by omega)
    have h3 : 1099511627776 * B * ((c :: cs).length : Int) = 1099511627776 * B * (cs.length : Int) + 1099511627776 * B := by
      rw [List.length_cons]; simp [Int.mul_add]
    simp only [costL]
    omega

theorem cost_calls {w : World} {A B : Option Addr} {n c m d : Nat} {xs ys : List Int} (hA : Row w A (ints xs)) (hB : Row w B (ints ys)) (hn : n = xs.length) (hm : m = ys.length) (hb : n ≤ 2 ^ 10) (hy : ∀ y ∈ ys, 0 ≤ y ∧ y ≤ 2 ^ 10) :
    Calls P 28 #[.slice A n c, .slice B m d] w fun ev w' => ev = .returned (.int .i64 (costL xs ys)) ∧ w.grownBy w' none := by
  apply vc28; unfold VC28
  have hmn : mn (n : Int) (m : Int) = ((min xs.length ys.length : Nat) : Int) := by unfold mn; split <;> omega
  rw [hmn]
  simp only [InK]
  refine ⟨fun ms s i w' => ∃ k : Nat, i = (k : Int) ∧ k ≤ min xs.length ys.length ∧ ms = min xs.length ys.length - k ∧ s = costL (xs.take k) (ys.take k) ∧ w.grownBy w' none, ⟨_, 0, rfl, by omega, rfl, by simp [costL], grown_refl _ _⟩, ?_⟩
  rintro ms s i w' ⟨k, rfl, hk, rfl, rfl, hg⟩
  refine ⟨fun hlt => ?_, fun hge => ?_⟩
  · have l1 : k < xs.length := by omega
    have l2 : k < ys.length := by omega
    obtain ⟨a, ha1, ha2⟩ := (hA.kept_none hg) k (.int .i64 xs[k]) (by simp [ints, l1])
    have b0 := costL_bound (xs.take k) (ys.take k) (2 ^ 10) (by omega) (fun y hy' => hy y (List.mem_of_mem_take hy'))
    have hl : ((xs.take k).length : Int) ≤ 2 ^ 10 := by simp; omega
    have hy' := hy ys[k] (List.getElem_mem l2)
    have hc := manyL_bound xs[k]
    have h1 : 0 ≤ manyL xs[k] * ys[k] := Int.mul_nonneg hc.1 hy'.1
    have h2 : manyL xs[k] * ys[k] ≤ 1099511627776 * 2 ^ 10 := Int.mul_le_mul hc.2 hy'.2 hy'.1 (by omega)
    have hs := costL_snoc xs ys k l1 l2
    have b1 : 1099511627776 * (2 ^ 10 : Int) * ((xs.take k).length : Int) ≤ 1099511627776 * 2 ^ 10 * 2 ^ 10 := Int.mul_le_mul_of_nonneg_left hl (by omega)
    refine ⟨fun w2 => w.grownBy w2 none, grown_drew hg, a, ha1, by omega, by omega, xs[k], ha2, ?_⟩
    refine many_calls ⟨_, rfl, grown_drew hg, ?_⟩
    obtain ⟨b, hb1, hb2⟩ := hB k (.int .i64 ys[k]) (by simp [ints, l2])
    have hrd : ∀ w2 : World, w.grownBy w2 none → w2.cell? (b.add (k : Int).toNat) = some (.int .i64 ys[k]) := by
      intro w2 h
      obtain ⟨b', e1, e2⟩ := (hB.kept_none h) k (.int .i64 ys[k]) (by simp [ints, l2])
      rw [hb1] at e1
      cases e1
      exact e2
    exact ⟨b, hb1, by omega, by omega, ys[k], hrd, by omega, by omega, by omega, min xs.length ys.length - (k + 1), by omega, k + 1, by omega, by omega, rfl, by omega, grown_drew hg⟩
  · have : k = min xs.length ys.length := by omega
    subst this
    rw [costL_take _ _ _ (Nat.le_refl _)]
    exact ⟨rfl, hg⟩

theorem known_calls {w : World} : Calls P 21 #[] w fun ev w' => ev = .returned (.bool true) ∧ w.grownBy w' none := by
  apply vc21; unfold VC21
  have c1 : lensL [1, 1, 2, 0] 15 = [2, 2, 1, 0] := by decide +kernel
  have c2 : lensL [0, 7] 3 = [0, 1] := by decide +kernel
  have c3 : lensL [1, 1, 1] 1 = [] := by decide +kernel
  have c4 : costL [1, 1, 2] [2, 2, 1, 0] = 6 := by decide +kernel
  have c5 : kraftL [2, 2, 1, 0] = 32768 := by decide +kernel
  refine (lengths_calls (xs := [1, 1, 2, 0]) (row_alloc w _ 3) rfl).mono fun ev w1 hh => ?_
  obtain ⟨A1, n1, d1, rfl, o1, g1⟩ := hh
  have g1 := grown_trans (World.grownBy_alloc w _ none) g1
  rw [c1] at o1
  refine ⟨A1, n1, d1, rfl, ?_⟩
  have r1 := o1.row
  have l1 : n1 = 4 := o1.cases.1
  refine (ints_calls (xs := [2, 2, 1, 0]) (ys := [2, 2, 1, 0]) (r1.kept_none (World.grownBy_alloc w1 _ none)) (row_alloc w1 _ 3) l1 rfl (by omega)).mono fun ev w2 hh => ?_
  obtain ⟨rfl, g2⟩ := hh
  have g2 := grown_trans (World.grownBy_alloc w1 _ none) g2
  refine ⟨true, rfl, fun _ => ?_, fun h => by cases h⟩
  refine (cost_calls (xs := [1, 1, 2]) (ys := [2, 2, 1, 0]) (row_alloc w2 _ 3) ((r1.kept_none g2).kept_none (World.grownBy_alloc w2 _ none)) rfl l1 (by decide) (by decide)).mono fun ev w3 hh => ?_
  obtain ⟨rfl, g3⟩ := hh
  have g3 := grown_trans (World.grownBy_alloc w2 _ none) g3
  rw [c4]
  refine ⟨6, rfl, fun _ => ?_, fun h => absurd rfl h⟩
  refine (kraft_calls (xs := [2, 2, 1, 0]) ((r1.kept_none g2).kept_none g3) l1 (by omega)).mono fun ev w4 hh => ?_
  obtain ⟨rfl, g4⟩ := hh
  rw [c5]
  refine ⟨32768, rfl, fun _ => ?_, fun h => absurd rfl h⟩
  refine (lengths_calls (xs := [0, 7]) (row_alloc w4 _ 3) rfl).mono fun ev w5 hh => ?_
  obtain ⟨A5, n5, d5, rfl, o5, g5⟩ := hh
  have g5 := grown_trans (World.grownBy_alloc w4 _ none) g5
  rw [c2] at o5
  refine ⟨A5, n5, d5, rfl, ?_⟩
  refine (ints_calls (xs := [0, 1]) (ys := [0, 1]) (o5.row.kept_none (World.grownBy_alloc w5 _ none)) (row_alloc w5 _ 3) o5.cases.1 rfl (by have : n5 = 2 := o5.cases.1; omega)).mono fun ev w6 hh => ?_
  obtain ⟨rfl, g6⟩ := hh
  have g6 := grown_trans (World.grownBy_alloc w5 _ none) g6
  refine ⟨true, rfl, fun _ => ?_, fun h => by cases h⟩
  refine (lengths_calls (xs := [1, 1, 1]) (row_alloc w6 _ 3) rfl).mono fun ev w7 hh => ?_
  obtain ⟨A7, n7, d7, rfl, o7, g7⟩ := hh
  have g7 := grown_trans (World.grownBy_alloc w6 _ none) g7
  rw [c3] at o7
  have l7 : n7 = 0 := o7.cases.1
  refine ⟨A7, n7, d7, rfl, ?_, grown_trans (grown_trans (grown_trans (grown_trans (grown_trans (grown_trans g1 g2) g3) g4) g5) g6) g7⟩
  simp [l7]
end Go.Proofs.Ytmenmmgfdakeeaa

/-! archipelagolaw5.counts: what it makes; bools unlike; what the laws share. -/
namespace Go.Proofs.Ytmenmmgfdakeeaa
open Go Go.V Go.RowKit
set_option linter.unusedVariables false
set_option linter.unusedSimpArgs false
set_option maxHeartbeats 2000000
set_option maxRecDepth 100000

theorem append_int {w : World} {base : Nat} {A : Option Addr} {n c : Nat} {xs : List Int} {x : Int} (ho : Owned w base 3 A n c (ints xs)) (hn : n ≤ 2 ^ 30) (hb : base ≤ w.heap.size) :
    ∃ (A' : Option Addr) (n' c' : Nat) (w' : World), Sem.run P (Builtin.append_ #[22, 22] 22 #[.slice A n c, .slice (some ⟨w.heap.size, 0, none⟩) 1 1]) (w.alloc (.cells #[.int .i64 x] 3)) = .ok (.slice A' n' c') w' ∧
      Owned w' base 3 A' n' c' (ints (xs ++ [x])) ∧ w.grownBy w' (Value.slice A n c).ownBlock := by
  have g := World.grownBy_alloc w (.cells #[.int .i64 x] 3) none
  have b : (w.alloc (.cells #[.int .i64 x] 3)).cell? ⟨w.heap.size, 0, none⟩ = some (.int .i64 x) := by simp
  obtain ⟨A', n', c', w', h1, h2, h3⟩ := (ho.kept g).append1 (ty := 22) elemInt (by omega) (cc := 1) b rfl (by omega) (Nat.le_trans hb g.size)
  exact ⟨A', n', c', w', h1, by simpa [ints] using h2, grown_trans (grown_none g) h3⟩

abbrev u16s (xs : List Int) : List Value := xs.map (Value.int .u16)

def cnt5 (x : Int) : List Int := [x, x % 3, (x % 2) * 1000, 2 ^ (x % 40).toNat, x * x]
def cnt (k x : Int) : Int := (cnt5 x).getD ((k + x % 7) % 5).toNat 0
def countsL (k : Int) (l : List Int) : List Int := l.map (cnt k)

theorem pow_bound {t : Nat} (h : t ≤ 39) : (0 : Int) < 2 ^ t ∧ (2 : Int) ^ t ≤ 2 ^ 39 := by
  have := Nat.pow_le_pow_right (n := 2) (by omega) h
  obtain ⟨q, hq⟩ : ∃ q : Nat, q = 2 ^ t := ⟨_, rfl⟩
  have e1 : (2 : Int) ^ t = (q : Int) := by rw [hq]; simp
  have := Nat.two_pow_pos t
  rw [e1]; omega

theorem cnt5_bound {x : Int} (h : 0 ≤ x ∧ x ≤ 65535) : ∀ v ∈ cnt5 x, 0 ≤ v ∧ v ≤ 2 ^ 39 := by
  intro v hv
  have h1 := pow_bound (t := (x % 40).toNat) (by omega)
  have h2 : 0 ≤ x * x := Int.mul_nonneg h.1 h.1
  have h3 : x * x ≤ 65535 * 65535 := Int.mul_le_mul h.2 h.2 h.1 (by omega)
  simp only [cnt5, List.mem_cons, List.not_mem_nil, or_false] at hv
  rcases hv with e | e | e | e | e <;> subst e <;> omega

theorem cnt_bound {k x : Int} (h : 0 ≤ x ∧ x ≤ 65535) : 0 ≤ cnt k x ∧ cnt k x ≤ 2 ^ 39 := by
  have ht : ((k + x % 7) % 5).toNat < (cnt5 x).length := by simp [cnt5]; omega
  have : cnt k x = (cnt5 x)[((k + x % 7) % 5).toNat] := by simp [cnt, List.getD_eq_getElem?_getD, ht]
  rw [this]
  exact cnt5_bound h _ (List.getElem_mem ht)

theorem counts_bound {k : Int} {l : List Int} (h : ∀ x ∈ l, 0 ≤ x ∧ x ≤ 65535) : ∀ v ∈ countsL k l, 0 ≤ v ∧ v ≤ 2 ^ 39 := by
  intro v hv
  obtain ⟨x, hx, rfl⟩ := List.mem_map.1 hv
  exact cnt_bound (h x hx)

theorem counts_calls {w : World} {A : Option Addr} {n c : Nat} {l : List Int} {k : Int} (hrow : Row w A (u16s l)) (hn : n = l.length) (hb : ∀ x ∈ l, 0 ≤ x ∧ x ≤ 65535) (hk : 0 ≤ k ∧ k ≤ 255) (hbig : n ≤ 2 ^ 20) :
    Calls P 22 #[.slice A n c, .int .u8 k] w fun ev w' => ∃ (A' : Option Addr) (n' c' : Nat), ev = .returned (.slice A' n' c') ∧ Owned w' w.heap.size 3 A' n' c' (ints (countsL k l)) ∧ w.grownBy w' none := by
  apply vc22; unfold VC22
  simp only [InK]
  refine ⟨fun ms A' n' c' i w' => ∃ j : Nat, i = (j : Int) ∧ j ≤ l.length ∧ ms = l.length - j ∧ Owned w' w.heap.size 3 A' n' c' (ints (countsL k (l.take j))) ∧ w.grownBy w' none, ⟨_, 0, rfl, by omega, rfl, World.ownsRow_nil _ _ _ _, grown_refl _ _⟩, ?_⟩
  rintro ms A' n' c' i w' ⟨j, rfl, hj, rfl, ho, hg⟩
  have hn' : n' = j := by rw [ho.cases.1]; simp [ints, countsL]; omega
  refine ⟨fun hlt => ?_, fun hge => ?_⟩
  · have l1 : j < l.length := by omega
    obtain ⟨a, ha, _⟩ := hrow j (.int .u16 l[j]) (by simp [l1])
    have hrd : ∀ w2 : World, w.grownBy w2 none → w2.cell? (a.add (j : Int).toNat) = some (.int .u16 l[j]) := by
      intro w2 h
      obtain ⟨b', e1, e2⟩ := (hrow.kept_none h) j (.int .u16 l[j]) (by simp [l1])
      rw [ha] at e1; cases e1; exact e2
    have hx := hb l[j] (List.getElem_mem l1)
    have htake : countsL k (l.take (j + 1)) = countsL k (l.take j) ++ [cnt k l[j]] := by
      rw [List.take_succ_eq_append_getElem l1]; simp only [countsL, List.map_append, List.map_cons, List.map_nil]
    have hcnt : cnt k l[j] = (cnt5 l[j]).getD ((k + l[j] % 7) % 5).toNat 0 := rfl
    have hq := grown_drew hg
    have hrun : ∀ (x : Int), ∃ (A2 : Option Addr) (n2 c2 : Nat) (w2 : World), Sem.run P (Builtin.append_ #[22, 22] 22 #[.slice A' n' c', .slice (some ⟨((w'.drew).alloc (.cells #[.int .i64 l[j], .int .i64 (l[j] % 3), .int .i64 (l[j] % 2 * 1000), .int .i64 (2 ^ (l[j] % 40).toNat), .int .i64 (l[j] * l[j])] 3)).heap.size, 0, none⟩) 1 1])
        (((w'.drew).alloc (.cells #[.int .i64 l[j], .int .i64 (l[j] % 3), .int .i64 (l[j] % 2 * 1000), .int .i64 (2 ^ (l[j] % 40).toNat), .int .i64 (l[j] * l[j])] 3)).alloc (.cells #[.int .i64 x] 3)) = .ok (.slice A2 n2 c2) w2 ∧
        Owned w2 w.heap.size 3 A2 n2 c2 (ints (countsL k (l.take j) ++ [x])) ∧ w.grownBy w2 none := by
      intro x
      have g1 := grown_alloc hq (.cells #[.int .i64 l[j], .int .i64 (l[j] % 3), .int .i64 (l[j] % 2 * 1000), .int .i64 (2 ^ (l[j] % 40).toNat), .int .i64 (l[j] * l[j])] 3)
      have o1 := (ho.kept (grown_drew (grown_refl w' none))).kept (World.grownBy_alloc w'.drew (.cells #[.int .i64 l[j], .int .i64 (l[j] % 3), .int .i64 (l[j] % 2 * 1000), .int .i64 (2 ^ (l[j] % 40).toNat), .int .i64 (l[j] * l[j])] 3) none)
      obtain ⟨A2, n2, c2, w2, e1, e2, e3⟩ := append_int (x := x) o1 (by omega) g1.size
      exact ⟨A2, n2, c2, w2, e1, e2, grown_own g1 e3 o1.block_ge⟩
    have h1 := pow_bound (t := (l[j] % 40).toNat) (by omega)
    have h2 : 0 ≤ l[j] * l[j] := Int.mul_nonneg hx.1 hx.1
    have h3 : l[j] * l[j] ≤ 65535 * 65535 := Int.mul_le_mul hx.2 hx.2 hx.1 (by omega)
    have hmin : min (l[j] % 40).toNat 64 = (l[j] % 40).toNat := by omega
    have hcell : ∀ t : Nat, t < 5 → ((w'.drew).alloc (.cells #[.int .i64 l[j], .int .i64 (l[j] % 3), .int .i64 (l[j] % 2 * 1000), .int .i64 (2 ^ (l[j] % 40).toNat), .int .i64 (l[j] * l[j])] 3)).cell? ((⟨w'.drew.heap.size, 0, none⟩ : Addr).add t) = some (.int .i64 ((cnt5 l[j]).getD t 0)) := by
      intro t ht
      obtain ⟨b, e1, e2⟩ := row_alloc w'.drew #[.int .i64 l[j], .int .i64 (l[j] % 3), .int .i64 (l[j] % 2 * 1000), .int .i64 (2 ^ (l[j] % 40).toNat), .int .i64 (l[j] * l[j])] 3 t (.int .i64 ((cnt5 l[j]).getD t 0)) (by
        rcases t with _ | _ | _ | _ | _ | t <;> first | rfl | omega)
      cases e1
      exact e2
    generalize hz : (2 : Int) ^ (l[j] % 40).toNat = z at *
    generalize hzz : l[j] * l[j] = zz at *
    refine ⟨fun w2 => w.grownBy w2 none, hq, a, ha, by omega, by omega, l[j], hrd _ hq, by omega, a, ha, by omega, by omega, l[j], hrd _ hq, by omega, by omega, a, ha, by omega, by omega, l[j], hrd _ hq, by omega, by omega, by omega,
      a, ha, by omega, by omega, l[j], hrd _ hq, by omega, ?_⟩
    rw [hmin, Int.one_mul, hz]
    refine ⟨by omega, a, ha, by omega, by omega, l[j], hrd _ hq, by omega, a, ha, by omega, by omega, l[j], hrd _ hq, by omega, ?_⟩
    rw [hzz]
    refine ⟨by omega, grown_alloc hq _, by omega, a, ha, by omega, by omega, l[j], hrd, by omega, by omega, by omega, by omega, _, rfl, by omega, by omega, _, hcell _ (by omega), grown_alloc (grown_alloc hq _) _, ?_⟩
    obtain ⟨A2, n2, c2, w2, e1, e2, e3⟩ := hrun ((cnt5 l[j]).getD ((k + l[j] % 7) % 5).toNat 0)
    exact ⟨A2, n2, c2, w2, e1, e3, by omega, l.length - (j + 1), by omega, j + 1, by omega, by omega, rfl, by rw [htake, hcnt]; exact e2, e3⟩
  · have : j = l.length := by omega
    subst this
    rw [List.take_length] at ho
    exact ⟨A', n', c', rfl, ho, hg⟩

theorem run_neq (s t : Operand) (a b : Bool) (w : World) : Sem.run P (do eqGuard .neq 4 s t (.bool a) (.bool b); Go.binOp .neq 4 (.bool a) (.bool b) : Sem Value) w = .ok (.bool (a != b)) w := by
  cases a <;> cases b <;> kernel_rfl
end Go.Proofs.Ytmenmmgfdakeeaa

/-! archipelagoref5: clamp, Cost, Kraft: what they compute. -/
namespace Go.Proofs.Ytmenmmgfdakeeaa
open Go Go.V Go.RowKit
set_option linter.unusedVariables false
set_option linter.unusedSimpArgs false
set_option maxHeartbeats 2000000
set_option maxRecDepth 100000

theorem clamp_calls {n : Int} {w : World} {R : Ending → World → Prop} (h : R (.returned (.int .i64 (manyL n))) w) : Calls P 85 #[.int .i64 n] w R := vc85 n w R h

theorem refCost_calls {w : World} {A B : Option Addr} {n c m d : Nat} {xs ys : List Int} (hA : Row w A (ints xs)) (hB : Row w B (ints ys)) (hn : n = xs.length) (hm : m = ys.length) (hb : n ≤ 2 ^ 10) (hy : ∀ y ∈ ys, 0 ≤ y ∧ y ≤ 2 ^ 10) :
    Calls P 29 #[.slice A n c, .slice B m d] w fun ev w' => ev = .returned (.int .i64 (costL xs ys)) ∧ w.grownBy w' none := by
  apply vc29; unfold VC29
  simp only [InK]
  refine ⟨fun ms s i w' => ∃ k : Nat, i = (k : Int) ∧ k ≤ min xs.length ys.length ∧ ms = min xs.length ys.length - k ∧ s = costL (xs.take k) (ys.take k) ∧ w.grownBy w' none, ⟨_, 0, rfl, by omega, rfl, by simp [costL], grown_refl _ _⟩, ?_⟩
  rintro ms s i w' ⟨k, rfl, hk, rfl, rfl, hg⟩
  have fin : min xs.length ys.length ≤ k → (Ending.returned (.int .i64 (costL (xs.take k) (ys.take k))) = .returned (.int .i64 (costL xs ys)) ∧ w.grownBy w' none) := by
    intro h
    rw [costL_take _ _ _ h]
    exact ⟨rfl, hg⟩
  refine ⟨fun hlt => ⟨fun hlt2 => ?_, fun hge => fin (by omega)⟩, fun hge => fin (by omega)⟩
  have l1 : k < xs.length := by omega
  have l2 : k < ys.length := by omega
  obtain ⟨a, ha1, ha2⟩ := (hA.kept_none hg) k (.int .i64 xs[k]) (by simp [ints, l1])
  have b0 := costL_bound (xs.take k) (ys.take k) (2 ^ 10) (by omega) (fun y hy' => hy y (List.mem_of_mem_take hy'))
  have hl : ((xs.take k).length : Int) ≤ 2 ^ 10 := by simp; omega
  have hy' := hy ys[k] (List.getElem_mem l2)
  have hc := manyL_bound xs[k]
  have h1 : 0 ≤ manyL xs[k] * ys[k] := Int.mul_nonneg hc.1 hy'.1
  have h2 : manyL xs[k] * ys[k] ≤ 1099511627776 * 2 ^ 10 := Int.mul_le_mul hc.2 hy'.2 hy'.1 (by omega)
  have hs := costL_snoc xs ys k l1 l2
  have b1 : 1099511627776 * (2 ^ 10 : Int) * ((xs.take k).length : Int) ≤ 1099511627776 * 2 ^ 10 * 2 ^ 10 := Int.mul_le_mul_of_nonneg_left hl (by omega)
  refine ⟨fun w2 => w.grownBy w2 none, grown_drew hg, a, ha1, by omega, by omega, xs[k], ha2, ?_⟩
  refine clamp_calls ⟨_, rfl, grown_drew hg, ?_⟩
  obtain ⟨b, hb1, hb2⟩ := hB k (.int .i64 ys[k]) (by simp [ints, l2])
  have hrd : ∀ w2 : World, w.grownBy w2 none → w2.cell? (b.add (k : Int).toNat) = some (.int .i64 ys[k]) := by
    intro w2 h
    obtain ⟨b', e1, e2⟩ := (hB.kept_none h) k (.int .i64 ys[k]) (by simp [ints, l2])
    rw [hb1] at e1
    cases e1
    exact e2
  exact ⟨b, hb1, by omega, by omega, ys[k], hrd, by omega, by omega, by omega, min xs.length ys.length - (k + 1), by omega, k + 1, by omega, by omega, rfl, by omega, grown_drew hg⟩
theorem refKraft_calls {w : World} {A : Option Addr} {n c : Nat} {xs : List Int} (hA : Row w A (ints xs)) (hn : n = xs.length) (hb : n ≤ 2 ^ 40) :
    Calls P 27 #[.slice A n c] w fun ev w' => ev = .returned (.int .i64 (kraftL xs)) ∧ w.grownBy w' none := by
  apply vc27; unfold VC27
  simp only [InK]
  refine ⟨fun ms s i w' => ∃ k : Nat, i = (k : Int) ∧ k ≤ xs.length ∧ ms = xs.length - k ∧ s = kraftL (xs.take k) ∧ w.grownBy w' none, ⟨_, 0, rfl, by omega, rfl, by simp [kraftL], grown_refl _ _⟩, ?_⟩
  rintro ms s i w' ⟨k, rfl, hk, rfl, rfl, hg⟩
  refine ⟨fun hlt => ?_, fun hge => ?_⟩
  · have l1 : k < xs.length := by omega
    obtain ⟨a, ha1, ha2⟩ := (hA.kept_none hg) k (.int .i64 xs[k]) (by simp [ints, l1])
    have hs : kraftL (xs.take (k + 1)) = kraftL (xs.take k) + kraft1 xs[k] := by
      rw [List.take_succ_eq_append_getElem l1]
      simp only [kraftL, List.map_append, List.sum_append, List.map_cons, List.map_nil, List.sum_cons, List.sum_nil]
      omega
    have b1 := kraft_take_bound (xs.take k)
    have hl : (xs.take k).length = k := by simp; omega
    rw [hl] at b1
    refine ⟨a, ha1, by omega, by omega, xs[k], ha2, fun h1 => ⟨a, ha1, by omega, by omega, xs[k], ha2, fun h2 => ?_, fun h2 => ?_⟩, fun h1 => ?_⟩
    · have hv : kraft1 xs[k] = 2 ^ (15 - xs[k]).toNat := by unfold kraft1; rw [if_pos ⟨by omega, h2⟩]
      have hm : min (15 - xs[k]).toNat 64 = (15 - xs[k]).toNat := by omega
      have b2 := kraft1_bound xs[k]
      exact ⟨a, ha1, by omega, by omega, xs[k], ha2, by rw [hm, Int.one_mul, ← hv]; exact ⟨by omega, by omega, by omega, by omega, xs.length - (k + 1), by omega, k + 1, by omega, by omega, rfl, hs.symm, hg⟩⟩
    · have hv : kraft1 xs[k] = 0 := by unfold kraft1; rw [if_neg (by omega)]
      exact ⟨by omega, xs.length - (k + 1), by omega, k + 1, by omega, by omega, rfl, by rw [hs, hv]; omega, hg⟩
    · have hv : kraft1 xs[k] = 0 := by unfold kraft1; rw [if_neg (by omega)]
      exact ⟨by omega, xs.length - (k + 1), by omega, k + 1, by omega, by omega, rfl, by rw [hs, hv]; omega, hg⟩
  · have : k = xs.length := by omega
    subst this
    rw [List.take_length]
    exact ⟨rfl, hg⟩
end Go.Proofs.Ytmenmmgfdakeeaa

/-! archipelagoref5: coins in memory; merged: what it computes. -/
namespace Go.Proofs.Ytmenmmgfdakeeaa
open Go Go.V Go.RowKit
set_option linter.unusedVariables false
set_option linter.unusedSimpArgs false
set_option maxHeartbeats 2000000
set_option maxRecDepth 100000

theorem elemCoin : ElemK P 133 136 2 (P.bytesOf 136) := ⟨(P.info? 136).getD default, ((P.info? 136).getD default).zero.getD undef, by kernel_rfl, by kernel_rfl, by kernel_rfl, by kernel_rfl, by kernel_rfl, by kernel_rfl, by omega⟩
theorem bytesCoin : P.bytesOf 136 ≤ 64 := of_decide_eq_true (by kernel_rfl)

/-- A coin as it lies in a row: its count, the slice of its symbols. -/
structure RC where
  count : Int
  A : Option Addr
  n : Nat
  c : Nat
  syms : List Nat

def rcCells (r : RC) : List Value := [.int .i64 r.count, .slice r.A r.n r.c]
def rcs (L : List RC) : List Value := L.flatMap rcCells
def rcCoin (r : RC) : Coin := (r.count, r.syms)

theorem rcs_length (L : List RC) : (rcs L).length = L.length * 2 := by
  induction L with
  | nil => rfl
  | cons r L ih =>
    have : rcs (r :: L) = rcCells r ++ rcs L := rfl
    rw [this, List.length_append, ih]; simp [rcCells]; omega
theorem rcs_append (L M : List RC) : rcs (L ++ M) = rcs L ++ rcs M := by simp [rcs]
theorem rcs_get : ∀ {L : List RC} {i : Nat} (h : i < L.length), (rcs L)[i * 2]? = some (.int .i64 L[i].count) ∧ (rcs L)[i * 2 + 1]? = some (.slice L[i].A L[i].n L[i].c)
  | r :: L, 0, h => by simp [rcs, rcCells]
  | r :: L, i + 1, h => by
    have ih := rcs_get (L := L) (i := i) (by simpa using h)
    have e : rcs (r :: L) = .int .i64 r.count :: .slice r.A r.n r.c :: rcs L := rfl
    rw [e, show (i + 1) * 2 = (i * 2 + 1) + 1 by omega]
    simpa using ih
theorem rcs_drop (L : List RC) (k : Nat) : (rcs L).drop (k * 2) = rcs (L.drop k) := by
  induction L generalizing k with
  | nil => simp [rcs]
  | cons r L ih =>
    cases k with
    | zero => simp
    | succ k =>
      have e : rcs (r :: L) = .int .i64 r.count :: .slice r.A r.n r.c :: rcs L := rfl
      rw [e, show (k + 1) * 2 = (k * 2 + 1) + 1 by omega]
      simpa using ih k
theorem rcs_take (L : List RC) (k : Nat) : (rcs L).take (k * 2) = rcs (L.take k) := by
  induction L generalizing k with
  | nil => simp [rcs]
  | cons r L ih =>
    cases k with
    | zero => simp [rcs]
    | succ k =>
      have e : rcs (r :: L) = .int .i64 r.count :: .slice r.A r.n r.c :: rcs L := rfl
      have e2 : rcs (r :: L.take k) = .int .i64 r.count :: .slice r.A r.n r.c :: rcs (L.take k) := rfl
      rw [e, show (k + 1) * 2 = (k * 2 + 1) + 1 by omega, List.take_succ_cons, List.take_succ_cons, ih k, List.take_succ_cons, e2]

abbrev nats (s : List Nat) : List Value := s.map fun x : Nat => Value.int .i64 (x : Int)

/-- A coin's symbols stand in memory, in a block of numbers that is not G. -/
def SymOk (w : World) (G : Option Nat) (r : RC) : Prop :=
  Row w r.A (nats r.syms) ∧ r.n = r.syms.length ∧ 0 < r.n ∧ ∀ a, r.A = some a → some a.block ≠ G ∧ ∃ (cur : Array Value) (fr : Nat × Nat), w.heap[a.block]? = some (.cells cur 3 fr)

theorem SymOk.keep {w w' : World} {G : Option Nat} {r : RC} {q : Option Nat} (h : SymOk w G r) (hg : w.grownBy w' q) (hq : ∀ g, q = some g → some g = G ∨ ∃ (cur : Array Value) (e : TypeId) (fr : Nat × Nat), w.heap[g]? = some (.cells cur e fr) ∧ e ≠ 3) : SymOk w' G r := by
  obtain ⟨h1, h2, h3, h4⟩ := h
  have hne : ∀ a, r.A = some a → some a.block ≠ q := by
    intro a ha e
    obtain ⟨h5, cur, fr, h6⟩ := h4 a ha
    rcases hq a.block e.symm with h | ⟨cur', e', fr', h7, h8⟩
    · exact h5 h
    · rw [h6] at h7
      cases h7
      exact h8 rfl
  refine ⟨h1.kept hg hne, h2, h3, fun a ha => ?_⟩
  obtain ⟨h5, cur, fr, h6⟩ := h4 a ha
  exact ⟨h5, cur, fr, by rw [hg.block a.block (Array.getElem?_eq_some_iff.1 h6).1 (hne a ha)]; exact h6⟩
theorem SymOk.keep_none {w w' : World} {G : Option Nat} {r : RC} (h : SymOk w G r) (hg : w.grownBy w' none) : SymOk w' G r := h.keep hg (by simp)

/-- A fresh row of symbols. -/
theorem SymOk.fresh {w : World} {G : Option Nat} {base n c : Nat} {A : Option Addr} {s : List Nat} (ho : OwnedK w base 3 1 A n c (nats s)) (hs : 0 < s.length) (hG : ∀ g, G = some g → g < base) (k : Int) : SymOk w G ⟨k, A, n, c, s⟩ := by
  obtain ⟨h1, h2 | ⟨g, cur, rfl, hb, _, _, hh, _⟩⟩ := ho.cases
  · obtain ⟨rfl, rfl, _, h⟩ := h2
    have : s = [] := by simpa using h
    subst this; simp at hs
  · have hn : n = s.length := by simpa using h1.symm
    refine ⟨ho.row, hn, by show 0 < n; omega, fun a ha => ?_⟩
    cases ha
    refine ⟨fun e => ?_, cur, (0, 0), hh⟩
    have := hG g e.symm
    omega

theorem elemKInt : ElemK P 22 3 1 8 := ⟨(P.info? 3).getD default, .int .i64 0, by kernel_rfl, by kernel_rfl, by kernel_rfl, by kernel_rfl, by kernel_rfl, by kernel_rfl, by omega⟩

/-- Symbols behind symbols. -/
theorem syms_append {w : World} {base n c m d : Nat} {A B : Option Addr} {s t : List Nat} (ho : OwnedK w base 3 1 A n c (nats s)) (hB : Row w B (nats t)) (hm : m = t.length) (ht : 0 < m) (hn : n + m ≤ 2 ^ 40) (hb : base ≤ w.heap.size) :
    ∃ (A' : Option Addr) (n' c' : Nat) (w' : World), Sem.run P (Builtin.append_ #[22, 22] 22 #[.slice A n c, .slice B m d]) w = .ok (.slice A' n' c') w' ∧ OwnedK w' base 3 1 A' n' c' (nats (s ++ t)) ∧ n' = n + m ∧ w.grownBy w' (Value.slice A n c).ownBlock := by
  cases t with
  | nil => simp at hm; omega
  | cons x t =>
    obtain ⟨a, rfl, _⟩ := hB 0 (.int .i64 (x : Int)) (by simp [nats])
    obtain ⟨A', n', c', w', h1, h2, h3, h4, _⟩ := ho.appends (ty := 22) elemKInt (by omega) (a := a) (m := m) (cc := d) (us := nats (x :: t)) (by simp [nats, hm]) (fun j u hj => by obtain ⟨b, e1, e2⟩ := hB j u hj; cases e1; exact e2) (fun u hu => by obtain ⟨y, _, rfl⟩ := List.mem_map.1 hu; rfl) hn hb
    exact ⟨A', n', c', w', h1, by simpa [nats] using h2, h3, h4⟩

/-- One coin behind a row of coins. -/
theorem coin_append {w : World} {base n c : Nat} {A : Option Addr} {L : List RC} {r : RC} (ho : OwnedK w base 136 2 A n c (rcs L)) (hn : n ≤ 2 ^ 30) (hb : base ≤ w.heap.size) :
    ∃ (A' : Option Addr) (n' c' : Nat) (w' : World), Sem.run P (Builtin.append_ #[133, 133] 133 #[.slice A n c, .slice (some ⟨w.heap.size, 0, none⟩) 1 1]) (w.alloc (.cells #[.int .i64 r.count, .slice r.A r.n r.c] 136)) = .ok (.slice A' n' c') w' ∧
      OwnedK w' base 136 2 A' n' c' (rcs (L ++ [r])) ∧ n' = n + 1 ∧ w.grownBy w' (Value.slice A n c).ownBlock ∧
      ((Value.slice A' n' c').ownBlock = (Value.slice A n c).ownBlock ∨ ∃ g, (Value.slice A' n' c').ownBlock = some g ∧ w.heap.size ≤ g) := by
  have g := World.grownBy_alloc w (.cells #[.int .i64 r.count, .slice r.A r.n r.c] 136) none
  have hr := row_alloc w #[.int .i64 r.count, .slice r.A r.n r.c] 136
  obtain ⟨A', n', c', w', h1, h2, h3, h4, h5⟩ := (ho.kept g).appends (ty := 133) elemCoin bytesCoin (a := ⟨w.heap.size, 0, none⟩) (m := 1) (cc := 1) (us := rcCells r) rfl (fun j u hj => by obtain ⟨b, e1, e2⟩ := hr j u hj; cases e1; exact e2) (fun u hu => by simp [rcCells] at hu; rcases hu with rfl | rfl <;> rfl) (by omega) (Nat.le_trans hb g.size)
  exact ⟨A', n', c', w', h1, by rw [rcs_append]; simpa [rcs] using h2, h3, grown_trans (grown_none g) h4, h5.imp id fun h => ⟨_, h, g.size⟩⟩
end Go.Proofs.Ytmenmmgfdakeeaa

/-! archipelagoref5.merged: what it computes. -/
namespace Go.Proofs.Ytmenmmgfdakeeaa
open Go Go.V Go.RowKit
set_option linter.unusedVariables false
set_option linter.unusedSimpArgs false
set_option maxHeartbeats 4000000
set_option maxRecDepth 100000

/-- A new coin's two cells are laid. -/
theorem lay_coin {w : World} {g : Nat} {x y : Value} {u v : Value} (h : w.heap[g]? = some (.cells #[x, y] 136 (0, 0))) :
    (∃ z, w.cell? ⟨g, 0, none⟩ = some z) ∧ w.frozen? ⟨g, 0, none⟩ = false ∧ (∃ z, (w.setCell ⟨g, 0, none⟩ u).cell? ⟨g, 1, none⟩ = some z) ∧ (w.setCell ⟨g, 0, none⟩ u).frozen? ⟨g, 1, none⟩ = false ∧
    ((w.setCell ⟨g, 0, none⟩ u).setCell ⟨g, 1, none⟩ v).heap[g]? = some (.cells #[u, v] 136 (0, 0)) ∧ w.grownBy ((w.setCell ⟨g, 0, none⟩ u).setCell ⟨g, 1, none⟩ v) (some g) := by
  have h1 : (w.setCell ⟨g, 0, none⟩ u).heap[g]? = some (.cells #[u, y] 136 (0, 0)) := by simp [World.setCell, Array.getElem?_modify, h]
  refine ⟨⟨x, by simp [World.cell?, h]⟩, by simp [World.frozen?, h], ⟨y, by simp [World.cell?, h1]⟩, by simp [World.frozen?, h1], ?_, ?_⟩
  · simp only [World.setCell] at h1 ⊢
    simp [Array.getElem?_modify, h]
  · exact grown_set (g := g) (p := ⟨g, 1, none⟩) (grown_set (g := g) (p := ⟨g, 0, none⟩) (grown_refl _ _) rfl _) rfl _

theorem row_rc {w : World} {A : Option Addr} {L : List RC} (h : Row w A (rcs L)) {i : Nat} (hi : i < L.length) : ∃ a, A = some a ∧ w.cell? (a.add (i * 2)) = some (.int .i64 L[i].count) ∧ w.cell? ((a.add (i * 2)).add 1) = some (.slice L[i].A L[i].n L[i].c) := by
  obtain ⟨h1, h2⟩ := rcs_get hi
  obtain ⟨a, e1, e2⟩ := h _ _ h1
  obtain ⟨b, e3, e4⟩ := h _ _ h2
  rw [e1] at e3
  cases e3
  exact ⟨a, e1, e2, by rw [add_add]; exact e4⟩

theorem merged_calls {w : World} {G : Option Nat} {A B : Option Addr} {n c m d : Nat} {C L : List RC} (hA : Row w A (rcs C)) (hB : Row w B (rcs L)) (hn : n = C.length) (hm : m = L.length)
    (hC : ∀ x ∈ C, SymOk w G x) (hL : ∀ x ∈ L, SymOk w G x) (hG : ∀ g, G = some g → g < w.heap.size) (hcA : n ≤ c) (hnb : n ≤ 2 ^ 20) (hmb : m ≤ 2 ^ 20) (hb : ∀ x ∈ L, 0 ≤ x.count ∧ x.count ≤ 2 ^ 60 ∧ x.syms.length ≤ 2 ^ 30) (hn0 : 0 < n) :
    Calls P 86 #[.slice A n c, .slice B m d] w fun ev w' => ∃ (A' : Option Addr) (n' c' : Nat) (O : List RC), ev = .returned (.slice A' n' c') ∧ OwnedK w' w.heap.size 136 2 A' n' c' (rcs O) ∧ n' = O.length ∧ (∀ x ∈ O, SymOk w' G x) ∧
      O.map rcCoin = packedL (C.map rcCoin) (L.map rcCoin) ∧ w.grownBy w' none := by
  apply vc86; unfold VC86
  simp only [InK]
  refine ⟨fun ms A' n' c' k i w' => ∃ (kn j : Nat) (O : List RC), k = (kn : Int) ∧ i = ((2 * j : Nat) : Int) ∧ kn ≤ C.length ∧ 2 * j ≤ L.length ∧ O.length ≤ kn + j ∧ ms = L.length - 2 * j ∧ OwnedK w' w.heap.size 136 2 A' n' c' (rcs O) ∧ n' = O.length ∧ (∀ x ∈ O, SymOk w' G x) ∧
      O.map rcCoin ++ mergeC ((C.drop kn).map rcCoin) (packs ((L.drop (2 * j)).map rcCoin)) = packedL (C.map rcCoin) (L.map rcCoin) ∧ w.grownBy w' none,
    ⟨_, 0, 0, [], rfl, rfl, by omega, by omega, by simp, rfl, OwnedK.nil _ _ _ _, rfl, by simp, by simp [packedL], grown_refl _ _⟩, ?_⟩
  rintro ms A' n' c' k i w' ⟨kn, j, O, rfl, rfl, hk, hj, hOl, rfl, ho, hn', hO, heq, hg⟩
  refine ⟨by omega, fun hlt => ?_, fun hge => ?_⟩
  · have l1 : 2 * j < L.length := by omega
    have l2 : 2 * j + 1 < L.length := by omega
    have hdrop : L.drop (2 * j) = L[2 * j] :: L[2 * j + 1] :: L.drop (2 * (j + 1)) := by
      rw [List.drop_eq_getElem_cons l1, List.drop_eq_getElem_cons l2]; rfl
    have ba := hb _ (List.getElem_mem l1)
    have bb := hb _ (List.getElem_mem l2)
    have sa := hL _ (List.getElem_mem l1)
    have sb := hL _ (List.getElem_mem l2)
    generalize hra : L[2 * j] = ra at *
    generalize hrb : L[2 * j + 1] = rb at *
    obtain ⟨a, ha, _, _⟩ := row_rc hB l1
    have rd : ∀ w2 : World, w'.grownBy w2 none → w2.cell? (a.add (2 * j * 2)) = some (.int .i64 ra.count) ∧ w2.cell? ((a.add (2 * j * 2)).add 1) = some (.slice ra.A ra.n ra.c) ∧
        w2.cell? (a.add ((2 * j + 1) * 2)) = some (.int .i64 rb.count) ∧ w2.cell? ((a.add ((2 * j + 1) * 2)).add 1) = some (.slice rb.A rb.n rb.c) := by
      intro w2 h
      obtain ⟨b, e1, e2, e3⟩ := row_rc (hB.kept_none (grown_trans hg h)) l1
      obtain ⟨b', e4, e5, e6⟩ := row_rc (hB.kept_none (grown_trans hg h)) l2
      rw [ha] at e1 e4
      cases e1; cases e4
      rw [hra] at e2 e3
      rw [hrb] at e5 e6
      exact ⟨e2, e3, e5, e6⟩
    have t1 : ((2 * j : Nat) : Int).toNat = 2 * j := by omega
    have t2 : (((2 * j : Nat) : Int) + 1).toNat = 2 * j + 1 := by omega
    rw [t1, t2]
    -- what is made
    have hsz : ∀ g, G = some g → g < w'.heap.size := fun g h => Nat.lt_of_lt_of_le (hG g h) hg.size
    have sa1 : ∀ w2, w'.grownBy w2 none → SymOk w2 G ra := fun w2 h => (sa.keep_none hg).keep_none h
    have sb1 : ∀ w2, w'.grownBy w2 none → SymOk w2 G rb := fun w2 h => (sb.keep_none hg).keep_none h
    -- the two appends, from any world that has grown
    have app1 : ∀ w2, w'.grownBy w2 none → ∃ (A3 : Option Addr) (n3 c3 : Nat) (w3 : World), Sem.run P (Builtin.append_ #[22, 22] 22 #[.slice none 0 0, .slice ra.A ra.n ra.c]) w2 = .ok (.slice A3 n3 c3) w3 ∧ OwnedK w3 w2.heap.size 3 1 A3 n3 c3 (nats ra.syms) ∧ n3 = ra.n ∧ w2.grownBy w3 none := by
      intro w2 h
      obtain ⟨s1, s2, s3, _⟩ := sa1 w2 h
      obtain ⟨A3, n3, c3, w3, e1, e2, e3, e4⟩ := syms_append (s := []) (n := 0) (c := 0) (A := none) (d := ra.c) (m := ra.n) (OwnedK.nil w2 w2.heap.size 3 1) s1 s2 s3 (by have := ba.2.2; omega) (Nat.le_refl _)
      exact ⟨A3, n3, c3, w3, e1, by simpa using e2, by omega, e4⟩
    have app2 : ∀ w2 (A3 : Option Addr) (n3 c3 base : Nat), w'.grownBy w2 none → OwnedK w2 base 3 1 A3 n3 c3 (nats ra.syms) → n3 = ra.n → w'.heap.size ≤ base → base ≤ w2.heap.size → ∃ (A4 : Option Addr) (n4 c4 : Nat) (w4 : World),
        Sem.run P (Builtin.append_ #[22, 22] 22 #[.slice A3 n3 c3, .slice rb.A rb.n rb.c]) w2 = .ok (.slice A4 n4 c4) w4 ∧ OwnedK w4 base 3 1 A4 n4 c4 (nats (ra.syms ++ rb.syms)) ∧ w2.grownBy w4 (Value.slice A3 n3 c3).ownBlock ∧ w'.grownBy w4 none := by
      intro w2 A3 n3 c3 base h h2 h3 h4 h5
      obtain ⟨s1, s2, s3, _⟩ := sb1 w2 h
      obtain ⟨q1, q2, q3, _⟩ := sa1 w2 h
      obtain ⟨A4, n4, c4, w4, e1, e2, e3, e4⟩ := syms_append (d := rb.c) (m := rb.n) h2 s1 s2 s3 (by have := ba.2.2; have := bb.2.2; omega) h5
      exact ⟨A4, n4, c4, w4, e1, e2, e4, grown_own h e4 (fun k hk => Nat.le_trans h4 (h2.block_ge k hk))⟩
    -- the coin, once its symbols and its two cells are there
    have fin : ∀ (w5 : World) (gp : Nat) (A4 : Option Addr) (n4 c4 base : Nat), w'.grownBy w5 none → w'.heap.size ≤ gp → w5.heap[gp]? = some (.cells #[.int .i64 0, .slice none 0 0] 136 (0, 0)) → OwnedK w5 base 3 1 A4 n4 c4 (nats (ra.syms ++ rb.syms)) → w'.heap.size ≤ base →
        (∃ z, w5.cell? ⟨gp, 0, none⟩ = some z) ∧ w5.frozen? ⟨gp, 0, none⟩ = false ∧ (∃ z, (w5.setCell ⟨gp, 0, none⟩ (.int .i64 (ra.count + rb.count))).cell? ⟨gp, 1, none⟩ = some z) ∧ (w5.setCell ⟨gp, 0, none⟩ (.int .i64 (ra.count + rb.count))).frozen? ⟨gp, 1, none⟩ = false ∧
        w'.grownBy ((w5.setCell ⟨gp, 0, none⟩ (.int .i64 (ra.count + rb.count))).setCell ⟨gp, 1, none⟩ (.slice A4 n4 c4)) none ∧
        (∃ (r : RC) (g : Nat), r.count = ra.count + rb.count ∧ r.syms = ra.syms ++ rb.syms ∧ (⟨gp, 0, none⟩ : Addr) = ⟨g, 0, none⟩ ∧ w'.heap.size ≤ g ∧ ((w5.setCell ⟨gp, 0, none⟩ (.int .i64 (ra.count + rb.count))).setCell ⟨gp, 1, none⟩ (.slice A4 n4 c4)).heap[g]? = some (.cells #[.int .i64 r.count, .slice r.A r.n r.c] 136 (0, 0)) ∧
          SymOk ((w5.setCell ⟨gp, 0, none⟩ (.int .i64 (ra.count + rb.count))).setCell ⟨gp, 1, none⟩ (.slice A4 n4 c4)) G r ∧ w'.grownBy ((w5.setCell ⟨gp, 0, none⟩ (.int .i64 (ra.count + rb.count))).setCell ⟨gp, 1, none⟩ (.slice A4 n4 c4)) none) := by
      intro w5 gp A4 n4 c4 base h1 h2 h3 h4 h5
      obtain ⟨k1, k2, k3, k4, k5, k6⟩ := lay_coin (u := .int .i64 (ra.count + rb.count)) (v := .slice A4 n4 c4) h3
      have k7 := grown_own h1 k6 (by intro q hq; cases hq; exact h2)
      refine ⟨k1, k2, k3, k4, k7, ⟨ra.count + rb.count, A4, n4, c4, ra.syms ++ rb.syms⟩, gp, rfl, rfl, rfl, h2, k5, ?_, k7⟩
      have hpos : 0 < (ra.syms ++ rb.syms).length := by have := sa.2.1; have := sa.2.2.1; simp; omega
      refine (SymOk.fresh (G := G) h4 hpos (fun g hg2 => Nat.lt_of_lt_of_le (hsz g hg2) h5) (ra.count + rb.count)).keep k6 ?_
      intro g hg2
      cases hg2
      exact .inr ⟨_, 136, _, h3, by decide⟩
    refine ⟨fun p w6 => ∃ (r : RC) (g : Nat), r.count = ra.count + rb.count ∧ r.syms = ra.syms ++ rb.syms ∧ p = ⟨g, 0, none⟩ ∧ w'.heap.size ≤ g ∧ w6.heap[g]? = some (.cells #[.int .i64 r.count, .slice r.A r.n r.c] 136 (0, 0)) ∧ SymOk w6 G r ∧ w'.grownBy w6 none, ?_, ?_⟩
    · refine ⟨fun w2 => w'.grownBy w2 none, grown_drew (grown_refl _ _), ?_⟩
      have gd := grown_drew (grown_refl w' none)
      have sd : w'.drew.heap.size = w'.heap.size := rfl
      refine ⟨⟨⟨a, ha, by omega, by omega, ra.count, fun w2 h => (rd w2 h).1, by omega, a, ha, by omega, by omega, rb.count, fun w2 h => (rd w2 h).2.2.1, by omega, a, ha, by omega, by omega, ra.A, ra.n, ra.c, fun w2 h => (rd w2 h).2.1, ?_⟩, ⟨a, ha, by omega, by omega, ra.count, fun w2 h => (rd w2 h).1, by omega, a, ha, by omega, by omega, rb.count, fun w2 h => (rd w2 h).2.2.1, by omega, a, ha, by omega, by omega, ra.A, ra.n, ra.c, fun w2 h => (rd w2 h).2.1, ?_⟩⟩, ⟨a, ha, by omega, by omega, ra.count, fun w2 h => (rd w2 h).1, by omega, a, ha, by omega, by omega, rb.count, fun w2 h => (rd w2 h).2.2.1, by omega, a, ha, by omega, by omega, ra.A, ra.n, ra.c, fun w2 h => (rd w2 h).2.1, ?_⟩⟩
      · obtain ⟨A3, n3, c3, w3, e1, e2, e3, e4⟩ := app1 _ gd
        have g3 := grown_trans gd e4
        obtain ⟨A4, n4, c4, w4, f1, f2, f3, f4⟩ := app2 w3 A3 n3 c3 _ g3 e2 e3 (Nat.le_of_eq sd.symm) e4.size
        have g5 := World.grownBy_alloc w4 (.cells #[.int .i64 0, .slice none 0 0] 136) none
        have h5 := heap_alloc_new w4 (.cells #[.int .i64 0, .slice none 0 0] 136)
        obtain ⟨k1, k2, k3, k4, k5, k6⟩ := fin _ w4.heap.size A4 n4 c4 _ (grown_trans f4 g5) f4.size h5 (f2.kept g5) (Nat.le_of_eq sd.symm)
        exact ⟨A3, n3, c3, w3, e1, g3, by omega, a, ha, by omega, by omega, rb.A, rb.n, rb.c, fun w2 h => (rd w2 h).2.2.2, A4, n4, c4, w4, f1, f4, grown_trans f4 g5, k1, k2, k3, k4, k5, k6⟩
      · obtain ⟨A3, n3, c3, w3, e1, e2, e3, e4⟩ := app1 _ gd
        have g3 := grown_trans gd e4
        have g5 := World.grownBy_alloc w3 (.cells #[.int .i64 0, .slice none 0 0] 136) none
        have h5 := heap_alloc_new w3 (.cells #[.int .i64 0, .slice none 0 0] 136)
        obtain ⟨A4, n4, c4, w4, f1, f2, f3, f4⟩ := app2 _ A3 n3 c3 _ (grown_trans g3 g5) (e2.kept g5) e3 (Nat.le_of_eq sd.symm) (Nat.le_trans e4.size g5.size)
        have h6 : w4.heap[w3.heap.size]? = some (.cells #[.int .i64 0, .slice none 0 0] 136 (0, 0)) := by
          rw [f3.block _ (by simp) (fun e => by have := e2.block_lt _ e.symm; omega)]; exact h5
        obtain ⟨k1, k2, k3, k4, k5, k6⟩ := fin w4 w3.heap.size A4 n4 c4 _ f4 g3.size h6 f2 (Nat.le_of_eq sd.symm)
        exact ⟨A3, n3, c3, w3, e1, g3, by omega, a, ha, by omega, by omega, rb.A, rb.n, rb.c, fun w2 h => (rd w2 h).2.2.2, grown_trans g3 g5, A4, n4, c4, w4, f1, f4, k1, k2, k3, k4, k5, k6⟩
      · have g5 := grown_alloc gd (.cells #[.int .i64 0, .slice none 0 0] 136)
        have h5 := heap_alloc_new w'.drew (.cells #[.int .i64 0, .slice none 0 0] 136)
        obtain ⟨A3, n3, c3, w3, e1, e2, e3, e4⟩ := app1 _ g5
        have g3 := grown_trans g5 e4
        obtain ⟨A4, n4, c4, w4, f1, f2, f3, f4⟩ := app2 w3 A3 n3 c3 _ g3 e2 e3 g5.size e4.size
        have h6 : w3.heap[w'.drew.heap.size]? = some (.cells #[.int .i64 0, .slice none 0 0] 136 (0, 0)) := by
          rw [e4.block _ (by simp) (by simp)]; exact h5
        have h7 : w4.heap[w'.drew.heap.size]? = some (.cells #[.int .i64 0, .slice none 0 0] 136 (0, 0)) := by
          rw [f3.block _ (Array.getElem?_eq_some_iff.1 h6).1 (fun e => by have := e2.block_ge _ e.symm; simp at this; omega)]; exact h6
        obtain ⟨k1, k2, k3, k4, k5, k6⟩ := fin w4 w'.drew.heap.size A4 n4 c4 _ f4 (Nat.le_of_eq sd.symm) h7 f2 g5.size
        exact ⟨by omega, a, ha, by omega, by omega, rb.A, rb.n, rb.c, fun w2 h => (rd w2 h).2.2.2, g5, A3, n3, c3, w3, e1, g3, A4, n4, c4, w4, f1, f4, k1, k2, k3, k4, k5, k6⟩
    · rintro p w6 ⟨r, gp, hrc, hrs, rfl, hgp, hp6, hsr, g6⟩
      have hg6 : w.grownBy w6 none := grown_trans hg g6
      have hpk : w6.heap.size ≤ w6.heap.size := Nat.le_refl _
      -- coins ahead of the package
      refine ⟨fun ms A2 n2 c2 k2 w2 => ∃ (kn : Nat) (O : List RC), k2 = (kn : Int) ∧ kn ≤ C.length ∧ O.length ≤ kn + j ∧ ms = C.length - kn ∧ OwnedK w2 w.heap.size 136 2 A2 n2 c2 (rcs O) ∧ n2 = O.length ∧ ((Value.slice A2 n2 c2).ownBlock ≠ some gp) ∧ (∀ x ∈ O, SymOk w2 G x) ∧
          O.map rcCoin ++ mergeC ((C.drop kn).map rcCoin) ((ra.count + rb.count, ra.syms ++ rb.syms) :: packs ((L.drop (2 * (j + 1))).map rcCoin)) = packedL (C.map rcCoin) (L.map rcCoin) ∧ w.grownBy w2 none ∧ w2.heap[gp]? = some (.cells #[.int .i64 r.count, .slice r.A r.n r.c] 136 (0, 0)) ∧ SymOk w2 G r,
        ⟨_, kn, O, rfl, hk, by omega, rfl, ho.kept g6, hn', ?_, fun x hx => (hO x hx).keep_none g6, ?_, hg6, hp6, hsr⟩, ?_⟩
      · intro e
        have := ho.block_lt _ e
        omega
      · rw [← heq, hdrop]
        rfl
      clear heq ho hO hOl hk hn'
      rintro ms A2 n2 c2 k2 w2 ⟨kn, O, rfl, hk, hOl, rfl, ho, hn2, hne, hO, heq, hg2, hp2, hs2⟩
      -- one coin more
      have one : ∀ (x : RC), SymOk w2 G x → ∃ (A4 : Option Addr) (n4 c4 : Nat), ∃ w4 : World,
          Sem.run P (Builtin.append_ #[133, 133] 133 #[.slice A2 n2 c2, .slice (some ⟨w2.drew.heap.size, 0, none⟩) 1 1]) (w2.drew.alloc (.cells #[.int .i64 x.count, .slice x.A x.n x.c] 136)) = .ok (.slice A4 n4 c4) w4 ∧
          OwnedK w4 w.heap.size 136 2 A4 n4 c4 (rcs (O ++ [x])) ∧ n4 = (O ++ [x]).length ∧ w.grownBy w4 none ∧ (∀ y ∈ O ++ [x], SymOk w4 G y) ∧ SymOk w4 G r ∧ w4.heap[gp]? = some (.cells #[.int .i64 r.count, .slice r.A r.n r.c] 136 (0, 0)) ∧ (Value.slice A4 n4 c4).ownBlock ≠ some gp := by
        intro x hx
        have g3 := grown_drew (grown_refl w2 none)
        have s3 : w2.drew.heap.size = w2.heap.size := rfl
        obtain ⟨A4, n4, c4, w4, h3, h4, h5, h6, hat⟩ := coin_append (r := x) (ho.kept g3) (by omega) (show w.heap.size ≤ w2.drew.heap.size from hg2.size)
        have hq : ∀ g, (Value.slice A2 n2 c2).ownBlock = some g → some g = G ∨ ∃ (cur : Array Value) (e : TypeId) (fr : Nat × Nat), w2.drew.heap[g]? = some (.cells cur e fr) ∧ e ≠ 3 := by
          intro g hg3
          obtain ⟨cur, h7⟩ := ho.block_type g hg3
          exact .inr ⟨cur, 136, _, h7, by decide⟩
        have keep : ∀ y, SymOk w2 G y → SymOk w4 G y := fun y hy => (hy.keep_none g3).keep h6 hq
        refine ⟨A4, n4, c4, w4, h3, h4, by rw [h5, hn2]; simp, grown_own (grown_drew hg2) h6 (ho.kept g3).block_ge, ?_, keep r hs2, ?_, ?_⟩
        · intro y hy
          rcases List.mem_append.1 hy with e | e
          · exact keep y (hO y e)
          · have : y = x := by simpa using e
            subst this; exact keep y hx
        · rw [h6.block gp (Array.getElem?_eq_some_iff.1 hp2).1 (fun e => hne e.symm)]
          exact hp2
        · rcases hat with e | ⟨g, e, hge⟩
          · rw [e]; exact hne
          · rw [e]
            intro hh
            have h7 := (Array.getElem?_eq_some_iff.1 hp2).1
            have h8 : w2.heap.size ≤ g := hge
            cases hh
            omega
      have last : (∀ ps, mergeC ((C.drop kn).map rcCoin) ((ra.count + rb.count, ra.syms ++ rb.syms) :: ps) = (ra.count + rb.count, ra.syms ++ rb.syms) :: mergeC ((C.drop kn).map rcCoin) ps) → ∃ (A4 : Option Addr) (n4 c4 : Nat), ∃ w4 : World,
          Sem.run P (Builtin.append_ #[133, 133] 133 #[.slice A2 n2 c2, .slice (some ⟨w2.drew.heap.size, 0, none⟩) 1 1]) (w2.drew.alloc (.cells #[.int .i64 r.count, .slice r.A r.n r.c] 136)) = .ok (.slice A4 n4 c4) w4 ∧
          (-9223372036854775808 ≤ ((2 * j : Nat) : Int) + 2 ∧ ((2 * j : Nat) : Int) + 2 ≤ 9223372036854775807) ∧ ∃ ms, ms < L.length - 2 * j ∧ ∃ (kn' j' : Nat) (O : List RC), (kn : Int) = (kn' : Int) ∧ ((2 * j : Nat) : Int) + 2 = ((2 * j' : Nat) : Int) ∧ kn' ≤ C.length ∧ 2 * j' ≤ L.length ∧ O.length ≤ kn' + j' ∧ ms = L.length - 2 * j' ∧ OwnedK w4 w.heap.size 136 2 A4 n4 c4 (rcs O) ∧ n4 = O.length ∧ (∀ x ∈ O, SymOk w4 G x) ∧
        O.map rcCoin ++ mergeC ((C.drop kn').map rcCoin) (packs ((L.drop (2 * j')).map rcCoin)) = packedL (C.map rcCoin) (L.map rcCoin) ∧ w.grownBy w4 none := by
        intro hmerge
        obtain ⟨A4, n4, c4, w4, h1, h2, h3, h4, h5, _⟩ := one r hs2
        refine ⟨A4, n4, c4, w4, h1, by omega, L.length - 2 * (j + 1), by omega, kn, j + 1, O ++ [r], rfl, by omega, hk, by omega, by simp; omega, rfl, h2, h3, h5, ?_, h4⟩
        rw [← heq, hmerge]
        have : rcCoin r = (ra.count + rb.count, ra.syms ++ rb.syms) := by simp [rcCoin, hrc, hrs]
        simp [this]
      have cp1 : w2.drew.cell? ⟨gp, 0, none⟩ = some (.int .i64 r.count) := by show w2.cell? _ = _; simp [World.cell?, hp2]
      have cp2 : w2.drew.cell? ((⟨gp, 0, none⟩ : Addr).add 1) = some (.slice r.A r.n r.c) := by show w2.cell? _ = _; rw [add_lit]; simp [World.cell?, hp2]
      refine ⟨fun hlt2 => ?_, fun hge2 => ?_⟩
      · have l3 : kn < C.length := by omega
        obtain ⟨q, hq1, hq2, hq3⟩ := row_rc (hA.kept_none (grown_drew hg2)) l3
        have hdc : (C.drop kn).map rcCoin = rcCoin C[kn] :: (C.drop (kn + 1)).map rcCoin := by
          rw [List.drop_eq_getElem_cons l3]; rfl
        have tk : (kn : Int).toNat = kn := by omega
        rw [tk]
        refine ⟨q, hq1, by omega, by omega, C[kn].count, hq2, r.count, cp1, fun hle => ?_, fun hgt => ?_⟩
        · refine ⟨q, hq1, by omega, by omega, C[kn].count, hq2, C[kn].A, C[kn].n, C[kn].c, hq3, ?_⟩
          obtain ⟨A4, n4, c4, w4, h1, h2, h3, h4, h5, h6, h7, h8⟩ := one C[kn] ((hC _ (List.getElem_mem l3)).keep_none hg2)
          refine ⟨A4, n4, c4, w4, h1, by omega, C.length - (kn + 1), by omega, kn + 1, O ++ [C[kn]], by omega, by omega, by simp; omega, rfl, h2, h3, h8, h5, ?_, h4, h7, h6⟩
          rw [← heq, hdc, mergeC_le (show (rcCoin C[kn]).1 ≤ ra.count + rb.count by rw [← hrc]; exact hle)]
          simp
        · refine ⟨r.count, cp1, r.A, r.n, r.c, cp2, last fun ps => ?_⟩
          rw [hdc]
          exact mergeC_gt (by show ¬ (rcCoin C[kn]).1 ≤ ra.count + rb.count; rw [← hrc]; exact hgt)
      · have : kn = C.length := by omega
        refine ⟨r.count, cp1, r.A, r.n, r.c, cp2, last fun ps => ?_⟩
        rw [this, List.drop_length]
        exact mergeC_none
  · have hend : packs ((L.drop (2 * j)).map rcCoin) = [] := by
      have : (L.drop (2 * j)).length ≤ 1 := by simp; omega
      match h : L.drop (2 * j) with
      | [] => rfl
      | [x] => simp [packs]
      | x :: y :: r => rw [h] at this; simp at this
    rw [hend] at heq
    simp only [mergeC] at heq
    have kt : (kn : Int).toNat = kn := by omega
    refine ⟨by omega, ?_⟩
    rw [kt]
    obtain ⟨a, ha, _⟩ := row_rc hA (show 0 < C.length by omega)
    subst ha
    have hrow : ∃ a', cutA (some a) c kn 2 = some a' ∧ ∀ j u, (rcs (C.drop kn))[j]? = some u → w'.cell? (a'.add j) = some u := by
      by_cases hck : c = kn
      · refine ⟨a, by simp [cutA, hck], fun j u hj => ?_⟩
        have : C.drop kn = [] := List.drop_eq_nil_of_le (by omega)
        rw [this] at hj; simp [rcs] at hj
      · refine ⟨a.add (kn * 2), by simp [cutA, hck], fun j u hj => ?_⟩
        obtain ⟨a2, h1, h2⟩ := ((hA.kept_none hg).drop (kn * 2)) j u (by rw [rcs_drop]; exact hj)
        cases h1
        exact h2
    obtain ⟨a', ha1, ha2⟩ := hrow
    obtain ⟨A4, n4, c4, w4, h1, h2, h3, h4, _⟩ := ho.appends (ty := 133) elemCoin bytesCoin (cc := c - kn) (m := n - kn) (by rw [rcs_length]; simp; omega) ha2 (fun u hu => by
      obtain ⟨x, _, hx⟩ := List.mem_flatMap.1 hu
      simp [rcCells] at hx
      rcases hx with rfl | rfl <;> rfl) (by omega) hg.size
    have hq : ∀ g, (Value.slice A' n' c').ownBlock = some g → some g = G ∨ ∃ (cur : Array Value) (e : TypeId) (fr : Nat × Nat), w'.heap[g]? = some (.cells cur e fr) ∧ e ≠ 3 := by
      intro g hg3
      obtain ⟨cur, h7⟩ := ho.block_type g hg3
      exact .inr ⟨cur, 136, _, h7, by decide⟩
    refine ⟨A4, n4, c4, w4, by rw [ha1]; exact h1, A4, n4, c4, O ++ C.drop kn, rfl, by rw [rcs_append]; exact h2, by rw [h3, hn']; simp; omega, ?_, ?_, grown_own hg h4 ho.block_ge⟩
    · intro x hx
      rcases List.mem_append.1 hx with e | e
      · exact (hO x e).keep h4 hq
      · exact ((hC x (List.mem_of_mem_drop e)).keep_none hg).keep h4 hq
    · rw [← heq]; simp
end Go.Proofs.Ytmenmmgfdakeeaa

/-! archipelagoref5.Lengths: what it computes. -/
namespace Go.Proofs.Ytmenmmgfdakeeaa
open Go Go.V Go.RowKit
set_option linter.unusedVariables false
set_option linter.unusedSimpArgs false
set_option maxHeartbeats 4000000
set_option maxRecDepth 100000

theorem ins_at {α : Type} {key : α → Int} {x : α} : ∀ {l : List α} {k : Nat}, k ≤ l.length → (∀ i (h : i < l.length), i < k → key l[i] ≤ key x) → (∀ i (h : i < l.length), k ≤ i → key x < key l[i]) → ins key x l = l.take k ++ x :: l.drop k
  | [], k, hk, _, _ => by simp [ins]
  | y :: l, 0, _, _, h2 => by
    have := h2 0 (by simp) (by omega)
    simp only [List.getElem_cons_zero] at this
    simp [ins, show ¬ key y ≤ key x by omega]
  | y :: l, k + 1, hk, h1, h2 => by
    have := h1 0 (by simp) (by omega)
    simp only [List.getElem_cons_zero] at this
    have ih := ins_at (key := key) (x := x) (l := l) (k := k) (by simpa using hk) (fun i h hi => h1 (i + 1) (by simp; omega) (by omega)) (fun i h hi => h2 (i + 1) (by simp; omega) (by omega))
    simp [ins, this, ih]

theorem coinsL_snoc {xs : List Int} {s : Nat} (hs : s < xs.length) : coinsL (xs.take (s + 1)) = if xs[s] > 0 then ins Prod.fst (manyL xs[s], [s]) (coinsL (xs.take s)) else coinsL (xs.take s) := by
  unfold coinsL
  rw [List.take_succ_eq_append_getElem hs, rawCoins_append]
  have hl : (xs.take s).length = s := by simp; omega
  rw [hl, Nat.zero_add]
  have e : rawCoins s [xs[s]] = if xs[s] > 0 then [(manyL xs[s], [s])] else [] := by simp [rawCoins]
  rw [e]
  split
  · simp [inOrder, List.foldl_append]
  · simp

theorem rc_appends {w : World} {base n c m d : Nat} {A B : Option Addr} {L M : List RC} (ho : OwnedK w base 136 2 A n c (rcs L)) (hB : Row w B (rcs M)) (hm : m = M.length) (hd : B = none → d = 0) (hnl : n = L.length) (hn : n + m ≤ 2 ^ 30) (hb : base ≤ w.heap.size) :
    ∃ (A' : Option Addr) (n' c' : Nat) (w' : World), Sem.run P (Builtin.append_ #[133, 133] 133 #[.slice A n c, .slice B m d]) w = .ok (.slice A' n' c') w' ∧
      OwnedK w' base 136 2 A' n' c' (rcs (L ++ M)) ∧ n' = (L ++ M).length ∧ w.grownBy w' (Value.slice A n c).ownBlock := by
  cases B with
  | none =>
    have : M = [] := by
      cases M with
      | nil => rfl
      | cons r M =>
        obtain ⟨a, h, _⟩ := hB 0 (.int .i64 r.count) (by simp [rcs, rcCells])
        cases h
    subst this
    have hd0 := hd rfl
    subst hd0
    have hm0 : m = 0 := by simpa using hm
    subst hm0
    exact ⟨A, n, c, w, ho.appends_nil elemCoin, by simpa using ho, by simpa using hnl, grown_refl _ _⟩
  | some a =>
    obtain ⟨A', n', c', w', h1, h2, h3, h4, _⟩ := ho.appends (ty := 133) elemCoin bytesCoin (a := a) (m := m) (cc := d) (us := rcs M) (by rw [rcs_length, hm]) (fun j u hj => by obtain ⟨b, e1, e2⟩ := hB j u hj; cases e1; exact e2) (fun u hu => by
      obtain ⟨x, _, hx⟩ := List.mem_flatMap.1 hu
      simp [rcCells] at hx
      rcases hx with rfl | rfl <;> rfl) (by omega) hb
    exact ⟨A', n', c', w', h1, by rw [rcs_append]; exact h2, by rw [h3, hnl, hm]; simp, h4⟩

theorem rc_keep {w w' : World} {base n c : Nat} {A : Option Addr} {L : List RC} {G : Option Nat} (ho : OwnedK w base 136 2 A n c (rcs L)) (hg : w.grownBy w' (Value.slice A n c).ownBlock) {r : RC} (h : SymOk w G r) : SymOk w' G r := by
  refine h.keep hg fun g hg3 => ?_
  obtain ⟨cur, h7⟩ := ho.block_type g hg3
  exact .inr ⟨cur, 136, _, h7, by decide⟩

theorem SymOk.away {w : World} {r : RC} (h : SymOk w none r) {g : Nat} (hg : w.heap.size ≤ g) : SymOk w (some g) r := by
  obtain ⟨h1, h2, h3, h4⟩ := h
  refine ⟨h1, h2, h3, fun a ha => ?_⟩
  obtain ⟨_, cur, fr, h6⟩ := h4 a ha
  refine ⟨fun e => ?_, cur, fr, h6⟩
  have := (Array.getElem?_eq_some_iff.1 h6).1
  cases e
  omega

theorem cut_row {w : World} {A : Option Addr} {n c k : Nat} {C : List RC} (h : Row w A (rcs C)) (hA : A = none → c = 0) (hc : C.length ≤ c) : Row w (cutA A c k 2) (rcs (C.drop k)) ∧ (cutA A c k 2 = none → c - k = 0) := by
  unfold cutA
  split
  · rename_i hck
    refine ⟨?_, fun _ => by omega⟩
    rw [List.drop_eq_nil_of_le (by omega)]
    intro j u hj; simp [rcs] at hj
  · have := h.drop (k * 2)
    rw [rcs_drop] at this
    refine ⟨this, fun e => ?_⟩
    cases A with
    | none => rw [hA rfl]; omega
    | some a => simp at e
end Go.Proofs.Ytmenmmgfdakeeaa

/-! archipelagoref5.Lengths: the walk. -/
namespace Go.Proofs.Ytmenmmgfdakeeaa
open Go Go.V Go.RowKit
set_option linter.unusedVariables false
set_option linter.unusedSimpArgs false
set_option maxHeartbeats 4000000
set_option maxRecDepth 100000

theorem flat_len {l : List Coin} {B : Nat} (h : ∀ x ∈ l, x.2.length ≤ B) : (l.flatMap Prod.snd).length ≤ B * l.length := by
  induction l with
  | nil => simp
  | cons x l ih =>
    have h1 := h x (by simp)
    have h2 := ih (fun y hy => h y (by simp [hy]))
    simp only [List.flatMap_cons, List.length_append, List.length_cons, Nat.mul_succ]
    omega

theorem refLengths_calls {w : World} {A : Option Addr} {n c : Nat} {xs : List Int} {most : Int} (hrow : Row w A (ints xs)) (hn : n = xs.length) :
    Calls P 25 #[.slice A n c, .int .i64 most] w fun ev w' => ∃ (A' : Option Addr) (n' c' : Nat), ev = .returned (.slice A' n' c') ∧ Owned w' w.heap.size 3 A' n' c' (ints (lensL xs most)) ∧ w.grownBy w' none := by
  apply vc25; unfold VC25
  obtain ⟨hm, hm1, hm15⟩ := mostL_eq most
  rw [hm]
  simp only [InK]
  have tn : (mostL most : Int).toNat = mostL most := by omega
  have hmin : min (mostL most) 64 = mostL most := by omega
  rw [tn, hmin]
  have hpow : 2 ^ mostL most ≤ 2 ^ 15 := Nat.pow_le_pow_right (by omega) hm15
  obtain ⟨q, hq⟩ : ∃ q, q = 2 ^ mostL most := ⟨_, rfl⟩
  have hcast : (1 : Int) * 2 ^ mostL most = (q : Int) := by rw [hq]; simp
  rw [hcast]
  refine ⟨fun h => ⟨none, 0, 0, rfl, ?_, grown_refl _ _⟩, fun h => ?_⟩
  · have : lensL xs most = [] := by unfold lensL; rw [if_pos (by omega)]
    rw [this]; exact World.ownsRow_nil _ _ _ _
  have h256 : xs.length ≤ 256 := by omega
  refine ⟨fun ms A1 n1 c1 s w1 => ∃ (sn : Nat) (C : List RC), s = (sn : Int) ∧ sn ≤ xs.length ∧ ms = xs.length - sn ∧ OwnedK w1 w.heap.size 136 2 A1 n1 c1 (rcs C) ∧ n1 = C.length ∧ (∀ x ∈ C, SymOk w1 none x) ∧ C.map rcCoin = coinsL (xs.take sn) ∧ w.grownBy w1 none,
    ⟨_, 0, [], rfl, by omega, rfl, OwnedK.nil _ _ _ _, rfl, by simp, by simp [coinsL, rawCoins, inOrder], grown_refl _ _⟩, ?_⟩
  rintro ms A1 n1 c1 s w1 ⟨sn, C, rfl, hsn, rfl, ho, hn1, hC, hCm, hg⟩
  have hCl : C.length ≤ xs.length := by
    have h1 := congrArg List.length hCm
    have h2 := coinsL_length (xs.take sn)
    simp at h1 h2; omega
  have hcap : n1 ≤ c1 ∧ (A1 = none → c1 = 0) := by
    rcases ho.cases.2 with ⟨e, h, h', _⟩ | ⟨g, cur, e, _, _, h, _⟩
    · exact ⟨by omega, fun _ => h'⟩
    · exact ⟨h, fun h => by rw [e] at h; cases h⟩
  have hmono : ∀ i j (hi : i < C.length) (hj : j < C.length), i ≤ j → C[i].count ≤ C[j].count := by
    intro i j hi hj hij
    have hs : SortedK Prod.fst (C.map rcCoin) := by rw [hCm]; exact inOrder_sorted _
    rcases Nat.lt_or_eq_of_le hij with e | e
    · have := List.pairwise_iff_getElem.1 hs i j (by simpa using hi) (by simpa using hj) e
      simpa [rcCoin] using this
    · subst e; omega
  refine ⟨fun hlt => ?_, fun hge => ?_⟩
  · have l1 : sn < xs.length := by omega
    obtain ⟨a, ha1, ha2⟩ := (hrow.kept_none hg) sn (.int .i64 xs[sn]) (by simp [ints, l1])
    have ts : (sn : Int).toNat = sn := by omega
    rw [ts]
    refine ⟨a, ha1, by omega, by omega, xs[sn], ha2, ?_⟩
    refine clamp_calls ⟨_, rfl, ?_⟩
    have h3 := heap_alloc_new (w1.alloc (.cells #[.int .i64 (sn : Int)] 3)) (.cells #[.int .i64 0, .slice none 0 0] 136)
    have h0 := heap_alloc_new w1 (.cells #[.int .i64 (sn : Int)] 3)
    obtain ⟨k1, k2, k3, k4, k5, k6⟩ := lay_coin (u := .int .i64 (manyL xs[sn])) (v := .slice (some ⟨w1.heap.size, 0, none⟩) 1 1) h3
    have ga := World.grownBy_alloc w1 (.cells #[.int .i64 (sn : Int)] 3) none
    have gb := World.grownBy_alloc (w1.alloc (.cells #[.int .i64 (sn : Int)] 3)) (.cells #[.int .i64 0, .slice none 0 0] 136) none
    have hsz : (w1.alloc (.cells #[.int .i64 (sn : Int)] 3)).heap.size = w1.heap.size + 1 := by simp
    refine ⟨k1, k2, k3, k4, manyL xs[sn], by rw [World.cell?, k5]; rfl, ?_⟩
    obtain ⟨g, hgd⟩ : ∃ g, g = (w1.alloc (.cells #[.int .i64 (sn : Int)] 3)).heap.size := ⟨_, rfl⟩
    rw [← hgd] at k5 k6 hsz ⊢
    have hg4 := grown_own (grown_trans ga gb) k6 (by intro q hq; cases hq; omega)
    have hb4 : ((((w1.alloc (.cells #[.int .i64 (sn : Int)] 3)).alloc (.cells #[.int .i64 0, .slice none 0 0] 136)).setCell ⟨g, 0, none⟩ (.int .i64 (manyL xs[sn]))).setCell ⟨g, 1, none⟩ (.slice (some ⟨w1.heap.size, 0, none⟩) 1 1)).heap[w1.heap.size]? = some (.cells #[.int .i64 (sn : Int)] 3 (0, 0)) := by
      rw [k6.block _ (by have := gb.size; omega) (by simp; omega), gb.block _ (by omega) (by simp), h0]
    obtain ⟨w4, hw4⟩ : ∃ w4, w4 = (((w1.alloc (.cells #[.int .i64 (sn : Int)] 3)).alloc (.cells #[.int .i64 0, .slice none 0 0] 136)).setCell ⟨g, 0, none⟩ (.int .i64 (manyL xs[sn]))).setCell ⟨g, 1, none⟩ (.slice (some ⟨w1.heap.size, 0, none⟩) 1 1) := ⟨_, rfl⟩
    rw [← hw4] at k5 k6 hg4 hb4 ⊢
    clear k1 k2 k3 k4 k6 ga gb h3 h0 hw4
    obtain ⟨r, hr⟩ : ∃ r : RC, r = ⟨manyL xs[sn], some ⟨w1.heap.size, 0, none⟩, 1, 1, [sn]⟩ := ⟨_, rfl⟩
    have hsr : SymOk w4 none r := by
      subst hr
      refine ⟨?_, rfl, by simp, fun a ha => by cases ha; exact ⟨by simp, _, _, hb4⟩⟩
      intro j u hj
      cases j with
      | zero => exact ⟨_, rfl, by rw [add_lit]; simpa [World.cell?, hb4, nats] using hj⟩
      | succ j => simp [nats] at hj
    have hC4 : ∀ x ∈ C, SymOk w4 none x := fun x hx => (hC x hx).keep_none hg4
    have hcg : ∀ w', w4.grownBy w' none → w'.cell? ⟨g, 0, none⟩ = some (.int .i64 (manyL xs[sn])) ∧ w'.cell? ⟨g, 1, none⟩ = some (.slice (some ⟨w1.heap.size, 0, none⟩) 1 1) := by
      intro w' h
      have h5 := h.block g (Array.getElem?_eq_some_iff.1 k5).1 (by simp)
      rw [k5] at h5
      constructor <;> simp [World.cell?, h5]
    refine ⟨fun hz => ?_, fun hnz => ?_⟩
    · refine ⟨by omega, xs.length - (sn + 1), by omega, sn + 1, C, by omega, by omega, rfl, ho.kept hg4, hn1, hC4, ?_, grown_trans hg hg4⟩
      rw [coinsL_snoc l1, if_neg (by intro h; have := (manyL_pos h).1; omega)]
      exact hCm
    · have hpos : xs[sn] > 0 := by
        apply Decidable.byContradiction
        intro h
        exact hnz (manyL_none h)
      refine ⟨fun k w' => ∃ kn : Nat, k = (kn : Int) ∧ kn ≤ C.length ∧ (∀ i (h : i < C.length), i < kn → C[i].count ≤ manyL xs[sn]) ∧ (∀ i (h : i < C.length), kn ≤ i → manyL xs[sn] < C[i].count) ∧ w4.grownBy w' none, ?_, ?_⟩
      · refine ⟨fun ms k w' => ∃ kn : Nat, k = (kn : Int) ∧ ms = kn ∧ kn ≤ C.length ∧ (∀ i (h : i < C.length), kn ≤ i → manyL xs[sn] < C[i].count) ∧ w4.grownBy w' none,
          ⟨_, C.length, by omega, rfl, by omega, fun i h hi => by omega, grown_refl _ _⟩, ?_⟩
        rintro ms k w5 ⟨kn, rfl, hms, hkn, hgt, hg5⟩
        refine ⟨fun hp => ?_, fun hz => ⟨kn, rfl, hkn, fun i h hi => by omega, hgt, grown_drew hg5⟩⟩
        have lk : kn - 1 < C.length := by omega
        obtain ⟨b, hb1, hb2, _⟩ := row_rc ((ho.kept (grown_trans hg4 (grown_drew hg5))).row) lk
        have tk : ((kn : Int) - 1).toNat = kn - 1 := by omega
        rw [tk]
        refine ⟨by omega, b, hb1, by omega, by omega, C[kn - 1].count, hb2, manyL xs[sn], (hcg _ (grown_drew hg5)).1, fun hgt2 => ⟨by omega, kn - 1, by omega, kn - 1, by omega, rfl, by omega, fun i h hi => ?_, grown_drew hg5⟩, fun hle => ⟨kn, rfl, hkn, fun i h hi => ?_, hgt, grown_drew hg5⟩⟩
        · have := hmono (kn - 1) i lk h hi
          omega
        · have := hmono i (kn - 1) h lk (by omega)
          omega
      · rintro k w5 ⟨kn, rfl, hkn, hle, hgt, hg5⟩
        have tk : (kn : Int).toNat = kn := by omega
        rw [tk]
        have hwd := grown_drew hg5
        have rowC : ∀ w2 : World, w4.grownBy w2 none → Row w2 A1 (rcs C) := fun w2 h => (ho.kept (grown_trans hg4 h)).row
        have hlt2 : (C.take kn).length = kn := by simp; omega
        have step1 : ∀ w2 : World, w4.grownBy w2 none → w5.heap.size ≤ w2.heap.size → ∃ (A' : Option Addr) (n' c' : Nat) (w3 : World), Sem.run P (Builtin.append_ #[133, 133] 133 #[.slice none 0 0, .slice A1 kn c1]) w2 = .ok (.slice A' n' c') w3 ∧ OwnedK w3 w5.heap.size 136 2 A' n' c' (rcs (C.take kn)) ∧ n' = kn ∧ w2.grownBy w3 none := by
          intro w2 h h'
          have ht := (rowC w2 h).take (kn * 2)
          rw [rcs_take] at ht
          obtain ⟨A', n', c', w3, e1, e2, e3, e4⟩ := rc_appends (L := []) (n := 0) (c := 0) (A := none) (d := c1) (m := kn) (OwnedK.nil w2 w5.heap.size 136 2) ht hlt2.symm hcap.2 rfl (by omega) h'
          exact ⟨A', n', c', w3, e1, by simpa using e2, by rw [e3, List.nil_append, hlt2], e4⟩
        have step2 : ∀ (w2 : World) (A' : Option Addr) (n' c' g' : Nat), OwnedK w2 w5.heap.size 136 2 A' n' c' (rcs (C.take kn)) → n' = kn → Row w2 (some ⟨g', 0, none⟩) (rcs [r]) → w5.heap.size ≤ w2.heap.size → w4.grownBy w2 none → ∃ (A3 : Option Addr) (n3 c3 : Nat) (w3 : World),
            Sem.run P (Builtin.append_ #[133, 133] 133 #[.slice A' n' c', .slice (some ⟨g', 0, none⟩) 1 1]) w2 = .ok (.slice A3 n3 c3) w3 ∧ OwnedK w3 w5.heap.size 136 2 A3 n3 c3 (rcs (C.take kn ++ [r])) ∧ n3 = (C.take kn ++ [r]).length ∧ w4.grownBy w3 none ∧ w5.heap.size ≤ w3.heap.size := by
          intro w2 A' n' c' g' h1 h2 h3 h4 h5
          obtain ⟨A3, n3, c3, w3, e1, e2, e3, e4⟩ := rc_appends (d := 1) (m := 1) h1 h3 rfl (by simp) (by omega) (by omega) h4
          exact ⟨A3, n3, c3, w3, e1, e2, e3, grown_own h5 e4 (fun k hk => Nat.le_trans hg5.size (h1.block_ge k hk)), Nat.le_trans h4 e4.size⟩
        have step3 : ∀ (w2 : World) (A' : Option Addr) (n' c' : Nat), OwnedK w2 w5.heap.size 136 2 A' n' c' (rcs (C.take kn ++ [r])) → n' = (C.take kn ++ [r]).length → w5.heap.size ≤ w2.heap.size → w4.grownBy w2 none → ∃ (A3 : Option Addr) (n3 c3 : Nat) (w3 : World),
            Sem.run P (Builtin.append_ #[133, 133] 133 #[.slice A' n' c', .slice (cutA A1 c1 kn 2) (n1 - kn) (c1 - kn)]) w2 = .ok (.slice A3 n3 c3) w3 ∧ w4.grownBy w3 none ∧ OwnedK w3 w.heap.size 136 2 A3 n3 c3 (rcs (C.take kn ++ r :: C.drop kn)) ∧ n3 = (C.take kn ++ r :: C.drop kn).length ∧ w4.grownBy w3 none := by
          intro w2 A' n' c' h1 h2 h4 h5
          obtain ⟨cr1, cr2⟩ := cut_row (k := kn) (n := n1) (rowC w2 h5) hcap.2 (by omega)
          obtain ⟨A3, n3, c3, w3, e1, e2, e3, e4⟩ := rc_appends (d := c1 - kn) (m := n1 - kn) h1 cr1 (by simp; omega) cr2 h2 (by rw [h2, List.length_append, hlt2]; simp; omega) h4
          have hgr := grown_own h5 e4 (fun k hk => Nat.le_trans hg5.size (h1.block_ge k hk))
          have hap : C.take kn ++ [r] ++ C.drop kn = C.take kn ++ r :: C.drop kn := by simp
          rw [hap] at e2 e3
          exact ⟨A3, n3, c3, w3, e1, hgr, e2.mono (Nat.le_trans hg.size (Nat.le_trans hg4.size hg5.size)), e3, hgr⟩
        have rcr : rcs [r] = [.int .i64 (manyL xs[sn]), .slice (some ⟨w1.heap.size, 0, none⟩) 1 1] := by rw [hr]; rfl
        have hsd : w5.drew.heap.size = w5.heap.size := rfl
        refine ⟨fun A' n' c' w' => OwnedK w' w.heap.size 136 2 A' n' c' (rcs (C.take kn ++ r :: C.drop kn)) ∧ n' = (C.take kn ++ r :: C.drop kn).length ∧ w4.grownBy w' none, ⟨fun w2 => w4.grownBy w2 none, hwd, ⟨⟨by omega, ?_⟩, ⟨by omega, ?_⟩⟩⟩, ?_⟩
        · obtain ⟨A2, n2, c2, w6, e1, e2, e3, e4⟩ := step1 _ hwd (Nat.le_of_eq hsd.symm)
          have g6 := grown_trans hwd e4
          have s6 : w5.heap.size ≤ w6.heap.size := e4.size
          have g7 := grown_alloc g6 (.cells #[.int .i64 (manyL xs[sn]), .slice (some ⟨w1.heap.size, 0, none⟩) 1 1] 136)
          have ro := row_alloc w6 #[.int .i64 (manyL xs[sn]), .slice (some ⟨w1.heap.size, 0, none⟩) 1 1] 136
          obtain ⟨A3, n3, c3, w7, f1, f2, f3, f4, f5⟩ := step2 _ A2 n2 c2 _ (e2.kept (World.grownBy_alloc w6 _ none)) e3 (by rw [rcr]; exact ro) (Nat.le_trans s6 (World.grownBy_alloc w6 _ none).size) g7
          obtain ⟨A4, n4, c4, w8, q1, q2⟩ := step3 w7 A3 n3 c3 f2 f3 f5 f4
          exact ⟨A2, n2, c2, w6, e1, g6, _, fun w h => (hcg w h).1, _, _, _, fun w h => (hcg w h).2, g7, A3, n3, c3, w7, f1, f4, by omega, A4, n4, c4, w8, q1, q2⟩
        · have g7 := grown_alloc hwd (.cells #[.int .i64 (manyL xs[sn]), .slice (some ⟨w1.heap.size, 0, none⟩) 1 1] 136)
          have ro := row_alloc w5.drew #[.int .i64 (manyL xs[sn]), .slice (some ⟨w1.heap.size, 0, none⟩) 1 1] 136
          have s7 : w5.heap.size ≤ (w5.drew.alloc (.cells #[.int .i64 (manyL xs[sn]), .slice (some ⟨w1.heap.size, 0, none⟩) 1 1] 136)).heap.size := (World.grownBy_alloc w5.drew _ none).size
          obtain ⟨A2, n2, c2, w6, e1, e2, e3, e4⟩ := step1 _ g7 s7
          have g6 := grown_trans g7 e4
          obtain ⟨A3, n3, c3, w7, f1, f2, f3, f4, f5⟩ := step2 _ A2 n2 c2 _ e2 e3 (by rw [rcr]; exact ro.kept_none e4) (Nat.le_trans s7 e4.size) g6
          obtain ⟨A4, n4, c4, w8, q1, q2⟩ := step3 w7 A3 n3 c3 f2 f3 f5 f4
          exact ⟨_, fun w h => (hcg w h).1, _, _, _, fun w h => (hcg w h).2, g7, A2, n2, c2, w6, e1, g6, A3, n3, c3, w7, f1, f4, by omega, A4, n4, c4, w8, q1, q2⟩
        · rintro A4 n4 c4 w8 ⟨o8, e8, g8⟩
          refine ⟨by omega, xs.length - (sn + 1), by omega, sn + 1, _, by omega, by omega, rfl, o8, e8, fun x hx => ?_, ?_, grown_trans hg (grown_trans hg4 g8)⟩
          · have : SymOk w4 none x := by
              rcases List.mem_append.1 hx with e | e
              · exact hC4 x (List.mem_of_mem_take e)
              · rcases List.mem_cons.1 e with e | e
                · rw [e]; exact hsr
                · exact hC4 x (List.mem_of_mem_drop e)
            exact this.keep_none g8
          · rw [coinsL_snoc l1, if_pos hpos, ← hCm, ins_at (k := kn) (by simpa using hkn) (fun i h hi => by simpa [rcCoin] using hle i (by simpa using h) hi) (fun i h hi => by simpa [rcCoin] using hgt i (by simpa using h) hi)]
            have hrc : rcCoin r = (manyL xs[sn], [sn]) := by rw [hr]; rfl
            simp [List.map_take, List.map_drop, hrc]
  · have hsn' : sn = xs.length := by omega
    rw [hsn', List.take_length] at hCm
    have hlc : C.length = (coinsL xs).length := by rw [← hCm]; simp
    refine ⟨by omega, fun h2 => ?_, fun h2 => ?_⟩
    · refine ⟨none, 0, 0, rfl, ?_, hg⟩
      have : lensL xs most = [] := by unfold lensL; rw [if_neg (by omega), if_pos (by omega)]
      rw [this]; exact World.ownsRow_nil _ _ _ _
    have hlens : lensL xs most = addL (chosen xs (mostL most)) (List.replicate xs.length 0) := by unfold lensL; rw [if_neg (by omega), if_neg (by omega)]
    obtain ⟨w2, hr, hown, hg2⟩ := run_made (P := P) (w := w1) elemInt (by omega) (m := n) (by omega)
    refine ⟨_, _, _, w2, hr, ?_⟩
    have hown : Own w2 w1.heap.size 3 n (ints (List.replicate xs.length 0)) := by
      simpa [ints, hn] using hown
    have fin : ∀ w3 ys, ys = lensL xs most → Own w3 w1.heap.size 3 n (ints ys) → w2.grownBy w3 (some w1.heap.size) → ∃ (A' : Option Addr) (n' c' : Nat), Ending.returned (.slice (some ⟨w1.heap.size, 0, none⟩) n n) = .returned (.slice A' n' c') ∧ Owned w3 w.heap.size 3 A' n' c' (ints (lensL xs most)) ∧ w.grownBy w3 none := by
      intro w3 ys hys h3 h4
      subst hys
      have h5 := h3.ownsRow hg.size (by simp only [maxLen]; omega)
      have : (ints (lensL xs most)).length = n := by rw [hlens]; simp [ints, addL_length, hn]
      rw [this] at h5
      exact ⟨_, _, _, rfl, h5, grown_own (grown_trans hg hg2) h4 (by intro k hk; cases hk; exact hg.size)⟩
    have ho2 := ho.kept hg2
    have hC2 : ∀ x ∈ C, SymOk w2 (some w1.heap.size) x := fun x hx => ((hC x hx).away (Nat.le_refl _)).keep_none hg2
    have hglt : w1.heap.size < w2.heap.size := hown.lt
    refine ⟨fun w3 => (C.length = 1 → ∃ ys, ys = lensL xs most ∧ Own w3 w1.heap.size 3 n (ints ys)) ∧ (C.length ≠ 1 → w3 = w2) ∧ w2.grownBy w3 (some w1.heap.size), ⟨fun h1 => ?_, fun h1 => ⟨fun h => by omega, fun _ => rfl, grown_refl _ _⟩⟩, ?_⟩
    · obtain ⟨x, hx⟩ : ∃ x, C = [x] := List.length_eq_one_iff.1 (by omega)
      have hcoin : coinsL xs = [rcCoin x] := by rw [← hCm, hx]; rfl
      obtain ⟨_, _, s, hs1, hs2⟩ := coinsL_mem (xs := xs) (x := rcCoin x) (by rw [hcoin]; simp)
      have hs1' : x.syms = [s] := hs1
      obtain ⟨srow, sn1, sn2, _⟩ := hC2 x (by rw [hx]; simp)
      obtain ⟨b, hb1, hb2⟩ := srow 0 (.int .i64 (s : Int)) (by simp [nats, hs1'])
      have ho3 : Row w2 A1 (rcs [x]) := by rw [← hx]; exact ho2.row
      obtain ⟨a, e1, e2⟩ := ho3 1 (.slice x.A x.n x.c) (by simp [rcs, rcCells])
      have hb0 : b.add 0 = b := by simp [Addr.add]
      rw [hb0] at hb2
      have ts : (s : Int).toNat = s := by omega
      have hcell := hown.cell (j := s) (u := .int .i64 0) (by simp [ints, hs2])
      refine ⟨a, e1, by omega, by omega, x.A, x.n, x.c, e2, b, hb1, by omega, by omega, (s : Int), hb2, _, rfl, by omega, by omega, ⟨_, by rw [ts]; exact hcell⟩, hown.notFrozen (add_block _ _), ?_⟩
      rw [ts]
      have hset := hown.set (j := s) (by simpa [ints] using hs2) (.int .i64 1)
      refine ⟨fun _ => ⟨(List.replicate xs.length 0).set s 1, ?_, by simpa [ints, List.map_set] using hset⟩, fun h => by omega, grown_set (grown_refl _ _) (add_block _ _) _⟩
      rw [hlens]
      have : chosen xs (mostL most) = [s] := by unfold chosen; rw [hcoin]; simp [hs1]
      rw [this]
      simp [addL, bump, hs2]
    · rintro w3 ⟨h11, h12, hg3⟩
      refine ⟨fun hlt2 => ?_, fun hge2 => ?_⟩
      · by_cases h1 : C.length = 1
        · obtain ⟨ys, e1, e2⟩ := h11 h1
          exact fin w3 ys e1 e2 hg3
        · have := h12 h1
          subst this
          refine fin _ (List.replicate xs.length 0) ?_ hown (grown_refl _ _)
          have hnil : coinsL xs = [] := List.eq_nil_of_length_eq_zero (by omega)
          rw [hlens]
          have : chosen xs (mostL most) = [] := by unfold chosen; rw [hnil]; simp [lev_nil]
          rw [this]; rfl
      · have := h12 (by omega)
        subst this
        clear h11 h12 hg3
        refine ⟨fun ms lA ln lc i w4 => ∃ (k : Nat) (O : List RC), i = ((k + 1 : Nat) : Int) ∧ k ≤ mostL most - 1 ∧ ms = mostL most - 1 - k ∧ OwnedK w4 w.heap.size 136 2 lA ln lc (rcs O) ∧ ln = O.length ∧ (∀ x ∈ O, SymOk w4 (some w1.heap.size) x) ∧ O.map rcCoin = lev (coinsL xs) k ∧ w3.grownBy w4 none,
          ⟨_, 0, C, rfl, by omega, rfl, ho2, hn1, hC2, hCm, grown_refl _ _⟩, ?_⟩
        rintro ms lA ln lc i w4 ⟨k, O, rfl, hk, rfl, ho4, hln, hO, hOk, hg4⟩
        have hOl : O.length = (lev (coinsL xs) k).length := by rw [← hOk]; simp
        have hls := lev_short (coinsL xs) k
        have hcl := coinsL_length xs
        have hfine : ∀ x ∈ O, Fine xs.length k (rcCoin x) := fun x hx => fine_lev xs k _ (by rw [← hOk]; exact List.mem_map_of_mem hx)
        have hpk : 2 ^ k ≤ 2 ^ 15 := Nat.pow_le_pow_right (by omega) (by omega)
        refine ⟨fun hlt => ?_, fun hge => ?_⟩
        · refine (merged_calls (C := C) (L := O) (G := some w1.heap.size) (ho2.kept hg4).row ho4.row hn1 hln (fun x hx => (hC2 x hx).keep_none hg4) hO (fun g hg => by cases hg; exact Nat.lt_of_lt_of_le hglt hg4.size) hcap.1 (by omega) (by omega) (fun x hx => ?_) (by omega)).mono fun ev w5 hh => ?_
          · obtain ⟨f1, f2, f3, f4⟩ := hfine x hx
            have hp : (2 : Int) ^ k ≤ 2 ^ 15 := by
              have e1 : ((2 ^ k : Nat) : Int) = 2 ^ k := by simp
              have e2 : ((2 ^ 15 : Nat) : Int) = 2 ^ 15 := by simp
              omega
            have f1' : 0 < x.count := f1
            have f2' : x.count ≤ 1099511627776 * 2 ^ k := f2
            have f3' : x.syms.length ≤ 2 ^ k := f3
            exact ⟨by omega, by omega, by omega⟩
          · obtain ⟨A4, n4, c4, O4, rfl, q1, q2, q3, q4, q5⟩ := hh
            refine ⟨A4, n4, c4, rfl, by omega, mostL most - 1 - (k + 1), by omega, k + 1, O4, by omega, by omega, rfl, q1.mono (Nat.le_trans hg.size (Nat.le_trans hg2.size hg4.size)), q2, q3, ?_, grown_trans hg4 q5⟩
            rw [q4, hCm, hOk]; rfl
        · have hk' : k = mostL most - 1 := by omega
          have hlong := lev_long hm1 (first := coinsL xs) (by omega)
          rw [← hk'] at hlong
          have hchosen : chosen xs (mostL most) = ((lev (coinsL xs) k).take (2 * (coinsL xs).length - 2)).flatMap Prod.snd := by
            unfold chosen; rw [if_neg (by omega), hk']
          have ho4' : Own w4 w1.heap.size 3 n (ints (List.replicate xs.length 0)) := hown.kept_none hg4
          have hrowO : ∀ w5, w4.grownBy w5 (some w1.heap.size) → Row w5 lA (rcs O) := by
            intro w5 h5
            refine ho4.row.kept h5 ?_
            intro a ha e
            simp only [Option.some.injEq] at e
            rcases ho4.cases.2 with ⟨h, _⟩ | ⟨g, cur, h, _, _, _, hog, _⟩
            · rw [ha] at h; cases h
            · rw [ha] at h; cases h
              obtain ⟨cur', e2, _⟩ := ho4'
              simp only at e
              rw [e, e2] at hog
              cases hog
          refine ⟨fun ms i w5 => ∃ (j : Nat) (ys : List Int), i = (j : Int) ∧ j ≤ 2 * (coinsL xs).length - 2 ∧ ms = 2 * (coinsL xs).length - 2 - j ∧ ys = addL (((lev (coinsL xs) k).take j).flatMap Prod.snd) (List.replicate xs.length 0) ∧ Own w5 w1.heap.size 3 n (ints ys) ∧ w4.grownBy w5 (some w1.heap.size),
            ⟨_, 0, List.replicate xs.length 0, rfl, by omega, rfl, by simp [addL], ho4', grown_refl _ _⟩, ?_⟩
          rintro ms i w5 ⟨j, ys, rfl, hj, rfl, hys, ho5, hg5⟩
          have hyl : ys.length = n := by rw [hys, addL_length]; simp [hn]
          refine ⟨by omega, by omega, fun hlt => ⟨fun hlt2 => ?_, fun hge3 => by omega⟩, fun hge3 => ?_⟩
          · have hjO : j < O.length := by omega
            have tj : (j : Int).toNat = j := by omega
            rw [tj]
            obtain ⟨f1, f2, f3, f4⟩ := hfine _ (List.getElem_mem hjO)
            have f3' : O[j].syms.length ≤ 2 ^ k := f3
            have f4' : ∀ s ∈ O[j].syms, s < xs.length := f4
            obtain ⟨sr, sl, _, sb⟩ := hO _ (List.getElem_mem hjO)
            have hfl := flat_len (l := (lev (coinsL xs) k).take j) (B := 2 ^ 15) (fun x hx => by have := (fine_lev xs k x (List.mem_of_mem_take hx)).2.2.1; omega)
            have hfl2 : ((lev (coinsL xs) k).take j).length ≤ 512 := by simp; omega
            have hyb := addL_bound (((lev (coinsL xs) k).take j).flatMap Prod.snd) (xs := List.replicate xs.length 0) (B := 0) (by simp) (by omega)
            rw [← hys] at hyb
            refine ⟨fun ms2 kk w6 => ∃ t : Nat, kk = (t : Int) ∧ t ≤ O[j].syms.length ∧ ms2 = O[j].syms.length - t ∧ Own w6 w1.heap.size 3 n (ints (addL (O[j].syms.take t) ys)) ∧ w5.grownBy w6 (some w1.heap.size),
              ⟨_, 0, rfl, by omega, rfl, by simpa [addL] using ho5, grown_refl _ _⟩, ?_⟩
            rintro ms2 kk w6 ⟨t, rfl, ht, rfl, ho6, hg6⟩
            have g46 := grown_trans hg5 hg6
            obtain ⟨a, e1, e2, e3⟩ := row_rc (hrowO w6 g46) hjO
            refine ⟨a, e1, by omega, by omega, _, _, _, e3, fun hlt3 => ?_, fun hge3 => ?_⟩
            · have lt : t < O[j].syms.length := by omega
              have tt : (t : Int).toNat = t := by omega
              rw [tt]
              obtain ⟨b, hb1, hb2⟩ := (sr.kept g46 (fun a ha => (sb a ha).1)) t (.int .i64 (O[j].syms[t] : Int)) (by simp [nats, lt])
              have hsx : O[j].syms[t] < xs.length := f4' _ (List.getElem_mem lt)
              have ts : (O[j].syms[t] : Int).toNat = O[j].syms[t] := by omega
              have hzl : (addL (O[j].syms.take t) ys).length = xs.length := by rw [addL_length]; omega
              have hcell := ho6.cell (j := O[j].syms[t]) (u := .int .i64 ((addL (O[j].syms.take t) ys).getD O[j].syms[t] 0)) (by simp [ints, hzl, hsx, List.getD_eq_getElem?_getD])
              have hzb := addL_bound (O[j].syms.take t) hyb (by omega)
              have hv := hzb ((addL (O[j].syms.take t) ys).getD O[j].syms[t] 0) (by
                rw [List.getD_eq_getElem?_getD, List.getElem?_eq_getElem (by omega)]
                exact List.getElem_mem _)
              have htl : (O[j].syms.take t).length = t := by simp; omega
              refine ⟨a, e1, by omega, by omega, _, _, _, e3, b, hb1, by omega, by omega, (O[j].syms[t] : Int), hb2, _, rfl, by omega, by omega, _, by rw [ts]; exact hcell, by omega, _, rfl, by omega, by omega, ⟨_, by rw [ts]; exact hcell⟩, ho6.notFrozen (add_block _ _), by omega, O[j].syms.length - (t + 1), by omega, t + 1, by omega, by omega, rfl, ?_, ?_⟩
              · rw [ts, List.take_succ_eq_append_getElem lt, addL_append]
                have hset := ho6.set (j := O[j].syms[t]) (by simp [ints]; omega) (.int .i64 ((addL (O[j].syms.take t) ys).getD O[j].syms[t] 0 + 1))
                simpa [ints, List.map_set, addL, bump] using hset
              · exact grown_set hg6 (add_block _ _) _
            · have : t = O[j].syms.length := by omega
              subst this
              rw [List.take_length] at ho6
              refine ⟨by omega, 2 * (coinsL xs).length - 2 - (j + 1), by omega, j + 1, _, by omega, by omega, rfl, ?_, ho6, g46⟩
              have hjl : j < (lev (coinsL xs) k).length := by omega
              have : (lev (coinsL xs) k)[j] = rcCoin O[j] := by simp [← hOk]
              rw [hys, List.take_succ_eq_append_getElem hjl, List.flatMap_append, addL_append, this]
              simp [rcCoin]
          · have hj' : j = 2 * (coinsL xs).length - 2 := by omega
            refine fin w5 ys ?_ ho5 (grown_trans (grown_none hg4) hg5)
            rw [hys, hlens, hchosen, hj']
end Go.Proofs.Ytmenmmgfdakeeaa
