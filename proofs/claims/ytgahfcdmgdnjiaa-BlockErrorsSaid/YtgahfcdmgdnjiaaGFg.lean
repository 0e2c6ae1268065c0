/- Own texts, packed: D1, D2, D3, D4, D5, E0, E1, E2, E3, E4. -/
import Derived.Test.YtgahfcdmgdnjiaaGXg
import Derived.Test.YtgahfcdmgdnjiaaGDg
import Derived.Test.YtgahfcdmgdnjiaaGCg
import Derived.Test.YtgahfcdmgdnjiaaGBg
import Derived.KernelRfl

/-! merge: items in memory; many, the comparison, the list of coins. -/
namespace Go.Proofs.Ytgahfcdmgdnjiaa
open Go Go.V Go.RowKit
set_option linter.unusedVariables false
set_option linter.unusedSimpArgs false
set_option maxHeartbeats 2000000

theorem elemItem : Elem P 149 151 (.pointer none) 8 := ⟨(P.info? 151).getD default, by kernel_rfl, by kernel_rfl, by kernel_rfl, by kernel_rfl, by kernel_rfl, by kernel_rfl⟩
theorem elemInt : Elem P 58 3 (.int .i64 0) 8 := ⟨(P.info? 3).getD default, by kernel_rfl, by kernel_rfl, by kernel_rfl, by kernel_rfl, by kernel_rfl, by kernel_rfl⟩

/-- An item stands in memory: a coin, or a package of two items. -/
inductive ItemAt (w : World) : Addr → Int → List Nat → Prop
  | coin {k : Nat} {c : Int} {s : Nat} {y : Value} : w.heap[k]? = some (.cells #[.int .i64 c, .int .i64 (s : Int), .pointer none, y] 154 (0, 0)) → ItemAt w ⟨k, 0, none⟩ c [s]
  | pack {k : Nat} {c1 c2 : Int} {s1 s2 : List Nat} {z : Value} {p q : Addr} : w.heap[k]? = some (.cells #[.int .i64 (c1 + c2), z, .pointer (some p), .pointer (some q)] 154 (0, 0)) →
      ItemAt w p c1 s1 → ItemAt w q c2 s2 → ItemAt w ⟨k, 0, none⟩ (c1 + c2) (s1 ++ s2)

def Is (w : World) (x : Option Addr × Coin) : Prop := ∃ a, x.1 = some a ∧ ItemAt w a x.2.1 x.2.2

/-- What turns no block of items. -/
def KeepsItems (w w' : World) : Prop := ∀ (k : Nat) (cur : Array Value), w.heap[k]? = some (Obj.cells cur 154 (0, 0)) → w'.heap[k]? = some (Obj.cells cur 154 (0, 0))

theorem KeepsItems.refl (w : World) : KeepsItems w w := fun _ _ h => h
theorem KeepsItems.trans {a b c : World} (h : KeepsItems a b) (h' : KeepsItems b c) : KeepsItems a c := fun k cur hk => h' k cur (h k cur hk)
theorem keeps_grown {w w' : World} {r : Option Nat} (hg : w.grownBy w' r) (hr : ∀ g, r = some g → ∃ (cur : Array Value) (e : TypeId) (fr : Nat × Nat), w.heap[g]? = some (Obj.cells cur e fr) ∧ e ≠ 154) : KeepsItems w w' := by
  intro k cur hk
  rw [hg.block k (Array.getElem?_eq_some_iff.1 hk).1, hk]
  intro e
  obtain ⟨cur', e', fr, h1, h2⟩ := hr k e.symm
  rw [hk] at h1
  cases h1
  exact h2 rfl
theorem keeps_none {w w' : World} (hg : w.grownBy w' none) : KeepsItems w w' := keeps_grown hg (by simp)
theorem keeps_own {w w' : World} {g cap : Nat} {e : TypeId} {xs : List Value} (ho : Own w g e cap xs) (he : e ≠ 154) (hg : w.grownBy w' (some g)) : KeepsItems w w' :=
  keeps_grown hg fun g' e' => by
    cases e'
    obtain ⟨cur, h1, _⟩ := ho
    exact ⟨cur, e, _, h1, he⟩
theorem keeps_owned {w w' : World} {base n c : Nat} {e : TypeId} {A : Option Addr} {xs : List Value} (ho : Owned w base e A n c xs) (he : e ≠ 154) (hg : w.grownBy w' (Value.slice A n c).ownBlock) : KeepsItems w w' := by
  obtain ⟨_, h | ⟨g, rfl, _, _, _, h⟩⟩ := ho.cases
  · obtain ⟨rfl, _⟩ := h
    exact keeps_none hg
  · exact keeps_own h he hg

theorem ItemAt.keep {w w' : World} (hk : KeepsItems w w') {a : Addr} {c : Int} {s : List Nat} (h : ItemAt w a c s) : ItemAt w' a c s := by
  induction h with
  | coin h => exact .coin (hk _ _ h)
  | pack h _ _ ih1 ih2 => exact .pack (hk _ _ h) ih1 ih2
theorem Is.keep {w w' : World} (hk : KeepsItems w w') {x : Option Addr × Coin} (h : Is w x) : Is w' x := by
  obtain ⟨a, h1, h2⟩ := h
  exact ⟨a, h1, h2.keep hk⟩

theorem ItemAt.count {w : World} {a : Addr} {c : Int} {s : List Nat} (h : ItemAt w a c s) : w.cell? a = some (.int .i64 c) := by
  cases h with
  | coin h => simp [World.cell?, h]
  | pack h _ _ => simp [World.cell?, h]

theorem many_calls {n : Int} {w : World} {R : Ending → World → Prop} (h : R (.returned (.int .i64 (manyL n))) w) : Calls P 127 #[.int .i64 n] w R := vc127 n w R h

theorem isNaN_calls {x : Int} {w : World} {R : Ending → World → Prop} (h : R (.returned (.bool false)) w) : Calls P 146 #[.int .i64 x] w R := by
  apply vc146; unfold VC146; simpa using h

theorem compare_calls {x y : Int} {w : World} : Calls P 130 #[.int .i64 x, .int .i64 y] w fun ev w' => ∃ c : Int, ev = .returned (.int .i64 c) ∧ (c < 0 ↔ x < y) ∧ w' = w := by
  apply vc130; unfold VC130; try (conv => zeta)
  refine isNaN_calls ⟨false, rfl, isNaN_calls ⟨false, rfl, by simp, fun _ => ⟨by simp, fun _ => ⟨fun h => ⟨_, rfl, by omega, rfl⟩, fun h => ⟨fun h' => ⟨_, rfl, by omega, rfl⟩, fun h' => ⟨_, rfl, by omega, rfl⟩⟩⟩⟩⟩⟩

/-- The number by which items are put in order: the count. -/
def keyW (w : World) (p : Option Addr) : Int := match p with
  | some a => match w.cell? a with
    | some (.int _ c) => c
    | _ => 0
  | none => 0

theorem keyW_is {w : World} {x : Option Addr × Coin} (h : Is w x) : keyW w x.1 = x.2.1 := by
  obtain ⟨a, h1, h2⟩ := h
  simp [keyW, h1, h2.count]

theorem cmpItems {w : World} {g cap : Nat} {e : TypeId} {xs : List Value} {L : List (Option Addr × Coin)} (ho : Own w g e cap xs) (he : e ≠ 154) (hL : ∀ x ∈ L, Is w x) : CmpOkT w g (keyW w) (L.map Prod.fst) := by
  intro w' hg x hx y hy
  obtain ⟨x, hx', rfl⟩ := List.mem_map.1 hx
  obtain ⟨y, hy', rfl⟩ := List.mem_map.1 hy
  have hx := hx'
  have hy := hy'
  have kx := hL x hx
  have ky := hL y hy
  have hk := keeps_own ho he hg
  show Calls P 129 #[.pointer x.1, .pointer y.1] w' _
  apply vc129; unfold VC129; try (conv => zeta)
  obtain ⟨a, ea, ia⟩ := kx.keep hk
  obtain ⟨b, eb, ib⟩ := ky.keep hk
  refine ⟨a, ea, x.2.1, ia.count, b, eb, y.2.1, ib.count, ?_⟩
  refine compare_calls.mono fun ev w2 hh => ?_
  obtain ⟨c, h1, h2, rfl⟩ := hh
  exact ⟨c, h1, c, rfl, by rw [h2, keyW_is kx, keyW_is ky], grown_drew (grown_refl _ _)⟩

theorem ins_map {α β : Type} (f : α → β) (key : β → Int) (key' : α → Int) (x : α) : ∀ (l : List α), (∀ y ∈ x :: l, key (f y) = key' y) → ins key (f x) (l.map f) = (ins key' x l).map f
  | [], _ => rfl
  | y :: ys, h => by
    have hx := h x (by simp)
    have hy := h y (by simp)
    have ih := ins_map f key key' x ys (fun z hz => h z (by rcases List.mem_cons.1 hz with e | e <;> simp [e]))
    simp only [List.map_cons, ins, hx, hy]
    split
    · rw [ih]; simp
    · simp

theorem inOrder_map {α β : Type} (f : α → β) (key : β → Int) (key' : α → Int) (xs : List α) (h : ∀ y ∈ xs, key (f y) = key' y) : inOrder key (xs.map f) = (inOrder key' xs).map f := by
  have : ∀ (xs l : List α), (∀ y ∈ xs, key (f y) = key' y) → (∀ y ∈ l, key (f y) = key' y) → SortedK key' l → (xs.map f).foldl (fun l x => ins key x l) (l.map f) = (xs.foldl (fun l x => ins key' x l) l).map f := by
    intro xs
    induction xs with
    | nil => intros; rfl
    | cons x xs ih =>
      intro l h1 h2 h3
      simp only [List.map_cons, List.foldl_cons]
      rw [ins_map f key key' x l (fun z hz => by rcases List.mem_cons.1 hz with e | e; exact h1 z (by simp [e]); exact h2 z e)]
      refine ih _ (fun y hy => h1 y (by simp [hy])) (fun y hy => ?_) (ins_sorted x h3)
      rcases List.mem_append.1 ((ins_same (key := key') x h3).mem hy) with e | e
      · exact h2 y e
      · have : y = x := by simpa using e
        rw [this]; exact h1 x (by simp)
  simpa [inOrder] using this xs [] h (by simp) (by simp [SortedK])

theorem sortedNilT {w : World} : Calls P 128 #[.slice none 0 0, .func (.func 129) #[] #[]] w fun ev w' => ev = .returned (.tuple #[]) ∧ w.grownBy w' none := by
  apply vc128; unfold VC128; try (conv => zeta)
  have h : Calls P 145 #[.slice none 0 0, .int .i64 0, .func (.func 129) #[] #[]] w fun ev w' => ev = .returned (.tuple #[]) ∧ w.grownBy w' none := by
    apply vc145; unfold VC145; try (conv => zeta)
    refine ⟨fun m a b w' => m = 0 ∧ a = 0 ∧ b = 20 ∧ w' = w, ⟨0, rfl, rfl, rfl, rfl⟩, ?_⟩
    rintro m a b w' ⟨rfl, rfl, rfl, rfl⟩
    refine ⟨fun h => by omega, fun h => ?_⟩
    have h2 : Calls P 150 #[.slice none 0 0, .int .i64 0, .int .i64 0, .func (.func 129) #[] #[]] w' fun ev w2 => ev = .returned (.tuple #[]) ∧ w' = w2 := by
      apply vc150; unfold VC150; try (conv => zeta)
      simp only [InK]
      refine ⟨by omega, fun m i w2 => i = 1 ∧ w2 = w', ⟨0, by omega, rfl⟩, ?_⟩
      rintro m i w2 ⟨rfl, rfl⟩
      exact ⟨fun h => by omega, fun h => ⟨trivial, rfl⟩⟩
    refine h2.mono fun ev w2 hh => ?_
    obtain ⟨h3, rfl⟩ := hh
    refine ⟨h3, fun m s w3 => s = 20 ∧ w3 = w', ⟨0, rfl, rfl⟩, ?_⟩
    rintro m s w3 ⟨rfl, rfl⟩
    exact ⟨fun h => by omega, fun h => ⟨rfl, grown_refl _ _⟩⟩
  refine h.mono fun ev w' hh => ?_
  exact ⟨hh.1, rfl, hh.2⟩

abbrev ptrs (L : List (Option Addr × Coin)) : List Value := (L.map Prod.fst).map Value.pointer

theorem coins_calls {w : World} {A : Option Addr} {n c : Nat} {xs : List Int} (hrow : Row w A (xs.map (Value.int .i64))) (hn : n = xs.length) (hbig : n ≤ 2 ^ 30) :
    Calls P 91 #[.slice A n c] w fun ev w' => ∃ (A' : Option Addr) (n' c' : Nat) (L : List (Option Addr × Coin)), ev = .returned (.slice A' n' c') ∧ Owned w' w.heap.size 151 A' n' c' (ptrs L) ∧ (∀ x ∈ L, Is w' x) ∧ L.map Prod.snd = coinsL xs ∧ w.grownBy w' none := by
  apply vc91; unfold VC91; try (conv => zeta)
  simp only [InK]
  refine ⟨fun m A' n' c' i w' => ∃ (k : Nat) (L : List (Option Addr × Coin)), i = (k : Int) ∧ k ≤ xs.length ∧ m = xs.length - k ∧ Owned w' w.heap.size 151 A' n' c' (ptrs L) ∧ (∀ x ∈ L, Is w' x) ∧ L.map Prod.snd = rawCoins 0 (xs.take k) ∧ L.length ≤ k ∧ w.grownBy w' none,
    ⟨_, 0, [], rfl, by omega, rfl, World.ownsRow_nil _ _ _ _, by simp, by simp [rawCoins], by simp, grown_refl _ _⟩, ?_⟩
  rintro m A' n' c' i w' ⟨k, L, rfl, hk, rfl, ho, hL, hLx, hLk, hg⟩
  refine ⟨fun hlt => ?_, fun hge => ?_⟩
  · have hk' : k < xs.length := by omega
    obtain ⟨a, h1, h2⟩ := (hrow.kept_none hg) k (.int .i64 xs[k]) (by simp [hk'])
    have htake : rawCoins 0 (xs.take (k + 1)) = rawCoins 0 (xs.take k) ++ rawCoins k [xs[k]] := by
      rw [List.take_succ_eq_append_getElem hk', rawCoins_append]
      simp [Nat.min_eq_left hk]
    refine ⟨a, h1, by omega, by omega, xs[k], by simpa using h2, fun hpos => ?_, fun hpos => ?_⟩
    · refine many_calls ⟨_, rfl, ?_⟩
      have g1 := World.grownBy_alloc w' (.cells #[(.int .i64 (manyL xs[k])), (.int .i64 (k : Int)), (.pointer none), (.pointer none)] 154) none
      have b1 : (w'.alloc (.cells #[(.int .i64 (manyL xs[k])), (.int .i64 (k : Int)), (.pointer none), (.pointer none)] 154)).heap[w'.heap.size]? = some (.cells #[(.int .i64 (manyL xs[k])), (.int .i64 (k : Int)), (.pointer none), (.pointer none)] 154) := heap_alloc_new w' _
      generalize w'.alloc (.cells #[(.int .i64 (manyL xs[k])), (.int .i64 (k : Int)), (.pointer none), (.pointer none)] 154) = w1 at *
      have g2 := World.grownBy_alloc w1 (.cells #[.pointer (some ⟨w'.heap.size, 0, none⟩)] 151) none
      have b2 : (w1.alloc (.cells #[.pointer (some ⟨w'.heap.size, 0, none⟩)] 151)).cell? ⟨w1.heap.size, 0, none⟩ = some (.pointer (some ⟨w'.heap.size, 0, none⟩)) := by simp
      generalize w1.alloc (.cells #[.pointer (some ⟨w'.heap.size, 0, none⟩)] 151) = w2 at *
      have ho2 := (ho.kept g1).kept g2
      obtain ⟨A2, n2, c2, w3, h3, h4, h5⟩ := ho2.append1 (ty := 149) elemItem (by omega) (cc := 1) b2 rfl (by rw [ho.cases.1]; simp; omega) (Nat.le_trans hg.size (Nat.le_trans g1.size g2.size))
      have hk3 : KeepsItems w1 w3 := (keeps_none g2).trans (keeps_owned ho2 (by decide) h5)
      refine ⟨A2, n2, c2, w3, h3, by omega, xs.length - (k + 1), by omega, k + 1, L ++ [(some ⟨w'.heap.size, 0, none⟩, (manyL xs[k], [k]))], by omega, by omega, rfl, by simpa using h4, ?_, ?_, by simp; omega, ?_⟩
      · intro x hx
        rcases List.mem_append.1 hx with e | e
        · exact ((hL x e).keep (keeps_none g1)).keep hk3
        · have : x = (some ⟨w'.heap.size, 0, none⟩, (manyL xs[k], [k])) := by simpa using e
          subst this
          exact ⟨_, rfl, (ItemAt.coin b1).keep hk3⟩
      · rw [htake, List.map_append, hLx]
        simp [rawCoins, hpos]
      · exact grown_own (grown_trans (grown_trans hg g1) g2) h5 ho2.block_ge
    · refine ⟨by omega, xs.length - (k + 1), by omega, k + 1, L, by omega, by omega, rfl, ho, hL, ?_, by omega, hg⟩
      rw [htake, hLx]
      simp [rawCoins, hpos]
  · have hk' : k = xs.length := by omega
    subst hk'
    rw [List.take_length] at hLx
    obtain ⟨hl, h | ⟨g, rfl, hb, hc, hnc, ho'⟩⟩ := ho.cases
    · obtain ⟨rfl, rfl, rfl, hx⟩ := h
      have : L = [] := by simpa using hx
      subst this
      refine sortedNilT.mono fun ev w2 hh => ?_
      refine ⟨hh.1, none, 0, 0, [], rfl, World.ownsRow_nil _ _ _ _, by simp, ?_, grown_trans hg hh.2⟩
      unfold coinsL
      rw [← hLx]; rfl
    · have hl' : n' = L.length := by simpa using hl
      refine (sortedT (key := keyW w') ho' (cmpItems ho' (by decide) hL) (by simpa using hl) (by omega)).mono fun ev w2 hh => ?_
      obtain ⟨h1, h2, h3⟩ := hh
      have hk2 := keeps_own ho' (by decide) h3
      have hm : inOrder (keyW w') (L.map Prod.fst) = (inOrder (fun x => x.2.1) L).map Prod.fst := inOrder_map _ _ _ _ (fun y hy => keyW_is (hL y hy))
      have hs : SameK (fun x : Option Addr × Coin => x.2.1) (inOrder (fun x => x.2.1) L) L := inOrder_same L
      rw [hm] at h2
      refine ⟨h1, _, n', c', inOrder (fun x => x.2.1) L, rfl, ?_, fun x hx => (hL x (hs.mem hx)).keep hk2, ?_, ?_⟩
      · have := h2.ownsRow hb hc
        simp only [List.length_map, hs.length, ← hl'] at this
        exact this
      · have := inOrder_map Prod.snd (Prod.fst : Coin → Int) (fun x : Option Addr × Coin => x.2.1) L (fun _ _ => rfl)
        rw [← this, hLx]; rfl
      · exact grown_own hg h3 (by intro k hk; cases hk; exact hb)
end Go.Proofs.Ytgahfcdmgdnjiaa

/-! merge: packed, add, Lengths: what they compute. -/
namespace Go.Proofs.Ytgahfcdmgdnjiaa
open Go Go.V Go.RowKit
set_option linter.unusedVariables false
set_option linter.unusedSimpArgs false
set_option maxHeartbeats 2000000

theorem ptrs_get {L : List (Option Addr × Coin)} {i : Nat} (h : i < L.length) : (ptrs L)[i]? = some (.pointer L[i].1) := by simp [ptrs, h]

theorem packed_calls {w : World} {A B : Option Addr} {n c m d : Nat} {C L : List (Option Addr × Coin)} (hA : Row w A (ptrs C)) (hB : Row w B (ptrs L)) (hn : n = C.length) (hm : m = L.length)
    (hC : ∀ x ∈ C, Is w x) (hL : ∀ x ∈ L, Is w x) (hcA : n ≤ c) (hnone : A = none → c = 0) (hnb : n ≤ 2 ^ 30) (hmb : m ≤ 2 ^ 30) (hb : ∀ x ∈ L, 0 ≤ x.2.1 ∧ x.2.1 ≤ 2 ^ 60) :
    Calls P 92 #[.slice A n c, .slice B m d] w fun ev w' => ∃ (A' : Option Addr) (n' c' : Nat) (O : List (Option Addr × Coin)), ev = .returned (.slice A' n' c') ∧ Owned w' w.heap.size 151 A' n' c' (ptrs O) ∧ (∀ x ∈ O, Is w' x) ∧
      O.map Prod.snd = packedL (C.map Prod.snd) (L.map Prod.snd) ∧ w.grownBy w' none := by
  apply vc92; unfold VC92; try (conv => zeta)
  simp only [InK]
  refine ⟨fun ms A' n' c' k i w' => ∃ (kn j : Nat) (O : List (Option Addr × Coin)), k = (kn : Int) ∧ i = ((2 * j : Nat) : Int) ∧ kn ≤ C.length ∧ 2 * j ≤ L.length ∧ O.length ≤ kn + j ∧ ms = L.length - 2 * j ∧ Owned w' w.heap.size 151 A' n' c' (ptrs O) ∧ (∀ x ∈ O, Is w' x) ∧
      O.map Prod.snd ++ mergeC ((C.drop kn).map Prod.snd) (packs ((L.drop (2 * j)).map Prod.snd)) = packedL (C.map Prod.snd) (L.map Prod.snd) ∧ w.grownBy w' none,
    ⟨_, 0, 0, [], rfl, rfl, by omega, by omega, by simp, rfl, World.ownsRow_nil _ _ _ _, by simp, by simp [packedL], grown_refl _ _⟩, ?_⟩
  rintro ms A' n' c' k i w' ⟨kn, j, O, rfl, rfl, hk, hj, hOl, rfl, ho, hO, heq, hg⟩
  refine ⟨by omega, fun hlt => ?_, fun hge => ?_⟩
  · have l1 : 2 * j < L.length := by omega
    have l2 : 2 * j + 1 < L.length := by omega
    -- the two items
    obtain ⟨a, ea, ia⟩ := (hL _ (List.getElem_mem l1)).keep (keeps_none hg)
    obtain ⟨b, eb, ib⟩ := (hL _ (List.getElem_mem l2)).keep (keeps_none hg)
    have ba := hb _ (List.getElem_mem l1)
    have bb := hb _ (List.getElem_mem l2)
    have hdrop : L.drop (2 * j) = L[2 * j] :: L[2 * j + 1] :: L.drop (2 * (j + 1)) := by
      rw [List.drop_eq_getElem_cons l1, List.drop_eq_getElem_cons l2]; rfl
    obtain ⟨r, hr1, hr2⟩ := (hB.kept_none hg) _ _ (ptrs_get l1)
    obtain ⟨r', hr1', hr2'⟩ := (hB.kept_none hg) _ _ (ptrs_get l2)
    obtain rfl : r' = r := by rw [hr1] at hr1'; cases hr1'; rfl
    have t1 : ((2 * j : Nat) : Int).toNat = 2 * j := by omega
    have t2 : (((2 * j : Nat) : Int) + 1).toNat = 2 * j + 1 := by omega
    refine ⟨r', hr1, by omega, by omega, L[2 * j].1, by rw [t1]; exact hr2, a, ea, L[2 * j].2.1, ia.count, by omega, r', hr1, by omega, by omega, L[2 * j + 1].1, by rw [t2]; exact hr2', b, eb, L[2 * j + 1].2.1, ib.count, by omega,
      r', hr1, by omega, by omega, L[2 * j].1, by rw [t1]; exact hr2, by omega, r', hr1, by omega, by omega, L[2 * j + 1].1, by rw [t2]; exact hr2', ?_⟩
    rw [ea, eb]
    generalize hcc : L[2 * j].2 = ca at *
    generalize hcd : L[2 * j + 1].2 = cb at *
    have gd := grown_drew (grown_refl w' none)
    have sd : w'.drew.heap.size = w'.heap.size := rfl
    generalize w'.drew = wd at *
    have g1 := World.grownBy_alloc wd (.cells #[.int .i64 (ca.1 + cb.1), .int .i64 0, .pointer (some a), .pointer (some b)] 154) none
    have b1 : (wd.alloc (.cells #[.int .i64 (ca.1 + cb.1), .int .i64 0, .pointer (some a), .pointer (some b)] 154)).heap[wd.heap.size]? = some (.cells #[.int .i64 (ca.1 + cb.1), .int .i64 0, .pointer (some a), .pointer (some b)] 154) := heap_alloc_new wd _
    generalize wd.alloc (.cells #[.int .i64 (ca.1 + cb.1), .int .i64 0, .pointer (some a), .pointer (some b)] 154) = w1 at *
    have kd1 : KeepsItems w' w1 := (keeps_none gd).trans (keeps_none g1)
    have ip : ItemAt w1 ⟨wd.heap.size, 0, none⟩ (ca.1 + cb.1) (ca.2 ++ cb.2) := .pack b1 (ia.keep kd1) (ib.keep kd1)
    have hg1 : w.grownBy w1 none := grown_trans (grown_trans hg gd) g1
    -- coins ahead of the package
    refine ⟨fun ms A2 n2 c2 k2 w2 => ∃ (kn : Nat) (O : List (Option Addr × Coin)), k2 = (kn : Int) ∧ kn ≤ C.length ∧ O.length ≤ kn + j ∧ ms = C.length - kn ∧ Owned w2 w.heap.size 151 A2 n2 c2 (ptrs O) ∧ (∀ x ∈ O, Is w2 x) ∧
        O.map Prod.snd ++ mergeC ((C.drop kn).map Prod.snd) ((ca.1 + cb.1, ca.2 ++ cb.2) :: packs ((L.drop (2 * (j + 1))).map Prod.snd)) = packedL (C.map Prod.snd) (L.map Prod.snd) ∧ w.grownBy w2 none ∧ KeepsItems w1 w2,
      ⟨_, kn, O, rfl, hk, by omega, rfl, (ho.kept gd).kept g1, fun x hx => (hO x hx).keep kd1, ?_, hg1, KeepsItems.refl _⟩, ?_⟩
    · rw [← heq, hdrop]
      simp only [List.map_cons, packs, hcc, hcd]
    clear heq ho hO hOl hk
    rintro ms A2 n2 c2 k2 w2 ⟨kn, O, rfl, hk, hOl, rfl, ho, hO, heq, hg2, hk2⟩
    have ip2 := ip.keep hk2
    -- the package behind the coins
    have one : ∀ (u : Option Addr), ∃ (A4 : Option Addr) (n4 c4 : Nat), ∃ w4 : World,
        Sem.run P (Builtin.append_ #[149, 149] 149 #[.slice A2 n2 c2, .slice (some ⟨w2.drew.heap.size, 0, none⟩) 1 1]) (w2.drew.alloc (.cells #[.pointer u] 151)) = .ok (.slice A4 n4 c4) w4 ∧
        Owned w4 w.heap.size 151 A4 n4 c4 (ptrs O ++ [.pointer u]) ∧ w.grownBy w4 none ∧ KeepsItems w2 w4 := by
      intro u
      have g3 := grown_drew (grown_refl w2 none)
      have s3 : w2.drew.heap.size = w2.heap.size := rfl
      generalize w2.drew = w3 at *
      have g4 := World.grownBy_alloc w3 (.cells #[.pointer u] 151) none
      have b4 : (w3.alloc (.cells #[.pointer u] 151)).cell? ⟨w3.heap.size, 0, none⟩ = some (.pointer u) := by simp
      generalize w3.alloc (.cells #[.pointer u] 151) = w4 at *
      have ho4 := (ho.kept g3).kept g4
      obtain ⟨A5, n5, c5, w5, h3, h4, h5⟩ := ho4.append1 (ty := 149) elemItem (by omega) (cc := 1) b4 rfl (by rw [ho.cases.1]; simp; omega) (Nat.le_trans hg2.size (Nat.le_trans g3.size g4.size))
      exact ⟨A5, n5, c5, w5, h3, h4, grown_own (grown_trans (grown_trans hg2 g3) g4) h5 ho4.block_ge, ((keeps_none g3).trans (keeps_none g4)).trans (keeps_owned ho4 (by decide) h5)⟩
    have last : (∀ ps, mergeC ((C.drop kn).map Prod.snd) ((ca.1 + cb.1, ca.2 ++ cb.2) :: ps) = (ca.1 + cb.1, ca.2 ++ cb.2) :: mergeC ((C.drop kn).map Prod.snd) ps) → ∃ (A4 : Option Addr) (n4 c4 : Nat), ∃ w4 : World,
        Sem.run P (Builtin.append_ #[149, 149] 149 #[.slice A2 n2 c2, .slice (some ⟨w2.drew.heap.size, 0, none⟩) 1 1]) (w2.drew.alloc (.cells #[.pointer (some ⟨wd.heap.size, 0, none⟩)] 151)) = .ok (.slice A4 n4 c4) w4 ∧
        (-9223372036854775808 ≤ ((2 * j : Nat) : Int) + 2 ∧ ((2 * j : Nat) : Int) + 2 ≤ 9223372036854775807) ∧ ∃ ms, ms < L.length - 2 * j ∧ ∃ (kn' j' : Nat) (O : List (Option Addr × Coin)), (kn : Int) = (kn' : Int) ∧ ((2 * j : Nat) : Int) + 2 = ((2 * j' : Nat) : Int) ∧ kn' ≤ C.length ∧ 2 * j' ≤ L.length ∧ O.length ≤ kn' + j' ∧ ms = L.length - 2 * j' ∧ Owned w4 w.heap.size 151 A4 n4 c4 (ptrs O) ∧ (∀ x ∈ O, Is w4 x) ∧
      O.map Prod.snd ++ mergeC ((C.drop kn').map Prod.snd) (packs ((L.drop (2 * j')).map Prod.snd)) = packedL (C.map Prod.snd) (L.map Prod.snd) ∧ w.grownBy w4 none := by
      intro hmerge
      obtain ⟨A4, n4, c4, w4, h1, h2, h3, h4⟩ := one (some ⟨wd.heap.size, 0, none⟩)
      refine ⟨A4, n4, c4, w4, h1, by omega, L.length - 2 * (j + 1), by omega, kn, j + 1, O ++ [(some ⟨wd.heap.size, 0, none⟩, (ca.1 + cb.1, ca.2 ++ cb.2))], rfl, by omega, hk, by omega, by simp; omega, rfl, by simpa [ptrs] using h2, ?_, ?_, h3⟩
      · intro x hx
        rcases List.mem_append.1 hx with e | e
        · exact (hO x e).keep h4
        · have : x = (some ⟨wd.heap.size, 0, none⟩, (ca.1 + cb.1, ca.2 ++ cb.2)) := by simpa using e
          subst this
          exact ⟨_, rfl, ip2.keep h4⟩
      · rw [← heq, hmerge]
        simp
    refine ⟨fun hlt2 => ?_, fun hge2 => ?_⟩
    · have l3 : kn < C.length := by omega
      obtain ⟨e, ee, ie⟩ := (hC _ (List.getElem_mem l3)).keep (keeps_none hg2)
      obtain ⟨q, hq1, hq2⟩ := (hA.kept_none hg2) _ _ (ptrs_get l3)
      have hdc : (C.drop kn).map Prod.snd = C[kn].2 :: (C.drop (kn + 1)).map Prod.snd := by
        rw [List.drop_eq_getElem_cons l3]; rfl
      refine ⟨q, hq1, by omega, by omega, C[kn].1, hq2, e, ee, C[kn].2.1, ie.count, _, rfl, ca.1 + cb.1, ip2.count, fun hle => ?_, fun hgt => ?_⟩
      · refine ⟨q, hq1, by omega, by omega, C[kn].1, hq2, ?_⟩
        obtain ⟨A4, n4, c4, w4, h1, h2, h3, h4⟩ := one C[kn].1
        refine ⟨A4, n4, c4, w4, h1, by omega, C.length - (kn + 1), by omega, kn + 1, O ++ [C[kn]], by omega, by omega, by simp; omega, rfl, by simpa [ptrs] using h2, ?_, ?_, h3, hk2.trans h4⟩
        · intro x hx
          rcases List.mem_append.1 hx with e | e
          · exact (hO x e).keep h4
          · have : x = C[kn] := by simpa using e
            subst this
            exact ((hC _ (List.getElem_mem l3)).keep (keeps_none hg2)).keep h4
        · rw [← heq, hdc, mergeC_le hle]
          simp
      · refine last fun ps => ?_
        rw [hdc]
        exact mergeC_gt hgt
    · have : kn = C.length := by omega
      refine last fun ps => ?_
      rw [this, List.drop_length]
      exact mergeC_none
  · -- the rest of the coins
    have hend : packs ((L.drop (2 * j)).map Prod.snd) = [] := by
      have : (L.drop (2 * j)).length ≤ 1 := by simp; omega
      match h : L.drop (2 * j) with
      | [] => rfl
      | [x] => simp [packs]
      | x :: y :: r => rw [h] at this; simp at this
    rw [hend] at heq
    simp only [mergeC] at heq
    have fin : ∀ w5, w'.grownBy w5 (Value.slice A' n' c').ownBlock → KeepsItems w' w5 ∧ w.grownBy w5 none := fun w5 h5 => ⟨keeps_owned ho (by decide) h5, grown_own hg h5 ho.block_ge⟩
    have kt : (kn : Int).toNat = kn := by omega
    refine ⟨by omega, ?_⟩
    rw [kt]
    cases A with
    | none =>
      have hc0 := hnone rfl
      have hC0 : C = [] := List.eq_nil_of_length_eq_zero (by omega)
      subst hC0
      obtain ⟨i, e1, e2, _⟩ := elemItem.ex
      have hr := run_append_owned_none (P := P) w' w.heap.size 149 149 151 i 1 e1 e2 _ _ _ ho
      have hkn : kn = 0 := by simpa using hk
      subst hkn
      refine ⟨A', n', c', w', ?_, A', n', c', O, rfl, ho, hO, ?_, hg⟩
      · have : (.slice (cutA none c 0 1) (n - 0) (c - 0) : Value) = .slice none 0 0 := by
          have : n = 0 := by simpa using hn
          subst this; subst hc0; rfl
        rw [this]
        exact hr
      · rw [← heq]; simp
    | some a =>
      have hrow : ∃ a', cutA (some a) c kn 1 = some a' ∧ ∀ j u, (ptrs (C.drop kn))[j]? = some u → w'.cell? (a'.add j) = some u := by
        by_cases hck : c = kn
        · refine ⟨a, by simp [cutA, hck], fun j u hj => ?_⟩
          have : C.drop kn = [] := List.drop_eq_nil_of_le (by omega)
          rw [this] at hj; simp at hj
        · refine ⟨a.add kn, by simp [cutA, hck], fun j u hj => ?_⟩
          obtain ⟨a2, h1, h2⟩ := ((hA.kept_none hg).drop kn) j u (by simpa [ptrs] using hj)
          cases h1
          exact h2
      obtain ⟨a', ha1, ha2⟩ := hrow
      obtain ⟨A4, n4, c4, w4, h1, h2, h3⟩ := ho.appends (ty := 149) elemItem (by omega) (cc := c - kn) (m := n - kn) (by simp; omega) ha2 (fun u hu => by obtain ⟨x, _, rfl⟩ := List.mem_map.1 hu; rfl) (by rw [ho.cases.1]; simp; omega) hg.size
      obtain ⟨f1, f2⟩ := fin w4 h3
      refine ⟨A4, n4, c4, w4, by rw [ha1]; exact h1, A4, n4, c4, O ++ C.drop kn, rfl, by simpa [ptrs] using h2, ?_, ?_, f2⟩
      · intro x hx
        rcases List.mem_append.1 hx with e | e
        · exact (hO x e).keep f1
        · exact ((hC x (List.mem_of_mem_drop e)).keep (keeps_none hg)).keep f1
      · rw [← heq]; simp
end Go.Proofs.Ytgahfcdmgdnjiaa

/-! merge: add and Lengths: what they compute. -/
namespace Go.Proofs.Ytgahfcdmgdnjiaa
open Go Go.V Go.RowKit
set_option linter.unusedVariables false
set_option linter.unusedSimpArgs false
set_option maxHeartbeats 2000000

theorem cell_blk {w : World} {k j : Nat} {cur : Array Value} {e : TypeId} {fr : Nat × Nat} (h : w.heap[k]? = some (.cells cur e fr)) : w.cell? ((⟨k, 0, none⟩ : Addr).add j) = cur[j]? := by
  rw [add_lit, World.cell?, h]; rfl

theorem ItemAt.pos {w : World} {a : Addr} {c : Int} {s : List Nat} (h : ItemAt w a c s) : 0 < s.length := by
  induction h with
  | coin _ => simp
  | pack _ _ _ ih _ => simp; omega

theorem ItemAt.single {w : World} {a : Addr} {c : Int} {t : List Nat} (h : ItemAt w a c t) {s : Nat} (ht : t = [s]) : w.cell? (a.add 1) = some (.int .i64 (s : Int)) := by
  cases h with
  | coin h => cases ht; rw [cell_blk h]; rfl
  | pack h i1 i2 =>
    have := congrArg List.length ht
    have := i1.pos
    have := i2.pos
    simp at *; omega

abbrev ints (xs : List Int) : List Value := xs.map (Value.int .i64)

theorem addItem {w : World} {g cap : Nat} {a : Addr} {c : Int} {s : List Nat} (h : ItemAt w a c s) : ∀ {w' : World} {xs : List Int} {n : Nat} {B : Int}, KeepsItems w w' → Own w' g 3 cap (ints xs) → n = xs.length → (∀ i ∈ s, i < n) → (∀ v ∈ xs, 0 ≤ v ∧ v ≤ B) → 0 ≤ B → B + s.length ≤ 2 ^ 62 →
    Calls P 93 #[.pointer (some a), .slice (some ⟨g, 0, none⟩) n cap] w' fun ev w2 => ev = .returned (.tuple #[]) ∧ Own w2 g 3 cap (ints (addL s xs)) ∧ w'.grownBy w2 (some g) := by
  induction h with
  | @coin k c s y hk =>
    intro w' xs n B hkeep ho hn hs hx hB hBs
    have hb := hkeep _ _ hk
    apply vc93; unfold VC93; try (conv => zeta)
    simp only [InK]
    have hsn : s < xs.length := by have := hs s (by simp); omega
    have hrow := ho.cell (j := s) (u := .int .i64 xs[s]) (by simp [hsn])
    have hv := hx xs[s] (List.getElem_mem hsn)
    have ts : (s : Int).toNat = s := by omega
    refine ⟨_, rfl, by omega, none, by rw [cell_blk hb]; rfl, fun _ => ?_, fun h => absurd rfl h⟩
    refine ⟨_, rfl, (s : Int), by rw [cell_blk hb]; rfl, _, rfl, by omega, by omega, xs[s], by rw [ts]; exact hrow, by simp at hBs; omega, _, rfl, by omega, by omega, ⟨_, by rw [ts]; exact hrow⟩, ho.notFrozen (add_block _ _), trivial, ?_, grown_set (grown_refl _ _) (add_block _ _) _⟩
    rw [ts]
    have := ho.set (j := s) (by simpa using hsn) (.int .i64 (xs[s] + 1))
    refine cast ?_ this
    congr 1
    simp [addL, bump, hsn, List.map_set]
  | @pack k c1 c2 s1 s2 z p q hk h1 h2 ih1 ih2 =>
    intro w' xs n B hkeep ho hn hs hx hB hBs
    have hb := hkeep _ _ hk
    simp only [List.length_append] at hBs
    apply vc93; unfold VC93; try (conv => zeta)
    simp only [InK]
    refine ⟨_, rfl, by omega, some p, by rw [cell_blk hb]; rfl, fun h => absurd h (by simp), fun _ => ?_⟩
    refine ⟨_, rfl, some p, by rw [cell_blk hb]; rfl, some q, by rw [add_add, cell_blk hb]; rfl, ?_⟩
    refine ⟨fun m i w2 => w'.grownBy w2 (some g) ∧ ((i = 0 ∧ m = 2 ∧ Own w2 g 3 cap (ints xs)) ∨ (i = 1 ∧ m = 1 ∧ Own w2 g 3 cap (ints (addL s1 xs))) ∨ (i = 2 ∧ m = 0 ∧ Own w2 g 3 cap (ints (addL (s1 ++ s2) xs)))), ⟨2, grown_refl _ _, .inl ⟨rfl, rfl, ho⟩⟩, ?_⟩
    rintro m i w2 ⟨hg, hi⟩
    have hk2 := hkeep.trans (keeps_own ho (by decide) hg)
    refine ⟨fun hlt => ⟨by omega, fun h0 => ?_, fun h1 => ?_, trivial⟩, fun hge => ⟨trivial, ?_, hg⟩⟩
    · subst h0
      rcases hi with ⟨_, rfl, ho2⟩ | ⟨h, _⟩ | ⟨h, _⟩
      · refine (ih1 hk2 ho2 hn (fun i hi => hs i (by simp [hi])) hx hB (by omega)).mono fun ev w3 hh => ?_
        obtain ⟨e1, e2, e3⟩ := hh
        exact ⟨e1, by omega, 1, by omega, grown_trans hg e3, .inr (.inl ⟨rfl, rfl, e2⟩)⟩
      · omega
      · omega
    · subst h1
      rcases hi with ⟨h, _⟩ | ⟨_, rfl, ho2⟩ | ⟨h, _⟩
      · omega
      · refine (ih2 hk2 ho2 (by rw [addL_length]; exact hn) (fun i hi => hs i (by simp [hi])) (addL_bound s1 hx hB) (by omega) (by omega)).mono fun ev w3 hh => ?_
        obtain ⟨e1, e2, e3⟩ := hh
        exact ⟨e1, by omega, 0, by omega, grown_trans hg e3, .inr (.inr ⟨rfl, rfl, by rw [addL_append]; exact e2⟩)⟩
      · omega
    · rcases hi with ⟨h, _⟩ | ⟨h, _⟩ | ⟨_, _, ho2⟩
      · omega
      · omega
      · exact ho2

/-- What holds of the members of the lists. -/
def Fine (N : Nat) (k : Nat) (x : Coin) : Prop := 0 < x.1 ∧ x.1 ≤ 1099511627776 * 2 ^ k ∧ x.2.length ≤ 2 ^ k ∧ ∀ s ∈ x.2, s < N

theorem fine_lev (xs : List Int) : ∀ k, ∀ x ∈ lev (coinsL xs) k, Fine xs.length k x := by
  apply lev_mem
  · rintro k a b ⟨a1, a2, a3, a4⟩ ⟨b1, b2, b3, b4⟩
    have hp : 0 < 2 ^ k := Nat.two_pow_pos k
    refine ⟨by show 0 < a.1 + b.1; omega, ?_, ?_, ?_⟩
    · show a.1 + b.1 ≤ _
      rw [Int.pow_succ]; omega
    · show (a.2 ++ b.2).length ≤ _
      rw [List.length_append, Nat.pow_succ]; omega
    · intro s hs
      rcases List.mem_append.1 hs with e | e
      · exact a4 s e
      · exact b4 s e
  · intro k x hx
    obtain ⟨h1, h2, s, h3, h4⟩ := coinsL_mem hx
    have hp : 0 < 2 ^ k := Nat.two_pow_pos k
    have hp' : (1 : Int) ≤ 2 ^ k := by have : ((2 ^ k : Nat) : Int) = 2 ^ k := by simp
                                       omega
    refine ⟨h1, ?_, by rw [h3]; simp; omega, by rw [h3]; simpa using h4⟩
    have : (1099511627776 : Int) * 1 ≤ 1099511627776 * 2 ^ k := Int.mul_le_mul_of_nonneg_left hp' (by omega)
    omega

theorem lev_short (first : List Coin) : ∀ k, (lev first k).length ≤ 2 * first.length
  | 0 => by simp [lev]; omega
  | k + 1 => by
    have := lev_short first k
    simp only [lev, packedL, mergeC_length, packs_length]
    omega

theorem mostL_eq (most : Int) : mn (mx most 1) 15 = (mostL most : Int) ∧ 1 ≤ mostL most ∧ mostL most ≤ 15 := by
  unfold mostL mx mn
  split <;> split <;> omega

theorem lengths_calls {w : World} {A : Option Addr} {n c : Nat} {xs : List Int} {most : Int} (hrow : Row w A (ints xs)) (hn : n = xs.length) :
    Calls P 67 #[.slice A n c, .int .i64 most] w fun ev w' => ∃ (A' : Option Addr) (n' c' : Nat), ev = .returned (.slice A' n' c') ∧ Owned w' w.heap.size 3 A' n' c' (ints (lensL xs most)) ∧ w.grownBy w' none := by
  apply vc67; unfold VC67; try (conv => zeta)
  obtain ⟨hm, hm1, hm15⟩ := mostL_eq most
  rw [hm]
  simp only [InK]
  have tn : (mostL most : Int).toNat = mostL most := by omega
  have hmin : min (mostL most) 64 = mostL most := by omega
  rw [tn, hmin]
  have hpow : 2 ^ mostL most ≤ 2 ^ 15 := Nat.pow_le_pow_right (by omega) hm15
  obtain ⟨q, hq⟩ : ∃ q, q = 2 ^ mostL most := ⟨_, rfl⟩
  have hcast : (1 : Int) * 2 ^ mostL most = (q : Int) := by rw [hq]; simp
  rw [hcast]
  refine ⟨fun h => ⟨none, 0, 0, rfl, ?_, grown_refl _ _⟩, fun h => ?_⟩
  · have : lensL xs most = [] := by unfold lensL; rw [if_pos (by omega)]
    rw [this]; exact World.ownsRow_nil _ _ _ _
  · have h256 : xs.length ≤ 256 := by omega
    refine (coins_calls hrow hn (by omega)).mono fun ev w1 hh => ?_
    obtain ⟨A1, n1, c1, L, rfl, ho, hL, hLx, hg⟩ := hh
    have hn1 : n1 = (coinsL xs).length := by rw [ho.cases.1, ← hLx]; simp
    have hLl : L.length = (coinsL xs).length := by rw [← hLx]; simp
    refine ⟨A1, n1, c1, rfl, by omega, fun h2 => ?_, fun h2 => ?_⟩
    · refine ⟨none, 0, 0, rfl, ?_, hg⟩
      have : lensL xs most = [] := by unfold lensL; rw [if_neg (by omega), if_pos (by omega)]
      rw [this]; exact World.ownsRow_nil _ _ _ _
    · have hlens : lensL xs most = addL (chosen xs (mostL most)) (List.replicate xs.length 0) := by unfold lensL; rw [if_neg (by omega), if_neg (by omega)]
      obtain ⟨w2, hr, hown, hg2⟩ := run_made (P := P) (w := w1) elemInt (by omega) (m := n) (by omega)
      refine ⟨_, _, _, w2, hr, ?_⟩
      have hown : Own w2 w1.heap.size 3 n (ints (List.replicate xs.length 0)) := by
        simpa [ints, hn] using hown
      have fin : ∀ w3 ys, ys = lensL xs most → Own w3 w1.heap.size 3 n (ints ys) → w2.grownBy w3 (some w1.heap.size) → ∃ (A' : Option Addr) (n' c' : Nat), Ending.returned (.slice (some ⟨w1.heap.size, 0, none⟩) n n) = .returned (.slice A' n' c') ∧ Owned w3 w.heap.size 3 A' n' c' (ints (lensL xs most)) ∧ w.grownBy w3 none := by
        intro w3 ys hys h3 h4
        subst hys
        have h5 := h3.ownsRow hg.size (by simp only [maxLen]; omega)
        have : (ints (lensL xs most)).length = n := by rw [hlens]; simp [ints, addL_length, hn]
        rw [this] at h5
        exact ⟨_, _, _, rfl, h5, grown_own (grown_trans hg hg2) h4 (by intro k hk; cases hk; exact hg.size)⟩
      have hL2 : ∀ x ∈ L, Is w2 x := fun x hx => (hL x hx).keep (keeps_none hg2)
      have ho2 := ho.kept hg2
      refine ⟨fun h1 => ?_, fun h1 => ?_⟩
      · -- one symbol
        obtain ⟨x, rfl⟩ : ∃ x, L = [x] := List.length_eq_one_iff.1 (by omega)
        obtain ⟨a, h3, h4⟩ := ho2.row 0 (.pointer x.1) (by simp [ptrs])
        have ha0 : a.add 0 = a := by simp [Addr.add]
        rw [ha0] at h4
        have hcoin : coinsL xs = [x.2] := by rw [← hLx]; rfl
        obtain ⟨_, _, s, hs1, hs2⟩ := coinsL_mem (xs := xs) (x := x.2) (by rw [hcoin]; simp)
        obtain ⟨b, hb1, hb2⟩ := hL2 x (by simp)
        have hbs := hb2.single hs1
        have ts : (s : Int).toNat = s := by omega
        have hcell := hown.cell (j := s) (u := .int .i64 0) (by simp [ints, hs2])
        refine ⟨a, h3, by omega, by omega, x.1, h4, b, hb1, (s : Int), hbs, _, rfl, by omega, by omega, ⟨_, by rw [ts]; exact hcell⟩, hown.notFrozen (add_block _ _), ?_⟩
        rw [ts]
        have hset := hown.set (j := s) (by simpa [ints] using hs2) (.int .i64 1)
        refine fin _ ((List.replicate xs.length 0).set s 1) ?_ ?_ (grown_set (grown_refl _ _) (add_block _ _) _)
        · rw [hlens]
          have : chosen xs (mostL most) = [s] := by unfold chosen; rw [hcoin]; simp [hs1]
          rw [this]
          simp [addL, bump, hs2]
        · simpa [ints, List.map_set] using hset
      · refine ⟨by omega, ?_⟩
        -- list after list
        refine ⟨fun ms lA ln lc i w3 => ∃ (k : Nat) (O : List (Option Addr × Coin)), i = (k : Int) ∧ k ≤ mostL most - 1 ∧ ms = mostL most - 1 - k ∧ Owned w3 w.heap.size 151 lA ln lc (ptrs O) ∧ (∀ x ∈ O, Is w3 x) ∧ O.map Prod.snd = lev (coinsL xs) k ∧ w2.grownBy w3 none,
          ⟨_, 0, L, rfl, by omega, rfl, ho2, hL2, hLx, grown_refl _ _⟩, ?_⟩
        rintro ms lA ln lc i w3 ⟨k, O, rfl, hk, rfl, ho3, hO, hOk, hg3⟩
        have hOl : O.length = (lev (coinsL xs) k).length := by rw [← hOk]; simp
        have hls := lev_short (coinsL xs) k
        have hcl := coinsL_length xs
        have hln : ln = O.length := by rw [ho3.cases.1]; simp
        refine ⟨fun hlt => ?_, fun hge => ?_⟩
        · have hfine : ∀ x ∈ O, 0 ≤ x.2.1 ∧ x.2.1 ≤ 2 ^ 60 := by
            intro x hx
            have h := fine_lev xs k x.2 (by rw [← hOk]; exact List.mem_map_of_mem hx)
            have hp : (2 : Int) ^ k ≤ 2 ^ 15 := by
              have := Nat.pow_le_pow_right (n := 2) (by omega) (show k ≤ 15 by omega)
              have e1 : ((2 ^ k : Nat) : Int) = 2 ^ k := by simp
              have e2 : ((2 ^ 15 : Nat) : Int) = 2 ^ 15 := by simp
              omega
            have h2 := h.2.1
            exact ⟨by have := h.1; omega, by omega⟩
          have hnone : A1 = none → c1 = 0 ∧ n1 = 0 := by
            intro e
            rcases ho.cases.2 with ⟨_, h, h', _⟩ | ⟨g, h, _⟩
            · exact ⟨h', h⟩
            · rw [e] at h; cases h
          have hcap : n1 ≤ c1 := by
            rcases ho.cases.2 with ⟨_, h, h', _⟩ | ⟨g, _, _, _, h, _⟩
            · omega
            · exact h
          refine (packed_calls (C := L) (L := O) ((ho2.kept hg3).row) ho3.row (by omega) hln (fun x hx => (hL2 x hx).keep (keeps_none hg3)) hO hcap (fun e => (hnone e).1) (by omega) (by omega) hfine).mono fun ev w4 hh => ?_
          obtain ⟨A4, n4, c4, O4, rfl, q1, q2, q3, q4⟩ := hh
          have hsz : w.heap.size ≤ w3.heap.size := Nat.le_trans hg.size (Nat.le_trans hg2.size hg3.size)
          refine ⟨A4, n4, c4, rfl, by omega, mostL most - 1 - (k + 1), by omega, k + 1, O4, by omega, by omega, rfl, Owned.mono q1 hsz, q2, ?_, grown_trans hg3 q4⟩
          rw [q3, hLx, hOk]; rfl
        · have hk' : k = mostL most - 1 := by omega
          have hlong := lev_long hm1 (first := coinsL xs) (by omega)
          rw [← hk'] at hlong
          have hlc : ln ≤ lc := by
            rcases ho3.cases.2 with ⟨_, h, h', _⟩ | ⟨g, _, _, _, h, _⟩
            · omega
            · exact h
          have hmx : mx (2 * (n1 : Int) - 2) 0 = ((2 * (coinsL xs).length - 2 : Nat) : Int) := by unfold mx; split <;> omega
          rw [hmx]
          have tm : (((2 * (coinsL xs).length - 2 : Nat) : Int)).toNat = 2 * (coinsL xs).length - 2 := by omega
          rw [tm]
          refine ⟨by omega, by omega, by omega, ?_⟩
          have hchosen : chosen xs (mostL most) = ((lev (coinsL xs) k).take (2 * (coinsL xs).length - 2)).flatMap Prod.snd := by
            unfold chosen; rw [if_neg (by omega), hk']
          refine ⟨fun ms i w4 => ∃ (j : Nat) (ys : List Int), i = (j : Int) ∧ j ≤ 2 * (coinsL xs).length - 2 ∧ ms = 2 * (coinsL xs).length - 2 - j ∧ ys = addL (((lev (coinsL xs) k).take j).flatMap Prod.snd) (List.replicate xs.length 0) ∧ (∀ v ∈ ys, 0 ≤ v ∧ v ≤ 2 ^ 15 * (j : Int)) ∧
              Own w4 w1.heap.size 3 n (ints ys) ∧ w2.grownBy w4 (some w1.heap.size) ∧ w3.grownBy w4 (some w1.heap.size),
            ⟨_, 0, List.replicate xs.length 0, rfl, by omega, rfl, by simp [addL], by simp, hown.kept hg3 (by simp), grown_none hg3, grown_refl _ _⟩, ?_⟩
          rintro ms i w4 ⟨j, ys, rfl, hj, rfl, hys, hyb, ho4, hg4, hg34⟩
          have hyl : ys.length = n := by rw [hys, addL_length]; simp [hn]
          have ho3' : Own w3 w1.heap.size 3 n (ints (List.replicate xs.length 0)) := hown.kept hg3 (by simp)
          have hkeep := keeps_own ho3' (by decide) hg34
          refine ⟨fun hlt => ?_, fun hge2 => ?_⟩
          · have hjO : j < O.length := by omega
            -- the row of items is another block than the lengths
            have hrowne : Row w4 lA (ptrs O) := by
              refine Row.kept ho3.row hg34 ?_
              intro a ha e
              rcases ho3.cases.2 with ⟨h, _⟩ | ⟨g, h, _, _, _, hog⟩
              · rw [ha] at h; cases h
              · rw [ha] at h; cases h
                simp only [Option.some.injEq] at e
                subst e
                obtain ⟨cur, e1, _⟩ := hog
                obtain ⟨cur', e2, _⟩ := ho3'
                rw [e1] at e2
                cases e2
            obtain ⟨a, h3, h4⟩ := hrowne j _ (ptrs_get hjO)
            obtain ⟨b, hb1, hb2⟩ := hO _ (List.getElem_mem hjO)
            have hmem : O[j].2 ∈ lev (coinsL xs) k := by rw [← hOk]; exact List.mem_map_of_mem (List.getElem_mem hjO)
            obtain ⟨f1, f2, f3, f4⟩ := fine_lev xs k _ hmem
            have hpk : 2 ^ k ≤ 2 ^ 15 := Nat.pow_le_pow_right (by omega) (by omega)
            refine ⟨a, h3, by omega, by omega, O[j].1, h4, ?_⟩
            rw [hb1]
            refine (addItem hb2 hkeep ho4 (by omega) (fun i hi => by have := f4 i hi; omega) hyb (by omega) (by omega)).mono fun ev w5 hh => ?_
            obtain ⟨e1, e2, e3⟩ := hh
            refine ⟨e1, by omega, 2 * (coinsL xs).length - 2 - (j + 1), by omega, j + 1, addL O[j].2.2 ys, by omega, by omega, rfl, ?_, ?_, e2, grown_trans hg4 e3, grown_trans hg34 e3⟩
            · have hjl : j < (lev (coinsL xs) k).length := by omega
              have : (lev (coinsL xs) k)[j] = O[j].2 := by simp [← hOk]
              rw [hys, List.take_succ_eq_append_getElem hjl, List.flatMap_append, addL_append, this]
              simp
            · intro v hv
              have := addL_bound O[j].2.2 hyb (by omega) v hv
              omega
          · have hj' : j = 2 * (coinsL xs).length - 2 := by omega
            refine fin w4 ys ?_ ho4 hg4
            rw [hys, hlens, hchosen, hj']
end Go.Proofs.Ytgahfcdmgdnjiaa

/-! archipelagohelp.Ints, merge.Kraft, merge.Cost, archipelagolaw5.known: what they compute. -/
namespace Go.Proofs.Ytgahfcdmgdnjiaa
open Go Go.V Go.RowKit
set_option linter.unusedVariables false
set_option linter.unusedSimpArgs false
set_option maxHeartbeats 2000000
set_option maxRecDepth 100000

theorem row_alloc (w : World) (cs : Array Value) (t : TypeId) : Row (w.alloc (.cells cs t)) (some ⟨w.heap.size, 0, none⟩) cs.toList := by
  intro j u hj
  refine ⟨_, rfl, ?_⟩
  rw [add_lit, World.cell?_alloc_new]
  simpa using hj

theorem kraft1_bound (x : Int) : 0 ≤ kraft1 x ∧ kraft1 x ≤ 2 ^ 14 := by
  unfold kraft1
  split
  · have h : (15 - x).toNat ≤ 14 := by omega
    have h1 := Nat.pow_le_pow_right (n := 2) (by omega) h
    obtain ⟨q, hq⟩ : ∃ q : Nat, q = 2 ^ (15 - x).toNat := ⟨_, rfl⟩
    have e1 : (2 : Int) ^ (15 - x).toNat = (q : Int) := by rw [hq]; simp
    rw [e1]
    omega
  · omega

theorem kraft_take_bound (xs : List Int) : 0 ≤ kraftL xs ∧ kraftL xs ≤ 2 ^ 14 * xs.length := by
  induction xs with
  | nil => simp [kraftL]
  | cons x xs ih =>
    have := kraft1_bound x
    simp only [kraftL, List.map_cons, List.sum_cons, List.length_cons] at *
    omega

theorem kraft_calls {w : World} {A : Option Addr} {n c : Nat} {xs : List Int} (hA : Row w A (ints xs)) (hn : n = xs.length) (hb : n ≤ 2 ^ 40) :
    Calls P 132 #[.slice A n c] w fun ev w' => ev = .returned (.int .i64 (kraftL xs)) ∧ w.grownBy w' none := by
  apply vc132; unfold VC132; try (conv => zeta)
  simp only [InK]
  refine ⟨fun ms s i w' => ∃ k : Nat, i = (k : Int) ∧ k ≤ xs.length ∧ ms = xs.length - k ∧ s = kraftL (xs.take k) ∧ w.grownBy w' none, ⟨_, 0, rfl, by omega, rfl, by simp [kraftL], grown_refl _ _⟩, ?_⟩
  rintro ms s i w' ⟨k, rfl, hk, rfl, rfl, hg⟩
  refine ⟨fun hlt => ?_, fun hge => ?_⟩
  · have l1 : k < xs.length := by omega
    obtain ⟨a, ha1, ha2⟩ := (hA.kept_none hg) k (.int .i64 xs[k]) (by simp [ints, l1])
    have hs : kraftL (xs.take (k + 1)) = kraftL (xs.take k) + kraft1 xs[k] := by
      rw [List.take_succ_eq_append_getElem l1]
      simp only [kraftL, List.map_append, List.sum_append, List.map_cons, List.map_nil, List.sum_cons, List.sum_nil]
      omega
    have b1 := kraft_take_bound (xs.take k)
    have hl : (xs.take k).length = k := by simp; omega
    rw [hl] at b1
    refine ⟨a, ha1, by omega, by omega, xs[k], ha2, fun h1 => ⟨fun h2 => ?_, fun h2 => ?_⟩, fun h1 => ?_⟩
    · have hv : kraft1 xs[k] = 2 ^ (15 - xs[k]).toNat := by unfold kraft1; rw [if_pos ⟨by omega, h2⟩]
      have hm : min (15 - xs[k]).toNat 64 = (15 - xs[k]).toNat := by omega
      have b2 := kraft1_bound xs[k]
      rw [hm, Int.one_mul, ← hv]
      exact ⟨by omega, by omega, by omega, by omega, xs.length - (k + 1), by omega, k + 1, by omega, by omega, rfl, hs.symm, hg⟩
    · have hv : kraft1 xs[k] = 0 := by unfold kraft1; rw [if_neg (by omega)]
      exact ⟨by omega, xs.length - (k + 1), by omega, k + 1, by omega, by omega, rfl, by rw [hs, hv]; omega, hg⟩
    · have hv : kraft1 xs[k] = 0 := by unfold kraft1; rw [if_neg (by omega)]
      exact ⟨by omega, xs.length - (k + 1), by omega, k + 1, by omega, by omega, rfl, by rw [hs, hv]; omega, hg⟩
  · have : k = xs.length := by omega
    subst this
    rw [List.take_length]
    exact ⟨rfl, hg⟩

end Go.Proofs.Ytgahfcdmgdnjiaa

/-! archipelagolaw5.counts: what it makes; bools unlike; what the laws share. -/
namespace Go.Proofs.Ytgahfcdmgdnjiaa
open Go Go.V Go.RowKit
set_option linter.unusedVariables false
set_option linter.unusedSimpArgs false
set_option maxHeartbeats 2000000
set_option maxRecDepth 100000

theorem append_int {w : World} {base : Nat} {A : Option Addr} {n c : Nat} {xs : List Int} {x : Int} (ho : Owned w base 3 A n c (ints xs)) (hn : n ≤ 2 ^ 30) (hb : base ≤ w.heap.size) :
    ∃ (A' : Option Addr) (n' c' : Nat) (w' : World), Sem.run P (Builtin.append_ #[58, 58] 58 #[.slice A n c, .slice (some ⟨w.heap.size, 0, none⟩) 1 1]) (w.alloc (.cells #[.int .i64 x] 3)) = .ok (.slice A' n' c') w' ∧
      Owned w' base 3 A' n' c' (ints (xs ++ [x])) ∧ w.grownBy w' (Value.slice A n c).ownBlock := by
  have g := World.grownBy_alloc w (.cells #[.int .i64 x] 3) none
  have b : (w.alloc (.cells #[.int .i64 x] 3)).cell? ⟨w.heap.size, 0, none⟩ = some (.int .i64 x) := by simp
  obtain ⟨A', n', c', w', h1, h2, h3⟩ := (ho.kept g).append1 (ty := 58) elemInt (by omega) (cc := 1) b rfl (by omega) (Nat.le_trans hb g.size)
  exact ⟨A', n', c', w', h1, by simpa [ints] using h2, grown_trans (grown_none g) h3⟩

def cnt5 (x : Int) : List Int := [x, x % 3, (x % 2) * 1000, 2 ^ (x % 40).toNat, x * x]
def cnt (k x : Int) : Int := (cnt5 x).getD ((k + x % 7) % 5).toNat 0
end Go.Proofs.Ytgahfcdmgdnjiaa

/-! archipelagoref5: clamp, Cost, Kraft: what they compute. -/
namespace Go.Proofs.Ytgahfcdmgdnjiaa
open Go Go.V Go.RowKit
set_option linter.unusedVariables false
set_option linter.unusedSimpArgs false
set_option maxHeartbeats 2000000
set_option maxRecDepth 100000

end Go.Proofs.Ytgahfcdmgdnjiaa

/-! archipelagoref5: coins in memory; merged: what it computes. -/
namespace Go.Proofs.Ytgahfcdmgdnjiaa
open Go Go.V Go.RowKit
set_option linter.unusedVariables false
set_option linter.unusedSimpArgs false
set_option maxHeartbeats 2000000
set_option maxRecDepth 100000

end Go.Proofs.Ytgahfcdmgdnjiaa

/-! archipelagoref5.merged: what it computes. -/
namespace Go.Proofs.Ytgahfcdmgdnjiaa
open Go Go.V Go.RowKit
set_option linter.unusedVariables false
set_option linter.unusedSimpArgs false
set_option maxHeartbeats 4000000
set_option maxRecDepth 100000

end Go.Proofs.Ytgahfcdmgdnjiaa

/-! archipelagoref5.Lengths: what it computes. -/
namespace Go.Proofs.Ytgahfcdmgdnjiaa
open Go Go.V Go.RowKit
set_option linter.unusedVariables false
set_option linter.unusedSimpArgs false
set_option maxHeartbeats 4000000
set_option maxRecDepth 100000

end Go.Proofs.Ytgahfcdmgdnjiaa

/-! archipelagoref5.Lengths: the walk. -/
namespace Go.Proofs.Ytgahfcdmgdnjiaa
open Go Go.V Go.RowKit
set_option linter.unusedVariables false
set_option linter.unusedSimpArgs false
set_option maxHeartbeats 4000000
set_option maxRecDepth 100000

end Go.Proofs.Ytgahfcdmgdnjiaa
