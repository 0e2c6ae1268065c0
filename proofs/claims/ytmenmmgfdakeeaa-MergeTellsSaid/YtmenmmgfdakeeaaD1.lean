/- merge: items in memory; many, the comparison, the list of coins. -/
import Derived.Test.YtmenmmgfdakeeaaXM
import Derived.Test.YtmenmmgfdakeeaaC4T
import Derived.Test.YtmenmmgfdakeeaaM2
import Derived.Test.YtmenmmgfdakeeaaS3
namespace Go.Proofs.Ytmenmmgfdakeeaa
open Go Go.V Go.RowKit
set_option linter.unusedVariables false
set_option linter.unusedSimpArgs false
set_option maxHeartbeats 2000000

theorem elemItem : Elem P 125 127 (.pointer none) 8 := ⟨(P.info? 127).getD default, by kernel_rfl, by kernel_rfl, by kernel_rfl, by kernel_rfl, by kernel_rfl, by kernel_rfl⟩
theorem elemInt : Elem P 22 3 (.int .i64 0) 8 := ⟨(P.info? 3).getD default, by kernel_rfl, by kernel_rfl, by kernel_rfl, by kernel_rfl, by kernel_rfl, by kernel_rfl⟩

/-- An item stands in memory: a coin, or a package of two items. -/
inductive ItemAt (w : World) : Addr → Int → List Nat → Prop
  | coin {k : Nat} {c : Int} {s : Nat} {y : Value} : w.heap[k]? = some (.cells #[.int .i64 c, .int .i64 (s : Int), .pointer none, y] 130 (0, 0)) → ItemAt w ⟨k, 0, none⟩ c [s]
  | pack {k : Nat} {c1 c2 : Int} {s1 s2 : List Nat} {z : Value} {p q : Addr} : w.heap[k]? = some (.cells #[.int .i64 (c1 + c2), z, .pointer (some p), .pointer (some q)] 130 (0, 0)) →
      ItemAt w p c1 s1 → ItemAt w q c2 s2 → ItemAt w ⟨k, 0, none⟩ (c1 + c2) (s1 ++ s2)

def Is (w : World) (x : Option Addr × Coin) : Prop := ∃ a, x.1 = some a ∧ ItemAt w a x.2.1 x.2.2

/-- What turns no block of items. -/
def KeepsItems (w w' : World) : Prop := ∀ (k : Nat) (cur : Array Value), w.heap[k]? = some (Obj.cells cur 130 (0, 0)) → w'.heap[k]? = some (Obj.cells cur 130 (0, 0))

theorem KeepsItems.refl (w : World) : KeepsItems w w := fun _ _ h => h
theorem KeepsItems.trans {a b c : World} (h : KeepsItems a b) (h' : KeepsItems b c) : KeepsItems a c := fun k cur hk => h' k cur (h k cur hk)
theorem keeps_grown {w w' : World} {r : Option Nat} (hg : w.grownBy w' r) (hr : ∀ g, r = some g → ∃ (cur : Array Value) (e : TypeId) (fr : Nat × Nat), w.heap[g]? = some (Obj.cells cur e fr) ∧ e ≠ 130) : KeepsItems w w' := by
  intro k cur hk
  rw [hg.block k (Array.getElem?_eq_some_iff.1 hk).1, hk]
  intro e
  obtain ⟨cur', e', fr, h1, h2⟩ := hr k e.symm
  rw [hk] at h1
  cases h1
  exact h2 rfl
theorem keeps_none {w w' : World} (hg : w.grownBy w' none) : KeepsItems w w' := keeps_grown hg (by simp)
theorem keeps_own {w w' : World} {g cap : Nat} {e : TypeId} {xs : List Value} (ho : Own w g e cap xs) (he : e ≠ 130) (hg : w.grownBy w' (some g)) : KeepsItems w w' :=
  keeps_grown hg fun g' e' => by
    cases e'
    obtain ⟨cur, h1, _⟩ := ho
    exact ⟨cur, e, _, h1, he⟩
theorem keeps_owned {w w' : World} {base n c : Nat} {e : TypeId} {A : Option Addr} {xs : List Value} (ho : Owned w base e A n c xs) (he : e ≠ 130) (hg : w.grownBy w' (Value.slice A n c).ownBlock) : KeepsItems w w' := by
  obtain ⟨_, h | ⟨g, rfl, _, _, _, h⟩⟩ := ho.cases
  · obtain ⟨rfl, _⟩ := h
    exact keeps_none hg
  · exact keeps_own h he hg

theorem ItemAt.keep {w w' : World} (hk : KeepsItems w w') {a : Addr} {c : Int} {s : List Nat} (h : ItemAt w a c s) : ItemAt w' a c s := by
  induction h with
  | coin h => exact .coin (hk _ _ h)
  | pack h _ _ ih1 ih2 => exact .pack (hk _ _ h) ih1 ih2
theorem Is.keep {w w' : World} (hk : KeepsItems w w') {x : Option Addr × Coin} (h : Is w x) : Is w' x := by
  obtain ⟨a, h1, h2⟩ := h
  exact ⟨a, h1, h2.keep hk⟩

theorem ItemAt.block {w : World} {a : Addr} {c : Int} {s : List Nat} (h : ItemAt w a c s) : ∃ cur, w.heap[a.block]? = some (.cells cur 130 (0, 0)) := by
  cases h with
  | coin h => exact ⟨_, h⟩
  | pack h _ _ => exact ⟨_, h⟩

theorem ItemAt.count {w : World} {a : Addr} {c : Int} {s : List Nat} (h : ItemAt w a c s) : w.cell? a = some (.int .i64 c) := by
  cases h with
  | coin h => simp [World.cell?, h]
  | pack h _ _ => simp [World.cell?, h]

theorem ItemAt.lt {w : World} {a : Addr} {c : Int} {s : List Nat} (h : ItemAt w a c s) : a.block < w.heap.size := by
  obtain ⟨cur, h⟩ := h.block
  exact (Array.getElem?_eq_some_iff.1 h).1

theorem many_calls {n : Int} {w : World} {R : Ending → World → Prop} (h : R (.returned (.int .i64 (manyL n))) w) : Calls P 87 #[.int .i64 n] w R := vc87 n w R h

theorem isNaN_calls {x : Int} {w : World} {R : Ending → World → Prop} (h : R (.returned (.bool false)) w) : Calls P 134 #[.int .i64 x] w R := by
  apply vc134; unfold VC134; simpa using h

theorem compare_calls {x y : Int} {w : World} : Calls P 92 #[.int .i64 x, .int .i64 y] w fun ev w' => ∃ c : Int, ev = .returned (.int .i64 c) ∧ (c < 0 ↔ x < y) ∧ w' = w := by
  apply vc92; unfold VC92
  refine isNaN_calls ⟨false, rfl, isNaN_calls ⟨false, rfl, by simp, fun _ => ⟨by simp, fun _ => ⟨fun h => ⟨_, rfl, by omega, rfl⟩, fun h => ⟨fun h' => ⟨_, rfl, by omega, rfl⟩, fun h' => ⟨_, rfl, by omega, rfl⟩⟩⟩⟩⟩⟩

/-- The number by which items are put in order: the count. -/
def keyW (w : World) (p : Option Addr) : Int := match p with
  | some a => match w.cell? a with
    | some (.int _ c) => c
    | _ => 0
  | none => 0

theorem keyW_is {w : World} {x : Option Addr × Coin} (h : Is w x) : keyW w x.1 = x.2.1 := by
  obtain ⟨a, h1, h2⟩ := h
  simp [keyW, h1, h2.count]

theorem cmpItems {w : World} {g cap : Nat} {e : TypeId} {xs : List Value} {L : List (Option Addr × Coin)} (ho : Own w g e cap xs) (he : e ≠ 130) (hL : ∀ x ∈ L, Is w x) : CmpOkT w g (keyW w) (L.map Prod.fst) := by
  intro w' hg x hx y hy
  obtain ⟨x, hx', rfl⟩ := List.mem_map.1 hx
  obtain ⟨y, hy', rfl⟩ := List.mem_map.1 hy
  have hx := hx'
  have hy := hy'
  have kx := hL x hx
  have ky := hL y hy
  have hk := keeps_own ho he hg
  show Calls P 131 #[.pointer x.1, .pointer y.1] w' _
  apply vc131; unfold VC131
  obtain ⟨a, ea, ia⟩ := kx.keep hk
  obtain ⟨b, eb, ib⟩ := ky.keep hk
  refine ⟨a, ea, x.2.1, ia.count, b, eb, y.2.1, ib.count, ?_⟩
  refine compare_calls.mono fun ev w2 hh => ?_
  obtain ⟨c, h1, h2, rfl⟩ := hh
  exact ⟨c, h1, c, rfl, by rw [h2, keyW_is kx, keyW_is ky], grown_drew (grown_refl _ _)⟩

theorem ins_map {α β : Type} (f : α → β) (key : β → Int) (key' : α → Int) (x : α) : ∀ (l : List α), (∀ y ∈ x :: l, key (f y) = key' y) → ins key (f x) (l.map f) = (ins key' x l).map f
  | [], _ => rfl
  | y :: ys, h => by
    have hx := h x (by simp)
    have hy := h y (by simp)
    have ih := ins_map f key key' x ys (fun z hz => h z (by rcases List.mem_cons.1 hz with e | e <;> simp [e]))
    simp only [List.map_cons, ins, hx, hy]
    split
    · rw [ih]; simp
    · simp

theorem inOrder_map {α β : Type} (f : α → β) (key : β → Int) (key' : α → Int) (xs : List α) (h : ∀ y ∈ xs, key (f y) = key' y) : inOrder key (xs.map f) = (inOrder key' xs).map f := by
  have : ∀ (xs l : List α), (∀ y ∈ xs, key (f y) = key' y) → (∀ y ∈ l, key (f y) = key' y) → SortedK key' l → (xs.map f).foldl (fun l x => ins key x l) (l.map f) = (xs.foldl (fun l x => ins key' x l) l).map f := by
    intro xs
    induction xs with
    | nil => intros; rfl
    | cons x xs ih =>
      intro l h1 h2 h3
      simp only [List.map_cons, List.foldl_cons]
      rw [ins_map f key key' x l (fun z hz => by rcases List.mem_cons.1 hz with e | e; exact h1 z (by simp [e]); exact h2 z e)]
      refine ih _ (fun y hy => h1 y (by simp [hy])) (fun y hy => ?_) (ins_sorted x h3)
      rcases List.mem_append.1 ((ins_same (key := key') x h3).mem hy) with e | e
      · exact h2 y e
      · have : y = x := by simpa using e
        rw [this]; exact h1 x (by simp)
  simpa [inOrder] using this xs [] h (by simp) (by simp [SortedK])

theorem sortedNilT {w : World} : Calls P 130 #[.slice none 0 0, .func (.func 131) #[] #[]] w fun ev w' => ev = .returned (.tuple #[]) ∧ w.grownBy w' none := by
  apply vc130; unfold VC130
  have h : Calls P 153 #[.slice none 0 0, .int .i64 0, .func (.func 131) #[] #[]] w fun ev w' => ev = .returned (.tuple #[]) ∧ w.grownBy w' none := by
    apply vc153; unfold VC153
    refine ⟨fun m a b w' => m = 0 ∧ a = 0 ∧ b = 20 ∧ w' = w, ⟨0, rfl, rfl, rfl, rfl⟩, ?_⟩
    rintro m a b w' ⟨rfl, rfl, rfl, rfl⟩
    refine ⟨fun h => by omega, fun h => ?_⟩
    have h2 : Calls P 182 #[.slice none 0 0, .int .i64 0, .int .i64 0, .func (.func 131) #[] #[]] w' fun ev w2 => ev = .returned (.tuple #[]) ∧ w' = w2 := by
      apply vc182; unfold VC182
      simp only [InK]
      refine ⟨by omega, fun m i w2 => i = 1 ∧ w2 = w', ⟨0, by omega, rfl⟩, ?_⟩
      rintro m i w2 ⟨rfl, rfl⟩
      exact ⟨fun h => by omega, fun h => ⟨trivial, rfl⟩⟩
    refine h2.mono fun ev w2 hh => ?_
    obtain ⟨h3, rfl⟩ := hh
    refine ⟨h3, fun m s w3 => s = 20 ∧ w3 = w', ⟨0, rfl, rfl⟩, ?_⟩
    rintro m s w3 ⟨rfl, rfl⟩
    exact ⟨fun h => by omega, fun h => ⟨rfl, grown_refl _ _⟩⟩
  refine h.mono fun ev w' hh => ?_
  exact ⟨hh.1, rfl, hh.2⟩

abbrev ptrs (L : List (Option Addr × Coin)) : List Value := (L.map Prod.fst).map Value.pointer

theorem coins_calls {w : World} {A : Option Addr} {n c : Nat} {xs : List Int} (hrow : Row w A (xs.map (Value.int .i64))) (hn : n = xs.length) (hbig : n ≤ 2 ^ 30) :
    Calls P 82 #[.slice A n c] w fun ev w' => ∃ (A' : Option Addr) (n' c' : Nat) (L : List (Option Addr × Coin)), ev = .returned (.slice A' n' c') ∧ Owned w' w.heap.size 127 A' n' c' (ptrs L) ∧ (∀ x ∈ L, Is w' x) ∧ L.map Prod.snd = coinsL xs ∧ w.grownBy w' none := by
  apply vc82; unfold VC82
  simp only [InK]
  refine ⟨fun m A' n' c' i w' => ∃ (k : Nat) (L : List (Option Addr × Coin)), i = (k : Int) ∧ k ≤ xs.length ∧ m = xs.length - k ∧ Owned w' w.heap.size 127 A' n' c' (ptrs L) ∧ (∀ x ∈ L, Is w' x) ∧ L.map Prod.snd = rawCoins 0 (xs.take k) ∧ L.length ≤ k ∧ w.grownBy w' none,
    ⟨_, 0, [], rfl, by omega, rfl, World.ownsRow_nil _ _ _ _, by simp, by simp [rawCoins], by simp, grown_refl _ _⟩, ?_⟩
  rintro m A' n' c' i w' ⟨k, L, rfl, hk, rfl, ho, hL, hLx, hLk, hg⟩
  refine ⟨fun hlt => ?_, fun hge => ?_⟩
  · have hk' : k < xs.length := by omega
    obtain ⟨a, h1, h2⟩ := (hrow.kept_none hg) k (.int .i64 xs[k]) (by simp [hk'])
    have htake : rawCoins 0 (xs.take (k + 1)) = rawCoins 0 (xs.take k) ++ rawCoins k [xs[k]] := by
      rw [List.take_succ_eq_append_getElem hk', rawCoins_append]
      simp [Nat.min_eq_left hk]
    refine ⟨a, h1, by omega, by omega, xs[k], by simpa using h2, fun hpos => ?_, fun hpos => ?_⟩
    · refine many_calls ⟨_, rfl, ?_⟩
      have g1 := World.grownBy_alloc w' (.cells #[(.int .i64 (manyL xs[k])), (.int .i64 (k : Int)), (.pointer none), (.pointer none)] 130) none
      have b1 : (w'.alloc (.cells #[(.int .i64 (manyL xs[k])), (.int .i64 (k : Int)), (.pointer none), (.pointer none)] 130)).heap[w'.heap.size]? = some (.cells #[(.int .i64 (manyL xs[k])), (.int .i64 (k : Int)), (.pointer none), (.pointer none)] 130) := heap_alloc_new w' _
      generalize w'.alloc (.cells #[(.int .i64 (manyL xs[k])), (.int .i64 (k : Int)), (.pointer none), (.pointer none)] 130) = w1 at *
      have g2 := World.grownBy_alloc w1 (.cells #[.pointer (some ⟨w'.heap.size, 0, none⟩)] 127) none
      have b2 : (w1.alloc (.cells #[.pointer (some ⟨w'.heap.size, 0, none⟩)] 127)).cell? ⟨w1.heap.size, 0, none⟩ = some (.pointer (some ⟨w'.heap.size, 0, none⟩)) := by simp
      generalize w1.alloc (.cells #[.pointer (some ⟨w'.heap.size, 0, none⟩)] 127) = w2 at *
      have ho2 := (ho.kept g1).kept g2
      obtain ⟨A2, n2, c2, w3, h3, h4, h5⟩ := ho2.append1 (ty := 125) elemItem (by omega) (cc := 1) b2 rfl (by rw [ho.cases.1]; simp; omega) (Nat.le_trans hg.size (Nat.le_trans g1.size g2.size))
      have hk3 : KeepsItems w1 w3 := (keeps_none g2).trans (keeps_owned ho2 (by decide) h5)
      refine ⟨A2, n2, c2, w3, h3, by omega, xs.length - (k + 1), by omega, k + 1, L ++ [(some ⟨w'.heap.size, 0, none⟩, (manyL xs[k], [k]))], by omega, by omega, rfl, by simpa using h4, ?_, ?_, by simp; omega, ?_⟩
      · intro x hx
        rcases List.mem_append.1 hx with e | e
        · exact ((hL x e).keep (keeps_none g1)).keep hk3
        · have : x = (some ⟨w'.heap.size, 0, none⟩, (manyL xs[k], [k])) := by simpa using e
          subst this
          exact ⟨_, rfl, (ItemAt.coin b1).keep hk3⟩
      · rw [htake, List.map_append, hLx]
        simp [rawCoins, hpos]
      · exact grown_own (grown_trans (grown_trans hg g1) g2) h5 ho2.block_ge
    · refine ⟨by omega, xs.length - (k + 1), by omega, k + 1, L, by omega, by omega, rfl, ho, hL, ?_, by omega, hg⟩
      rw [htake, hLx]
      simp [rawCoins, hpos]
  · have hk' : k = xs.length := by omega
    subst hk'
    rw [List.take_length] at hLx
    obtain ⟨hl, h | ⟨g, rfl, hb, hc, hnc, ho'⟩⟩ := ho.cases
    · obtain ⟨rfl, rfl, rfl, hx⟩ := h
      have : L = [] := by simpa using hx
      subst this
      refine sortedNilT.mono fun ev w2 hh => ?_
      refine ⟨hh.1, none, 0, 0, [], rfl, World.ownsRow_nil _ _ _ _, by simp, ?_, grown_trans hg hh.2⟩
      unfold coinsL
      rw [← hLx]; rfl
    · have hl' : n' = L.length := by simpa using hl
      refine (sortedT (key := keyW w') ho' (cmpItems ho' (by decide) hL) (by simpa using hl) (by omega)).mono fun ev w2 hh => ?_
      obtain ⟨h1, h2, h3⟩ := hh
      have hk2 := keeps_own ho' (by decide) h3
      have hm : inOrder (keyW w') (L.map Prod.fst) = (inOrder (fun x => x.2.1) L).map Prod.fst := inOrder_map _ _ _ _ (fun y hy => keyW_is (hL y hy))
      have hs : SameK (fun x : Option Addr × Coin => x.2.1) (inOrder (fun x => x.2.1) L) L := inOrder_same L
      rw [hm] at h2
      refine ⟨h1, _, n', c', inOrder (fun x => x.2.1) L, rfl, ?_, fun x hx => (hL x (hs.mem hx)).keep hk2, ?_, ?_⟩
      · have := h2.ownsRow hb hc
        simp only [List.length_map, hs.length, ← hl'] at this
        exact this
      · have := inOrder_map Prod.snd (Prod.fst : Coin → Int) (fun x : Option Addr × Coin => x.2.1) L (fun _ _ => rfl)
        rw [← this, hLx]; rfl
      · exact grown_own hg h3 (by intro k hk; cases hk; exact hb)
end Go.Proofs.Ytmenmmgfdakeeaa
