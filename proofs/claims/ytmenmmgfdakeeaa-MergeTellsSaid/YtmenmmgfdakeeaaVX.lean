/- The own library V, part X: a region that draws its order and has operations that act and wait for no one another: one walk for each way in which these may come. -/
import Derived.Test.YtmenmmgfdakeeaaV1
namespace Go.V

/-- Which of two operations comes first is asked; at the end the operations in an order that bears the answers. -/
inductive XT where
  | leaf (L : List Nat)
  | split (p q : Nat) (x y : XT)

/-- j comes ahead of i. -/
def Bef (S : List Nat) (j i : Nat) : Prop := ∃ S1 S2, S = S1 ++ j :: S2 ∧ i ∈ S2

def factB (F : List (Nat × Nat)) (R : Waits) (x y : Nat) : Bool :=
  F.any fun f => f.1 == x && (f.2 == y || waitsB R y f.2)

def pairX (ops : Array Oper) (kd : Kinds) (R : Waits) (F : List (Nat × Nat)) (x y : Nat × Oper) : Bool := pairB ops kd R x y || factB F R x.1 y.1

def pairsX (ops : Array Oper) (kd : Kinds) (R : Waits) (F : List (Nat × Nat)) : List (Nat × Oper) → Bool
  | [] => true
  | x :: l => l.all (pairX ops kd R F x) && pairsX ops kd R F l

def pick (ops : List Oper) (L : List Nat) : List (Nat × Oper) := L.filterMap fun i => (ops[i]?).map fun o => (i, o)

def nodupB : List Nat → Bool
  | [] => true
  | x :: l => !l.contains x && nodupB l

def leafB (ops : List Oper) (kd : Kinds) (R : Waits) (F : List (Nat × Nat)) (L : List Nat) : Bool :=
  nodupB L && (List.range ops.length).all (fun i => L.contains i) && pairsX ops.toArray kd R F (pick ops L)

def treeB (ops : List Oper) (kd : Kinds) (R : Waits) : XT → List (Nat × Nat) → Bool
  | .leaf L, F => leafB ops kd R F L
  | .split p q x y, F => decide (p ≠ q) && treeB ops kd R x ((p, q) :: F) && treeB ops kd R y ((q, p) :: F)

def mixX (ops : List Oper) (kd : Kinds) (R : Waits) (t : XT) : Bool :=
  Region.noSelect ops.toArray && backB (enum 0 ops) && waitsOk ops R && treeB ops kd R t []

def wpX (P : Program) (ops : List Oper) (C : World → Prop) (kd : Kinds) (Q : Act → World → Prop) (a : Act) (w : World) : XT → Prop
  | .leaf L => wpMix P ops.toArray C kd Q (pick ops L) a w
  | .split _ _ x y => wpX P ops C kd Q a w x ∧ wpX P ops C kd Q a w y

section
variable {P : Program} {C : World → Prop} {a : Act} {w : World}

theorem pairsX_spec {ops : Array Oper} {kd : Kinds} {R : Waits} {F : List (Nat × Nat)} : ∀ {l : List (Nat × Oper)}, pairsX ops kd R F l = true → l.Pairwise (fun x y => pairX ops kd R F x y = true)
  | [], _ => List.Pairwise.nil
  | x :: l, h => by
    simp only [pairsX, Bool.and_eq_true, List.all_eq_true] at h
    exact List.Pairwise.cons h.1 (pairsX_spec h.2)

/-- A step of the drawn order. -/
theorem go_succ (ops : Array Oper) (fuel t : Nat) (listed : Array Bool) : Region.linearise.go .any ops (fuel + 1) t listed [] =
    match (Region.ready .any ops listed)[t % (Region.ready .any ops listed).length]? with
    | some i => i :: Region.linearise.go .any ops fuel (t / (Region.ready .any ops listed).length) (listed.setIfInBounds i true) []
    | none => [] := by
  simp only [Region.linearise.go]
  change (match (Region.ready .any ops listed)[t % (Region.ready .any ops listed).length]? with
      | some i => Region.linearise.go .any ops fuel (t / (Region.ready .any ops listed).length) (listed.setIfInBounds i true) [i]
      | none => [].reverse) = _
  split
  · rw [linearise_go_acc]; rfl
  · rfl

theorem go_zero (ops : Array Oper) (t : Nat) (listed : Array Bool) : Region.linearise.go .any ops 0 t listed [] = [] := by simp [Region.linearise.go]

theorem ready_pick {l : List Oper} {listed : Array Bool} {t : Nat} (hne : Region.ready .any l.toArray listed ≠ []) : ∃ j, (Region.ready .any l.toArray listed)[t % (Region.ready .any l.toArray listed).length]? = some j ∧ j ∈ Region.ready .any l.toArray listed := by
  have hpos : 0 < (Region.ready .any l.toArray listed).length := List.length_pos_iff.2 hne
  have hlt := Nat.mod_lt t hpos
  exact ⟨_, List.getElem?_eq_getElem hlt, List.getElem_mem hlt⟩

/-- What is left is listed in some order, all of it. -/
theorem go_perm {l : List Oper} (hback : backB (enum 0 l) = true) : ∀ (n t : Nat) (L : List (Nat × Oper)) (listed : Array Bool), L.length = n → listed.size = l.length → L.Pairwise (fun x y => x.1 < y.1) →
    (∀ i o, (i, o) ∈ L ↔ (l[i]? = some o ∧ listed.getD i true = false)) → (Region.linearise.go .any l.toArray n t listed []).Perm (L.map Prod.fst) := by
  intro n
  induction n with
  | zero =>
    intro t L listed hL hs hp hm
    obtain rfl : L = [] := List.length_eq_zero_iff.1 hL
    rw [go_zero]; exact List.Perm.refl _
  | succ n ih =>
    intro t L listed hL hs hp hm
    have hne : Region.ready .any l.toArray listed ≠ [] := by
      intro hr
      cases L with
      | nil => simp at hL
      | cons x L =>
        obtain ⟨i, oi⟩ := x
        have hi := (hm i oi).1 (by simp)
        have : i ∈ Region.ready .any l.toArray listed := by
          refine mem_ready.2 ⟨hi.2, oi, by simpa using hi.1, fun e he hb => ?_⟩
          have h1 := List.all_eq_true.1 hback (i, oi) (mem_enum.2 ⟨Nat.zero_le _, by simpa using hi.1⟩)
          have h2 := Array.all_eq_true'.1 h1 e he
          simp only [hb, Bool.not_true, Bool.false_or, decide_eq_true_eq] at h2
          cases hl : listed.getD e.on true with
          | true =>
            have hlt : i < l.length := (List.getElem?_eq_some_iff.1 hi.1).1
            have : e.on < listed.size := by omega
            simp [this] at hl ⊢
            exact hl
          | false =>
            exfalso
            have hlt : i < l.length := (List.getElem?_eq_some_iff.1 hi.1).1
            have hmm := (hm e.on (l[e.on]'(by omega))).2 ⟨by simp, hl⟩
            rcases List.mem_cons.1 hmm with h3 | h3
            · simp only [Prod.mk.injEq] at h3; omega
            · have := (List.pairwise_cons.1 hp).1 _ h3
              simp only at this
              omega
        rw [hr] at this
        cases this
    obtain ⟨j, hj1, hj⟩ := ready_pick (t := t) hne
    rw [go_succ, hj1]
    obtain ⟨hu, oj, hoj, hall⟩ := mem_ready.1 hj
    have hoj' : l[j]? = some oj := by simpa using hoj
    have hmem := (hm j oj).2 ⟨hoj', hu⟩
    obtain ⟨A, B, rfl⟩ := List.append_of_mem hmem
    have hp2 := List.pairwise_append.1 hp
    have hjs : j < listed.size := by
      rw [hs]; exact (List.getElem?_eq_some_iff.1 hoj').1
    have hne2 : ∀ x, x ∈ A ∨ x ∈ B → x.1 ≠ j := by
      rintro x (hx | hx)
      · have := hp2.2.2 x hx (j, oj) (by simp)
        simp only at this
        omega
      · have := (List.pairwise_cons.1 hp2.2.1).1 x hx
        simp only at this
        omega
    have hrec := ih (t / (Region.ready .any l.toArray listed).length) (A ++ B) (listed.setIfInBounds j true) (by simp at hL ⊢; omega) (by simpa using hs)
      (List.pairwise_append.2 ⟨hp2.1, (List.pairwise_cons.1 hp2.2.1).2, fun x hx y hy => hp2.2.2 x hx y (by simp [hy])⟩) (by
        intro i o
        constructor
        · intro hx
          have hx' : (i, o) ∈ A ∨ (i, o) ∈ B := by simpa using hx
          have h1 := (hm i o).1 (by simp only [List.mem_append, List.mem_cons]; rcases hx' with h | h <;> simp [h])
          refine ⟨h1.1, ?_⟩
          have := hne2 _ hx'
          simp only at this
          rw [getD_set_ne true (fun h => this h.symm)]
          exact h1.2
        · rintro ⟨h1, h2⟩
          by_cases hij : j = i
          · subst hij
            simp [hjs] at h2
          · rw [getD_set_ne true hij] at h2
            have := (hm i o).2 ⟨h1, h2⟩
            simp only [List.mem_append, List.mem_cons, Prod.mk.injEq] at this ⊢
            rcases this with h | ⟨h, _⟩ | h
            · exact .inl h
            · exact absurd h.symm hij
            · exact .inr h)
    rw [List.map_append, List.map_cons]
    refine (List.Perm.cons j hrec).trans ?_
    rw [List.map_append]
    exact (List.perm_middle (a := j)).symm

theorem Bef.cons {S : List Nat} {j i k : Nat} (h : Bef S j i) : Bef (k :: S) j i := by
  obtain ⟨S1, S2, rfl, h⟩ := h
  exact ⟨k :: S1, S2, rfl, h⟩

theorem mixS {l : List Oper} {kd : Kinds} {R : Waits} {Qn : Act → World → Prop} {Q : Exit → Act → World → Prop} (hsel : Region.noSelect l.toArray = true) (hwaits : waitsOk l R = true) (hQ : ∀ a w, C w → Qn a w → Q .normal a w) :
    ∀ (n t : Nat) (L : List (Nat × Oper)) (listed : Array Bool) (a : Act) (w : World), L.length = n → C w → listed.size = l.length →
      (Region.linearise.go .any l.toArray n t listed []).Perm (L.map Prod.fst) → (L.map Prod.fst).Nodup →
      L.Pairwise (fun x y => pairB l.toArray kd R x y = true ∨ ¬ Bef (Region.linearise.go .any l.toArray n t listed []) y.1 x.1) →
      (∀ i o, (i, o) ∈ L ↔ (l[i]? = some o ∧ listed.getD i true = false)) → Down l listed → wpMix P l.toArray C kd Qn L a w → wpOps P l.toArray Q (Region.linearise.go .any l.toArray n t listed []) a w := by
  have hsel' := Region.noSelect_spec hsel
  intro n
  induction n with
  | zero =>
    intro t L listed a w hL hC hs hperm hnd hp hm hd h
    obtain rfl : L = [] := List.length_eq_zero_iff.1 hL
    rw [go_zero]
    exact hQ _ _ hC h
  | succ n ih =>
    intro t L listed a w hL hC hs hperm hnd hp hm hd h
    rw [go_succ] at hperm hp ⊢
    cases hi : (Region.ready .any l.toArray listed)[t % (Region.ready .any l.toArray listed).length]? with
    | none =>
      rw [hi] at hperm
      have := hperm.length_eq
      simp at this; omega
    | some j =>
      rw [hi] at hperm hp
      simp only at hperm hp ⊢
      have hj : j ∈ Region.ready .any l.toArray listed := List.mem_of_getElem? hi
      obtain ⟨hu, oj, hoj, hall⟩ := mem_ready.1 hj
      have hoj' : l[j]? = some oj := by simpa using hoj
      have hmem := (hm j oj).2 ⟨hoj', hu⟩
      obtain ⟨A, B, rfl⟩ := List.append_of_mem hmem
      have hp2 := List.pairwise_append.1 hp
      have hperm' : (Region.linearise.go .any l.toArray n (t / (Region.ready .any l.toArray listed).length) (listed.setIfInBounds j true) []).Perm ((A ++ B).map Prod.fst) := by
        have h1 : (j :: Region.linearise.go .any l.toArray n (t / (Region.ready .any l.toArray listed).length) (listed.setIfInBounds j true) []).Perm (j :: (A ++ B).map Prod.fst) := by
          refine hperm.trans ?_
          rw [List.map_append, List.map_cons, List.map_append]
          exact List.perm_middle (a := j)
        exact h1.cons_inv
      have hnd' : j ∉ (A ++ B).map Prod.fst ∧ ((A ++ B).map Prod.fst).Nodup := by
        have : (j :: (A ++ B).map Prod.fst).Nodup := by
          refine List.Perm.nodup_iff ?_ |>.1 hnd
          rw [List.map_append, List.map_cons, List.map_append]
          exact List.perm_middle (a := j)
        exact List.nodup_cons.1 this
      have hne : ∀ x, x ∈ A ∨ x ∈ B → x.1 ≠ j := by
        intro x hx e
        exact hnd'.1 (List.mem_map.2 ⟨x, by simpa using hx, e⟩)
      have hA : ∀ x ∈ A, x.2.apart l.toArray oj = true ∧ compat (kd x.1) (kd j) = true ∧ ∀ cs b, x.2.op ≠ .select cs b := by
        rintro ⟨i, oi⟩ hx
        have hi' := (hm i oi).1 (by simp [hx])
        have h1 := hp2.2.2 (i, oi) hx (j, oj) (by simp)
        have hapc : (oi.apart l.toArray oj && compat (kd i) (kd j)) = true := by
          rcases h1 with h1 | h1
          · simp only [pairB, Bool.or_eq_true] at h1
            rcases h1 with h1 | h1
            · exact h1
            · exfalso
              have hif : listed.getD i false = false := by
                have := hi'.2
                rcases Nat.lt_or_ge i listed.size with h' | h'
                · simp [h'] at this ⊢; exact this
                · simp [Array.getElem?_eq_none h']
              exact (waits_not hwaits hd hif j h1).2 hj
          · exfalso
            refine h1 ⟨[], _, rfl, ?_⟩
            refine hperm'.symm.subset (List.mem_map.2 ⟨(i, oi), by simp [hx], rfl⟩)
        simp only [Bool.and_eq_true] at hapc
        exact ⟨hapc.1, hapc.2, fun cs b => hsel' i oi cs b (by simpa using hi'.1)⟩
      have hstep := pullMix (hsel' j oj · · hoj) A hA a w hC h
      rw [wpOps_cons]
      refine wpOp_of_stepMix hoj hC (fun a' w' hC' hK => ?_) hstep
      have hjs : j < listed.size := by
        rw [hs]; exact (List.getElem?_eq_some_iff.1 hoj').1
      refine ih _ (A ++ B) (listed.setIfInBounds j true) a' w' (by simp at hL ⊢; omega) hC' (by simpa using hs) hperm' hnd'.2 ?_ ?_ ?_ hK
      · have hAB := List.pairwise_append.2 ⟨hp2.1, (List.pairwise_cons.1 hp2.2.1).2, fun x hx y hy => hp2.2.2 x hx y (by simp [hy])⟩
        refine hAB.imp ?_
        rintro x y (h1 | h1)
        · exact .inl h1
        · exact .inr fun h2 => h1 h2.cons
      · intro i o
        constructor
        · intro hx
          have hx' : (i, o) ∈ A ∨ (i, o) ∈ B := by simpa using hx
          have h1 := (hm i o).1 (by simp only [List.mem_append, List.mem_cons]; rcases hx' with h | h <;> simp [h])
          refine ⟨h1.1, ?_⟩
          have := hne _ hx'
          simp only at this
          rw [getD_set_ne true (fun h => this h.symm)]
          exact h1.2
        · rintro ⟨h1, h2⟩
          by_cases hij : j = i
          · subst hij
            simp [hjs] at h2
          · rw [getD_set_ne true hij] at h2
            have := (hm i o).2 ⟨h1, h2⟩
            simp only [List.mem_append, List.mem_cons, Prod.mk.injEq] at this ⊢
            rcases this with h | ⟨h, _⟩ | h
            · exact .inl h
            · exact absurd h.symm hij
            · exact .inr h
      · intro i o ho hl e he hb
        by_cases hij : j = i
        · subst hij
          have : o = oj := Option.some.inj (ho.symm.trans hoj')
          subst this
          exact getD_set_true (hall e he hb)
        · rw [getD_set_ne true hij] at hl
          exact getD_set_true (hd i o ho hl e he hb)

theorem app_inj {y : Nat} : ∀ {A A' B B' : List Nat}, (A ++ y :: B).Nodup → A ++ y :: B = A' ++ y :: B' → B = B'
  | [], [], B, B', _, h => by simpa using h
  | [], x :: A', B, B', hn, h => by
    simp only [List.nil_append, List.cons_append, List.cons.injEq] at h
    obtain ⟨rfl, rfl⟩ := h
    have := (List.nodup_cons.1 hn).1
    exact absurd (by simp) this
  | x :: A, [], B, B', hn, h => by
    simp only [List.nil_append, List.cons_append, List.cons.injEq] at h
    obtain ⟨rfl, _⟩ := h
    have := (List.nodup_cons.1 hn).1
    exact absurd (by simp) this
  | x :: A, x' :: A', B, B', hn, h => by
    simp only [List.cons_append, List.cons.injEq] at h
    exact app_inj (List.nodup_cons.1 hn).2 h.2

theorem Bef.trans {S : List Nat} (hn : S.Nodup) {m y x : Nat} (h : Bef S m y) (h' : Bef S y x) : Bef S m x := by
  obtain ⟨S1, S2, rfl, h1⟩ := h
  obtain ⟨T1, T2, h2, h3⟩ := h'
  obtain ⟨U1, U2, rfl⟩ := List.append_of_mem h1
  have e : (S1 ++ m :: U1) ++ y :: U2 = T1 ++ y :: T2 := by rw [← h2]; simp
  have hn' : ((S1 ++ m :: U1) ++ y :: U2).Nodup := by rw [e, ← h2]; exact hn
  have := app_inj hn' e
  subst this
  exact ⟨S1, U1 ++ y :: U2, rfl, by simp [h3]⟩

theorem Bef.irrefl {S : List Nat} (hn : S.Nodup) {x : Nat} (h : Bef S x x) : False := by
  obtain ⟨S1, S2, rfl, h1⟩ := h
  have := (List.nodup_append.1 hn).2.1
  exact (List.nodup_cons.1 this).1 h1

/-- What waits comes behind. -/
theorem go_waits {l : List Oper} {R : Waits} (hwaits : waitsOk l R = true) {y m : Nat} (hw : waitsB R y m = true) : ∀ (n t : Nat) (listed : Array Bool), listed.size = l.length → Down l listed → listed.getD m false = false → (m < l.length) →
    y ∈ Region.linearise.go .any l.toArray n t listed [] → Bef (Region.linearise.go .any l.toArray n t listed []) m y := by
  intro n
  induction n with
  | zero => intro t listed _ _ _ _ h; rw [go_zero] at h; cases h
  | succ n ih =>
    intro t listed hs hd hm hml h
    rw [go_succ] at h ⊢
    cases hi : (Region.ready .any l.toArray listed)[t % (Region.ready .any l.toArray listed).length]? with
    | none => rw [hi] at h; cases h
    | some j =>
      rw [hi] at h
      simp only at h ⊢
      have hj : j ∈ Region.ready .any l.toArray listed := List.mem_of_getElem? hi
      obtain ⟨hu, oj, hoj, hall⟩ := mem_ready.1 hj
      have hoj' : l[j]? = some oj := by simpa using hoj
      rcases List.mem_cons.1 h with e | h'
      · exfalso
        rw [← e] at hj
        exact (waits_not hwaits hd hm y hw).2 hj
      · by_cases hmj : m = j
        · subst hmj
          exact ⟨[], _, rfl, h'⟩
        · refine (ih _ (listed.setIfInBounds j true) (by simpa using hs) ?_ ?_ hml h').cons
          · intro i o ho hl e he hb
            by_cases hij : j = i
            · subst hij
              have : o = oj := Option.some.inj (ho.symm.trans hoj')
              subst this
              exact getD_set_true (hall e he hb)
            · rw [getD_set_ne true hij] at hl
              exact getD_set_true (hd i o ho hl e he hb)
          · rw [getD_set_ne false (fun h => hmj h.symm)]
            exact hm

theorem mem_pick {l : List Oper} {L : List Nat} {i : Nat} {o : Oper} : (i, o) ∈ pick l L ↔ i ∈ L ∧ l[i]? = some o := by
  simp only [pick, List.mem_filterMap]
  constructor
  · rintro ⟨j, hj, h⟩
    cases ho : l[j]? with
    | none => rw [ho] at h; cases h
    | some o' =>
      rw [ho] at h
      simp only [Option.map_some, Option.some.injEq, Prod.mk.injEq] at h
      obtain ⟨rfl, rfl⟩ := h
      exact ⟨hj, ho⟩
  · rintro ⟨h1, h2⟩
    exact ⟨i, h1, by rw [h2]; rfl⟩

theorem nodupB_spec : ∀ {L : List Nat}, nodupB L = true → L.Nodup
  | [], _ => List.nodup_nil
  | x :: l, h => by
    simp only [nodupB, Bool.and_eq_true, Bool.not_eq_true'] at h
    refine List.nodup_cons.2 ⟨?_, nodupB_spec h.2⟩
    intro hm
    have := h.1
    rw [List.contains_iff_mem.2 hm] at this
    cases this

theorem pick_nodup {l : List Oper} : ∀ {L : List Nat}, L.Nodup → ((pick l L).map Prod.fst).Nodup
  | [], _ => List.nodup_nil
  | x :: L, h => by
    have h' := List.nodup_cons.1 h
    have ih := pick_nodup (l := l) h'.2
    unfold pick
    simp only [List.filterMap_cons]
    cases ho : l[x]? with
    | none => exact ih
    | some o =>
      simp only [Option.map_some, List.map_cons]
      refine List.nodup_cons.2 ⟨?_, ih⟩
      intro hm
      obtain ⟨⟨i, o'⟩, h1, h2⟩ := List.mem_map.1 hm
      simp only at h2
      subst h2
      exact h'.1 (mem_pick.1 h1).1

theorem enum_length : ∀ (k : Nat) (l : List Oper), (enum k l).length = l.length
  | k, [] => rfl
  | k, o :: l => by simp [enum, enum_length (k + 1) l]

/-- **A region that draws its order, operations of which act and wait for no one another.** -/
theorem wp_region_X {id : Nat} {Q : Exit → Act → World → Prop} {l : List Oper} {kd : Kinds} {R : Waits} {tr : XT} (hm : P.follows .mixedOrders = true) (hB : mixX l kd R tr = true) (hC : C w.drew)
    (h : wpX P l C kd (fun a w => C w → Q .normal a w) a w.drew tr) : (Code.region id l.toArray true).wp P Q a w := by
  simp only [mixX, Bool.and_eq_true] at hB
  obtain ⟨⟨⟨hsel, hback⟩, hwaits⟩, htree⟩ := hB
  refine wp_region_draw fun t => ?_
  simp only [Region.schedule, hm, Bool.true_or, if_true]
  have hsz : l.toArray.size = l.length := by simp
  have hunl : ∀ i o, l[i]? = some o → (Array.replicate l.length false).getD i true = false := by
    intro i o ho
    have := (List.getElem?_eq_some_iff.1 ho).1
    simp [this]
  have hdown : Down l (Array.replicate l.length false) := by
    intro j o ho hl
    have := (List.getElem?_eq_some_iff.1 ho).1
    simp [this] at hl
  have hperm := go_perm hback l.length t (enum 0 l) (Array.replicate l.length false) (enum_length 0 l) (by simp) (enum_sorted 0 l) (by
    intro i o
    rw [mem_enum]
    simp only [Nat.zero_le, true_and, Nat.sub_zero]
    exact ⟨fun h => ⟨h, hunl i o h⟩, fun h => h.1⟩)
  have hend : ((enum 0 l).map Prod.fst).Nodup := by
    rw [List.Nodup, List.pairwise_map]
    exact (enum_sorted 0 l).imp (fun h => by omega)
  have hSn : (Region.linearise.go .any l.toArray l.length t (Array.replicate l.length false) []).Nodup := hperm.nodup_iff.2 hend
  have hall : ∀ i, i < l.length → i ∈ Region.linearise.go .any l.toArray l.length t (Array.replicate l.length false) [] := by
    intro i hi
    refine hperm.symm.subset (List.mem_map.2 ⟨(i, l[i]), mem_enum.2 ⟨Nat.zero_le _, by simp⟩, rfl⟩)
  have key : ∀ (tr : XT) (F : List (Nat × Nat)), treeB l kd R tr F = true → (∀ f ∈ F, ¬ Bef (Region.linearise.go .any l.toArray l.length t (Array.replicate l.length false) []) f.2 f.1) →
      wpX P l C kd (fun a w => C w → Q .normal a w) a w.drew tr → wpOps P l.toArray Q (Region.linearise.go .any l.toArray l.length t (Array.replicate l.length false) []) a w.drew := by
    intro tr
    induction tr with
    | leaf L =>
      intro F hT hF hX
      simp only [treeB, leafB, Bool.and_eq_true] at hT
      obtain ⟨⟨hn, hcov⟩, hpairs⟩ := hT
      have hnd := pick_nodup (l := l) (nodupB_spec hn)
      have hmem : ∀ i o, (i, o) ∈ pick l L ↔ l[i]? = some o := by
        intro i o
        rw [mem_pick]
        refine ⟨fun h => h.2, fun h => ⟨?_, h⟩⟩
        have hi := (List.getElem?_eq_some_iff.1 h).1
        have := List.all_eq_true.1 hcov i (List.mem_range.2 hi)
        exact List.contains_iff_mem.1 this
      have hpp : ((enum 0 l).map Prod.fst).Perm ((pick l L).map Prod.fst) := by
        refine (List.perm_ext_iff_of_nodup hend hnd).2 fun i => ?_
        simp only [List.mem_map]
        constructor
        · rintro ⟨⟨i', o⟩, h1, rfl⟩
          exact ⟨(i', o), (hmem _ _).2 (by simpa using (mem_enum.1 h1).2), rfl⟩
        · rintro ⟨⟨i', o⟩, h1, rfl⟩
          exact ⟨(i', o), mem_enum.2 ⟨Nat.zero_le _, by simpa using (hmem _ _).1 h1⟩, rfl⟩
      have hlen : (pick l L).length = l.length := by
        have := hpp.length_eq
        simp only [List.length_map, enum_length] at this
        exact this.symm
      refine mixS (C := C) (Qn := fun a w => C w → Q .normal a w) hsel hwaits (fun a w hC h => h hC) l.length t (pick l L) _ a _ hlen hC (by simp) (hperm.trans hpp) hnd ?_ ?_ hdown hX
      · refine (pairsX_spec hpairs).imp ?_
        rintro ⟨x, ox⟩ ⟨y, oy⟩ h1
        simp only [pairX, Bool.or_eq_true] at h1
        rcases h1 with h1 | h1
        · exact .inl h1
        · right
          obtain ⟨⟨f1, f2⟩, hf, he⟩ := List.any_eq_true.1 h1
          simp only [Bool.and_eq_true, beq_iff_eq, Bool.or_eq_true] at he
          obtain ⟨rfl, he⟩ := he
          have hnb := hF _ hf
          simp only at hnb
          rcases he with rfl | he
          · exact hnb
          · intro hb
            refine hnb (Bef.trans hSn ?_ hb)
            -- y waits for f2
            obtain ⟨⟨j', i', m'⟩, hmm, hee⟩ := List.any_eq_true.1 he
            simp only [Bool.and_eq_true, beq_iff_eq] at hee
            obtain ⟨rfl, rfl⟩ := hee
            have hyS : j' ∈ Region.linearise.go .any l.toArray l.length t (Array.replicate l.length false) [] := by
              obtain ⟨S1, S2, e1, _⟩ := hb
              rw [e1]; simp
            have hjl : j' < l.length := by
              obtain ⟨⟨i2, o2⟩, h2, h3⟩ := List.mem_map.1 (hperm.subset hyS)
              have h4 := (mem_enum.1 h2).2
              have := (List.getElem?_eq_some_iff.1 h4).1
              simp only at h3
              omega
            have hlt : i' < l.length := by
              -- what is waited for comes ahead in the text
              have : ∀ j, j < l.length → waitsB R j i' = true → i' < l.length := by
                intro j
                induction j using Nat.strongRecOn with
                | _ j ih2 =>
                  intro hj hw
                  obtain ⟨⟨j1, i1, m1⟩, hm1, he1⟩ := List.any_eq_true.1 hw
                  simp only [Bool.and_eq_true, beq_iff_eq] at he1
                  obtain ⟨rfl, rfl⟩ := he1
                  have h2 := List.all_eq_true.1 hwaits _ hm1
                  simp only [Bool.and_eq_true, decide_eq_true_eq, Bool.or_eq_true, beq_iff_eq] at h2
                  obtain ⟨⟨hlt, _⟩, hc⟩ := h2
                  rcases hc with h3 | hc
                  · omega
                  · exact ih2 m1 hlt (by omega) hc
              exact this j' hjl he
            refine go_waits hwaits he l.length t _ (by simp) hdown ?_ hlt hyS
            simp [hlt]
      · intro i o
        rw [hmem]
        exact ⟨fun h => ⟨h, hunl i o h⟩, fun h => h.1⟩
    | split p q x y ihx ihy =>
      intro F hT hF hX
      simp only [treeB, Bool.and_eq_true, decide_eq_true_eq] at hT
      obtain ⟨⟨hpq, hx⟩, hy⟩ := hT
      by_cases hb : Bef (Region.linearise.go .any l.toArray l.length t (Array.replicate l.length false) []) q p
      · refine ihy ((q, p) :: F) hy ?_ hX.2
        intro f hf
        rcases List.mem_cons.1 hf with e | e
        · subst e
          exact fun h => Bef.irrefl hSn (Bef.trans hSn h hb)
        · exact hF f e
      · refine ihx ((p, q) :: F) hx ?_ hX.1
        intro f hf
        rcases List.mem_cons.1 hf with e | e
        · subst e
          exact hb
        · exact hF f e
  have h1 := key tr [] htree (by simp) h
  have h2 : wpOps P l.toArray Q (Region.linearise.go .any l.toArray l.toArray.size t (Array.replicate l.toArray.size false) []) a w.drew := by rw [hsz]; exact h1
  exact h2
end
end Go.V
