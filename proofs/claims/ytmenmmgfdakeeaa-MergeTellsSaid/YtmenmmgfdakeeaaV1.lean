/- The own library V, part 1: a region that draws its order is walked in the order of the text, whatever its operations are: operations that leave the world alone commute with all others, operations that act are kept in one order. -/
import Derived.WalkKit
import Derived.Still
namespace Go.V

/-- how an operation stands to the others of its region: 0: it leaves the world alone and yields the same in every world of the class; 1: it leaves the world alone; 2: it acts. -/
abbrev Kinds := Nat → Nat

def Still1 (P : Program) (o : Oper) (a : Act) (w : World) (v : Value) : Prop :=
  (execOp a.eval o).run P w = .ok (.value v) w ∨ ((execOp a.eval o).run P w = .ok .skip w ∧ v = undef)

theorem Still1.unique {P : Program} {o : Oper} {a : Act} {w : World} {v u : Value} (h : Still1 P o a w v) (k : Still1 P o a w u) : v = u := by
  rcases h with h | ⟨h, rfl⟩ <;> rcases k with k | ⟨k, rfl⟩ <;> rw [h] at k <;> simp at k <;> first | exact k | rfl

def nope : Exit → Act → World → Prop := fun _ _ _ => False

/-- One operation, by its kind. -/
def stepMix (P : Program) (ops : Array Oper) (C : World → Prop) (kd : Nat) (o : Oper) (K : Act → World → Prop) (a : Act) (w : World) : Prop :=
  if Region.wanted o (yielded ops a.tmps) then
    match kd with
    | 0 => ∃ v, (∀ w', C w' → Still1 P o a w' v) ∧ K (a.put o.dst v) w
    | 1 => ∃ v, Still1 P o a w v ∧ K (a.put o.dst v) w
    | _ => o.wp P a w (fun a' w' => (∃ u, a' = a.put o.dst u) ∧ C w' ∧ K a' w') nope
  else K (a.put o.dst undef) w

def wpMix (P : Program) (ops : Array Oper) (C : World → Prop) (kd : Kinds) (Q : Act → World → Prop) : List (Nat × Oper) → Act → World → Prop
  | [], a, w => Q a w
  | (i, o) :: rest, a, w => stepMix P ops C (kd i) o (wpMix P ops C kd Q rest) a w

section
variable {P : Program} {ops : Array Oper} {C : World → Prop} {K K' : Act → World → Prop} {a : Act} {w : World}

theorem stepMix_mono {k : Nat} {o : Oper} (h : ∀ a w, K a w → K' a w) (hh : stepMix P ops C k o K a w) : stepMix P ops C k o K' a w := by
  unfold stepMix at *
  split
  · rename_i hw
    simp only [hw, if_true] at hh
    split at hh
    · obtain ⟨v, h1, h2⟩ := hh; exact ⟨v, h1, h _ _ h2⟩
    · obtain ⟨v, h1, h2⟩ := hh; exact ⟨v, h1, h _ _ h2⟩
    · exact Oper.wp_mono (fun a w ⟨h1, h2, h3⟩ => ⟨h1, h2, h _ _ h3⟩) hh
  · rename_i hw
    simp only [hw] at hh
    exact h _ _ hh

theorem stepMix_monoC {k : Nat} {o : Oper} (hC : C w) (h : ∀ a w, C w → K a w → K' a w) (hh : stepMix P ops C k o K a w) : stepMix P ops C k o K' a w := by
  unfold stepMix at *
  split
  · rename_i hw
    simp only [hw, if_true] at hh
    split at hh
    · obtain ⟨v, h1, h2⟩ := hh; exact ⟨v, h1, h _ _ hC h2⟩
    · obtain ⟨v, h1, h2⟩ := hh; exact ⟨v, h1, h _ _ hC h2⟩
    · exact Oper.wp_mono (fun a w ⟨h1, h2, h3⟩ => ⟨h1, h2, h _ _ h2 h3⟩) hh
  · rename_i hw
    simp only [hw] at hh
    exact h _ _ hC hh

theorem wpMix_mono {kd : Kinds} {Q Q' : Act → World → Prop} (hQ : ∀ a w, Q a w → Q' a w) : ∀ (l : List (Nat × Oper)) (a : Act) (w : World), wpMix P ops C kd Q l a w → wpMix P ops C kd Q' l a w
  | [], _, _, h => hQ _ _ h
  | (_, _) :: l, _, _, h => stepMix_mono (fun a w => wpMix_mono hQ l a w) h

/-- Some outcome there is. -/
theorem calls_some {f : FuncId} {args : Array Value} {R : Ending → World → Prop} (h : Calls P f args w R) : ∃ e w', R e w' := by
  obtain ⟨e, w', _, h, _⟩ := h []
  exact ⟨e, w', h⟩

theorem wp_some {o : Oper} (h : o.wp P a w K nope) : ∃ a' w', K a' w' := by
  unfold Oper.wp at h
  generalize (execOp a.eval o).run P w = r at *
  cases r with
  | ok n w' =>
    cases n <;> simp only [Oper.upon] at h
    case value v => exact ⟨_, _, h⟩
    case skip => exact ⟨_, _, h⟩
    case defer d => exact ⟨_, _, h⟩
    case enter f args =>
      obtain ⟨e, w'', h⟩ := calls_some h
      cases e with
      | returned v => exact ⟨_, _, h⟩
      | panicked c => exact h.elim
      | outgrown => obtain ⟨_, _, h⟩ := h; exact h.elim
    case row s args =>
      obtain ⟨v, w'', h, _⟩ := h default []
      exact ⟨_, _, h⟩
  | halt x w' => cases x <;> simp only [Oper.upon] at h; exact h.elim

/-- An operation that acts, before and behind a put that it does not look at. -/
theorem wp_put {o : Oper} {d : Option Tmp} {v : Value} (hs : ∀ cs b, o.op ≠ .select cs b) (h1 : ∀ t, d = some t → t ∉ o.looksAt ops) (h2 : ∀ t, d = some t → o.dst ≠ some t)
    (h : o.wp P (a.put d v) w (fun a' w' => (∃ u, a' = (a.put d v).put o.dst u) ∧ K a' w') nope) :
    o.wp P a w (fun a' w' => (∃ u, a' = a.put o.dst u) ∧ K (a'.put d v) w') nope := by
  unfold Oper.wp at *
  rw [execOp_put (ops := ops) o hs a d v h1] at h
  generalize (execOp a.eval o).run P w = r at *
  have key : ∀ u w', (∃ u', (a.put d v).put o.dst u = (a.put d v).put o.dst u') ∧ K ((a.put d v).put o.dst u) w' → (∃ u', a.put o.dst u = a.put o.dst u') ∧ K ((a.put o.dst u).put d v) w' := by
    rintro u w' ⟨_, hk⟩
    rw [Act.put_comm a v u h2] at hk
    exact ⟨⟨u, rfl⟩, hk⟩
  cases r with
  | ok n w' =>
    cases n <;> simp only [Oper.upon] at h ⊢
    case value u => exact key _ _ h
    case skip => exact key _ _ h
    case defer dd =>
      obtain ⟨⟨u, hu⟩, hk⟩ := h
      exfalso
      have : dd :: (a.put d v).defers = ((a.put d v).put o.dst u).defers := by rw [← hu]; cases o.dst <;> rfl
      have e : ((a.put d v).put o.dst u).defers = (a.put d v).defers := by cases o.dst <;> rfl
      rw [e] at this
      exact absurd this (by simp)
    case enter f args =>
      refine h.mono ?_
      intro e w'' he
      cases e with
      | returned u => exact key _ _ he
      | panicked c => exact he
      | outgrown => exact he
    case row s args => exact h.mono fun u w'' he => key _ _ he
  | halt x w' => cases x <;> simp only [Oper.upon] at h ⊢; exact h

theorem Still1.of_put {o : Oper} {d : Option Tmp} {v u : Value} {w : World} (hs : ∀ cs b, o.op ≠ .select cs b) (h1 : ∀ t, d = some t → t ∉ o.looksAt ops) : Still1 P o (a.put d v) w u ↔ Still1 P o a w u := by
  unfold Still1
  rw [execOp_put (ops := ops) o hs a d v h1]

/-- Two of a region's operations may change places. -/
def compat (x y : Nat) : Bool := x == 0 || y == 0 || (x == 1 && y == 1)

theorem stepMix_quiet {k : Nat} {o : Oper} (hk : k = 0 ∨ k = 1) (h : stepMix P ops C k o K a w) :
    ∃ v, ((Region.wanted o (yielded ops a.tmps) = true ∧ (if k = 0 then ∀ w', C w' → Still1 P o a w' v else Still1 P o a w v)) ∨ (Region.wanted o (yielded ops a.tmps) = false ∧ v = undef)) ∧ K (a.put o.dst v) w := by
  unfold stepMix at h
  by_cases hw : Region.wanted o (yielded ops a.tmps) = true
  · simp only [hw, if_true] at h
    rcases hk with rfl | rfl
    · obtain ⟨v, h1, h2⟩ := h; exact ⟨v, .inl ⟨hw, by simpa using h1⟩, h2⟩
    · obtain ⟨v, h1, h2⟩ := h; exact ⟨v, .inl ⟨hw, by simpa using h1⟩, h2⟩
  · simp only [hw] at h
    exact ⟨undef, .inr ⟨by simpa using hw, rfl⟩, h⟩

theorem stepMix_of_quiet {k : Nat} {o : Oper} (hk : k = 0 ∨ k = 1) {v : Value}
    (h : (Region.wanted o (yielded ops a.tmps) = true ∧ (if k = 0 then ∀ w', C w' → Still1 P o a w' v else Still1 P o a w v)) ∨ (Region.wanted o (yielded ops a.tmps) = false ∧ v = undef)) (hK : K (a.put o.dst v) w) :
    stepMix P ops C k o K a w := by
  unfold stepMix
  rcases h with ⟨hw, h⟩ | ⟨hw, rfl⟩
  · simp only [hw, if_true]
    rcases hk with rfl | rfl
    · exact ⟨v, by simpa using h, hK⟩
    · exact ⟨v, by simpa using h, hK⟩
  · simp only [hw]; exact hK

theorem stepMix_act {k : Nat} {o : Oper} (hk : ¬ (k = 0 ∨ k = 1)) : stepMix P ops C k o K a w =
    (if Region.wanted o (yielded ops a.tmps) then o.wp P a w (fun a' w' => (∃ u, a' = a.put o.dst u) ∧ C w' ∧ K a' w') nope else K (a.put o.dst undef) w) := by
  unfold stepMix
  split
  · split
    · omega
    · omega
    · rfl
  · rfl

theorem swapMix {i j : Nat} {oi oj : Oper} (hC : C w) (hap : oi.apart ops oj = true) (hc : compat i j = true)
    (hsi : ∀ cs b, oi.op ≠ .select cs b) (hsj : ∀ cs b, oj.op ≠ .select cs b)
    (h : stepMix P ops C i oi (stepMix P ops C j oj K) a w) : stepMix P ops C j oj (stepMix P ops C i oi K) a w := by
  obtain ⟨h1, h2, h3⟩ := Oper.apart_spec hap
  have h4 : ∀ d, oj.dst = some d → oi.dst ≠ some d := fun d hd he => h2 d he hd
  have wi : ∀ v, Region.wanted oi (yielded ops (a.put oj.dst v).tmps) = Region.wanted oi (yielded ops a.tmps) := fun v => wanted_put oi a oj.dst v h3
  have wj : ∀ v, Region.wanted oj (yielded ops (a.put oi.dst v).tmps) = Region.wanted oj (yielded ops a.tmps) := fun v => wanted_put oj a oi.dst v h1
  by_cases qi : i = 0 ∨ i = 1
  · obtain ⟨v, hv, hn⟩ := stepMix_quiet qi h
    clear h
    by_cases qj : j = 0 ∨ j = 1
    · obtain ⟨u, hu, hn⟩ := stepMix_quiet qj hn
      refine stepMix_of_quiet (v := u) qj ?_ (stepMix_of_quiet (v := v) qi ?_ ?_)
      · simp only [wj, Still1.of_put (ops := ops) hsj h1] at hu; exact hu
      · simp only [wi, Still1.of_put (ops := ops) hsi h3]; exact hv
      · rw [Act.put_comm a u v h4]; exact hn
    · -- i quiet, j acts: then i is of kind 0
      have hi0 : i = 0 := by
        simp only [compat, Bool.or_eq_true, Bool.and_eq_true, beq_iff_eq] at hc
        omega
      subst hi0
      rw [stepMix_act qj] at hn ⊢
      rw [wj] at hn
      by_cases hw : Region.wanted oj (yielded ops a.tmps) = true
      · rw [if_pos hw] at hn ⊢
        have h' := wp_put (ops := ops) (K := fun a' w' => C w' ∧ K a' w') hsj h1 h2 hn
        refine Oper.wp_mono ?_ h'
        rintro a' w' ⟨⟨u, rfl⟩, hCw', hK⟩
        refine ⟨⟨u, rfl⟩, hCw', stepMix_of_quiet (.inl rfl) (v := v) ?_ hK⟩
        simp only [wi, Still1.of_put (ops := ops) hsi h3]
        simpa using hv
      · rw [if_neg hw] at hn ⊢
        refine stepMix_of_quiet (.inl rfl) (v := v) ?_ ?_
        · simp only [wi, Still1.of_put (ops := ops) hsi h3]; exact hv
        · rw [Act.put_comm a undef v h4]; exact hn
  · -- i acts: j is of kind 0
    have hj0 : j = 0 := by
      simp only [compat, Bool.or_eq_true, Bool.and_eq_true, beq_iff_eq] at hc
      omega
    subst hj0
    rw [stepMix_act qi] at h
    by_cases hw : Region.wanted oi (yielded ops a.tmps) = true
    · rw [if_pos hw] at h
      have hx := h
      clear h
      obtain ⟨a', w', ⟨u, rfl⟩, hCw', hq⟩ := wp_some hx
      obtain ⟨v, hv, _⟩ := stepMix_quiet (.inl rfl) hq
      simp only [wj, Still1.of_put (ops := ops) hsj h1, if_true] at hv
      refine stepMix_of_quiet (.inl rfl) (v := v) (by simpa using hv) ?_
      rw [stepMix_act qi, wi, if_pos hw]
      unfold Oper.wp at hx ⊢
      rw [execOp_put (ops := ops) oi hsi a oj.dst v h3]
      have key : ∀ (u : Value) (w'' : World), ((∃ u', a.put oi.dst u = a.put oi.dst u') ∧ C w'' ∧ stepMix P ops C 0 oj K (a.put oi.dst u) w'') →
          (∃ u', (a.put oj.dst v).put oi.dst u = (a.put oj.dst v).put oi.dst u') ∧ C w'' ∧ K ((a.put oj.dst v).put oi.dst u) w'' := by
        rintro u w'' ⟨_, hCw, hq⟩
        obtain ⟨v', hv', hk'⟩ := stepMix_quiet (.inl rfl) hq
        simp only [wj, Still1.of_put (ops := ops) hsj h1, if_true] at hv'
        have hvv : v' = v := by
          rcases hv with ⟨ha, hv⟩ | ⟨ha, rfl⟩ <;> rcases hv' with ⟨hb, hv'⟩ | ⟨hb, rfl⟩
          · exact (hv' w hC).unique (hv w hC)
          · rw [ha] at hb; cases hb
          · rw [ha] at hb; cases hb
          · rfl
        subst hvv
        exact ⟨⟨u, rfl⟩, hCw, by rw [Act.put_comm a _ _ h4]; exact hk'⟩
      generalize (execOp a.eval oi).run P w = r at *
      cases r with
      | ok n w' =>
        cases n <;> simp only [Oper.upon] at hx ⊢
        case value u => exact key _ _ hx
        case skip => exact key _ _ hx
        case defer dd =>
          obtain ⟨⟨u, hu⟩, _⟩ := hx
          exfalso
          have : dd :: a.defers = (a.put oi.dst u).defers := by rw [← hu]; cases oi.dst <;> rfl
          have e : (a.put oi.dst u).defers = a.defers := by cases oi.dst <;> rfl
          rw [e] at this
          exact absurd this (by simp)
        case enter f args =>
          refine hx.mono ?_
          intro e w'' he
          cases e with
          | returned u => exact key _ _ he
          | panicked c => exact he
          | outgrown => obtain ⟨_, _, he⟩ := he; exact he.elim
        case row s args => exact hx.mono fun u w'' he => key _ _ he
      | halt x w' => cases x <;> simp only [Oper.upon] at hx ⊢; exact hx
    · rw [if_neg hw] at h
      obtain ⟨v, hv, hK⟩ := stepMix_quiet (.inl rfl) h
      simp only [wj, Still1.of_put (ops := ops) hsj h1] at hv
      refine stepMix_of_quiet (.inl rfl) hv ?_
      rw [stepMix_act qi, wi, if_neg hw]
      rw [Act.put_comm a _ _ h4]; exact hK

/-- An operation is pulled ahead of others. -/
theorem pullMix {kd : Kinds} {Q : Act → World → Prop} {j : Nat} {oj : Oper} {B : List (Nat × Oper)} (hsj : ∀ cs b, oj.op ≠ .select cs b) :
    ∀ (A : List (Nat × Oper)), (∀ x ∈ A, x.2.apart ops oj = true ∧ compat (kd x.1) (kd j) = true ∧ ∀ cs b, x.2.op ≠ .select cs b) →
    ∀ (a : Act) (w : World), C w → wpMix P ops C kd Q (A ++ (j, oj) :: B) a w → stepMix P ops C (kd j) oj (wpMix P ops C kd Q (A ++ B)) a w
  | [], _, _, _, _, h => h
  | (i, oi) :: A, hA, a, w, hC, h => by
    have h0 := hA (i, oi) (by simp)
    refine swapMix hC h0.1 h0.2.1 h0.2.2 hsj ?_
    have : ∀ a w, C w → wpMix P ops C kd Q (A ++ (j, oj) :: B) a w → stepMix P ops C (kd j) oj (wpMix P ops C kd Q (A ++ B)) a w :=
      fun a w hC h => pullMix hsj A (fun x hx => hA x (by simp [hx])) a w hC h
    simp only [List.cons_append, wpMix] at h
    exact stepMix_monoC hC this h

theorem wp_of_nope {o : Oper} {Q : Exit → Act → World → Prop} (h : o.wp P a w K nope) : o.wp P a w K Q := by
  unfold Oper.wp at *
  generalize (execOp a.eval o).run P w = r at *
  cases r with
  | ok n w' =>
    cases n <;> simp only [Oper.upon] at h ⊢
    case enter f args =>
      refine h.mono ?_
      intro e w'' he
      cases e with
      | returned u => exact he
      | panicked c => exact he.elim
      | outgrown => obtain ⟨_, _, he⟩ := he; exact he.elim
    all_goals exact h
  | halt x w' => cases x <;> simp only [Oper.upon] at h ⊢; exact h.elim

theorem wpOp_of_stepMix {j : Nat} {o : Oper} {k : Nat} {Q : Exit → Act → World → Prop} (hj : ops[j]? = some o) (hC : C w) (hK : ∀ a w, C w → K a w → K' a w) (h : stepMix P ops C k o K a w) : wpOp P ops Q j K' a w := by
  unfold wpOp
  simp only [hj]
  unfold stepMix at h
  split
  · rename_i hw
    simp only [hw, if_true] at h
    left
    split at h
    · obtain ⟨v, h1, h2⟩ := h
      unfold Oper.wp
      rcases h1 w hC with h3 | ⟨h3, rfl⟩ <;> rw [h3] <;> exact hK _ _ hC h2
    · obtain ⟨v, h1, h2⟩ := h
      unfold Oper.wp
      rcases h1 with h3 | ⟨h3, rfl⟩ <;> rw [h3] <;> exact hK _ _ hC h2
    · exact wp_of_nope (Oper.wp_mono (fun a' w' ⟨_, h1, h2⟩ => hK _ _ h1 h2) h)
  · rename_i hw
    simp only [hw] at h
    exact hK _ _ hC h

def enum : Nat → List Oper → List (Nat × Oper)
  | _, [] => []
  | k, o :: l => (k, o) :: enum (k + 1) l

theorem mem_enum {i : Nat} {o : Oper} : ∀ {k : Nat} {l : List Oper}, (i, o) ∈ enum k l ↔ k ≤ i ∧ l[i - k]? = some o
  | k, [] => by simp [enum]
  | k, x :: l => by
    simp only [enum, List.mem_cons, Prod.mk.injEq, mem_enum (k := k + 1) (l := l)]
    constructor
    · rintro (⟨rfl, rfl⟩ | ⟨h1, h2⟩)
      · simp
      · refine ⟨by omega, ?_⟩
        rw [show i - k = (i - (k + 1)) + 1 by omega]
        simpa using h2
    · rintro ⟨h1, h2⟩
      rcases Nat.eq_or_lt_of_le h1 with h | h
      · subst h
        left
        simp at h2
        exact ⟨rfl, h2.symm⟩
      · right
        refine ⟨by omega, ?_⟩
        rw [show i - k = (i - (k + 1)) + 1 by omega] at h2
        simpa using h2

theorem enum_sorted : ∀ (k : Nat) (l : List Oper), (enum k l).Pairwise (fun x y => x.1 < y.1)
  | _, [] => List.Pairwise.nil
  | k, o :: l => by
    simp only [enum]
    refine List.Pairwise.cons ?_ (enum_sorted (k + 1) l)
    rintro ⟨i, oi⟩ hm
    have := (mem_enum.1 hm).1
    show k < i
    omega

/-- 'Operation j waits for operation i by way of m.' -/
abbrev Waits := List (Nat × Nat × Nat)

def waitsB (R : Waits) (j i : Nat) : Bool := R.any fun t => t.1 == j && t.2.1 == i

def edgeB (o : Oper) (m : Nat) : Bool := o.after.any fun e => Region.binds .any e && e.on == m

def waitsOk (ops : List Oper) (R : Waits) : Bool :=
  R.all fun t => decide (t.2.2 < t.1) && (match ops[t.1]? with | some o => edgeB o t.2.2 | none => false) && (t.2.2 == t.2.1 || waitsB R t.2.2 t.2.1)

def pairB (ops : Array Oper) (kd : Kinds) (R : Waits) (x y : Nat × Oper) : Bool := (x.2.apart ops y.2 && compat (kd x.1) (kd y.1)) || waitsB R y.1 x.1

def backB (l : List (Nat × Oper)) : Bool := l.all fun x => x.2.after.all fun e => !Region.binds .any e || decide (e.on < x.1)

def pairsB (ops : Array Oper) (kd : Kinds) (R : Waits) : List (Nat × Oper) → Bool
  | [] => true
  | x :: l => l.all (pairB ops kd R x) && pairsB ops kd R l

def mixB (ops : List Oper) (kd : Kinds) (R : Waits) : Bool :=
  Region.noSelect ops.toArray && backB (enum 0 ops) && waitsOk ops R && pairsB ops.toArray kd R (enum 0 ops)

theorem pairsB_spec {kd : Kinds} {R : Waits} : ∀ {l : List (Nat × Oper)}, pairsB ops kd R l = true → l.Pairwise (fun x y => pairB ops kd R x y = true)
  | [], _ => List.Pairwise.nil
  | x :: l, h => by
    simp only [pairsB, Bool.and_eq_true, List.all_eq_true] at h
    exact List.Pairwise.cons h.1 (pairsB_spec h.2)

/-- What is listed hangs on what is listed. -/
def Down (ops : List Oper) (listed : Array Bool) : Prop := ∀ j o, ops[j]? = some o → listed.getD j true = true → ∀ e ∈ o.after, Region.binds .any e = true → listed.getD e.on false = true

theorem waits_not {l : List Oper} {R : Waits} (hR : waitsOk l R = true) {listed : Array Bool} (hd : Down l listed) {i : Nat} (hi : listed.getD i false = false) :
    ∀ (j : Nat), waitsB R j i = true → listed.getD j true = false ∧ j ∉ Region.ready .any l.toArray listed := by
  intro j
  induction j using Nat.strongRecOn with
  | _ j ih =>
    intro hw
    obtain ⟨⟨j', i', m⟩, hm, he⟩ := List.any_eq_true.1 hw
    simp only [Bool.and_eq_true, beq_iff_eq] at he
    obtain ⟨rfl, rfl⟩ := he
    have h := List.all_eq_true.1 hR _ hm
    simp only [Bool.and_eq_true, decide_eq_true_eq, Bool.or_eq_true, beq_iff_eq] at h
    obtain ⟨⟨hlt, he⟩, hc⟩ := h
    cases ho : l[j']? with
    | none => rw [ho] at he; simp at he
    | some o =>
      rw [ho] at he
      obtain ⟨e, hee, hb⟩ := Array.any_eq_true'.1 he
      simp only [Bool.and_eq_true, beq_iff_eq] at hb
      have hmu : listed.getD m false = false := by
        rcases hc with rfl | hc
        · exact hi
        · have := (ih m hlt hc).1
          rcases Nat.lt_or_ge m listed.size with h' | h'
          · simp [h'] at this ⊢; exact this
          · simp [Array.getElem?_eq_none h']
      constructor
      · cases hj : listed.getD j' true with
        | false => rfl
        | true =>
          have := hd j' o ho hj e hee hb.1
          rw [hb.2, hmu] at this
          cases this
      · intro hr
        obtain ⟨_, o', ho', hall⟩ := mem_ready.1 hr
        have : o' = o := by
          have : l[j']? = some o' := by simpa using ho'
          rw [ho] at this
          exact (Option.some.inj this).symm
        subst this
        have := hall e hee hb.1
        rw [hb.2, hmu] at this
        cases this

theorem wpAny_of_mix {l : List Oper} {kd : Kinds} {R : Waits} {Qn : Act → World → Prop} {Q : Exit → Act → World → Prop} (hB : mixB l kd R = true) (hQ : ∀ a w, C w → Qn a w → Q .normal a w) :
    ∀ (n : Nat) (L : List (Nat × Oper)) (listed : Array Bool) (a : Act) (w : World), L.length = n → C w → listed.size = l.length → L.Pairwise (fun x y => x.1 < y.1 ∧ pairB l.toArray kd R x y = true) →
      (∀ i o, (i, o) ∈ L ↔ (l[i]? = some o ∧ listed.getD i true = false)) → Down l listed → wpMix P l.toArray C kd Qn L a w → wpAny P .any l.toArray Q n listed a w := by
  have hB' := hB
  simp only [mixB, Bool.and_eq_true] at hB'
  obtain ⟨⟨⟨hsel, hback⟩, hwaits⟩, _⟩ := hB'
  have hsel' := Region.noSelect_spec hsel
  intro n
  induction n with
  | zero =>
    intro L listed a w hL hC hs hp hm hd h
    obtain rfl : L = [] := List.length_eq_zero_iff.1 hL
    refine ⟨?_, hQ _ _ hC h⟩
    refine List.eq_nil_iff_forall_not_mem.2 fun j hj => ?_
    obtain ⟨hu, o, ho, _⟩ := mem_ready.1 hj
    have := (hm j o).2 ⟨by simpa using ho, hu⟩
    cases this
  | succ n ih =>
    intro L listed a w hL hC hs hp hm hd h
    constructor
    · intro hr
      exfalso
      cases L with
      | nil => simp at hL
      | cons x L =>
        obtain ⟨i, oi⟩ := x
        have hi := (hm i oi).1 (by simp)
        have : i ∈ Region.ready .any l.toArray listed := by
          refine mem_ready.2 ⟨hi.2, oi, by simpa using hi.1, fun e he hb => ?_⟩
          have h1 := List.all_eq_true.1 hback (i, oi) (mem_enum.2 ⟨Nat.zero_le _, by simpa using hi.1⟩)
          have h2 := Array.all_eq_true'.1 h1 e he
          simp only [hb, Bool.not_true, Bool.false_or, decide_eq_true_eq] at h2
          cases hl : listed.getD e.on true with
          | true =>
            have hlt : i < l.length := (List.getElem?_eq_some_iff.1 hi.1).1
            have : e.on < listed.size := by omega
            simp [this] at hl ⊢
            exact hl
          | false =>
            exfalso
            have hlt : i < l.length := (List.getElem?_eq_some_iff.1 hi.1).1
            have hmm := (hm e.on (l[e.on]'(by omega))).2 ⟨by simp, hl⟩
            rcases List.mem_cons.1 hmm with h3 | h3
            · simp only [Prod.mk.injEq] at h3; omega
            · have := (List.pairwise_cons.1 hp).1 _ h3
              simp only at this
              omega
        rw [hr] at this
        cases this
    · intro j hj
      obtain ⟨hu, oj, hoj, hall⟩ := mem_ready.1 hj
      have hoj' : l[j]? = some oj := by simpa using hoj
      have hmem := (hm j oj).2 ⟨hoj', hu⟩
      obtain ⟨A, B, rfl⟩ := List.append_of_mem hmem
      have hp2 := List.pairwise_append.1 hp
      have hA : ∀ x ∈ A, x.2.apart l.toArray oj = true ∧ compat (kd x.1) (kd j) = true ∧ ∀ cs b, x.2.op ≠ .select cs b := by
        rintro ⟨i, oi⟩ hx
        have hi := (hm i oi).1 (by simp [hx])
        have h1 := (hp2.2.2 (i, oi) hx (j, oj) (by simp)).2
        simp only [pairB, Bool.or_eq_true, Bool.and_eq_true] at h1
        refine ⟨?_, ?_, fun cs b => hsel' i oi cs b (by simpa using hi.1)⟩
        all_goals
          rcases h1 with h1 | h1
          · first | exact h1.1 | exact h1.2
          · exfalso
            have hif : listed.getD i false = false := by
              have := hi.2
              rcases Nat.lt_or_ge i listed.size with h' | h'
              · simp [h'] at this ⊢; exact this
              · simp [Array.getElem?_eq_none h']
            exact (waits_not hwaits hd hif j h1).2 hj
      have hstep := pullMix (hsel' j oj · · hoj) A hA a w hC h
      refine wpOp_of_stepMix hoj hC (fun a' w' hC' hK => ?_) hstep
      have hjs : j < listed.size := by
        rw [hs]
        exact (List.getElem?_eq_some_iff.1 hoj').1
      have hne : ∀ x, x ∈ A ∨ x ∈ B → x.1 ≠ j := by
        rintro x (hx | hx)
        · have := (hp2.2.2 x hx (j, oj) (by simp)).1
          simp only at this
          omega
        · have := (List.pairwise_cons.1 hp2.2.1).1 x hx
          simp only at this
          omega
      refine ih (A ++ B) (listed.setIfInBounds j true) a' w' (by simp at hL ⊢; omega) hC' (by simpa using hs) ?_ ?_ ?_ hK
      · refine List.pairwise_append.2 ⟨hp2.1, (List.pairwise_cons.1 hp2.2.1).2, fun x hx y hy => hp2.2.2 x hx y (by simp [hy])⟩
      · intro i o
        constructor
        · intro hx
          have hx' : (i, o) ∈ A ∨ (i, o) ∈ B := by simpa using hx
          have h1 := (hm i o).1 (by simp only [List.mem_append, List.mem_cons]; rcases hx' with h | h <;> simp [h])
          refine ⟨h1.1, ?_⟩
          have := hne _ hx'
          simp only at this
          rw [getD_set_ne true (fun h => this h.symm)]
          exact h1.2
        · rintro ⟨h1, h2⟩
          by_cases hij : j = i
          · subst hij
            simp [hjs] at h2
          · rw [getD_set_ne true hij] at h2
            have := (hm i o).2 ⟨h1, h2⟩
            simp only [List.mem_append, List.mem_cons, Prod.mk.injEq] at this ⊢
            rcases this with h | ⟨h, _⟩ | h
            · exact .inl h
            · exact absurd h.symm hij
            · exact .inr h
      · intro i o ho hl e he hb
        by_cases hij : j = i
        · subst hij
          have : o = oj := Option.some.inj (ho.symm.trans hoj')
          subst this
          exact getD_set_true (hall e he hb)
        · rw [getD_set_ne true hij] at hl
          exact getD_set_true (hd i o ho hl e he hb)

/-- **A region that draws its order: one walk, in the order of the text.** -/
theorem wp_region_mix {id : Nat} {Q : Exit → Act → World → Prop} {l : List Oper} {kd : Kinds} {R : Waits} (hm : P.follows .mixedOrders = true) (hB : mixB l kd R = true) (hC : C w.drew)
    (h : wpMix P l.toArray C kd (fun a w => C w → Q .normal a w) (enum 0 l) a w.drew) : (Code.region id l.toArray true).wp P Q a w := by
  refine wp_region_any hm ?_
  have hp := enum_sorted 0 l
  have hp' : (enum 0 l).Pairwise (fun x y => pairB l.toArray kd R x y = true) := by
    simp only [mixB, Bool.and_eq_true] at hB
    exact pairsB_spec hB.2
  have hlen : ∀ k (l : List Oper), (enum k l).length = l.length := by
    intro k l
    induction l generalizing k with
    | nil => rfl
    | cons o l ih => simp [enum, ih]
  refine wpAny_of_mix (C := C) (Qn := fun a w => C w → Q .normal a w) hB (fun a w hC h => h hC) l.toArray.size (enum 0 l) _ a _ (by simp [hlen]) hC (by simp) (hp.imp₂ (fun _ _ h1 h2 => ⟨h1, h2⟩) hp') ?_ ?_ h
  · intro i o
    rw [mem_enum]
    simp only [Nat.zero_le, true_and, Nat.sub_zero]
    constructor
    · intro h
      refine ⟨h, ?_⟩
      have := (List.getElem?_eq_some_iff.1 h).1
      simp [this]
    · exact fun h => h.1
  · intro j o ho hl
    have := (List.getElem?_eq_some_iff.1 ho).1
    simp [this] at hl

/-- A region in the order of the text. -/
theorem wp_ops_mix {Q : Exit → Act → World → Prop} {l : List Oper} {kd : Kinds} (hQ : ∀ a w, C w → K a w → Q .normal a w) :
    ∀ (r : List Oper) (k : Nat) (a : Act) (w : World), (∀ j, r[j]? = l[k + j]?) → k + r.length = l.length → C w → wpMix P l.toArray C kd K (enum k r) a w → wpOps P l.toArray Q (List.range' k r.length) a w
  | [], _, _, _, _, _, hC, h => hQ _ _ hC h
  | o :: r, k, a, w, hl, hlen, hC, h => by
    have h0 : l[k]? = some o := by simpa using (hl 0).symm
    simp only [List.length_cons, List.range'_succ]
    rw [wpOps_cons]
    refine wpOp_of_stepMix (by simpa using h0) hC (fun a' w' hC' hK => ?_) h
    exact wp_ops_mix hQ r (k + 1) a' w' (fun j => by have := hl (j + 1); simpa [Nat.add_assoc, Nat.add_comm 1 j] using this) (by simp at hlen; omega) hC' hK

theorem wp_region_seq {id : Nat} {Q : Exit → Act → World → Prop} {l : List Oper} {kd : Kinds} (hC : C w)
    (h : wpMix P l.toArray C kd (fun a w => C w → Q .normal a w) (enum 0 l) a w) : (Code.region id l.toArray false).wp P Q a w := by
  refine wp_region ?_
  have := wp_ops_mix (C := C) (K := fun a w => C w → Q .normal a w) (Q := Q) (l := l) (kd := kd) (fun a w hC h => h hC) l 0 a w (by simp) (by simp) hC h
  rw [List.range_eq_range']
  simpa using this

end
end Go.V
