/- The own library V, part 4: operations that compute yield what part 3 says. -/
import Derived.Test.YtmenmmgfdakeeaaV3
namespace Go.V
variable {P : Program} {T : Tys} {F : Fr} {a : Act} {wr : Bool} {K : SV → Prop} {dst : Option Tmp} {ty : TypeId} {pos : String} {after : Array Edge} {guard : Option (Nat × Bool)}

def Goes (P : Program) (o : Oper) (a : Act) (K : SV → Prop) : Prop := ∃ s v, AgV s v ∧ (∀ w, (execOp a.eval o).run P w = .ok (.value v) w) ∧ K s

theorem Goes.of {o : Oper} {S : Sem Value} (ho : ∀ w, (execOp a.eval o).run P w = (S.run P w).andThen fun v w' => .ok (.value v) w') (h : ∃ s v, AgV s v ∧ (∀ w, S.run P w = .ok v w) ∧ K s) : Goes P o a K := by
  obtain ⟨s, v, h1, h2, h3⟩ := h
  exact ⟨s, v, h1, fun w => by rw [ho, h2]; rfl, h3⟩

theorem goes_val {o : Oper} {S : Sem Value} (ho : ∀ w, (execOp a.eval o).run P w = (S.run P w).andThen fun v w' => .ok (.value v) w') {s : SV} {v : Value} (h1 : AgV s v) (h2 : ∀ w, S.run P w = .ok v w) (h3 : K s) : Goes P o a K := Goes.of ho ⟨s, v, h1, h2, h3⟩

theorem val_then {ρ : Operand → Value} {o : Oper} {S : Sem Value} (h : execOp ρ o = (do pure (Next.value (← S)))) (w : World) : (execOp ρ o).run P w = (S.run P w).andThen fun v w' => .ok (.value v) w' := by
  rw [h]; simp

theorem eqIn_ptr (d : Nat) {t e : TypeId} (h : P.underlying t = some (.pointer e)) (p : Option Addr) (w : World) : (Op.equalIn (d + 1) t (.pointer p) (.pointer none)).run P w = .ok p.isNone w := by
  cases p <;> simp [Op.equalIn, Ty.run_und w h]
theorem eqIn_slice (d : Nat) {t e : TypeId} (h : P.underlying t = some (.slice e)) (A : Option Addr) (n c n' c' : Nat) (w : World) : (Op.equalIn (d + 1) t (.slice A n c) (.slice none n' c')).run P w = .ok A.isNone w := by
  cases A <;> simp [Op.equalIn, Ty.run_und w h]
theorem eqIn_map (d : Nat) {t k e : TypeId} (h : P.underlying t = some (.map k e)) (r : Option Nat) (w : World) : (Op.equalIn (d + 1) t (.map r) (.map none)).run P w = .ok r.isNone w := by
  cases r <;> simp [Op.equalIn, Ty.run_und w h]
theorem guard_none {op : BinOp} {t : TypeId} {x y : Operand} {A B : Value} (h1 : ∀ cs, A ≠ .agg cs) (h2 : A ≠ .nilIface) : eqGuard op t x y A B = pure () := by
  unfold eqGuard
  cases op <;> simp
  all_goals (split <;> first | rfl | exact absurd rfl h2 | exact absurd rfl (h1 _))
theorem isNone_dec {α : Type} [DecidableEq α] (p : Option α) : p.isNone = decide (p = none) := by cases p <;> simp
theorem isSome_dec {α : Type} [DecidableEq α] (p : Option α) : (!p.isNone) = decide (p ≠ none) := by cases p <;> simp

theorem goes_binop (hT : TOk P T) (hA : Ag F a) {op : BinOp} {t yt : TypeId} {x y : Operand}
    (h : vpure P T wr ⟨dst, .binOp op t x y yt, ty, pos, after, guard⟩ F K) : Goes P ⟨dst, .binOp op t x y yt, ty, pos, after, guard⟩ a K := by
  refine Goes.of (S := do eqGuard op t x y (a.eval x) (a.eval y); Go.binOp op t (a.eval x) (a.eval y)) (val_then (by simp only [execOp])) ?_
  have noguard : ∀ (A B : Value), (op ≠ .eql ∧ op ≠ .neq) → ∀ w, (do eqGuard op t x y A B; Go.binOp op t A B : Sem Value).run P w = (Go.binOp op t A B).run P w := by
    intro A B hop w
    have : eqGuard op t x y A B = pure () := by
      unfold eqGuard
      cases op <;> simp at hop ⊢
    rw [this]
    simp
  have intguard : ∀ (k k' : IntKind) (m n : Int), ∀ w, (do eqGuard op t x y (.int k m) (.int k' n); Go.binOp op t (.int k m) (.int k' n) : Sem Value).run P w = (Go.binOp op t (.int k m) (.int k' n)).run P w := by
    intro k k' m n w
    have : eqGuard op t x y (.int k m) (.int k' n) = pure () := by
      unfold eqGuard
      cases op <;> simp
    rw [this]
    simp
  have shift : (op = .shl ∨ op = .shr) → (vint F x fun k m => vint F y fun _ n => sop wr op k m n K) → ∃ s v, AgV s v ∧ (∀ w, (do eqGuard op t x y (a.eval x) (a.eval y); Go.binOp op t (a.eval x) (a.eval y) : Sem Value).run P w = .ok v w) ∧ K s := by
    intro _ h
    obtain ⟨k, m, hx, h⟩ := vint_spec hA h
    obtain ⟨k', n, hy, h⟩ := vint_spec hA h
    obtain ⟨s, v, h1, h2, h3⟩ := sop_spec (P := P) (yk := k') (t := t) h
    exact ⟨s, v, h1, fun w => by rw [hx, hy, intguard]; exact h2 w, h3⟩
  have ints : ∀ {k k' : IntKind} {m n : Int}, ev F x = .v (.int k m) → ev F y = .v (.int k' n) → (if k = k' then iop wr op k m n K else False) →
      ∃ s v, AgV s v ∧ (∀ w, (do eqGuard op t x y (a.eval x) (a.eval y); Go.binOp op t (a.eval x) (a.eval y) : Sem Value).run P w = .ok v w) ∧ K s := by
    intro k k' m n hx hy h
    have hx' : a.eval x = .int k m := by have := hA.ev x; rw [hx] at this; exact this
    have hy' : a.eval y = .int k' n := by have := hA.ev y; rw [hy] at this; exact this
    split at h
    · rename_i hk; subst hk
      obtain ⟨s, v, h1, h2, h3⟩ := iop_spec (P := P) (t := t) h
      exact ⟨s, v, h1, fun w => by rw [hx', hy', intguard]; exact h2 w, h3⟩
    · exact h.elim
  have other : (op ≠ .eql ∧ op ≠ .neq) → (vv F x fun A => vv F y fun B => exT T ty fun s v => (∀ w, (Go.binOp op t A B : Sem Value).run P w = .ok v w) ∧ K s) →
      ∃ s v, AgV s v ∧ (∀ w, (do eqGuard op t x y (a.eval x) (a.eval y); Go.binOp op t (a.eval x) (a.eval y) : Sem Value).run P w = .ok v w) ∧ K s := by
    intro hop h
    obtain ⟨s, v, h1, h2, h3⟩ := exT_spec (vv_spec hA (vv_spec hA h))
    exact ⟨s, v, h1, fun w => by rw [noguard _ _ hop]; exact h2 w, h3⟩
  have main : (op ≠ .eql ∧ op ≠ .neq) → ∀ hh : (match ev F x, ev F y with
      | .v (.int k a), .v (.int k' b) => if k = k' then iop wr op k a b K else False
      | _, _ => vv F x fun A => vv F y fun B => exT T ty fun s v => (∀ w, (Go.binOp op t A B : Sem Value).run P w = .ok v w) ∧ K s),
      ∃ s v, AgV s v ∧ (∀ w, (do eqGuard op t x y (a.eval x) (a.eval y); Go.binOp op t (a.eval x) (a.eval y) : Sem Value).run P w = .ok v w) ∧ K s := by
    intro hop h
    split at h
    · rename_i hx hy; exact ints hx hy h
    · exact other hop h
  have eqs : (op = .eql ∨ op = .neq) → ∀ hh : (match ev F x, ev F y with
      | .v (.int k a), .v (.int k' b) => if k = k' then iop wr op k a b K else False
      | .v (.pointer p), .v (.pointer none) => (match tf T t with
        | some ⟨.ptr _, _, _, _, _⟩ => (match op with
          | .eql => K (.p (p = none) inferInstance)
          | _ => K (.p (p ≠ none) inferInstance))
        | _ => False)
      | .v (.slice A _ _), .v (.slice none _ _) => (match tf T t with
        | some ⟨.slice _, _, _, _, _⟩ => (match op with
          | .eql => K (.p (A = none) inferInstance)
          | _ => K (.p (A ≠ none) inferInstance))
        | _ => False)
      | .v (.map r), .v (.map none) => (match tf T t with
        | some ⟨.map _ _, _, _, _, _⟩ => (match op with
          | .eql => K (.p (r = none) inferInstance)
          | _ => K (.p (r ≠ none) inferInstance))
        | _ => False)
      | _, _ => vv F x fun A => vv F y fun B => exT T ty fun s v => (∀ w, (do eqGuard op t x y A B; Go.binOp op t A B : Sem Value).run P w = .ok v w) ∧ K s),
      ∃ s v, AgV s v ∧ (∀ w, (do eqGuard op t x y (a.eval x) (a.eval y); Go.binOp op t (a.eval x) (a.eval y) : Sem Value).run P w = .ok v w) ∧ K s := by
    intro hop h
    split at h
    · rename_i hx hy; exact ints hx hy h
    · rename_i p hx hy
      have hx' : a.eval x = .pointer p := by have := hA.ev x; rw [hx] at this; exact this
      have hy' : a.eval y = .pointer none := by have := hA.ev y; rw [hy] at this; exact this
      split at h
      · rename_i e _ _ _ _ ht
        have hu := (hT.get ht).ptr rfl
        rcases hop with rfl | rfl
        · refine ⟨.p _ _, _, (rfl : _ = _), fun w => ?_, h⟩
          rw [hx', hy']
          rw [guard_none (by simp) (by simp)]
          simp only [pure_bind]
          show ((do pure (.bool (← Op.equalIn (9999 + 1) t _ _)) : Sem Value)).run P w = _
          simp only [Sem.run_bind, eqIn_ptr 9999 hu, Result.andThen_ok, isNone_dec]
          rfl
        · refine ⟨.p _ _, _, (rfl : _ = _), fun w => ?_, h⟩
          rw [hx', hy']
          rw [guard_none (by simp) (by simp)]
          simp only [pure_bind]
          show ((do pure (.bool (!(← Op.equalIn (9999 + 1) t _ _))) : Sem Value)).run P w = _
          simp only [Sem.run_bind, eqIn_ptr 9999 hu, Result.andThen_ok, isSome_dec]
          rfl
      · exact h.elim
    · rename_i A n c n' c' hx hy
      have hx' : a.eval x = .slice A n c := by have := hA.ev x; rw [hx] at this; exact this
      have hy' : a.eval y = .slice none n' c' := by have := hA.ev y; rw [hy] at this; exact this
      split at h
      · rename_i e _ _ _ _ ht
        have hu := (hT.get ht).slice rfl
        rcases hop with rfl | rfl
        · refine ⟨.p _ _, _, (rfl : _ = _), fun w => ?_, h⟩
          rw [hx', hy']
          rw [guard_none (by simp) (by simp)]
          simp only [pure_bind]
          show ((do pure (.bool (← Op.equalIn (9999 + 1) t _ _)) : Sem Value)).run P w = _
          simp only [Sem.run_bind, eqIn_slice 9999 hu, Result.andThen_ok, isNone_dec]
          rfl
        · refine ⟨.p _ _, _, (rfl : _ = _), fun w => ?_, h⟩
          rw [hx', hy']
          rw [guard_none (by simp) (by simp)]
          simp only [pure_bind]
          show ((do pure (.bool (!(← Op.equalIn (9999 + 1) t _ _))) : Sem Value)).run P w = _
          simp only [Sem.run_bind, eqIn_slice 9999 hu, Result.andThen_ok, isSome_dec]
          rfl
      · exact h.elim
    · rename_i r hx hy
      have hx' : a.eval x = .map r := by have := hA.ev x; rw [hx] at this; exact this
      have hy' : a.eval y = .map none := by have := hA.ev y; rw [hy] at this; exact this
      split at h
      · rename_i k e _ _ _ _ ht
        have hu := (hT.get ht).map rfl
        rcases hop with rfl | rfl
        · refine ⟨.p _ _, _, (rfl : _ = _), fun w => ?_, h⟩
          rw [hx', hy']
          rw [guard_none (by simp) (by simp)]
          simp only [pure_bind]
          show ((do pure (.bool (← Op.equalIn (9999 + 1) t _ _)) : Sem Value)).run P w = _
          simp only [Sem.run_bind, eqIn_map 9999 hu, Result.andThen_ok, isNone_dec]
          rfl
        · refine ⟨.p _ _, _, (rfl : _ = _), fun w => ?_, h⟩
          rw [hx', hy']
          rw [guard_none (by simp) (by simp)]
          simp only [pure_bind]
          show ((do pure (.bool (!(← Op.equalIn (9999 + 1) t _ _))) : Sem Value)).run P w = _
          simp only [Sem.run_bind, eqIn_map 9999 hu, Result.andThen_ok, isSome_dec]
          rfl
      · exact h.elim
    · obtain ⟨s, v, h1, h2, h3⟩ := exT_spec (vv_spec hA (vv_spec hA h))
      exact ⟨s, v, h1, h2, h3⟩
  simp only [vpure] at h
  cases op
  case shl => exact shift (.inl rfl) h
  case shr => exact shift (.inr rfl) h
  case eql => exact eqs (.inl rfl) h
  case neq => exact eqs (.inr rfl) h
  all_goals exact main (by simp) h

theorem goes_unop (hA : Ag F a) {op : UnOp} {t : TypeId} {x : Operand}
    (h : vpure P T wr ⟨dst, .unOp op t x, ty, pos, after, guard⟩ F K) : Goes P ⟨dst, .unOp op t x, ty, pos, after, guard⟩ a K := by
  refine Goes.of (S := Op.unary op (a.eval x)) (val_then (by simp only [execOp])) ?_
  have hx := hA.ev x
  simp only [vpure] at h
  split at h
  · rename_i he; rw [he] at hx; simp only [AgV] at hx
    exact ⟨.v _, _, (rfl : _ = _), fun w => by rw [hx]; simp [Op.unary], h⟩
  · rename_i he; rw [he] at hx; simp only [AgV] at hx
    exact ⟨.v _, _, (rfl : _ = _), fun w => by rw [hx]; simp [Op.unary], h⟩
  · rename_i c he; rw [he] at hx; simp only [AgV] at hx
    exact ⟨.p _ _, _, (rfl : _ = _), fun w => by rw [hx]; cases c <;> simp [Op.unary], h⟩
  · rename_i q d he; rw [he] at hx; simp only [AgV] at hx
    exact ⟨.p _ _, _, (rfl : _ = _), fun w => by rw [hx]; simp [Op.unary], h⟩
  · rename_i k m he; rw [he] at hx; simp only [AgV] at hx
    obtain ⟨s, v, h1, h2, h3⟩ := iop_spec (P := P) (t := 0) h
    refine ⟨s, v, h1, fun w => ?_, h3⟩
    rw [hx, ← h2 w]
    simp [Op.unary, Go.binOp]
  · rename_i k m he; rw [he] at hx; simp only [AgV] at hx
    exact ⟨.v _, _, (rfl : _ = _), fun w => by rw [hx]; simp [Op.unary, Op.intBits, bop], h⟩
  · exact h.elim

theorem goes_fieldAddr (hT : TOk P T) (hA : Ag F a) {s : TypeId} {x : Operand} {f : Nat}
    (h : vpure P T wr ⟨dst, .fieldAddr s x f, ty, pos, after, guard⟩ F K) : Goes P ⟨dst, .fieldAddr s x f, ty, pos, after, guard⟩ a K := by
  refine Goes.of (S := Instr.fieldAt s (a.eval x) f) (val_then (by simp only [execOp])) ?_
  simp only [vpure] at h
  split at h
  · rename_i fs _ _ _ _ hs
    split at h
    · rename_i off ft hf
      split at h
      · rename_i te hte
        obtain ⟨fa, hu, hfs⟩ := (hT.get hs).struct rfl
        have hz : Nat.beq te.size 0 = false := by
          cases hb : Nat.beq te.size 0 with
          | false => rfl
          | true => rw [hb] at h; exact h.elim
        rw [hz] at h
        simp only [cond_false] at h
        obtain ⟨p, hp, hK⟩ := vptr_spec hA h
        refine ⟨.v _, _, (rfl : _ = _), fun w => ?_, hK⟩
        have hne : te.size ≠ 0 := fun e => by rw [e] at hz; simp at hz
        have hfa : ∃ g, fa[f]? = some g ∧ g.offset = off ∧ g.type = ft := by
          rw [← hfs] at hf
          simp only [List.getElem?_map, Option.map_eq_some_iff, Prod.mk.injEq] at hf
          obtain ⟨g, hg, h1, h2⟩ := hf
          exact ⟨g, by simpa using hg, h1, h2⟩
        obtain ⟨g, hg, rfl, rfl⟩ := hfa
        rw [hp]
        simp [Instr.fieldAt, Ty.run_und w hu, hg, Instr.sureAddr, fieldPlace, (hT.get hte).sizeOf w, hne]
      · exact h.elim
    · exact h.elim
  · exact h.elim

theorem goes_field (hT : TOk P T) (hA : Ag F a) {s : TypeId} {x : Operand} {f : Nat}
    (h : vpure P T wr ⟨dst, .field s x f, ty, pos, after, guard⟩ F K) : Goes P ⟨dst, .field s x f, ty, pos, after, guard⟩ a K := by
  refine Goes.of (S := Instr.field s (a.eval x) f) (val_then (by simp only [execOp])) ?_
  simp only [vpure] at h
  split at h
  · rename_i fs _ _ _ _ hs
    split at h
    · rename_i off ft hf
      split at h
      · rename_i te hte
        obtain ⟨fa, hu, hfs⟩ := (hT.get hs).struct rfl
        have h := vv_spec hA h
        have hfa : ∃ g, fa[f]? = some g ∧ g.offset = off ∧ g.type = ft := by
          rw [← hfs] at hf
          simp only [List.getElem?_map, Option.map_eq_some_iff, Prod.mk.injEq] at hf
          obtain ⟨g, hg, h1, h2⟩ := hf
          exact ⟨g, by simpa using hg, h1, h2⟩
        obtain ⟨g, hg, rfl, rfl⟩ := hfa
        split at h
        · rename_i cs hcs
          rw [hcs]
          cases hb : te.ld.agg with
          | true =>
            rw [hb] at h
            refine ⟨.v _, _, (rfl : _ = _), fun w => ?_, h⟩
            simp [Instr.field, Ty.run_und w hu, hg, asAgg, part, (hT.get hte).isAgg w, hb, (hT.get hte).sizeOf w]
          | false =>
            rw [hb] at h
            simp only [cond_false] at h
            split at h
            · rename_i c hc
              refine ⟨mk c, c, AgV.mk c, fun w => ?_, h⟩
              simp [Instr.field, Ty.run_und w hu, hg, asAgg, part, (hT.get hte).isAgg w, hb, hc]
            · exact h.elim
        · exact h.elim
      · exact h.elim
    · exact h.elim
  · exact h.elim

end Go.V
