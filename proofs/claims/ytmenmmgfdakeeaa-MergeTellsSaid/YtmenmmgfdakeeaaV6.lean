/- The own library V, part 6: operations that read, and operations that act. -/
import Derived.Test.YtmenmmgfdakeeaaV5
namespace Go.V

/-! ### Reading -/
def Dm (m : Nat) (C : World → Prop) (w : World) (φ : World → Prop) : Prop :=
  match m with
  | 0 => ∀ w', C w' → φ w'
  | _ => φ w

theorem Dm_mono {m : Nat} {C : World → Prop} {w : World} {φ ψ : World → Prop} (h : ∀ w, φ w → ψ w) (hd : Dm m C w φ) : Dm m C w ψ := by
  cases m with
  | zero => exact fun w' hC => h _ (hd w' hC)
  | succ m => exact h _ hd
theorem Dm_and {m : Nat} {C : World → Prop} {w : World} {φ ψ : World → Prop} (h : Dm m C w φ) (k : Dm m C w ψ) : Dm m C w (fun w => φ w ∧ ψ w) := by
  cases m with
  | zero => exact fun w' hC => ⟨h w' hC, k w' hC⟩
  | succ m => exact ⟨h, k⟩
theorem Dm_true {m : Nat} {C : World → Prop} {w : World} {φ : World → Prop} (h : ∀ w, φ w) : Dm m C w φ := by
  cases m with
  | zero => exact fun w' _ => h w'
  | succ m => exact h w

def exLoad (D : (World → Prop) → Prop) (a : Addr) : Nat → List Sh → (List Value → Prop) → Prop
  | _, [], K => K []
  | i, s :: r, K => exSh s fun _ v => D (fun w => w.cell? (a.add i) = some v) ∧ exLoad D a (i + 1) r fun vs => K (v :: vs)

def vread (P : Program) (T : Tys) (o : Oper) (F : Fr) (D : (World → Prop) → Prop) (K : SV → Prop) : Prop :=
  match o.op with
  | .load t x => vptr F x fun a => (match tf T t with
    | some te => bif te.ld.agg then (bif Nat.beq te.shs.length te.size then exLoad D a 0 te.shs fun cs => K (.v (.agg cs.toArray)) else False)
      else exSh (te.shs.headD .any) fun s v => D (fun w => w.cell? a = some v) ∧ K s
    | none => False)
  | .lookup t x i ok => vv F x fun m => vv F i fun k => exT T o.type fun s v => D (fun w => (Instr.lookup t m k ok).run P w = .ok v w) ∧ K s
  | .call { callee := .builtin .len, args, argTypes } => vvs F args.toList fun vs => exT T o.type fun s v => D (fun w => (Builtin.len_ argTypes o.type vs.toArray).run P w = .ok v w) ∧ K s
  | .convert src dst x => vv F x fun m => exT T o.type fun s v => D (fun w => (Go.convert src dst m).run P w = .ok v w) ∧ K s
  | _ => False

section
variable {P : Program} {T : Tys} {F : Fr} {a : Act} {dst : Option Tmp} {ty : TypeId} {pos : String} {after : Array Edge} {guard : Option (Nat × Bool)} {m : Nat} {C : World → Prop} {w : World}

theorem loadCellsFrom_run {ad : Addr} {w : World} : ∀ (vs : List Value) (i : Nat) (acc : Array Value), (∀ j v, vs[j]? = some v → w.cell? (ad.add (i + j)) = some v) → (loadCellsFrom ad i vs.length acc).run P w = .ok (acc ++ vs.toArray) w
  | [], i, acc, _ => by simp [loadCellsFrom]
  | v :: r, i, acc, h => by
    have h0 := h 0 v (by simp)
    simp only [Nat.add_zero] at h0
    simp only [List.length_cons, loadCellsFrom, Sem.run_bind]
    have : (load (ad.add i)).run P w = .ok v w := by simp [load, Sem.run, h0]
    rw [this]
    simp only [Result.andThen_ok]
    rw [loadCellsFrom_run r (i + 1) (acc.push v) (fun j u hu => by
      have := h (j + 1) u (by simpa using hu)
      rw [show i + 1 + j = i + (j + 1) by omega]
      exact this)]
    congr 1
    apply Array.toList_inj.1
    simp

theorem exLoad_spec {D : (World → Prop) → Prop} (hD1 : ∀ φ ψ : World → Prop, D φ → D ψ → D (fun w => φ w ∧ ψ w)) (hD2 : ∀ φ ψ : World → Prop, (∀ w, φ w → ψ w) → D φ → D ψ) (hD3 : ∀ φ : World → Prop, (∀ w, φ w) → D φ) {ad : Addr} :
    ∀ {ss : List Sh} {i : Nat} {K : List Value → Prop}, exLoad D ad i ss K → ∃ vs, vs.length = ss.length ∧ D (fun w => ∀ j v, vs[j]? = some v → w.cell? (ad.add (i + j)) = some v) ∧ K vs
  | [], i, K, h => ⟨[], rfl, hD3 _ (by simp), h⟩
  | s :: r, i, K, h => by
    obtain ⟨_, v, _, h1, h2⟩ := exSh_spec h
    obtain ⟨vs, hl, h3, h4⟩ := exLoad_spec hD1 hD2 hD3 h2
    refine ⟨v :: vs, by simp [hl], hD2 _ _ ?_ (hD1 _ _ h1 h3), h4⟩
    rintro w ⟨h1, h3⟩ j u hu
    cases j with
    | zero => simp at hu; subst hu; exact h1
    | succ j => rw [show i + (j + 1) = i + 1 + j by omega]; exact h3 j u (by simpa using hu)

theorem vread_spec (hT : TOk P T) (hA : Ag F a) {o : Oper} {K : SV → Prop} (h : vread P T o F (Dm m C w) K) :
    ∃ s v, AgV s v ∧ Dm m C w (fun w => (execOp a.eval o).run P w = .ok (.value v) w) ∧ K s := by
  obtain ⟨dst, op, ty, pos, after, guard⟩ := o
  have fin : ∀ {S : Sem Value} {o : Oper}, (∀ w, (execOp a.eval o).run P w = (S.run P w).andThen fun v w' => .ok (.value v) w') → (∃ s v, AgV s v ∧ Dm m C w (fun w => S.run P w = .ok v w) ∧ K s) →
      ∃ s v, AgV s v ∧ Dm m C w (fun w => (execOp a.eval o).run P w = .ok (.value v) w) ∧ K s := by
    rintro S o hS ⟨s, v, h1, h2, h3⟩
    exact ⟨s, v, h1, Dm_mono (fun w h => by rw [hS, h]; rfl) h2, h3⟩
  cases op
  case load t x =>
    refine fin (S := Instr.loadAt t (a.eval x)) (val_then (by simp only [execOp])) ?_
    simp only [vread] at h
    obtain ⟨ad, hx, h⟩ := vptr_spec hA h
    split at h
    · rename_i te hte
      cases hb : te.ld.agg with
      | true =>
        rw [hb] at h
        simp only [cond_true] at h
        cases hl : Nat.beq te.shs.length te.size with
        | false => rw [hl] at h; exact h.elim
        | true =>
          rw [hl] at h
          simp only [cond_true] at h
          obtain ⟨vs, hlen, hD, hK⟩ := exLoad_spec (fun _ _ => Dm_and) (fun _ _ => Dm_mono) (fun _ => Dm_true) h
          refine ⟨.v _, _, (rfl : _ = _), Dm_mono (fun w hw => ?_) hD, hK⟩
          have hs : te.size = vs.length := by rw [hlen]; exact (Nat.eq_of_beq_eq_true hl).symm
          simp only [Instr.loadAt, hx, Instr.sureAddr, pure_bind, loadVar, Sem.run_bind, (hT.get hte).isAgg w, Result.andThen_ok, hb, if_true, (hT.get hte).sizeOf w, loadCells, hs]
          rw [loadCellsFrom_run vs 0 #[] hw]
          simp
      | false =>
        rw [hb] at h
        simp only [cond_false] at h
        obtain ⟨s, v, h1, h2, h3⟩ := exSh_spec h
        refine ⟨s, v, h1, Dm_mono (fun w hw => ?_) h2, h3⟩
        simp [Instr.loadAt, hx, Instr.sureAddr, loadVar, (hT.get hte).isAgg w, hb, load, Sem.run, hw]
    · exact h.elim
  case lookup t x i ok =>
    simp only [vread] at h
    refine fin (S := Instr.lookup t (a.eval x) (a.eval i) ok) (val_then (by simp only [execOp])) ?_
    exact exT_spec (vv_spec hA (vv_spec hA h)) |>.elim fun s ⟨v, h1, h2, h3⟩ => ⟨s, v, h1, h2, h3⟩
  case convert src d x =>
    simp only [vread] at h
    refine fin (S := Go.convert src d (a.eval x)) (val_then (by simp only [execOp])) ?_
    exact exT_spec (vv_spec hA h) |>.elim fun s ⟨v, h1, h2, h3⟩ => ⟨s, v, h1, h2, h3⟩
  case call c =>
    obtain ⟨callee, args, ts⟩ := c
    cases callee with
    | value f => simp only [vread] at h
    | invoke r m => simp only [vread] at h
    | builtin b =>
      cases b
      case len =>
        simp only [vread] at h
        refine fin (S := Builtin.len_ ts ty (args.map a.eval)) (run_builtin fun c => rfl) ?_
        have h := vvs_spec hA h
        rw [show (List.map a.eval args.toList).toArray = args.map a.eval from by apply Array.toList_inj.1; simp] at h
        exact exT_spec h |>.elim fun s ⟨v, h1, h2, h3⟩ => ⟨s, v, h1, h2, h3⟩
      all_goals simp only [vread] at h
  all_goals simp only [vread] at h
end

/-! ### Acting -/
def vstores (a : Addr) : Nat → List Value → World → (World → Prop) → Prop
  | _, [], w, K => K w
  | i, v :: r, w, K => bif v.oneCell' then (∃ u, w.cell? (a.add i) = some u) ∧ w.frozen? (a.add i) = false ∧ vstores a (i + 1) r (w.setCell (a.add i) v) K else False

def hatch (P : Program) (T : Tys) (t : Nat) (S : Sem Value) (w : World) (K : SV → World → Prop) : Prop :=
  exT T t fun s v => ∃ w', S.run P w = .ok v w' ∧ K s w'

def hatchU (P : Program) (S : Sem Unit) (w : World) (K : SV → World → Prop) : Prop := ∃ w', S.run P w = .ok () w' ∧ K .un w'

def vact (P : Program) (T : Tys) (fs : List Nat) (o : Oper) (F : Fr) (w : World) (K : SV → World → Prop) : Prop :=
  match o.op with
  | .store t x y => vptr F x fun a => vv F y fun v => (match tf T t with
    | some te => bif Nat.beq v.cells.size te.size then (bif te.ld.agg then vstores a 0 v.cells.toList w (K .un) else
        bif v.oneCell' then (∃ u, w.cell? a = some u) ∧ w.frozen? a = false ∧ K .un (w.setCell a v) else False) else False
    | none => False)
  | .box t x => vv F x fun v => K (.v (.pointer (some ⟨w.heap.size, 0, none⟩))) (w.alloc (.cells v.cells t))
  | .alloc t => (match tf T t with
    | some te => K (.v (.pointer (some ⟨w.heap.size, 0, none⟩))) (w.alloc (.cells te.zero.cells t))
    | none => False)
  | .buildSlice t n parts => (match tf T t with
    | some ⟨.slice e, _, _, _, _⟩ => (match tf T e with
      | some te => bif Nat.ble (n * te.size) 16777216 then vps F parts.toList fun vs => (match Instr.fill (fun i => some (i * te.size, te.size)) ((Array.range (n * te.size)).map (te.zero.cells[· % te.zero.cells.size]!)) vs with
        | some cells => K (.v (.slice (some ⟨w.heap.size, 0, none⟩) n n)) (w.alloc (.cells cells e))
        | none => False) else False
      | none => False)
    | _ => False)
  | .makeMap _ none => K (.v (.map (some w.heap.size))) (w.alloc (.map #[] 0))
  | .makeMap t (some x) => vv F x fun v => hatch P T o.type (Instr.makeMap t (some v)) w K
  | .makeSlice t l c => vv F l fun l => vv F c fun c => hatch P T o.type (Instr.makeSlice t l c) w K
  | .convert src dst x => vv F x fun v => hatch P T o.type (Go.convert src dst v) w K
  | .typeAssert x t u ok => vv F x fun v => hatch P T o.type (Instr.typeAssert v t u ok) w K
  | .makeInterface t x => vv F x fun v => hatch P T o.type (Instr.makeInterface t v) w K
  | .mapEntry t m k => vv F m fun m => vv F k fun k => hatch P T o.type (Instr.mapEntry t m k) w K
  | .mapUpdate t m k x | .insert t m k x => vv F m fun m => vv F k fun k => vv F x fun x => hatchU P (Instr.mapUpdate t m k x) w K
  | .entryStore t m s x => vv F m fun m => vv F s fun s => vv F x fun x => hatchU P (Instr.entryStore t m s x) w K
  | .range t x => vv F x fun v => hatch P T o.type (Instr.range t v) w K
  | .next it s => vv F it fun v => hatch P T o.type (Instr.next v s o.type) w K
  | .entry it => vv F it fun v => hatch P T o.type (Instr.entry v) w K
  | .binOp op t x y _ => vv F x fun a => vv F y fun b => hatch P T o.type (do eqGuard op t x y a b; Go.binOp op t a b) w K
  | .call { callee := .builtin .append, args, argTypes } => vvs F args.toList fun vs => hatch P T o.type (Builtin.append_ argTypes o.type vs.toArray) w K
  | .call { callee := .builtin .copy, args, argTypes } => vvs F args.toList fun vs => hatch P T o.type (Builtin.copy_ argTypes o.type vs.toArray) w K
  | .call { callee := .builtin .delete, args, argTypes } => vvs F args.toList fun vs => hatch P T o.type (Builtin.delete_ argTypes o.type vs.toArray) w K
  | .call { callee := .builtin .clear, args, argTypes } => vvs F args.toList fun vs => hatch P T o.type (Builtin.clear_ argTypes o.type vs.toArray) w K
  | .call { callee := .value f, args, .. } => (match ev F f with
    | .v (.func (.func g) first captured) => bif fs.contains g then vvs F args.toList fun vs =>
        Calls P g (first.toList ++ (vs ++ captured.toList)).toArray w fun e w' => exT T o.type fun s v => e = .returned v ∧ K s w'
      else False
    | _ => False)
  | _ => False

def FOk (P : Program) (fs : List Nat) : Prop := ∀ g ∈ fs, ∀ args w, (callFunc g args).run P w = .ok (.enter g args) w

section
variable {P : Program} {T : Tys} {fs : List Nat} {F : Fr} {a : Act} {w : World} {K : SV → World → Prop}

def Acts (P : Program) (o : Oper) (a : Act) (w : World) (K : SV → World → Prop) : Prop :=
  o.wp P a w (fun a' w' => ∃ s v, a' = a.put o.dst v ∧ AgV s v ∧ K s w') nope

theorem acts_val {o : Oper} {S : Sem Value} (ho : (execOp a.eval o).run P w = (S.run P w).andThen fun v w' => .ok (.value v) w') (h : ∃ s v, AgV s v ∧ ∃ w', S.run P w = .ok v w' ∧ K s w') : Acts P o a w K := by
  obtain ⟨s, v, h1, w', h2, h3⟩ := h
  unfold Acts Oper.wp
  rw [ho, h2]
  exact ⟨s, v, rfl, h1, h3⟩

theorem acts_unit {o : Oper} {S : Sem Unit} (ho : (execOp a.eval o).run P w = (S.run P w).andThen fun _ w' => .ok .skip w') (h : ∃ w', S.run P w = .ok () w' ∧ K .un w') : Acts P o a w K := by
  obtain ⟨w', h2, h3⟩ := h
  unfold Acts Oper.wp
  rw [ho, h2]
  exact ⟨.un, undef, rfl, trivial, h3⟩

theorem unit_then {ρ : Operand → Value} {o : Oper} {S : Sem Unit} (h : execOp ρ o = (do S; pure Next.skip)) (w : World) : (execOp ρ o).run P w = (S.run P w).andThen fun _ w' => .ok .skip w' := by
  rw [h]; simp only [Sem.run_bind]; rfl

theorem storeCells_run {ad : Addr} : ∀ {vs : List Value} {i : Nat} {w : World} {K : World → Prop}, vstores ad i vs w K → ∃ w', (storeCells ad vs i).run P w = .ok () w' ∧ K w'
  | [], i, w, K, h => ⟨w, by simp [storeCells], h⟩
  | v :: r, i, w, K, h => by
    unfold vstores at h
    cases hb : v.oneCell' with
    | false => rw [hb] at h; exact h.elim
    | true =>
      rw [hb] at h
      obtain ⟨⟨u, hu⟩, hf, h⟩ := h
      obtain ⟨w', h1, h2⟩ := storeCells_run h
      refine ⟨w', ?_, h2⟩
      have : (store (ad.add i) v).run P w = .ok () (w.setCell (ad.add i) v) := by
        cases v <;> simp_all [store, Sem.run, Value.oneCell']
      simp only [storeCells, Sem.run_bind, this, Result.andThen_ok, h1]

theorem exT_hatch {t : Nat} {S : Sem Value} (h : hatch P T t S w K) : ∃ s v, AgV s v ∧ ∃ w', S.run P w = .ok v w' ∧ K s w' := exT_spec h

theorem run_newRow (e : TypeId) (cs : Array Value) (w : World) : (newRow e cs).run P w = .ok ⟨w.heap.size, 0, none⟩ (w.alloc (.cells cs e)) := by
  rfl

theorem vact_spec (hT : TOk P T) (hfs : FOk P fs) (hA : Ag F a) {o : Oper} (h : vact P T fs o F w K) : Acts P o a w K := by
  obtain ⟨dst, op, ty, pos, after, guard⟩ := o
  have arr : ∀ (args : Array Operand), (List.map a.eval args.toList).toArray = args.map a.eval := fun args => by apply Array.toList_inj.1; simp
  cases op
  case store t x y =>
    refine acts_unit (S := Instr.storeAt t (a.eval x) (a.eval y)) (unit_then (by simp only [execOp]) w) ?_
    simp only [vact] at h
    obtain ⟨ad, hx, h⟩ := vptr_spec hA h
    have h := vv_spec hA h
    split at h
    · rename_i te hte
      cases hb : Nat.beq (a.eval y).cells.size te.size with
      | false => rw [hb] at h; exact h.elim
      | true =>
        rw [hb] at h
        simp only [cond_true] at h
        have hs : (a.eval y).cells.size = te.size := Nat.eq_of_beq_eq_true hb
        have base : ∀ w', (storeCells ad (a.eval y).cells.toList).run P w = .ok () w' → (Instr.storeAt t (a.eval x) (a.eval y)).run P w = .ok () w' := by
          intro w' hw
          simp [Instr.storeAt, hx, Instr.sureAddr, storeVar, (hT.get hte).sizeOf w, hs, hw]
        cases hg : te.ld.agg with
        | true =>
          rw [hg] at h
          obtain ⟨w', h1, h2⟩ := storeCells_run (P := P) h
          exact ⟨w', base w' h1, h2⟩
        | false =>
          rw [hg] at h
          simp only [cond_false] at h
          cases ho : (a.eval y).oneCell' with
          | false => rw [ho] at h; exact h.elim
          | true =>
            rw [ho] at h
            simp only [cond_true] at h
            obtain ⟨⟨u, hu⟩, hf, h⟩ := h
            refine ⟨_, base _ ?_, h⟩
            have hc : (a.eval y).cells.toList = [a.eval y] := by
              generalize a.eval y = v at *
              cases v <;> simp_all [Value.cells, Value.oneCell']
            have h0 : ad.add 0 = ad := by simp [Addr.add]
            rw [hc]
            have : (store (ad.add 0) (a.eval y)).run P w = .ok () (w.setCell ad (a.eval y)) := by
              rw [h0]
              generalize a.eval y = v at *
              cases v <;> simp_all [store, Sem.run, Value.oneCell']
            simp only [storeCells, Sem.run_bind, this, Result.andThen_ok]
            rfl
    · exact h.elim
  case box t x =>
    refine acts_val (S := Instr.box t (a.eval x)) (val_then (by simp only [execOp]) w) ?_
    simp only [vact] at h
    have h := vv_spec hA h
    exact ⟨.v _, _, (rfl : _ = _), _, by simp only [Instr.box, newVar, Sem.run_bind, run_newRow, Result.andThen_ok]; rfl, h⟩
  case alloc t =>
    refine acts_val (S := Instr.alloc t true (.tuple #[])) (val_then (by simp only [execOp]) w) ?_
    simp only [vact] at h
    split at h
    · rename_i te hte
      exact ⟨.v _, _, (rfl : _ = _), _, by simp only [Instr.alloc, newVar, Sem.run_bind, (hT.get hte).zeroValue w, run_newRow, Result.andThen_ok]; rfl, h⟩
    · exact h.elim
  case buildSlice t n parts =>
    refine acts_val (S := Instr.buildSlice t n (parts.map fun (i, x) => (i, a.eval x))) (val_then (by simp only [execOp]) w) ?_
    simp only [vact] at h
    split at h
    · rename_i e _ _ _ _ ht
      split at h
      · rename_i te hte
        cases hb : Nat.ble (n * te.size) 16777216 with
        | false => rw [hb] at h; exact h.elim
        | true =>
          rw [hb] at h
          simp only [cond_true] at h
          have h := vps_spec hA h
          split at h
          · rename_i cells hc
            refine ⟨.v _, _, (rfl : _ = _), _, ?_, h⟩
            have hle : ¬ (n * te.size > 2 ^ 24) := by
              have := Nat.le_of_ble_eq_true hb
              omega
            have hl : (parts.map fun (i, x) => (i, a.eval x)).toList = parts.toList.map (fun p => (p.1, a.eval p.2)) := by simp
            simp only [Instr.buildSlice, Sem.run_bind, Ty.run_und w ((hT.get ht).slice rfl), Result.andThen_ok, (hT.get hte).sizeOf w, if_neg hle]
            rw [hl]
            by_cases hz : n * te.size = 0
            · rw [if_pos hz]
              rw [pure_bind]
              have e0 : (Array.range (n * te.size)).map ((#[] : Array Value)[· % (#[] : Array Value).size]!) = (Array.range (n * te.size)).map (te.zero.cells[· % te.zero.cells.size]!) := by
                rw [hz]; simp
              rw [e0, hc]
              simp only [Sem.run_bind, run_newRow, Result.andThen_ok]
              rfl
            · rw [if_neg hz]
              simp only [Sem.run_bind, (hT.get hte).zeroValue w, Sem.run_pure, Result.andThen_ok]
              rw [hc]
              simp only [Sem.run_bind, run_newRow, Result.andThen_ok]
              rfl
          · exact h.elim
      · exact h.elim
    · exact h.elim
  case makeMap t r =>
    cases r with
    | none =>
      refine acts_val (S := Instr.makeMap t none) (val_then (by simp only [execOp, Option.map_none]) w) ?_
      simp only [vact] at h
      exact ⟨.v _, _, (rfl : _ = _), _, rfl, h⟩
    | some x =>
      refine acts_val (S := Instr.makeMap t (some (a.eval x))) (val_then (by simp only [execOp, Option.map_some]) w) ?_
      simp only [vact] at h
      exact exT_hatch (vv_spec hA h)
  case makeSlice t l c =>
    refine acts_val (S := Instr.makeSlice t (a.eval l) (a.eval c)) (val_then (by simp only [execOp]) w) ?_
    simp only [vact] at h
    exact exT_hatch (vv_spec hA (vv_spec hA h))
  case convert src d x =>
    refine acts_val (S := Go.convert src d (a.eval x)) (val_then (by simp only [execOp]) w) ?_
    simp only [vact] at h
    exact exT_hatch (vv_spec hA h)
  case typeAssert x t u ok =>
    refine acts_val (S := Instr.typeAssert (a.eval x) t u ok) (val_then (by simp only [execOp]) w) ?_
    simp only [vact] at h
    exact exT_hatch (vv_spec hA h)
  case makeInterface t x =>
    refine acts_val (S := Instr.makeInterface t (a.eval x)) (val_then (by simp only [execOp]) w) ?_
    simp only [vact] at h
    exact exT_hatch (vv_spec hA h)
  case mapEntry t m k =>
    refine acts_val (S := Instr.mapEntry t (a.eval m) (a.eval k)) (val_then (by simp only [execOp]) w) ?_
    simp only [vact] at h
    exact exT_hatch (vv_spec hA (vv_spec hA h))
  case mapUpdate t m k x =>
    refine acts_unit (S := Instr.mapUpdate t (a.eval m) (a.eval k) (a.eval x)) (unit_then (by simp only [execOp]) w) ?_
    simp only [vact] at h
    exact vv_spec hA (vv_spec hA (vv_spec hA h))
  case insert t m k x =>
    refine acts_unit (S := Instr.mapUpdate t (a.eval m) (a.eval k) (a.eval x)) (unit_then (by simp only [execOp]) w) ?_
    simp only [vact] at h
    exact vv_spec hA (vv_spec hA (vv_spec hA h))
  case entryStore t m s x =>
    refine acts_unit (S := Instr.entryStore t (a.eval m) (a.eval s) (a.eval x)) (unit_then (by simp only [execOp]) w) ?_
    simp only [vact] at h
    exact vv_spec hA (vv_spec hA (vv_spec hA h))
  case range t x =>
    refine acts_val (S := Instr.range t (a.eval x)) (val_then (by simp only [execOp]) w) ?_
    simp only [vact] at h
    exact exT_hatch (vv_spec hA h)
  case next it s =>
    refine acts_val (S := Instr.next (a.eval it) s ty) (val_then (by simp only [execOp]) w) ?_
    simp only [vact] at h
    exact exT_hatch (vv_spec hA h)
  case entry it =>
    refine acts_val (S := Instr.entry (a.eval it)) (val_then (by simp only [execOp]) w) ?_
    simp only [vact] at h
    exact exT_hatch (vv_spec hA h)
  case binOp op t x y yt =>
    refine acts_val (S := do eqGuard op t x y (a.eval x) (a.eval y); Go.binOp op t (a.eval x) (a.eval y)) (val_then (by simp only [execOp]) w) ?_
    simp only [vact] at h
    exact exT_hatch (vv_spec hA (vv_spec hA h))
  case call c =>
    obtain ⟨callee, args, ts⟩ := c
    cases callee with
    | invoke r m => simp only [vact] at h
    | builtin b =>
      cases b
      case append =>
        simp only [vact] at h
        have h := vvs_spec hA h
        rw [arr] at h
        exact acts_val (S := Builtin.append_ ts ty (args.map a.eval)) (run_builtin (fun c => rfl) w) (exT_hatch h)
      case copy =>
        simp only [vact] at h
        have h := vvs_spec hA h
        rw [arr] at h
        exact acts_val (S := Builtin.copy_ ts ty (args.map a.eval)) (run_builtin (fun c => rfl) w) (exT_hatch h)
      case delete =>
        simp only [vact] at h
        have h := vvs_spec hA h
        rw [arr] at h
        exact acts_val (S := Builtin.delete_ ts ty (args.map a.eval)) (run_builtin (fun c => rfl) w) (exT_hatch h)
      case clear =>
        simp only [vact] at h
        have h := vvs_spec hA h
        rw [arr] at h
        exact acts_val (S := Builtin.clear_ ts ty (args.map a.eval)) (run_builtin (fun c => rfl) w) (exT_hatch h)
      all_goals simp only [vact] at h
    | value f =>
      simp only [vact] at h
      have hf := hA.ev f
      split at h
      · rename_i g first captured he
        rw [he] at hf; simp only [AgV] at hf
        cases hg : fs.contains g with
        | false => rw [hg] at h; exact h.elim
        | true =>
          rw [hg] at h
          simp only [cond_true] at h
          have h := vvs_spec hA h
          have hgo := hfs g (List.contains_iff_mem.1 hg)
          unfold Acts Oper.wp
          have hrun : (execOp a.eval ⟨dst, .call ⟨.value f, args, ts⟩, ty, pos, after, guard⟩).run P w = .ok (.enter g (first.toList ++ (List.map a.eval args.toList ++ captured.toList)).toArray) w := by
            simp only [execOp, resolve, hf, Deferred.ofValue, pure_bind, invoke]
            rw [hgo]
            congr 2
            apply Array.toList_inj.1
            simp
          rw [hrun]
          refine h.mono fun e w' hw => ?_
          obtain ⟨s, v, h1, rfl, h3⟩ := exT_spec hw
          exact ⟨s, v, rfl, h1, h3⟩
      · exact h.elim
  all_goals simp only [vact] at h
end
end Go.V
