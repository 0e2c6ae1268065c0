/- The own library V, part 3: operations that compute: what must hold for them, and what they yield. -/
import Derived.Test.YtmenmmgfdakeeaaV2
namespace Go.V

/-! ### Something of a type -/
def exSh (s : Sh) (K : SV → Value → Prop) : Prop :=
  match s with
  | .int k => ∃ x : Int, K (.v (.int k x)) (.int k x)
  | .bool => ∃ c : Bool, K (.b c) (.bool c)
  | .str => ∃ x : ByteArray, K (.v (.string x)) (.string x)
  | .slice => ∃ (A : Option Addr) (n c : Nat), K (.v (.slice A n c)) (.slice A n c)
  | .ptr => ∃ a : Option Addr, K (.v (.pointer a)) (.pointer a)
  | .map => ∃ r : Option Nat, K (.v (.map r)) (.map r)
  | .any => ∃ x : Value, K (.v x) x
  | .addr => ∃ a : Addr, K (.v (.pointer (some a))) (.pointer (some a))

def exCs : List Sh → (List Value → Prop) → Prop
  | [], K => K []
  | s :: r, K => exSh s fun _ v => exCs r fun vs => K (v :: vs)

def exOne (te : TE) (K : SV → Value → Prop) : Prop :=
  match te.ld with
  | .struct _ | .arr _ _ => exCs te.shs fun cs => K (.v (.agg cs.toArray)) (.agg cs.toArray)
  | _ => exSh (te.shs.headD .any) K

def exTup (T : Tys) : List Nat → (List Value → Prop) → Prop
  | [], K => K []
  | t :: r, K => match tf T t with
    | some te => exOne te fun _ v => exTup T r fun vs => K (v :: vs)
    | none => False

def exT (T : Tys) (t : Nat) (K : SV → Value → Prop) : Prop :=
  match tf T t with
  | some te => (match te.ld with
    | .tup ts => exTup T ts fun vs => K (.v (.tuple vs.toArray)) (.tuple vs.toArray)
    | _ => exOne te K)
  | none => False

theorem exSh_spec {s : Sh} {K : SV → Value → Prop} (h : exSh s K) : ∃ x v, AgV x v ∧ K x v := by
  cases s <;> simp only [exSh] at h
  case slice => obtain ⟨A, n, c, h⟩ := h; exact ⟨.v _, _, (rfl : _ = _), h⟩
  case bool => obtain ⟨c, h⟩ := h; exact ⟨.b _, _, (rfl : _ = _), h⟩
  all_goals (obtain ⟨x, h⟩ := h; exact ⟨.v _, _, (rfl : _ = _), h⟩)

theorem exCs_spec : ∀ {s : List Sh} {K : List Value → Prop}, exCs s K → ∃ vs, K vs
  | [], _, h => ⟨[], h⟩
  | s :: r, K, h => by
    obtain ⟨_, v, _, h⟩ := exSh_spec h
    obtain ⟨vs, h⟩ := exCs_spec h
    exact ⟨v :: vs, h⟩

theorem exOne_spec {te : TE} {K : SV → Value → Prop} (h : exOne te K) : ∃ x v, AgV x v ∧ K x v := by
  unfold exOne at h
  split at h
  · obtain ⟨vs, h⟩ := exCs_spec h; exact ⟨.v _, _, (rfl : _ = _), h⟩
  · obtain ⟨vs, h⟩ := exCs_spec h; exact ⟨.v _, _, (rfl : _ = _), h⟩
  · exact exSh_spec h

theorem exTup_spec {T : Tys} : ∀ {s : List Nat} {K : List Value → Prop}, exTup T s K → ∃ vs, K vs
  | [], _, h => ⟨[], h⟩
  | s :: r, K, h => by
    unfold exTup at h
    split at h
    · obtain ⟨_, v, _, h⟩ := exOne_spec h
      obtain ⟨vs, h⟩ := exTup_spec h
      exact ⟨v :: vs, h⟩
    · exact h.elim

theorem exT_spec {T : Tys} {t : Nat} {K : SV → Value → Prop} (h : exT T t K) : ∃ x v, AgV x v ∧ K x v := by
  unfold exT at h
  split at h
  · split at h
    · obtain ⟨vs, h⟩ := exTup_spec h; exact ⟨.v _, _, (rfl : _ = _), h⟩
    · exact exOne_spec h
  · exact h.elim

/-! ### Small words -/
/-- The address of 's[l:]', of capacity c. -/
def cutA (A : Option Addr) (c l sz : Nat) : Option Addr := if c = l then A else A.map (·.add (l * sz))

def mx (x y : Int) : Int := if y > x then y else x
def mn (x y : Int) : Int := if y < x then y else x

def bt (s : ByteArray) (i : Nat) : Int := ((s.data.toList.getD i 0).toNat : Int)

def mxs (k : IntKind) : Int → List Value → (Int → Prop) → Prop
  | x, [], K => K x
  | x, .int _ y :: r, K => mxs k (mx x y) r K
  | _, _, _ => False
def mns (k : IntKind) : Int → List Value → (Int → Prop) → Prop
  | x, [], K => K x
  | x, .int _ y :: r, K => mns k (mn x y) r K
  | _, _, _ => False

/-- Cells of an array by an index that is a number not known. -/
def pickIx (i : Int) : Nat → List Value → (SV → Prop) → Prop
  | _, [], _ => True
  | j, c :: r, K => (i = (j : Int) → K (mk c)) ∧ pickIx i (j + 1) r K

def sizes (T : Tys) : List (Nat × Nat) → (List (Nat × Nat) → Prop) → Prop
  | [], K => K []
  | (o, t) :: r, K => match tf T t with
    | some te => sizes T r fun l => K ((o, te.size) :: l)
    | none => False

def addMul (a : Addr) (i sz : Nat) : Addr := bif Nat.beq sz 1 then a.add i else a.add (i * sz)
theorem addMul_eq (a : Addr) (i sz : Nat) : addMul a i sz = a.add (i * sz) := by
  unfold addMul
  cases h : Nat.beq sz 1 with
  | true =>
    have : sz = 1 := Nat.eq_of_beq_eq_true h
    simp [this]
  | false => rfl

/-- An operation's meaning, of those that are not looked into. -/
def semP (ρ : Operand → Value) (o : Oper) : Option (Sem Value) :=
  match o.op with
  | .binOp op t x y _ => some (do eqGuard op t x y (ρ x) (ρ y); Go.binOp op t (ρ x) (ρ y))
  | .unOp op _ x => some (Op.unary op (ρ x))
  | .convert src dst x => some (Go.convert src dst (ρ x))
  | .makeInterface t x => some (Instr.makeInterface t (ρ x))
  | .typeAssert x t u ok => some (Instr.typeAssert (ρ x) t u ok)
  | .makeMap t r => some (Instr.makeMap t (r.map ρ))
  | .makeSlice t l c => some (Instr.makeSlice t (ρ l) (ρ c))
  | .slice t x lo hi mx => some (Instr.sliceAt t (ρ x) (lo.map ρ) (hi.map ρ) (mx.map ρ))
  | .index t x i => some (Instr.index t (ρ x) (ρ i))
  | .lookup t x i ok => some (Instr.lookup t (ρ x) (ρ i) ok)
  | .mapEntry t m k => some (Instr.mapEntry t (ρ m) (ρ k))
  | .range t x => some (Instr.range t (ρ x))
  | .next it s => some (Instr.next (ρ it) s o.type)
  | .entry it => some (Instr.entry (ρ it))
  | .call { callee := .builtin .append, args, argTypes } => some (Builtin.append_ argTypes o.type (args.map ρ))
  | .call { callee := .builtin .copy, args, argTypes } => some (Builtin.copy_ argTypes o.type (args.map ρ))
  | .call { callee := .builtin .delete, args, argTypes } => some (Builtin.delete_ argTypes o.type (args.map ρ))
  | .call { callee := .builtin .clear, args, argTypes } => some (Builtin.clear_ argTypes o.type (args.map ρ))
  | .call { callee := .builtin .len, args, argTypes } => some (Builtin.len_ argTypes o.type (args.map ρ))
  | _ => none

def semU (ρ : Operand → Value) (o : Oper) : Option (Sem Unit) :=
  match o.op with
  | .mapUpdate t m k x | .insert t m k x => some (Instr.mapUpdate t (ρ m) (ρ k) (ρ x))
  | .entryStore t m s x => some (Instr.entryStore t (ρ m) (ρ s) (ρ x))
  | .ready g => some (Instr.ready g)
  | _ => none

theorem semP_spec {P : Program} {ρ : Operand → Value} {o : Oper} {s : Sem Value} (h : semP ρ o = some s) (w : World) : (execOp ρ o).run P w = (s.run P w).andThen fun v w' => .ok (.value v) w' := by
  obtain ⟨d, op, t, pos, after, g⟩ := o
  have e : ∀ x : Sem Value, (do pure (Next.value (← x)) : Sem Next).run P w = (x.run P w).andThen fun v w' => .ok (.value v) w' := fun x => by simp
  have r : ∀ (b : Builtin) (args : Array Operand) (ts : Array TypeId), (execOp ρ ⟨d, .call ⟨.builtin b, args, ts⟩, t, pos, after, g⟩).run P w = (builtin b ts t (args.map fun | .const _ => true | _ => false) (args.map ρ)).run P w := fun b args ts => by
    simp only [execOp, resolve]
    rfl
  unfold semP at h
  split at h
  case h_15 ho => simp only at ho; cases ho; cases h; rw [r]; exact e _
  case h_16 ho => simp only at ho; cases ho; cases h; rw [r]; exact e _
  case h_17 ho => simp only at ho; cases ho; cases h; rw [r]; exact e _
  case h_18 ho => simp only at ho; cases ho; cases h; rw [r]; exact e _
  case h_19 ho => simp only at ho; cases ho; cases h; rw [r]; exact e _
  case h_20 => cases h
  all_goals (rename_i ho; simp only at ho; cases ho; cases h; simp only [execOp]; exact e _)

theorem semU_spec {P : Program} {ρ : Operand → Value} {o : Oper} {s : Sem Unit} (h : semU ρ o = some s) (w : World) : (execOp ρ o).run P w = (s.run P w).andThen fun _ w' => .ok .skip w' := by
  obtain ⟨d, op, t, pos, after, g⟩ := o
  unfold semU at h
  split at h
  case h_5 => cases h
  all_goals (rename_i ho; simp only at ho; cases ho; cases h; simp only [execOp, Sem.run_bind]; rfl)

/-! ### Operations that compute -/
/-- The values at an operation's slots, wherever they are wanted as such. -/
def rho (F : Fr) (o : Op) (K : (Operand → Value) → Prop) : Prop :=
  vvs F o.operands.toList fun _ => K fun x => match ev F x with
    | .un => undef
    | .v a => a
    | .b c => .bool c
    | .p q d => .bool (@decide q d)

def rhoF (F : Fr) (x : Operand) : Value := match ev F x with
    | .un => undef
    | .v a => a
    | .b c => .bool c
    | .p q d => .bool (@decide q d)

def vpure (P : Program) (T : Tys) (wr : Bool) (o : Oper) (F : Fr) (K : SV → Prop) : Prop :=
  match o.op with
  | .move x | .assign x => K (ev F x)
  | .pick c a b => (match ev F c with
    | .v (.bool true) => K (ev F a)
    | .v (.bool false) => K (ev F b)
    | _ => False)
  | .nilCheck x => (match ev F x with
    | .v (.pointer p) => ∃ a, p = some a ∧ K (.v (.pointer (some a)))
    | .v (.func (.func g) f c) => K (.v (.func (.func g) f c))
    | _ => False)
  | .binOp op t x y _ => (match op with
    | .shl | .shr => vint F x fun k a => vint F y fun _ b => sop wr op k a b K
    | .eql | .neq => (match ev F x, ev F y with
      | .v (.int k a), .v (.int k' b) => if k = k' then iop wr op k a b K else False
      | .v (.pointer p), .v (.pointer none) => (match tf T t with
        | some ⟨.ptr _, _, _, _, _⟩ => (match op with
          | .eql => K (.p (p = none) inferInstance)
          | _ => K (.p (p ≠ none) inferInstance))
        | _ => False)
      | .v (.slice A _ _), .v (.slice none _ _) => (match tf T t with
        | some ⟨.slice _, _, _, _, _⟩ => (match op with
          | .eql => K (.p (A = none) inferInstance)
          | _ => K (.p (A ≠ none) inferInstance))
        | _ => False)
      | .v (.map r), .v (.map none) => (match tf T t with
        | some ⟨.map _ _, _, _, _, _⟩ => (match op with
          | .eql => K (.p (r = none) inferInstance)
          | _ => K (.p (r ≠ none) inferInstance))
        | _ => False)
      | _, _ => vv F x fun a => vv F y fun b => exT T o.type fun s v => (∀ w, (do eqGuard op t x y a b; Go.binOp op t a b : Sem Value).run P w = .ok v w) ∧ K s)
    | _ => (match ev F x, ev F y with
      | .v (.int k a), .v (.int k' b) => if k = k' then iop wr op k a b K else False
      | _, _ => vv F x fun a => vv F y fun b => exT T o.type fun s v => (∀ w, (Go.binOp op t a b : Sem Value).run P w = .ok v w) ∧ K s))
  | .unOp op _ x => (match op, ev F x with
    | .not, .v (.bool true) => K (.v (.bool false))
    | .not, .v (.bool false) => K (.v (.bool true))
    | .not, .b c => K (.p (c = false) inferInstance)
    | .not, .p q d => K (.p (¬ q) (@instDecidableNot q d))
    | .neg, .v (.int k a) => iop wr .sub k 0 a K
    | .xor, .v (.int k a) => K (.v (.int k (bop .xor k (if k.signed then -1 else k.max) a)))
    | _, _ => False)
  | .fieldAddr s x f => (match tf T s with
    | some ⟨.struct fs, _, _, _, _⟩ => (match fs[f]? with
      | some (off, ty) => (match tf T ty with
        | some te => bif Nat.beq te.size 0 then False else vptr F x fun a => K (.v (.pointer (some (a.add off))))
        | none => False)
      | none => False)
    | _ => False)
  | .field s x f => (match tf T s with
    | some ⟨.struct fs, _, _, _, _⟩ => (match fs[f]? with
      | some (off, ty) => (match tf T ty with
        | some te => vv F x fun v => (match v with
          | .agg cs => bif te.ld.agg then K (.v (.agg (cs.extract off (off + te.size)))) else (match cs[off]? with
            | some c => K (mk c)
            | none => False)
          | _ => False)
        | none => False)
      | none => False)
    | _ => False)
  | .indexAddr t x ix => vint F ix fun _ i => (match tf T t with
    | some ⟨.slice e, _, _, _, _⟩ => (match tf T e with
      | some te => (match ev F x with
        | .v (.slice A n _) => ∃ a, A = some a ∧ 0 ≤ i ∧ i < (n : Int) ∧ K (.v (.pointer (some (addMul a i.toNat te.size))))
        | _ => False)
      | none => False)
    | some ⟨.arr n e, _, _, _, _⟩ => (match tf T e with
      | some te => vptr F x fun a => (0 ≤ i ∧ i < (n : Int)) ∧ K (.v (.pointer (some (addMul a i.toNat te.size))))
      | none => False)
    | _ => False)
  | .index t x ix => vint F ix fun _ i => (match tf T t with
    | some ⟨.arr n e, _, _, _, _⟩ => (match tf T e with
      | some te => vv F x fun v => (match v with
        | .agg cs => bif te.ld.agg then False else bif Nat.beq te.size 1 then bif Nat.beq cs.size n then (0 ≤ i ∧ i < (n : Int)) ∧ pickIx i 0 cs.toList K else False else False
        | _ => False)
      | none => False)
    | some ⟨.str, _, _, _, _⟩ => vv F x fun v => (match v with
      | .string s => (0 ≤ i ∧ i < (s.size : Int)) ∧ K (.v (.int .u8 (bt s i.toNat)))
      | _ => False)
    | _ => False)
  | .slice t x lo hi none => (match tf T t with
    | some ⟨.slice e, _, _, _, _⟩ => (match tf T e with
      | some te => (match ev F x with
        | .v (.slice A n c) => (match lo, hi with
          | none, none => K (.v (.slice A n c))
          | none, some h => vint F h fun _ h => (0 ≤ h ∧ h ≤ (c : Int)) ∧ K (.v (.slice A h.toNat c))
          | some l, none => vint F l fun _ l => (0 ≤ l ∧ l ≤ (n : Int)) ∧ K (.v (.slice (cutA A c l.toNat te.size) (n - l.toNat) (c - l.toNat)))
          | some l, some h => vint F l fun _ l => vint F h fun _ h => (0 ≤ h ∧ h ≤ (c : Int) ∧ 0 ≤ l ∧ l ≤ h) ∧ K (.v (.slice (cutA A c l.toNat te.size) (h.toNat - l.toNat) (c - l.toNat))))
        | _ => False)
      | none => False)
    | some ⟨.str, _, _, _, _⟩ => (match ev F x with
      | .v (.string s) => (match lo, hi with
        | none, none => K (.v (.string (s.extract 0 s.size)))
        | none, some h => vint F h fun _ h => (0 ≤ h ∧ h ≤ (s.size : Int)) ∧ K (.v (.string (s.extract 0 h.toNat)))
        | some l, none => vint F l fun _ l => (0 ≤ l ∧ l ≤ (s.size : Int)) ∧ K (.v (.string (s.extract l.toNat s.size)))
        | some l, some h => vint F l fun _ l => vint F h fun _ h => (0 ≤ h ∧ h ≤ (s.size : Int) ∧ 0 ≤ l ∧ l ≤ h) ∧ K (.v (.string (s.extract l.toNat h.toNat))))
      | _ => False)
    | _ => False)
  | .build t parts => (match tf T t with
    | some ⟨.struct fs, _, _, z, _⟩ => sizes T fs fun ps => vps F parts.toList fun vs => (match Instr.fill (ps[·]?) z.cells vs with
      | some cells => K (.v (.agg cells))
      | none => False)
    | some ⟨.arr _ e, _, _, z, _⟩ => (match tf T e with
      | some te => vps F parts.toList fun vs => (match Instr.fill (fun i => some (i * te.size, te.size)) z.cells vs with
        | some cells => K (.v (.agg cells))
        | none => False)
      | none => False)
    | _ => False)
  | .makeFunc fn first captured => vvs F first.toList fun f => vvs F captured.toList fun c => K (.v (.func fn f.toArray c.toArray))
  | .extract x i => (match ev F x with
    | .v (.tuple vs) => (match vs[i]? with
      | some v => K (mk v)
      | none => False)
    | _ => False)
  | .convert src dst x => (match tf T src, tf T dst, ev F x with
    | some ⟨.int _, _, _, _, _⟩, some ⟨.int k, _, _, _, _⟩, .v (.int _ n) => bif wr then K (.v (.int k (k.wrap n))) else InK k n ∧ K (.v (.int k n))
    | some ⟨.str, _, _, _, _⟩, some ⟨.str, _, _, _, _⟩, .v (.string s) => K (.v (.string s))
    | _, _, _ => False)
  | .makeInterface t x => vv F x fun a => exT T o.type fun s v => (∀ w, (Instr.makeInterface t a).run P w = .ok v w) ∧ K s
  | .call { callee := .builtin .len, args, argTypes } => (match args[0]?, argTypes[0]? with
    | some x, some t => (match tf T t with
      | some ⟨.slice _, _, _, _, _⟩ => (match ev F x with
        | .v (.slice _ n _) => K (.v (.int .i64 (n : Int)))
        | _ => False)
      | some ⟨.str, _, _, _, _⟩ => (match ev F x with
        | .v (.string s) => K (.v (.int .i64 (s.size : Int)))
        | _ => False)
      | some ⟨.arr n _, _, _, _, _⟩ => K (.v (.int .i64 (n : Int)))
      | _ => False)
    | _, _ => False)
  | .call { callee := .builtin .max, args, .. } => (match args.toList with
    | x :: r => vint F x fun k x => vvs F r fun vs => mxs k x vs fun z => K (.v (.int k z))
    | _ => False)
  | .call { callee := .builtin .min, args, .. } => (match args.toList with
    | x :: r => vint F x fun k x => vvs F r fun vs => mns k x vs fun z => K (.v (.int k z))
    | _ => False)
  | _ => False

end Go.V
