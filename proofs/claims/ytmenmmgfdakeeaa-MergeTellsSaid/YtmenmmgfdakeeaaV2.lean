/- The own library V, part 2: what must hold for one operation to go through, and what then stands in its slot. -/
import Derived.Test.YtmenmmgfdakeeaaV1
import Derived.Laws.World
import Derived.Laws.NewBlocks
import Derived.Laws.Rows
namespace Go.V

/-! ### Types, in short -/
inductive LD where
  | int (k : IntKind) | bool | str | ptr (e : Nat) | slice (e : Nat) | arr (n e : Nat) | map (k e : Nat) | struct (fs : List (Nat × Nat)) | tup (ts : List Nat) | other

inductive Sh where
  | int (k : IntKind) | bool | str | slice | ptr | map | any | addr

structure TE where
  ld : LD
  size : Nat
  bytes : Nat
  zero : Value
  shs : List Sh

def lite : TypeDesc → LD
  | .int k => .int k
  | .bool => .bool
  | .string => .str
  | .pointer e => .ptr e
  | .slice e => .slice e
  | .array n e => .arr n e
  | .map k e => .map k e
  | .struct fs => .struct (fs.toList.map fun f => (f.offset, f.type))
  | .tuple ts => .tup ts.toList
  | _ => .other

abbrev Tys := List (Nat × TE)

def tf : Tys → Nat → Option TE
  | [], _ => none
  | (i, e) :: r, t => bif Nat.beq i t then some e else tf r t

def TyOk (P : Program) (e : Nat × TE) : Prop :=
  (P.info? e.1).map (fun i => (i.size, i.bytes, i.zero)) = some (e.2.size, e.2.bytes, some e.2.zero) ∧ (P.underlying e.1).map lite = some e.2.ld

def TOk (P : Program) (T : Tys) : Prop := ∀ e ∈ T, TyOk P e

theorem tf_mem : ∀ {T : Tys} {t : Nat} {e : TE}, tf T t = some e → (t, e) ∈ T
  | (i, x) :: r, t, e, h => by
    unfold tf at h
    cases hb : Nat.beq i t with
    | true =>
      rw [hb] at h
      have : i = t := Nat.eq_of_beq_eq_true hb
      subst this
      simp at h
      subst h
      exact List.mem_cons_self
    | false =>
      rw [hb] at h
      exact List.mem_cons_of_mem _ (tf_mem h)

structure Ty (P : Program) (t : Nat) (e : TE) : Prop where
  info : ∃ i, P.info? t = some i ∧ i.size = e.size ∧ i.bytes = e.bytes ∧ i.zero = some e.zero
  und : ∃ d, P.underlying t = some d ∧ lite d = e.ld

theorem TOk.get {P : Program} {T : Tys} (h : TOk P T) {t : Nat} {e : TE} (ht : tf T t = some e) : Ty P t e := by
  obtain ⟨h1, h2⟩ := h _ (tf_mem ht)
  obtain ⟨i, hi, he⟩ := Option.map_eq_some_iff.1 h1
  obtain ⟨d, hd, hl⟩ := Option.map_eq_some_iff.1 h2
  simp only [Prod.mk.injEq] at he
  exact ⟨⟨i, hi, he.1, he.2.1, he.2.2⟩, d, hd, hl⟩

section
variable {P : Program} {t : Nat} {e : TE} (w : World)
theorem Ty.sizeOf (h : Ty P t e) : (Go.sizeOf t).run P w = .ok e.size w := by
  obtain ⟨i, hi, h1, _⟩ := h.info
  simp [Go.sizeOf, typeInfo, program, Sem.run, hi, h1]
theorem Ty.zeroValue (h : Ty P t e) : (Go.zeroValue t).run P w = .ok e.zero w := by
  obtain ⟨i, hi, _, _, h1⟩ := h.info
  simp [Go.zeroValue, typeInfo, program, Sem.run, hi, h1]
theorem Ty.underlying (h : Ty P t e) : ∃ d, (Go.underlying t).run P w = .ok d w ∧ lite d = e.ld := by
  obtain ⟨d, hd, hl⟩ := h.und
  exact ⟨d, by simp [Go.underlying, program, Sem.run, hd], hl⟩
theorem Ty.run_und {d : TypeDesc} (hd : P.underlying t = some d) : (Go.underlying t).run P w = .ok d w := by
  simp [Go.underlying, program, Sem.run, hd]
theorem Ty.slice (h : Ty P t e) {x : Nat} (hl : e.ld = .slice x) : P.underlying t = some (.slice x) := by
  obtain ⟨d, hd, h1⟩ := h.und
  rw [hl] at h1
  cases d <;> simp [lite] at h1
  subst h1; exact hd
theorem Ty.ptr (h : Ty P t e) {x : Nat} (hl : e.ld = .ptr x) : P.underlying t = some (.pointer x) := by
  obtain ⟨d, hd, h1⟩ := h.und
  rw [hl] at h1
  cases d <;> simp [lite] at h1
  subst h1; exact hd
theorem Ty.arr (h : Ty P t e) {n x : Nat} (hl : e.ld = .arr n x) : P.underlying t = some (.array n x) := by
  obtain ⟨d, hd, h1⟩ := h.und
  rw [hl] at h1
  cases d <;> simp [lite] at h1
  obtain ⟨rfl, rfl⟩ := h1; exact hd
theorem Ty.map (h : Ty P t e) {n x : Nat} (hl : e.ld = .map n x) : P.underlying t = some (.map n x) := by
  obtain ⟨d, hd, h1⟩ := h.und
  rw [hl] at h1
  cases d <;> simp [lite] at h1
  obtain ⟨rfl, rfl⟩ := h1; exact hd
theorem Ty.struct (h : Ty P t e) {fs : List (Nat × Nat)} (hl : e.ld = .struct fs) : ∃ a, P.underlying t = some (.struct a) ∧ a.toList.map (fun f => (f.offset, f.type)) = fs := by
  obtain ⟨d, hd, h1⟩ := h.und
  rw [hl] at h1
  cases d <;> simp [lite] at h1
  exact ⟨_, hd, h1⟩
theorem Ty.int (h : Ty P t e) {k : IntKind} (hl : e.ld = .int k) : P.underlying t = some (.int k) := by
  obtain ⟨d, hd, h1⟩ := h.und
  rw [hl] at h1
  cases d <;> simp [lite] at h1
  subst h1; exact hd
theorem Ty.str (h : Ty P t e) (hl : e.ld = .str) : P.underlying t = some .string := by
  obtain ⟨d, hd, h1⟩ := h.und
  rw [hl] at h1
  cases d <;> simp [lite] at h1
  exact hd
def LD.agg : LD → Bool
  | .struct _ | .arr _ _ => true
  | _ => false
theorem Ty.isAgg (h : Ty P t e) : (Go.isAgg t).run P w = .ok e.ld.agg w := by
  obtain ⟨d, hd, h1⟩ := h.und
  simp only [Go.isAgg, Sem.run_bind, Ty.run_und w hd, Result.andThen_ok]
  rw [← h1]
  cases d <;> simp [lite, LD.agg]
end

/-! ### Slots -/
/-- What is known of a slot: nothing; a value; a bool, as such; a bool, as a proposition. -/
inductive SV where
  | un
  | v (x : Value)
  | b (c : Bool)
  | p (q : Prop) (d : Decidable q)

abbrev Fr := Nat → SV

def upd (F : Fr) (d : Nat) (s : SV) : Fr := fun t => bif Nat.beq t d then s else F t

def AgV : SV → Value → Prop
  | .un, _ => True
  | .v x, y => y = x
  | .b c, y => y = .bool c
  | .p q d, y => y = .bool (@decide q d)

def Ag (F : Fr) (a : Act) : Prop := ∀ t, AgV (F t) (a.tmps.getD t undef)

def ev (F : Fr) : Operand → SV
  | .tmp t => F t
  | .const x => .v x
  | .global g => .v (.pointer (some ⟨g, 0, none⟩))
  | .func f => .v (.func (.func f) #[] #[])

theorem Ag.ev {F : Fr} {a : Act} (h : Ag F a) (x : Operand) : AgV (ev F x) (a.eval x) := by
  cases x with
  | tmp t => exact h t
  | _ => rfl

theorem Ag.put {F : Fr} {a : Act} {s : SV} {v : Value} {d n : Nat} (h : Ag F a) (hn : a.tmps.size = n) (hd : d < n) (hs : AgV s v) : Ag (upd F d s) (a.put (some d) v) := by
  intro t
  unfold upd
  cases hb : Nat.beq t d with
  | true =>
    have : t = d := Nat.eq_of_beq_eq_true hb
    subst this
    simp [Act.put, hn, hd, hs]
  | false =>
    have hne : d ≠ t := fun e => by subst e; simp at hb
    have := h t
    simp only [cond_false]
    simpa [Act.put, Array.getElem?_setIfInBounds_ne hne] using this

/-- As a bool that is not known is held. -/
def mk : Value → SV
  | .bool c => .b c
  | x => .v x
theorem AgV.mk (x : Value) : AgV (mk x) x := by cases x <;> rfl

/-! ### Reading operands -/
def vv (F : Fr) (x : Operand) (K : Value → Prop) : Prop :=
  match ev F x with
  | .un => False
  | .v a => K a
  | .b c => K (.bool c)
  | .p q d => K (.bool (@decide q d))

theorem vv_spec {F : Fr} {a : Act} (h : Ag F a) {x : Operand} {K : Value → Prop} (hk : vv F x K) : K (a.eval x) := by
  have := h.ev x
  unfold vv at hk
  split at hk
  · exact hk.elim
  all_goals (rename_i he; rw [he] at this; simp only [AgV] at this; rw [this]; exact hk)

def vvs (F : Fr) : List Operand → (List Value → Prop) → Prop
  | [], K => K []
  | x :: r, K => vv F x fun v => vvs F r fun vs => K (v :: vs)

theorem vvs_spec {F : Fr} {a : Act} (h : Ag F a) : ∀ {xs : List Operand} {K : List Value → Prop}, vvs F xs K → K (xs.map a.eval)
  | [], _, hk => hk
  | x :: r, K, hk => vvs_spec h (xs := r) (K := fun vs => K (a.eval x :: vs)) (vv_spec h (x := x) (K := fun v => vvs F r fun vs => K (v :: vs)) hk)

def vps (F : Fr) : List (Nat × Operand) → (List (Nat × Value) → Prop) → Prop
  | [], K => K []
  | (i, x) :: r, K => vv F x fun v => vps F r fun vs => K ((i, v) :: vs)

theorem vps_spec {F : Fr} {a : Act} (h : Ag F a) : ∀ {xs : List (Nat × Operand)} {K : List (Nat × Value) → Prop}, vps F xs K → K (xs.map fun p => (p.1, a.eval p.2))
  | [], _, hk => hk
  | (i, x) :: r, K, hk => vps_spec h (xs := r) (K := fun vs => K ((i, a.eval x) :: vs)) (vv_spec h (x := x) (K := fun v => vps F r fun vs => K ((i, v) :: vs)) hk)

def vint (F : Fr) (x : Operand) (K : IntKind → Int → Prop) : Prop :=
  match ev F x with
  | .v (.int k n) => K k n
  | _ => False

theorem vint_spec {F : Fr} {a : Act} (h : Ag F a) {x : Operand} {K : IntKind → Int → Prop} (hk : vint F x K) : ∃ k n, a.eval x = .int k n ∧ K k n := by
  have := h.ev x
  unfold vint at hk
  split at hk
  · rename_i k n he; rw [he] at this; exact ⟨k, n, this, hk⟩
  · exact hk.elim

def vptr (F : Fr) (x : Operand) (K : Addr → Prop) : Prop :=
  match ev F x with
  | .v (.pointer (some p)) => K p
  | _ => False

theorem vptr_spec {F : Fr} {a : Act} (h : Ag F a) {x : Operand} {K : Addr → Prop} (hk : vptr F x K) : ∃ p, a.eval x = .pointer (some p) ∧ K p := by
  have := h.ev x
  unfold vptr at hk
  split at hk
  · rename_i p he; rw [he] at this; exact ⟨p, this, hk⟩
  · exact hk.elim

/-! ### Whole numbers -/
def InK : IntKind → Int → Prop
  | .i8, z => -128 ≤ z ∧ z ≤ 127
  | .i16, z => -32768 ≤ z ∧ z ≤ 32767
  | .i32, z => -2147483648 ≤ z ∧ z ≤ 2147483647
  | .i64, z => -9223372036854775808 ≤ z ∧ z ≤ 9223372036854775807
  | .u8, z => 0 ≤ z ∧ z ≤ 255
  | .u16, z => 0 ≤ z ∧ z ≤ 65535
  | .u32, z => 0 ≤ z ∧ z ≤ 4294967295
  | .u64, z => 0 ≤ z ∧ z ≤ 18446744073709551615

theorem wrap_in {k : IntKind} {z : Int} (h : InK k z) : k.wrap z = z := by
  cases k <;> simp only [InK] at h <;> simp only [IntKind.wrap, IntKind.bits, IntKind.signed] <;> simp <;> omega

def bop (op : BinOp) (k : IntKind) (x y : Int) : Int :=
  match op with
  | .and => k.wrap ((BitVec.ofInt k.bits x &&& BitVec.ofInt k.bits y).toNat)
  | .or => k.wrap ((BitVec.ofInt k.bits x ||| BitVec.ofInt k.bits y).toNat)
  | .xor => k.wrap ((BitVec.ofInt k.bits x ^^^ BitVec.ofInt k.bits y).toNat)
  | _ => k.wrap ((BitVec.ofInt k.bits x &&& ~~~BitVec.ofInt k.bits y).toNat)

/-- '+', '-', ..: with 'wr' as Go has it, else where nothing wraps. -/
def iop (wr : Bool) (op : BinOp) (k : IntKind) (x y : Int) (K : SV → Prop) : Prop :=
  match op with
  | .add => bif wr then K (.v (.int k (k.wrap (x + y)))) else InK k (x + y) ∧ K (.v (.int k (x + y)))
  | .sub => bif wr then K (.v (.int k (k.wrap (x - y)))) else InK k (x - y) ∧ K (.v (.int k (x - y)))
  | .mul => bif wr then K (.v (.int k (k.wrap (x * y)))) else InK k (x * y) ∧ K (.v (.int k (x * y)))
  | .quo => bif wr then y ≠ 0 ∧ K (.v (.int k (k.wrap (x.tdiv y)))) else (0 ≤ x ∧ 0 < y ∧ InK k (x / y)) ∧ K (.v (.int k (x / y)))
  | .rem => bif wr then y ≠ 0 ∧ K (.v (.int k (x.tmod y))) else (0 ≤ x ∧ 0 < y) ∧ K (.v (.int k (x % y)))
  | .and | .or | .xor | .andNot => K (.v (.int k (bop op k x y)))
  | .eql => K (.p (x = y) inferInstance)
  | .neq => K (.p (x ≠ y) inferInstance)
  | .lss => K (.p (x < y) inferInstance)
  | .leq => K (.p (x ≤ y) inferInstance)
  | .gtr => K (.p (x > y) inferInstance)
  | .geq => K (.p (x ≥ y) inferInstance)
  | _ => False

def sop (wr : Bool) (op : BinOp) (k : IntKind) (x y : Int) (K : SV → Prop) : Prop :=
  match op with
  | .shl => bif wr then 0 ≤ y ∧ K (.v (.int k (k.wrap (x * 2 ^ (min y.toNat k.bits))))) else (0 ≤ y ∧ InK k (x * 2 ^ (min y.toNat k.bits))) ∧ K (.v (.int k (x * 2 ^ (min y.toNat k.bits))))
  | .shr => 0 ≤ y ∧ K (.v (.int k (x / 2 ^ (min y.toNat k.bits))))
  | _ => False

theorem iop_spec {P : Program} {wr : Bool} {op : BinOp} {k : IntKind} {x y : Int} {t : TypeId} {K : SV → Prop} (h : iop wr op k x y K) :
    ∃ s v, AgV s v ∧ (∀ w, (binOp op t (.int k x) (.int k y)).run P w = .ok v w) ∧ K s := by
  cases op <;> simp only [iop] at h
  case add => cases wr with
    | true => exact ⟨.v _, _, (rfl : _ = _), fun w => by simp [binOp, Op.intArith], h⟩
    | false => exact ⟨.v _, _, (rfl : _ = _), fun w => by simp [binOp, Op.intArith, wrap_in h.1], h.2⟩
  case sub => cases wr with
    | true => exact ⟨.v _, _, (rfl : _ = _), fun w => by simp [binOp, Op.intArith], h⟩
    | false => exact ⟨.v _, _, (rfl : _ = _), fun w => by simp [binOp, Op.intArith, wrap_in h.1], h.2⟩
  case mul => cases wr with
    | true => exact ⟨.v _, _, (rfl : _ = _), fun w => by simp [binOp, Op.intArith], h⟩
    | false => exact ⟨.v _, _, (rfl : _ = _), fun w => by simp [binOp, Op.intArith, wrap_in h.1], h.2⟩
  case quo => cases wr with
    | true => exact ⟨.v _, _, (rfl : _ = _), fun w => by simp [binOp, Op.intDiv, h.1], h.2⟩
    | false =>
      simp only [cond_false] at h
      obtain ⟨⟨h1, h2, h3⟩, h4⟩ := h
      refine ⟨.v _, _, (rfl : _ = _), fun w => ?_, h4⟩
      simp [binOp, Op.intDiv, show y ≠ 0 by omega, Int.tdiv_eq_ediv_of_nonneg h1, wrap_in h3]
  case rem => cases wr with
    | true => exact ⟨.v _, _, (rfl : _ = _), fun w => by simp [binOp, Op.intDiv, h.1], h.2⟩
    | false =>
      simp only [cond_false] at h
      obtain ⟨⟨h1, h2⟩, h4⟩ := h
      refine ⟨.v _, _, (rfl : _ = _), fun w => ?_, h4⟩
      simp [binOp, Op.intDiv, show y ≠ 0 by omega, Int.tmod_eq_emod_of_nonneg h1]
  case and => exact ⟨.v _, _, (rfl : _ = _), fun w => by simp [binOp, Op.intBits, bop], h⟩
  case or => exact ⟨.v _, _, (rfl : _ = _), fun w => by simp [binOp, Op.intBits, bop], h⟩
  case xor => exact ⟨.v _, _, (rfl : _ = _), fun w => by simp [binOp, Op.intBits, bop], h⟩
  case andNot => exact ⟨.v _, _, (rfl : _ = _), fun w => by simp [binOp, Op.intBits, bop], h⟩
  case eql => exact ⟨.p _ _, _, (rfl : _ = _), fun w => by simp [binOp, Op.intCmp]; rfl, h⟩
  case neq => exact ⟨.p _ _, _, (rfl : _ = _), fun w => by simp [binOp, Op.intCmp, bne]; rfl, h⟩
  case lss => exact ⟨.p _ _, _, (rfl : _ = _), fun w => by simp [binOp, Op.intCmp], h⟩
  case leq => exact ⟨.p _ _, _, (rfl : _ = _), fun w => by simp [binOp, Op.intCmp], h⟩
  case gtr => exact ⟨.p _ _, _, (rfl : _ = _), fun w => by simp [binOp, Op.intCmp], h⟩
  case geq => exact ⟨.p _ _, _, (rfl : _ = _), fun w => by simp [binOp, Op.intCmp], h⟩

theorem sop_spec {P : Program} {wr : Bool} {op : BinOp} {k yk : IntKind} {x y : Int} {t : TypeId} {K : SV → Prop} (h : sop wr op k x y K) :
    ∃ s v, AgV s v ∧ (∀ w, (binOp op t (.int k x) (.int yk y)).run P w = .ok v w) ∧ K s := by
  cases op <;> simp only [sop] at h
  case shl => cases wr with
    | true =>
      simp only [cond_true] at h
      exact ⟨.v _, _, (rfl : _ = _), fun w => by simp [binOp, Op.shift, show ¬ y < 0 by omega], h.2⟩
    | false =>
      simp only [cond_false] at h
      exact ⟨.v _, _, (rfl : _ = _), fun w => by simp [binOp, Op.shift, show ¬ y < 0 by omega, wrap_in h.1.2], h.2⟩
  case shr =>
    refine ⟨.v _, _, (rfl : _ = _), fun w => ?_, h.2⟩
    have : (0 : Int) ≤ 2 ^ (min y.toNat k.bits) := Int.pow_nonneg (by omega)
    simp [binOp, Op.shift, show ¬ y < 0 by omega, Int.fdiv_eq_ediv_of_nonneg _ this]

end Go.V
