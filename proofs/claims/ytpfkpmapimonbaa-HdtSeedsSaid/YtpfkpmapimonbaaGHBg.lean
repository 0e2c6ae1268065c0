/- Own texts, packed: J6, J7, J8, J9, J10. -/
import Derived.Test.YtpfkpmapimonbaaGHAg
import Derived.Test.YtpfkpmapimonbaaGTEg

/-! hdt.Graph in memory: levels, edges, degrees. -/
namespace Go.Proofs.Ytpfkpmapimonbaa
open Go Go.V Go.RowKit
set_option linter.unusedVariables false
set_option linter.unusedSimpArgs false
set_option maxHeartbeats 4000000
set_option maxRecDepth 100000

def FGx (w : World) (base f g N : Nat) (S : Nat → Prop) (len : Nat) (E : Eds) : Prop := ∃ σ, FG w base f g N S len σ E
section
variable {w w' : World} {base f g N len : Nat} {S : Nat → Prop} {E : Eds}
theorem FGx.tg (h : FGx w base f g N S len E) : ∃ σ L M free lab, TG N L σ M free lab E := by
  obtain ⟨σ, L, M, free, lab, h1, h2, h3⟩ := h
  exact ⟨σ, L, M, free, lab, h3⟩
theorem FGx.fr (h : FGx w base f g N S len E) : FrE N E := by obtain ⟨σ, L, M, free, lab, h⟩ := h.tg; exact h.cntC
theorem FGx.nodup (h : FGx w base f g N S len E) : E.Nodup := by obtain ⟨σ, L, M, free, lab, h⟩ := h.tg; exact h.edge.nodup
theorem FGx.small (h : FGx w base f g N S len E) : E.length ≤ N := by have := h.fr; unfold FrE at this; omega
theorem FGx.lt (h : FGx w base f g N S len E) : ∀ q, S q → q < w.heap.size := by obtain ⟨σ, L, M, free, lab, h1, h2, h3⟩ := h; exact h2.bound
theorem FGx.kp {T : Nat → Prop} (h : FGx w base f g N S len E) (hk : Kp w w' T) (hd : ∀ q, S q → ¬ T q) : FGx w' base f g N S len E := by
  obtain ⟨σ, L, M, free, lab, h1, h2, h3⟩ := h
  exact ⟨σ, L, M, free, lab, h1, h2.kp hk hd, h3⟩
theorem FGx.kept (h : FGx w base f g N S len E) (hg : w.grownBy w' none) : FGx w' base f g N S len E := h.kp (T := fun _ => False) (Kp.of_none hg) (fun _ _ e => e)
theorem FGx.more {len' : Nat} (h : FGx w base f g N S len E) (hl : len ≤ len') : FGx w base f g N S len' E := by
  obtain ⟨σ, L, M, free, lab, h1, h2, h3⟩ := h
  exact ⟨σ, L, M, free, lab, by omega, h2, h3⟩
theorem xlink_calls (h : FGx w base f g N S len E) (hb : base ≤ w.heap.size) (hl : len + 2 ≤ 2 ^ 20) (u v : Int) : Calls P 15 #[.pointer (some ⟨f, 0, none⟩), .int .i64 u, .int .i64 v] w fun ev w' => ∃ r : Bool, ev = .returned (.bool r) ∧ (r = true ↔ inN N u ∧ inN N v ∧ ¬ Cn E u.toNat v.toNat) ∧ FGx w' base f g N (extS S w w') (len + 2) (if r = true then E ++ [pairE u.toNat v.toNat] else E) ∧ Kp w w' S := by
  obtain ⟨σ, L, M, free, lab, h1, h2, h3⟩ := h
  refine (link_calls h2 h3 hb (by omega) u v).mono fun ev w1 hh => ?_
  obtain ⟨rfl, σ', ⟨L', M', free', lab', b1, b2, b3⟩, K1, _⟩ := hh
  refine ⟨_, rfl, ?_, ⟨σ', L', M', free', lab', by omega, b2, ?_⟩, K1⟩
  · rw [decide_eq_true_iff]
    constructor
    · rintro ⟨c1, c2, c3⟩; exact ⟨c1, c2, fun c => c3 ((h3.cnS (by omega) (by omega)).2 c)⟩
    · rintro ⟨c1, c2, c3⟩; exact ⟨c1, c2, fun c => c3 ((h3.cnS (by have := c1.2; have := c1.1; omega) (by have := c2.1; have := c2.2; omega)).1 c)⟩
  · simp only [decide_eq_true_iff]; exact b3
theorem xcut_calls (h : FGx w base f g N S len E) (hb : base ≤ w.heap.size) (hl : len ≤ 2 ^ 20) {u v : Int} (hu : okI u) (hv : okI v) : Calls P 17 #[.pointer (some ⟨f, 0, none⟩), .int .i64 u, .int .i64 v] w fun ev w' => ∃ r : Bool, ev = .returned (.bool r) ∧ FGx w' base f g N (extS S w w') len (if (0 ≤ u ∧ 0 ≤ v) ∧ pairE u.toNat v.toNat ∈ E then E.erase (pairE u.toNat v.toNat) else E) ∧ Kp w w' S := by
  obtain ⟨σ, L, M, free, lab, h1, h2, h3⟩ := h
  refine (cut_calls h2 h3 hb (by omega) hu hv).mono fun ev w1 hh => ?_
  obtain ⟨rfl, σ', ⟨L', M', free', lab', b1, b2, b3⟩, K1, _⟩ := hh
  exact ⟨_, rfl, ⟨σ', L', M', free', lab', by omega, b2, b3⟩, K1⟩
theorem xconn_calls (h : FGx w base f g N S len E) (u v : Int) : Calls P 19 #[.pointer (some ⟨f, 0, none⟩), .int .i64 u, .int .i64 v] w fun ev w' => ∃ r : Bool, ev = .returned (.bool r) ∧ (r = true ↔ inN N u ∧ inN N v ∧ Cn E u.toNat v.toNat) ∧ w' = w := by
  obtain ⟨σ, L, M, free, lab, h1, h2, h3⟩ := h
  refine (connected_calls h2 h3.ars h3.le u v).mono fun ev w1 hh => ?_
  obtain ⟨rfl, rfl⟩ := hh
  refine ⟨_, rfl, ?_, rfl⟩
  rw [decide_eq_true_iff]
  constructor
  · rintro ⟨c1, c2, c3⟩; exact ⟨c1, c2, (h3.cnS (by omega) (by omega)).1 c3⟩
  · rintro ⟨c1, c2, c3⟩; exact ⟨c1, c2, (h3.cnS (by have := c1.2; have := c1.1; omega) (by have := c2.1; have := c2.2; omega)).2 c3⟩
theorem xsize_calls (h : FGx w base f g N S len E) (hl : len ≤ 2 ^ 20) (u : Int) : Calls P 21 #[.pointer (some ⟨f, 0, none⟩), .int .i64 u] w fun ev w' => ev = .returned (.int .i64 (if inN N u then ((partC N E u.toNat).length : Int) else 0)) ∧ w' = w := by
  obtain ⟨σ, L, M, free, lab, h1, h2, h3⟩ := h
  refine (fsize_calls h2 h3.ars h3.le (by omega) u).mono fun ev w' hh => ?_
  obtain ⟨rfl, rfl⟩ := hh
  refine ⟨?_, rfl⟩
  by_cases hc : inN N u
  · rw [if_pos hc, if_pos (show 0 ≤ u ∧ u < (N : Int) from hc), h3.size (by obtain ⟨a, b⟩ := hc; omega), h3.part (by obtain ⟨a, b⟩ := hc; omega)]
  · rw [if_neg hc, if_neg (show ¬ (0 ≤ u ∧ u < (N : Int)) from hc)]
theorem xcount_calls (h : FGx w base f g N S len E) (hl : len ≤ 2 ^ 20) : Calls P 25 #[.pointer (some ⟨f, 0, none⟩)] w fun ev w' => ev = .returned (.int .i64 (cntC N E : Int)) ∧ w.grownBy w' none := by
  obtain ⟨σ, L, M, free, lab, h1, h2, h3⟩ := h
  have hc := h3.cntC
  have hm := h3.mlen
  have hle := h3.le
  refine (count_calls h2 (by omega) (by omega)).mono fun ev w' hh => ?_
  obtain ⟨rfl, g⟩ := hh
  refine ⟨?_, g⟩
  rw [hm]
  congr 2
  omega
noncomputable def partI (N : Nat) (E : Eds) (u : Int) : List Nat := if 0 ≤ u ∧ u < (N : Int) then partC N E u.toNat else []
theorem xpart_calls (h : FGx w base f g N S len E) (hl : len ≤ 2 ^ 20) (u : Int) : Calls P 24 #[.pointer (some ⟨f, 0, none⟩), .int .i64 u] w fun ev w' => ∃ (A : Option Addr) (m k : Nat), ev = .returned (.slice A m k) ∧ OwnedK w' w.heap.size 3 1 A m k (i64s (intsN (partI N E u))) ∧ w.grownBy w' none := by
  obtain ⟨σ, L, M, free, lab, h1, h2, h3⟩ := h
  refine (fpart_calls h2 h3 (by omega) u).mono fun ev w' hh => ?_
  obtain ⟨A, m, k, rfl, a1, a2⟩ := hh
  refine ⟨A, m, k, rfl, ?_, a2⟩
  have : partN N σ u = partI N E u := by
    unfold partN partI
    by_cases hc : 0 ≤ u ∧ u < (N : Int)
    · rw [if_pos hc, if_pos hc, h3.part (by omega)]
    · rw [if_neg hc, if_neg hc]
  rw [← this]; exact a1
end
theorem xnew_calls {w : World} {base : Nat} (hb : base ≤ w.heap.size) (n sd : Int) : Calls P 13 #[.int .i64 n, .int .u64 sd] w fun ev w' => ∃ f g : Nat, ev = .returned (.pointer (some ⟨f, 0, none⟩)) ∧ FGx w' base f g (nOf n) (fun q => w.heap.size ≤ q ∧ q < w'.heap.size) (nOf n) [] ∧ w.grownBy w' none :=
  (fnew_calls hb n sd).mono fun ev w' ⟨f, g, e, h1, h2⟩ => ⟨f, g, e, ⟨_, h1⟩, h2⟩
/-- A level: its block, its forest, who is next to whom by edges of its own: of the trees, and of none. -/
structure LV where
  (b f g t o : Nat)
  (S TF OF : Nat → Prop)
  E : Eds
  (TO OO : List (Int × Nat))
  (TR OR : Int → Int → Prop)
def LV.Fp (l : LV) (q : Nat) : Prop := q = l.b ∨ l.S q ∨ l.TF q ∨ l.OF q
structure LvAt (w : World) (base N len : Nat) (l : LV) : Prop where
  blk : w.heap[l.b]? = some (.cells #[.pointer (some ⟨l.f, 0, none⟩), .map (some l.t), .map (some l.o)] 86 (0, 0))
  fg : FGx w base l.f l.g N l.S (len + 2 * l.E.length) l.E
  tr : NearAt w l.t l.TO l.TF l.TR
  ot : NearAt w l.o l.OO l.OF l.OR
  d1 : ¬ l.S l.b ∧ ¬ l.TF l.b ∧ ¬ l.OF l.b
  d2 : ∀ q, l.S q → ¬ l.TF q ∧ ¬ l.OF q
  d3 : ∀ q, l.TF q → ¬ l.OF q
section
variable {w w' : World} {base N len : Nat} {l : LV}
theorem LvAt.kp {T : Nat → Prop} (h : LvAt w base N len l) (hk : Kp w w' T) (hd : ∀ q, l.Fp q → ¬ T q) : LvAt w' base N len l :=
  ⟨by rw [hk.block _ (Array.getElem?_eq_some_iff.1 h.blk).1 (hd _ (.inl rfl))]; exact h.blk, h.fg.kp hk (fun q hq => hd q (.inr (.inl hq))), h.tr.kp hk (fun q hq => hd q (.inr (.inr (.inl hq)))), h.ot.kp hk (fun q hq => hd q (.inr (.inr (.inr hq)))), h.d1, h.d2, h.d3⟩
theorem LvAt.more {len' : Nat} (h : LvAt w base N len l) (hl : len ≤ len') : LvAt w base N len' l := { h with fg := h.fg.more (by omega) }
/-- The forest alone has changed. -/
theorem LvAt.forest {len' : Nat} {E' : Eds} (h : LvAt w base N len l) (hk : Kp w w' l.S) (hf : FGx w' base l.f l.g N (extS l.S w w') (len' + 2 * E'.length) E') : LvAt w' base N len' { l with S := extS l.S w w', E := E' } := by
  have lb := (Array.getElem?_eq_some_iff.1 h.blk).1
  refine ⟨by rw [hk.block _ lb h.d1.1]; exact h.blk, hf, h.tr.kp hk (fun q hq hs => (h.d2 q hs).1 hq), h.ot.kp hk (fun q hq hs => (h.d2 q hs).2 hq), ⟨fun e => ?_, h.d1.2⟩, fun q hq => ?_, h.d3⟩
  · exact e.elim h.d1.1 (fun e => by have := e.1; simp only at this; omega)
  · rcases hq with hq | hq
    · exact h.d2 q hq
    · exact ⟨fun e => by have := h.tr.lt q e; omega, fun e => by have := h.ot.lt q e; omega⟩
theorem LvAt.tree {O' : List (Int × Nat)} {R' : Int → Int → Prop} (h : LvAt w base N len l) (hk : Kp w w' l.TF) (hn : NearAt w' l.t O' (extS l.TF w w') R') : LvAt w' base N len { l with TF := extS l.TF w w', TO := O', TR := R' } := by
  have lb := (Array.getElem?_eq_some_iff.1 h.blk).1
  refine ⟨by rw [hk.block _ lb h.d1.2.1]; exact h.blk, h.fg.kp hk (fun q hq => (h.d2 q hq).1), hn, h.ot.kp hk (fun q hq hs => h.d3 q hs hq), ⟨h.d1.1, fun e => ?_, h.d1.2.2⟩, fun q hq => ⟨fun e => ?_, (h.d2 q hq).2⟩, fun q hq e => ?_⟩
  · exact e.elim h.d1.2.1 (fun e => by have := e.1; simp only at this; omega)
  · exact e.elim (h.d2 q hq).1 (fun e => by have := h.fg.lt q hq; omega)
  · exact hq.elim (fun hq => h.d3 q hq e) (fun hq => by have := h.ot.lt q e; omega)
theorem LvAt.other {O' : List (Int × Nat)} {R' : Int → Int → Prop} (h : LvAt w base N len l) (hk : Kp w w' l.OF) (hn : NearAt w' l.o O' (extS l.OF w w') R') : LvAt w' base N len { l with OF := extS l.OF w w', OO := O', OR := R' } := by
  have lb := (Array.getElem?_eq_some_iff.1 h.blk).1
  refine ⟨by rw [hk.block _ lb h.d1.2.2]; exact h.blk, h.fg.kp hk (fun q hq => (h.d2 q hq).2), h.tr.kp hk (fun q hq hs => h.d3 q hq hs), hn, ⟨h.d1.1, h.d1.2.1, fun e => ?_⟩, fun q hq => ⟨(h.d2 q hq).1, fun e => ?_⟩, fun q hq e => ?_⟩
  · exact e.elim h.d1.2.2 (fun e => by have := e.1; simp only at this; omega)
  · exact e.elim (h.d2 q hq).2 (fun e => by have := h.fg.lt q hq; omega)
  · exact e.elim (h.d3 q hq) (fun e => by have := h.tr.lt q hq; omega)
end
abbrev Sta := Int × Bool
abbrev stV (s : Sta) : Value := .agg #[.int .i64 s.1, .bool s.2]
abbrev EMap := List (Arc × Sta)
theorem keyOf_pr {a b : Int} (wa : (Lit.int .i64 a).wf = true) (wb : (Lit.int .i64 b).wf = true) : ∃ l, keyOf P 80 (.agg #[.int .i64 a, .int .i64 b]) = some l := by
  have hsz : ∃ m, P.types.size = m + 1 := ⟨P.types.size - 1, by kernel_rfl⟩
  have hu := Try.underlying80
  have h32 := Try.underlying3
  have c1 : P.cellsOf 80 = 2 := by kernel_rfl
  have c2 : P.cellsOf 3 = 1 := by kernel_rfl
  have hk : P.keyType 80 = true := by kernel_rfl
  obtain ⟨m, hm⟩ := hsz
  unfold keyOf
  simp only [P] at *
  simp only [hu]
  rw [if_pos (by simp [hk, Value.formed, hu, c1]), hm]
  unfold Program.keyLits
  simp only [hu, Value.cells]
  rw [if_pos (by rw [c1]; exact ⟨rfl, by simp⟩)]
  simp only [List.mapM_cons, List.mapM_nil]
  simp [c2, Program.keyLits, h32, wa, wb]
theorem keyP : KeyT P 80 arcV okArc where
  law := Maps.Keyed.of_law (deep_law (m := 3) (by omega) (by kernel_rfl) (by kernel_rfl) (by kernel_rfl))
  key := fun x hx => keyOf_pr (wf_of_i64 hx.1) (wf_of_i64 hx.2)
  inj := by
    rintro ⟨a, b⟩ ⟨c, d⟩ h
    simp [arcV] at h
    simp [h]
theorem zero_state (w : World) : (zeroValue 77).run P w = .ok (.agg #[.int .i64 0, .bool false]) w := by
  have h : ((P.info? 77).getD default).zero = some (.agg #[.int .i64 0, .bool false]) := by kernel_rfl
  have h2 : (P.info? 77).isSome = true := by kernel_rfl
  cases hq : P.info? 77 with
  | none => rw [hq] at h2; cases h2
  | some i => rw [hq] at h; simp at h; simp [zeroValue, typeInfo, hq, h]
/-- What a graph's own blocks are, beside its levels'. -/
structure Tp where
  me : Nat
  LA : Option Addr
  (ln lc : Nat)
  DA : Option Addr
  (dn dc : Nat)
  sd : Int
def Tp.Own (T : Tp) (g q : Nat) : Prop := q = g ∨ q = T.me ∨ (Value.slice T.LA T.ln T.lc).ownBlock = some q ∨ (Value.slice T.DA T.dn T.dc).ownBlock = some q
abbrev lvs (lv : List LV) : List Value := lv.map fun l => .pointer (some ⟨l.b, 0, none⟩)
structure HG (w : World) (base g N len : Nat) (U : Nat → Prop) (T : Tp) (lv : List LV) (M : EMap) (deg : List Int) : Prop where
  blk : w.heap[g]? = some (.cells #[.int .i64 (N : Int), .int .u64 T.sd, .map (some T.me), .slice T.LA T.ln T.lc, .slice T.DA T.dn T.dc] 73 (0, 0))
  ed : MapAt arcV okArc stV w T.me M
  lvr : OwnedK w base 74 1 T.LA T.ln T.lc (lvs lv)
  dgr : OwnedK w base 3 1 T.DA T.dn T.dc (i64s deg)
  dl : deg.length = N
  lev : ∀ l ∈ lv, LvAt w base N len l
  dis : lv.Pairwise (fun l l' => ∀ q, l.Fp q → ¬ l'.Fp q)
  top : ∀ l ∈ lv, ∀ q, l.Fp q → ¬ T.Own g q
  inT : ∀ q, T.Own g q → U q
  inL : ∀ l ∈ lv, ∀ q, l.Fp q → U q
  lt : ∀ q, U q → base ≤ q ∧ q < w.heap.size
section
variable {w w' : World} {base g N len : Nat} {U : Nat → Prop} {T : Tp} {lv : List LV} {M : EMap} {deg : List Int}
theorem HG.gm (h : HG w base g N len U T lv M deg) : g ≠ T.me := fun e => by
  obtain ⟨es, clock, e1, _⟩ := h.ed
  have := h.blk
  rw [e, e1] at this; cases this
theorem HG.ma (h : HG w base g N len U T lv M deg) {e : TypeId} {s n c : Nat} {A : Option Addr} {xs : List Value} (ho : OwnedK w base e s A n c xs) : (Value.slice A n c).ownBlock ≠ some T.me := fun hq => by
  obtain ⟨es, clock, e1, _⟩ := h.ed
  obtain ⟨cur, e2⟩ := ho.block_type _ hq
  rw [e1] at e2; cases e2
theorem HG.lnE (h : HG w base g N len U T lv M deg) : T.ln = lv.length := by have := h.lvr.cases.1; simp at this; omega
theorem HG.dnE (h : HG w base g N len U T lv M deg) : T.dn = N := by have := h.dgr.cases.1; simp at this; have := h.dl; omega
theorem HG.kp {S : Nat → Prop} (h : HG w base g N len U T lv M deg) (hk : Kp w w' S) (hd : ∀ q, U q → ¬ S q) : HG w' base g N len U T lv M deg :=
  ⟨by rw [hk.block _ (Array.getElem?_eq_some_iff.1 h.blk).1 (hd _ (h.inT _ (.inl rfl)))]; exact h.blk, h.ed.kp hk (hd _ (h.inT _ (.inr (.inl rfl)))), h.lvr.kp hk (fun q hq => hd q (h.inT q (.inr (.inr (.inl hq))))), h.dgr.kp hk (fun q hq => hd q (h.inT q (.inr (.inr (.inr hq))))), h.dl,
    fun l hl => (h.lev l hl).kp hk (fun q hq => hd q (h.inL l hl q hq)), h.dis, h.top, h.inT, h.inL, fun q hq => ⟨(h.lt q hq).1, Nat.lt_of_lt_of_le (h.lt q hq).2 hk.size⟩⟩
theorem HG.kept (h : HG w base g N len U T lv M deg) (hg : w.grownBy w' none) : HG w' base g N len U T lv M deg := h.kp (S := fun _ => False) (Kp.of_none hg) (fun _ _ e => e)
theorem HG.wide {U' : Nat → Prop} (h : HG w base g N len U T lv M deg) (hU : ∀ q, U q → U' q) (hl : ∀ q, U' q → base ≤ q ∧ q < w.heap.size) : HG w base g N len U' T lv M deg :=
  { h with inT := fun q hq => hU q (h.inT q hq), inL := fun l hl q hq => hU q (h.inL l hl q hq), lt := hl }
theorem HG.more {len' : Nat} (h : HG w base g N len U T lv M deg) (hl : len ≤ len') : HG w base g N len' U T lv M deg := { h with lev := fun l hm => (h.lev l hm).more hl }
theorem extS_lt {base : Nat} (hb : base ≤ w.heap.size) (hU : ∀ q, U q → base ≤ q ∧ q < w.heap.size) (hs : w.heap.size ≤ w'.heap.size) : ∀ q, extS U w w' q → base ≤ q ∧ q < w'.heap.size := by
  rintro q (hq | hq)
  · have := hU q hq; omega
  · exact ⟨by omega, hq.2⟩
/-- One level alone has changed. -/
theorem HG.lvl (h : HG w base g N len U T lv M deg) (hb : base ≤ w.heap.size) {k : Nat} (hk : k < lv.length) {S : Nat → Prop} (K : Kp w w' S) (hS : ∀ q, S q → (lv[k]).Fp q) {l' : LV} (hl : LvAt w' base N len l') (hlb : l'.b = (lv[k]).b) (hF : ∀ q, l'.Fp q → extS (lv[k]).Fp w w' q) : HG w' base g N len (extS U w w') T (lv.set k l') M deg := by
  have hmk : lv[k] ∈ lv := List.getElem_mem hk
  have nT : ∀ q, T.Own g q → ¬ S q := fun q hq hs => h.top _ hmk q (hS q hs) hq
  have ltw : ∀ l ∈ lv, ∀ q, l.Fp q → q < w.heap.size := fun l hl q hq => (h.lt q (h.inL l hl q hq)).2
  have hset : lvs (lv.set k l') = lvs lv := by
    unfold lvs
    rw [List.map_set, hlb]
    have : (Value.pointer (some ⟨(lv[k]).b, 0, none⟩)) = (lv.map fun l => Value.pointer (some ⟨l.b, 0, none⟩))[k]'(by simpa using hk) := by simp
    rw [this, List.set_getElem_self]
  have far : ∀ j (hj : j < lv.length), j ≠ k → ∀ q, (lv[j]).Fp q → ¬ (lv[k]).Fp q := fun j hj ne q hq hq' => by
    rcases Nat.lt_or_gt_of_ne ne with e | e
    · exact List.pairwise_iff_getElem.1 h.dis j k hj hk e q hq hq'
    · exact List.pairwise_iff_getElem.1 h.dis k j hk hj e q hq' hq
  refine ⟨by rw [K.block _ (Array.getElem?_eq_some_iff.1 h.blk).1 (nT _ (.inl rfl))]; exact h.blk, h.ed.kp K (nT _ (.inr (.inl rfl))), by rw [hset]; exact h.lvr.kp K (fun q hq => nT q (.inr (.inr (.inl hq)))), h.dgr.kp K (fun q hq => nT q (.inr (.inr (.inr hq)))), h.dl, ?_, ?_, ?_, fun q hq => .inl (h.inT q hq), ?_, extS_lt hb h.lt K.size⟩
  · intro l hl'
    obtain ⟨j, hj, rfl⟩ := List.getElem_of_mem hl'
    rw [List.length_set] at hj
    rw [List.getElem_set]
    split
    · exact hl
    · rename_i ne
      exact (h.lev _ (List.getElem_mem hj)).kp K (fun q hq hs => far j hj (fun e => ne e.symm) q hq (hS q hs))
  · rw [List.pairwise_iff_getElem]
    intro i j hi hj hij q hq hq'
    rw [List.length_set] at hi hj
    rw [List.getElem_set] at hq hq'
    split at hq
    · rename_i e
      subst e
      rw [if_neg (by omega)] at hq'
      rcases hF q hq with h1 | h1
      · exact List.pairwise_iff_getElem.1 h.dis k j hk hj hij q h1 hq'
      · have := ltw _ (List.getElem_mem hj) q hq'; omega
    · split at hq'
      · rename_i e
        subst e
        rcases hF q hq' with h1 | h1
        · exact List.pairwise_iff_getElem.1 h.dis i k hi hk hij q hq h1
        · have := ltw _ (List.getElem_mem hi) q hq; omega
      · exact List.pairwise_iff_getElem.1 h.dis i j hi hj hij q hq hq'
  · intro l hl' q hq hq'
    rcases List.mem_or_eq_of_mem_set hl' with e | e
    · exact h.top l e q hq hq'
    · subst e
      rcases hF q hq with h1 | h1
      · exact h.top _ hmk q h1 hq'
      · have := (h.lt q (h.inT q hq')).2; omega
  · intro l hl' q hq
    rcases List.mem_or_eq_of_mem_set hl' with e | e
    · exact .inl (h.inL l e q hq)
    · subst e
      exact (hF q hq).imp (h.inL _ hmk q) id
/-- The edges alone have changed. -/
theorem HG.edges (h : HG w base g N len U T lv M deg) (hb : base ≤ w.heap.size) (K : Kp w w' (fun q => some q = some T.me)) {M' : EMap} (hM : MapAt arcV okArc stV w' T.me M') : HG w' base g N len (extS U w w') T lv M' deg := by
  have nL : ∀ l ∈ lv, ∀ q, l.Fp q → ¬ some q = some T.me := fun l hl q hq e => h.top l hl q hq (.inr (.inl (by cases e; rfl)))
  exact ⟨by rw [K.block _ (Array.getElem?_eq_some_iff.1 h.blk).1 (fun e => h.gm (by cases e; rfl))]; exact h.blk, hM, h.lvr.kp K (fun q hq e => h.ma h.lvr (by rw [hq, e])), h.dgr.kp K (fun q hq e => h.ma h.dgr (by rw [hq, e])), h.dl, fun l hl => (h.lev l hl).kp K (nL l hl), h.dis, h.top, fun q hq => .inl (h.inT q hq), fun l hl q hq => .inl (h.inL l hl q hq), extS_lt hb h.lt K.size⟩
/-- The degrees alone have changed. -/
theorem HG.degs (h : HG w base g N len U T lv M deg) (hb : base ≤ w.heap.size) (K : Kp w w' (fun q => (Value.slice T.DA T.dn T.dc).ownBlock = some q)) {deg' : List Int} (hd : OwnedK w' base 3 1 T.DA T.dn T.dc (i64s deg')) : HG w' base g N len (extS U w w') T lv M deg' := by
  have nL : ∀ l ∈ lv, ∀ q, l.Fp q → ¬ (Value.slice T.DA T.dn T.dc).ownBlock = some q := fun l hl q hq e => h.top l hl q hq (.inr (.inr (.inr e)))
  have hdl : deg'.length = N := by have h1 := hd.cases.1; have h2 := h.dgr.cases.1; have := h.dl; simp at h1 h2; omega
  refine ⟨by rw [K.block _ (Array.getElem?_eq_some_iff.1 h.blk).1 (own_far h.dgr h.blk (by decide))]; exact h.blk, h.ed.kp K (h.ma h.dgr), h.lvr.kp K (fun q hq e => own_ne h.lvr h.dgr (by decide) q hq e), hd, hdl, fun l hl => (h.lev l hl).kp K (nL l hl), h.dis, h.top, fun q hq => .inl (h.inT q hq), fun l hl q hq => .inl (h.inL l hl q hq), extS_lt hb h.lt K.size⟩
end
end Go.Proofs.Ytpfkpmapimonbaa

/-! hdt.Graph.at: the walk. -/
namespace Go.Proofs.Ytpfkpmapimonbaa
open Go Go.V Go.RowKit
set_option linter.unusedVariables false
set_option linter.unusedSimpArgs false
set_option maxHeartbeats 16000000
set_option maxRecDepth 100000

theorem elemLv : ElemK P 71 74 1 (P.bytesOf 74) := ⟨(P.info? 74).getD default, ((P.info? 74).getD default).zero.getD undef, by kernel_rfl, by kernel_rfl, by kernel_rfl, by kernel_rfl, by kernel_rfl, by kernel_rfl, by decide⟩
theorem bytesLv : P.bytesOf 74 ≤ 64 := of_decide_eq_true (by kernel_rfl)
theorem sz_alloc (w : World) (o : Obj) : (w.alloc o).heap.size = w.heap.size + 1 := Array.size_push _
theorem near_new {w : World} {t : Nat} (h : w.heap[t]? = some (.map #[] 0)) : NearAt w t [] (fun q => q = t) (fun _ _ => False) :=
  ⟨⟨#[], 0, h, rfl, (fun p hp => nomatch hp), List.Pairwise.nil, (fun e he => nomatch he), List.Pairwise.nil⟩, fun p hp => by simp at hp, fun x y h => h.elim, by simp, rfl, fun p hp => by simp at hp, fun q hq => by rw [hq]; exact (Array.getElem?_eq_some_iff.1 h).1⟩
section
variable {w w' : World} {base g N len : Nat} {U : Nat → Prop} {T : Tp} {lv : List LV} {M : EMap} {deg : List Int}
theorem HG.ptr (h : HG w base g N len U T lv M deg) {i : Nat} (hi : i < lv.length) : ∃ a, T.LA = some a ∧ w.cell? (a.add i) = some (.pointer (some ⟨(lv[i]).b, 0, none⟩)) := by
  obtain ⟨a, e1, e2⟩ := h.lvr.row i (.pointer (some ⟨(lv[i]).b, 0, none⟩)) (by simp [lvs, hi])
  exact ⟨a, e1, e2⟩
/-- A level more. -/
theorem HG.push (h : HG w base g N len U T lv M deg) (hb : base ≤ w.heap.size) (hN : N ≤ 65536) (hlen : N ≤ len) (hl : lv.length ≤ 2 ^ 20) {W : World} {t o f fg a b : Nat} (gW : w.grownBy W none) (hF : FGx W base f fg N (fun q => a ≤ q ∧ q < b) (nOf (N : Int)) []) (ht : W.heap[t]? = some (.map #[] 0)) (ho : W.heap[o]? = some (.map #[] 0)) (hto : t ≠ o) (h1 : t < a ∨ b ≤ t) (h2 : o < a ∨ b ≤ o) (h3 : w.heap.size ≤ a ∧ w.heap.size ≤ t ∧ w.heap.size ≤ o ∧ b ≤ W.heap.size) :
    ∃ (A : Option Addr) (n c : Nat) (w3 : World), Sem.run P (Builtin.append_ #[71, 71] 71 #[.slice T.LA T.ln T.lc, .slice (some ⟨(W.alloc (.cells #[.pointer (some ⟨f, 0, none⟩), .map (some t), .map (some o)] 86)).heap.size, 0, none⟩) 1 1]) ((W.alloc (.cells #[.pointer (some ⟨f, 0, none⟩), .map (some t), .map (some o)] 86)).alloc (.cells #[.pointer (some ⟨W.heap.size, 0, none⟩)] 74)) = .ok (.slice A n c) w3 ∧
      w3.heap[g]? = some (.cells #[.int .i64 (N : Int), .int .u64 T.sd, .map (some T.me), .slice T.LA T.ln T.lc, .slice T.DA T.dn T.dc] 73 (0, 0)) ∧
      ∃ l : LV, l.E = [] ∧ (∀ x y, ¬ l.TR x y) ∧ (∀ x y, ¬ l.OR x y) ∧ l.b = W.heap.size ∧ HG (w3.setCell ⟨g, 3, none⟩ (.slice A n c)) base g N len (extS U w (w3.setCell ⟨g, 3, none⟩ (.slice A n c))) { T with LA := A, ln := n, lc := c } (lv ++ [l]) M deg ∧ Kp w (w3.setCell ⟨g, 3, none⟩ (.slice A n c)) (T.Own g) := by
  have hW := h.kept gW
  have szW := gW.size
  have g1 := World.grownBy_alloc W (.cells #[.pointer (some ⟨f, 0, none⟩), .map (some t), .map (some o)] 86) none
  have b1 := heap_alloc_new W (.cells #[.pointer (some ⟨f, 0, none⟩), .map (some t), .map (some o)] 86)
  have s1 := sz_alloc W (.cells #[.pointer (some ⟨f, 0, none⟩), .map (some t), .map (some o)] 86)
  obtain ⟨W1, hW1⟩ : ∃ W1, W1 = W.alloc (.cells #[.pointer (some ⟨f, 0, none⟩), .map (some t), .map (some o)] 86) := ⟨_, rfl⟩
  rw [← hW1] at g1 b1 s1 ⊢
  have g2 := World.grownBy_alloc W1 (.cells #[.pointer (some ⟨W.heap.size, 0, none⟩)] 74) none
  have b2 := heap_alloc_new W1 (.cells #[.pointer (some ⟨W.heap.size, 0, none⟩)] 74)
  have s2 := sz_alloc W1 (.cells #[.pointer (some ⟨W.heap.size, 0, none⟩)] 74)
  obtain ⟨W2, hW2⟩ : ∃ W2, W2 = W1.alloc (.cells #[.pointer (some ⟨W.heap.size, 0, none⟩)] 74) := ⟨_, rfl⟩
  rw [← hW2] at g2 b2 s2 ⊢
  have g12 := grown_trans g1 g2
  have hH2 := hW.kept g12
  have hln := h.lnE
  have hbW2 : base ≤ W2.heap.size := by omega
  obtain ⟨A, n, c, w3, r1, r2, r3, r4, r5⟩ := hH2.lvr.appends (ty := 71) elemLv bytesLv (a := ⟨W1.heap.size, 0, none⟩) (m := 1) (cc := 1) (us := [.pointer (some ⟨W.heap.size, 0, none⟩)]) rfl (fun j u hj => by
    match j, hj with
    | 0, hj => cases hj; rw [addr0]; exact blk_cell b2 0) (fun u hu => by simp at hu; subst hu; rfl) (by omega) hbW2
  have K3 : Kp W2 w3 (fun q => some q = (Value.slice T.LA T.ln T.lc).ownBlock) := Kp.of_grown r4
  have sz3 := K3.size
  have gneLA : (Value.slice T.LA T.ln T.lc).ownBlock ≠ some g := own_far hH2.lvr hH2.blk (by decide)
  have hbg : w3.heap[g]? = some (.cells #[.int .i64 (N : Int), .int .u64 T.sd, .map (some T.me), .slice T.LA T.ln T.lc, .slice T.DA T.dn T.dc] 73 (0, 0)) := by
    rw [K3.block _ (Array.getElem?_eq_some_iff.1 hH2.blk).1 (fun e => gneLA e.symm)]; exact hH2.blk
  have gneA : (Value.slice A n c).ownBlock ≠ some g := own_far r2 hbg (by decide)
  refine ⟨A, n, c, w3, r1, hbg, ?_⟩
  have K4 : Kp w3 (w3.setCell ⟨g, 3, none⟩ (.slice A n c)) (fun q => q = g) := kset (Kp.refl _ _) rfl
  have hb4 := blk_set hbg 3 (.slice A n c)
  obtain ⟨W4, hW4⟩ : ∃ W4, W4 = w3.setCell ⟨g, 3, none⟩ (.slice A n c) := ⟨_, rfl⟩
  rw [← hW4] at K4 hb4 ⊢
  have sz4 := K4.size
  -- what was there, and is no block of the graph's own, is as it was
  have K24 : Kp W2 W4 (T.Own g) := (K3.mono (S' := T.Own g) fun q _ e => .inr (.inr (.inl e.symm))).then K4 (fun q _ e => .inl e)
  have Kw : Kp w W4 (T.Own g) := ((Kp.of_none (S := T.Own g) (grown_trans gW g12))).trans K24
  have ownlt : ∀ q, T.Own g q → q < w.heap.size := fun q hq => (h.lt q (h.inT q hq)).2
  have notOwn : ∀ q, w.heap.size ≤ q → ¬ T.Own g q := fun q hq e => by have := ownlt q e; omega
  have keepNew : ∀ q, w.heap.size ≤ q → q < W2.heap.size → W4.heap[q]? = W2.heap[q]? := fun q hq hq2 => K24.block q hq2 (notOwn q hq)
  have lvl : LvAt W4 base N len ⟨W.heap.size, f, fg, t, o, (fun q => a ≤ q ∧ q < b), (fun q => q = t), (fun q => q = o), [], [], [], (fun _ _ => False), (fun _ _ => False)⟩ := by
    have tW := (Array.getElem?_eq_some_iff.1 ht).1
    have oW := (Array.getElem?_eq_some_iff.1 ho).1
    have t4 : W4.heap[t]? = some (.map #[] 0) := by rw [keepNew t (by omega) (by omega), g12.block t tW (by simp)]; exact ht
    have o4 : W4.heap[o]? = some (.map #[] 0) := by rw [keepNew o (by omega) (by omega), g12.block o oW (by simp)]; exact ho
    refine ⟨?_, ((hF.kept g12).kp K24 (fun q hq => notOwn q (by omega))).more (by unfold nOf; simp; omega), near_new t4, near_new o4, ⟨fun e => ?_, fun e => ?_, fun e => ?_⟩, fun q hq => ⟨fun e => ?_, fun e => ?_⟩, fun q hq e => ?_⟩
    · rw [keepNew _ (by simp only; omega) (by simp only; omega), g2.block _ (by simp only; omega) (by simp)]; exact b1
    · simp only at e; omega
    · simp only at e; omega
    · simp only at e; omega
    · simp only at e hq; omega
    · simp only at e hq; omega
    · simp only at e hq; omega
  have newFp : ∀ q, LV.Fp ⟨W.heap.size, f, fg, t, o, (fun q => a ≤ q ∧ q < b), (fun q => q = t), (fun q => q = o), [], [], [], (fun _ _ => False), (fun _ _ => False)⟩ q → w.heap.size ≤ q ∧ q < W4.heap.size := by
    intro q hq
    have tW := (Array.getElem?_eq_some_iff.1 ht).1
    have oW := (Array.getElem?_eq_some_iff.1 ho).1
    rcases hq with hq | hq | hq | hq
    · simp only at hq; omega
    · simp only at hq; omega
    · simp only at hq; omega
    · simp only at hq; omega
  have ownA : ∀ q, (Value.slice A n c).ownBlock = some q → (Value.slice T.LA T.ln T.lc).ownBlock = some q ∨ (q = W2.heap.size ∧ q < W4.heap.size) := fun q hq => by
    rcases r5 with e | e
    · left; rw [← e]; exact hq
    · right
      have := r2.block_lt q hq
      rw [hq] at e; cases e; exact ⟨rfl, by omega⟩
  refine ⟨⟨W.heap.size, f, fg, t, o, (fun q => a ≤ q ∧ q < b), (fun q => q = t), (fun q => q = o), [], [], [], (fun _ _ => False), (fun _ _ => False)⟩, rfl, fun _ _ h => h, fun _ _ h => h, rfl, ⟨hb4, (hH2.ed.kp K3 (fun e => h.ma h.lvr e.symm)).kp K4 (fun e => h.gm e.symm), ?_, ((hH2.dgr.kp K3 (fun q hq e => own_ne h.lvr h.dgr (by decide) q e.symm hq)).kp K4 (fun q hq e => own_far h.dgr h.blk (by decide) (by rw [hq, e]))), h.dl, ?_, ?_, ?_, ?_, ?_, extS_lt hb h.lt (by omega)⟩, Kw⟩
  · have := r2.kp K4 (fun q hq e => gneA (by rw [hq, e]))
    simpa [lvs] using this
  · intro l hl
    rcases List.mem_append.1 hl with hl | hl
    · exact (h.lev l hl).kp Kw (h.top l hl)
    · simp at hl; subst hl; exact lvl
  · rw [List.pairwise_append]
    refine ⟨h.dis, List.pairwise_singleton _ _, fun l hl l' hl' q hq hq' => ?_⟩
    simp at hl'; subst hl'
    have := (h.lt q (h.inL l hl q hq)).2
    have := newFp q hq'; omega
  · intro l hl q hq hq'
    have hq2 : T.Own g q ∨ (q = W2.heap.size ∧ q < W4.heap.size) := by
      rcases hq' with e | e | e | e
      · exact .inl (.inl e)
      · exact .inl (.inr (.inl e))
      · exact (ownA q e).imp (fun e => .inr (.inr (.inl e))) id
      · exact .inl (.inr (.inr (.inr e)))
    rcases List.mem_append.1 hl with hl | hl
    · rcases hq2 with e | e
      · exact h.top l hl q hq e
      · have := (h.lt q (h.inL l hl q hq)).2; omega
    · simp at hl; subst hl
      have h5 := newFp q hq
      have tW := (Array.getElem?_eq_some_iff.1 ht).1
      have oW := (Array.getElem?_eq_some_iff.1 ho).1
      rcases hq2 with e | e
      · exact notOwn q h5.1 e
      · rcases hq with hq | hq | hq | hq <;> simp only at hq <;> omega
  · intro q hq
    rcases hq with e | e | e | e
    · exact .inl (h.inT q (.inl e))
    · exact .inl (h.inT q (.inr (.inl e)))
    · rcases ownA q e with e | e
      · exact .inl (h.inT q (.inr (.inr (.inl e))))
      · exact .inr ⟨by omega, e.2⟩
    · exact .inl (h.inT q (.inr (.inr (.inr e))))
  · intro l hl q hq
    rcases List.mem_append.1 hl with hl | hl
    · exact .inl (h.inL l hl q hq)
    · simp at hl; subst hl; exact .inr (newFp q hq)
end
end Go.Proofs.Ytpfkpmapimonbaa

/-! hdt.Graph.at: the walk. -/
namespace Go.Proofs.Ytpfkpmapimonbaa
open Go Go.V Go.RowKit
set_option linter.unusedVariables false
set_option linter.unusedSimpArgs false
set_option maxHeartbeats 40000000
set_option maxRecDepth 100000
section
variable {w w' : World} {base g N len : Nat} {U : Nat → Prop} {T : Tp} {lv : List LV} {M : EMap} {deg : List Int}
theorem map_at {w w' : World} (h : (w.alloc (.map #[] 0)).grownBy w' none) : w'.heap[w.heap.size]? = some (.map #[] 0) := blk_keep (heap_alloc_new w _) h
theorem lat_calls (h : HG w base g N len U T lv M deg) (hb : base ≤ w.heap.size) {i : Nat} (hi : i ≤ lv.length) (hl : lv.length ≤ 2 ^ 20) (hN : N ≤ 65536) (hlen : N ≤ len) :
    Calls P 60 #[.pointer (some ⟨g, 0, none⟩), .int .i64 (i : Int)] w fun ev w' => ∃ l : LV, ev = .returned (.pointer (some ⟨l.b, 0, none⟩)) ∧
      ((lv[i]? = some l ∧ w' = w) ∨ (i = lv.length ∧ l.E = [] ∧ (∀ x y, ¬ l.TR x y) ∧ (∀ x y, ¬ l.OR x y) ∧ ∃ T', HG w' base g N len (extS U w w') T' (lv ++ [l]) M deg ∧ Kp w w' (T.Own g))) := by
  apply vc60; unfold VC60; try (conv => zeta)
  have hln := h.lnE
  have ti : (i : Int).toNat = i := by omega
  refine ⟨fun m W => (m = 1 ∧ W = w ∧ i = lv.length) ∨ (m = 0 ∧ W = w ∧ i < lv.length) ∨ (m = 0 ∧ i = lv.length ∧ ∃ l : LV, l.E = [] ∧ (∀ x y, ¬ l.TR x y) ∧ (∀ x y, ¬ l.OR x y) ∧ ∃ T', HG W base g N len (extS U w W) T' (lv ++ [l]) M deg ∧ Kp w W (T.Own g)), ?_, ?_⟩
  · by_cases e : i = lv.length
    · exact ⟨1, .inl ⟨rfl, rfl, e⟩⟩
    · exact ⟨0, .inr (.inl ⟨rfl, rfl, by omega⟩)⟩
  · rintro m W (⟨rfl, rfl, hlt⟩ | ⟨rfl, rfl, hlt⟩ | ⟨rfl, hie, l, l1, l2, l3, T', hH, K⟩)
    · refine ⟨_, rfl, _, _, _, by rw [add_blk]; exact blk_cell h.blk 3, fun _ => ?_, fun hge => by omega⟩
      have g2 := grown_drew (grown_refl W none)
      have h2 := h.kept g2
      obtain ⟨w2, hw2⟩ : ∃ w2, w2 = W.drew := ⟨_, rfl⟩
      have sz2 : w2.heap.size = W.heap.size := by rw [hw2]; rfl
      rw [← hw2] at g2 h2 ⊢
      have c3 : ∀ W', w2.grownBy W' none → W'.cell? (Addr.add ⟨g, 0, none⟩ 3) = some (.slice T.LA T.ln T.lc) := fun W' hg => by rw [add_blk]; exact blk_cell (h2.kept hg).blk 3
      obtain ⟨C, hC⟩ : ∃ C : World → Prop, C = fun W' => W'.cell? ⟨g, 0, none⟩ = some (.int .i64 (N : Int)) ∧ W'.cell? (Addr.add ⟨g, 0, none⟩ 1) = some (.int .u64 T.sd) := ⟨_, rfl⟩
      have hCb : ∀ W' : World, (∃ x y z, W'.heap[g]? = some (.cells #[.int .i64 (N : Int), .int .u64 T.sd, x, y, z] 73 (0, 0))) → C W' := fun W' ⟨x, y, z, hh⟩ => by rw [hC]; exact ⟨blk_cell hh 0, by rw [add_blk]; exact blk_cell hh 1⟩
      have hCk : ∀ W', w2.grownBy W' none → C W' := fun W' hg => hCb W' ⟨_, _, _, (h2.kept hg).blk⟩
      have hC0 : ∀ W', C W' → W'.cell? ⟨g, 0, none⟩ = some (.int .i64 (N : Int)) := fun W' h => by rw [hC] at h; exact h.1
      have hC1 : ∀ W', C W' → W'.cell? (Addr.add ⟨g, 0, none⟩ 1) = some (.int .u64 T.sd) := fun W' h => by rw [hC] at h; exact h.2
      -- the end of each order
      have fin : ∀ (W' : World) (t o f fg a b : Nat), w2.grownBy W' none → FGx W' base f fg (nOf (N : Int)) (fun q => a ≤ q ∧ q < b) (nOf (N : Int)) [] → W'.heap[t]? = some (.map #[] 0) → W'.heap[o]? = some (.map #[] 0) → (t ≠ o ∧ (t < a ∨ b ≤ t) ∧ (o < a ∨ b ≤ o) ∧ w2.heap.size ≤ a ∧ w2.heap.size ≤ t ∧ w2.heap.size ≤ o ∧ b ≤ W'.heap.size) →
          ∃ (A : Option Addr) (n c : Nat) (w3 : World), Sem.run P (Builtin.append_ #[71, 71] 71 #[.slice T.LA T.ln T.lc, .slice (some ⟨(W'.alloc (.cells #[.pointer (some ⟨f, 0, none⟩), .map (some t), .map (some o)] 86)).heap.size, 0, none⟩) 1 1]) ((W'.alloc (.cells #[.pointer (some ⟨f, 0, none⟩), .map (some t), .map (some o)] 86)).alloc (.cells #[.pointer (some ⟨W'.heap.size, 0, none⟩)] 74)) = .ok (.slice A n c) w3 ∧
            (C w3 ∧ ∃ a39 : Addr, some (⟨g, 0, none⟩ : Addr) = some a39 ∧ ((∃ uv : Value, w3.cell? (a39.add 3) = some uv) ∧ w3.frozen? (a39.add 3) = false ∧ (C (w3.setCell (a39.add 3) (.slice A n c)) ∧ ∃ m_1 : Nat, m_1 < 1 ∧ ((m_1 = 1 ∧ w3.setCell (a39.add 3) (.slice A n c) = W ∧ i = lv.length) ∨ (m_1 = 0 ∧ w3.setCell (a39.add 3) (.slice A n c) = W ∧ i < lv.length) ∨ (m_1 = 0 ∧ i = lv.length ∧ ∃ l : LV, l.E = [] ∧ (∀ x y, ¬ l.TR x y) ∧ (∀ x y, ¬ l.OR x y) ∧ ∃ T', HG (w3.setCell (a39.add 3) (.slice A n c)) base g N len (extS U W (w3.setCell (a39.add 3) (.slice A n c))) T' (lv ++ [l]) M deg ∧ Kp W (w3.setCell (a39.add 3) (.slice A n c)) (T.Own g)))))) := by
        intro W' t o f fg a b k1 k2 k3 k4 k5
        have hnN : nOf (N : Int) = N := by unfold nOf; omega
        obtain ⟨A, n, c, w3, r1, r2, l, l1, l2, l3, l4, r3, r4⟩ := h.push hb hN hlen hl (grown_trans g2 k1) (by rw [hnN] at k2 ⊢; exact k2) k3 k4 k5.1 k5.2.1 k5.2.2.1 (by omega)
        refine ⟨A, n, c, w3, r1, hCb _ ⟨_, _, _, r2⟩, _, rfl, ?_⟩
        rw [add_blk]
        exact ⟨⟨_, blk_cell r2 3⟩, blk_free r2 3, hCb _ ⟨_, _, _, blk_set r2 3 _⟩, 0, by omega, .inr (.inr ⟨rfl, hlt, l, l1, l2, l3, _, r3, r4⟩)⟩
      have hu64 : InK .u64 (T.ln : Int) := by rw [hln]; simp only [InK]; omega
      have hbw2 : base ≤ w2.heap.size := by omega
      clear hC hCb
      refine ⟨C, hCk _ (grown_refl _ _), ?_⟩
      repeat' (first
        | exact trivial
        | refine ⟨_, rfl, T.LA, T.ln, T.lc, c3 _ (by repeat (first | exact grown_refl _ _ | refine grown_alloc ?_ _ | refine grown_trans ?_ (by assumption))), ?_⟩
        | refine ⟨_, rfl, (N : Int), hC0, ?_⟩
        | refine ⟨_, rfl, T.sd, hC1, ?_⟩
        | refine ⟨hu64, ?_⟩
        | refine ⟨hCk _ (by repeat (first | exact grown_refl _ _ | refine grown_alloc ?_ _ | refine grown_trans ?_ (by assumption))), ?_⟩
        | (refine (xnew_calls (base := base) (by (try simp only [sz_alloc]); omega) _ _).mono fun ev Wc hh => ?_
           obtain ⟨f, fg, rfl, hF, gW⟩ := hh
           refine ⟨_, rfl, ?_⟩)
        | refine ⟨_, rfl, hCk _ (by repeat (first | exact grown_refl _ _ | refine grown_alloc ?_ _ | refine grown_trans ?_ (by assumption))), ?_⟩
        | refine ⟨T.LA, T.ln, T.lc, c3 _ (by repeat (first | exact grown_refl _ _ | refine grown_alloc ?_ _ | refine grown_trans ?_ (by assumption))), ?_⟩
        | refine ⟨(N : Int), hC0, ?_⟩
        | refine ⟨T.sd, hC1, ?_⟩
        | refine ⟨_, rfl, ?_⟩
        | refine fin _ _ _ _ _ _ _ (by repeat (first | exact grown_refl _ _ | refine grown_alloc ?_ _ | refine grown_trans ?_ (by assumption))) (FGx.kept hF (by repeat (first | exact grown_refl _ _ | refine grown_alloc ?_ _))) (map_at (by repeat (first | exact grown_refl _ _ | refine grown_alloc ?_ _ | refine grown_trans ?_ (by assumption)))) (map_at (by repeat (first | exact grown_refl _ _ | refine grown_alloc ?_ _ | refine grown_trans ?_ (by assumption)))) (by have hz := gW.size; simp only [sz_alloc] at hz ⊢; omega)
        | refine And.intro ?_ ?_)
    · refine ⟨_, rfl, _, _, _, by rw [add_blk]; exact blk_cell h.blk 3, fun hge => by omega, fun _ => ?_⟩
      obtain ⟨a, e1, e2⟩ := h.ptr hlt
      exact ⟨_, rfl, _, _, _, by rw [add_blk]; exact blk_cell h.blk 3, a, e1, by omega, by omega, _, by rw [ti]; exact e2, lv[i], rfl, .inl ⟨by simp [hlt], rfl⟩⟩
    · have hln' := hH.lnE
      simp only [List.length_append, List.length_singleton] at hln'
      refine ⟨_, rfl, _, _, _, by rw [add_blk]; exact blk_cell hH.blk 3, fun hge => by omega, fun _ => ?_⟩
      obtain ⟨a, e1, e2⟩ := hH.ptr (i := i) (by simp; omega)
      refine ⟨_, rfl, _, _, _, by rw [add_blk]; exact blk_cell hH.blk 3, a, e1, by omega, by omega, _, by rw [ti]; exact e2, l, ?_, .inr ⟨hie, l1, l2, l3, T', hH, K⟩⟩
      rw [List.getElem_append_right (by omega)]
      simp
end
end Go.Proofs.Ytpfkpmapimonbaa

/-! hdt.Graph: keep, lose: the walks. -/
namespace Go.Proofs.Ytpfkpmapimonbaa
open Go Go.V Go.RowKit
set_option linter.unusedVariables false
set_option linter.unusedSimpArgs false
set_option maxHeartbeats 8000000
set_option maxRecDepth 100000

def EL (lv : List LV) (k : Nat) : Eds := match lv[k]? with | some l => l.E | none => []
def TL (lv : List LV) (k : Nat) : Int → Int → Prop := match lv[k]? with | some l => l.TR | none => fun _ _ => False
def OL (lv : List LV) (k : Nat) : Int → Int → Prop := match lv[k]? with | some l => l.OR | none => fun _ _ => False
/-- All levels but one stay. -/
def Oth (w w' : World) (lv lv' : List LV) (ℓ : Nat) : Prop := ∀ k l, lv[k]? = some l → k ≠ ℓ → lv'[k]? = some l ∧ ∀ q, l.Fp q → w'.heap[q]? = w.heap[q]?
structure SameL (l l' : LV) : Prop where
  b : l'.b = l.b
  f : l'.f = l.f
  t : l'.t = l.t
  o : l'.o = l.o
  TO : ∀ p ∈ l.TO, p ∈ l'.TO
  OO : ∀ p ∈ l.OO, p ∈ l'.OO
theorem SameL.refl (l : LV) : SameL l l := ⟨rfl, rfl, rfl, rfl, fun _ h => h, fun _ h => h⟩
theorem SameL.trans {l l' l'' : LV} (h : SameL l l') (h' : SameL l' l'') : SameL l l'' := ⟨h'.b.trans h.b, h'.f.trans h.f, h'.t.trans h.t, h'.o.trans h.o, fun p hp => h'.TO p (h.TO p hp), fun p hp => h'.OO p (h.OO p hp)⟩
section
variable {w w' w'' : World} {base g N len : Nat} {U : Nat → Prop} {T : Tp} {lv : List LV} {M : EMap} {deg : List Int}
theorem EL_some {l : LV} {k : Nat} (h : lv[k]? = some l) : EL lv k = l.E := by unfold EL; rw [h]
theorem TL_some {l : LV} {k : Nat} (h : lv[k]? = some l) : TL lv k = l.TR := by unfold TL; rw [h]
theorem OL_some {l : LV} {k : Nat} (h : lv[k]? = some l) : OL lv k = l.OR := by unfold OL; rw [h]
theorem EL_push {l : LV} (he : l.E = []) (k : Nat) : EL (lv ++ [l]) k = EL lv k := by
  unfold EL
  rcases Nat.lt_trichotomy k lv.length with e | e | e
  · rw [List.getElem?_append_left e]
  · subst e; simp [he]
  · rw [List.getElem?_eq_none (by simp; omega), List.getElem?_eq_none (by omega)]
theorem TL_push {l : LV} (he : ∀ x y, ¬ l.TR x y) (k : Nat) : TL (lv ++ [l]) k = TL lv k := by
  unfold TL
  rcases Nat.lt_trichotomy k lv.length with e | e | e
  · rw [List.getElem?_append_left e]
  · subst e; simp; funext x y; exact eq_false (he x y)
  · rw [List.getElem?_eq_none (by simp; omega), List.getElem?_eq_none (by omega)]
theorem OL_push {l : LV} (he : ∀ x y, ¬ l.OR x y) (k : Nat) : OL (lv ++ [l]) k = OL lv k := by
  unfold OL
  rcases Nat.lt_trichotomy k lv.length with e | e | e
  · rw [List.getElem?_append_left e]
  · subst e; simp; funext x y; exact eq_false (he x y)
  · rw [List.getElem?_eq_none (by simp; omega), List.getElem?_eq_none (by omega)]
theorem EL_set {l' : LV} {ℓ : Nat} (hℓ : ℓ < lv.length) (k : Nat) : EL (lv.set ℓ l') k = if k = ℓ then l'.E else EL lv k := by
  unfold EL
  by_cases e : k = ℓ
  · subst e; rw [List.getElem?_set_self hℓ, if_pos rfl]
  · rw [List.getElem?_set_ne (fun h => e h.symm), if_neg e]
theorem TL_set {l' : LV} {ℓ : Nat} (hℓ : ℓ < lv.length) (k : Nat) : TL (lv.set ℓ l') k = if k = ℓ then l'.TR else TL lv k := by
  unfold TL
  by_cases e : k = ℓ
  · subst e; rw [List.getElem?_set_self hℓ, if_pos rfl]
  · rw [List.getElem?_set_ne (fun h => e h.symm), if_neg e]
theorem OL_set {l' : LV} {ℓ : Nat} (hℓ : ℓ < lv.length) (k : Nat) : OL (lv.set ℓ l') k = if k = ℓ then l'.OR else OL lv k := by
  unfold OL
  by_cases e : k = ℓ
  · subst e; rw [List.getElem?_set_self hℓ, if_pos rfl]
  · rw [List.getElem?_set_ne (fun h => e h.symm), if_neg e]
theorem HG.ne (h : HG w base g N len U T lv M deg) {j k : Nat} (hj : j < lv.length) (hk : k < lv.length) (ne : j ≠ k) : ∀ q, (lv[j]).Fp q → ¬ (lv[k]).Fp q := fun q hq hq' => by
  rcases Nat.lt_or_gt_of_ne ne with e | e
  · exact List.pairwise_iff_getElem.1 h.dis j k hj hk e q hq hq'
  · exact List.pairwise_iff_getElem.1 h.dis k j hk hj e q hq' hq
/-- The levels that a level's change leaves. -/
theorem HG.oth (h : HG w base g N len U T lv M deg) {k : Nat} (hk : k < lv.length) {S : Nat → Prop} (K : Kp w w' S) (hS : ∀ q, S q → (lv[k]).Fp q) (l' : LV) : Oth w w' lv (lv.set k l') k := by
  intro j l hj hne
  have hjl := (List.getElem?_eq_some_iff.1 hj).1
  have e : lv[j] = l := (List.getElem?_eq_some_iff.1 hj).2
  refine ⟨by rw [List.getElem?_set_ne (fun e => hne e.symm)]; exact hj, fun q hq => ?_⟩
  rw [← e] at hq
  exact K.block q (h.lt q (h.inL _ (List.getElem_mem hjl) q hq)).2 (fun hs => h.ne hjl hk hne q hq (hS q hs))
theorem Oth.trans {lv' lv'' : List LV} {ℓ : Nat} (h : Oth w w' lv lv' ℓ) (h' : Oth w' w'' lv' lv'' ℓ) : Oth w w'' lv lv'' ℓ := fun k l hk hne => by
  obtain ⟨a1, a2⟩ := h k l hk hne
  obtain ⟨b1, b2⟩ := h' k l a1 hne
  exact ⟨b1, fun q hq => (b2 q hq).trans (a2 q hq)⟩
theorem Oth.of_kp {S : Nat → Prop} {ℓ : Nat} (h : HG w base g N len U T lv M deg) (K : Kp w w' S) (hS : ∀ l ∈ lv, ∀ q, l.Fp q → ¬ S q) : Oth w w' lv lv ℓ := fun k l hk hne =>
  ⟨hk, fun q hq => K.block q (h.lt q (h.inL l (List.mem_of_getElem? hk) q hq)).2 (hS l (List.mem_of_getElem? hk) q hq)⟩
theorem HG.look (h : HG w base g N len U T lv M deg) {p : Arc} (hp : okArc p) (c : Bool) : Sem.run P (Instr.lookup 70 (.map (some T.me)) (.agg #[.int .i64 p.1, .int .i64 p.2]) c) w = .ok (if c then .tuple #[.agg #[.int .i64 ((getK M p).getD (0, false)).1, .bool ((getK M p).getD (0, false)).2], .bool (getK M p).isSome] else .agg #[.int .i64 ((getK M p).getD (0, false)).1, .bool ((getK M p).getD (0, false)).2]) w := by
  have := h.ed.look keyP Try.underlying70 (zero_state w) hp c
  show Sem.run P (Instr.lookup 70 (.map (some T.me)) (arcV p) c) w = _
  rw [this]
  cases getK M p <;> cases c <;> rfl
/-- What keep comes to. -/
def KeepOk (w w' : World) (base g N len : Nat) (U : Nat → Prop) (lv : List LV) (M : EMap) (deg : List Int) (p : Arc) (ℓ : Nat) (t : Bool) : Prop :=
  ∃ T' lv' l', HG w' base g N len (extS U w w') T' lv' (updK M p ((ℓ : Int), t)) deg ∧ Kp w w' U ∧ Oth w w' lv lv' ℓ ∧ lv'[ℓ]? = some l' ∧ (∀ l, lv[ℓ]? = some l → SameL l l') ∧ lv.length ≤ lv'.length ∧ lv'.length ≤ max lv.length (ℓ + 1) ∧
    (∀ k, EL lv' k = EL lv k) ∧ (∀ k, TL lv' k = if k = ℓ ∧ t = true then setR (TL lv k) p.1 p.2 true else TL lv k) ∧ ∀ k, OL lv' k = if k = ℓ ∧ t = false then setR (OL lv k) p.1 p.2 true else OL lv k
theorem keep_calls (h : HG w base g N len U T lv M deg) (hb : base ≤ w.heap.size) {p : Arc} (hp : okArc p) {ℓ : Nat} (hℓ : ℓ ≤ lv.length) (t : Bool) (hl : lv.length ≤ 2 ^ 20) (hN : N ≤ 65536) (hlen : N ≤ len) :
    Calls P 63 #[.pointer (some ⟨g, 0, none⟩), .agg #[.int .i64 p.1, .int .i64 p.2], .agg #[.int .i64 (ℓ : Int), .bool t]] w fun ev w' => ev = .returned (.tuple #[]) ∧ KeepOk w w' base g N len U lv M deg p ℓ t := by
  apply vc63; unfold VC63; try (conv => zeta)
  have g1 := World.grownBy_alloc w (.cells #[.int .i64 p.1, .int .i64 p.2] 80) none
  have b1 := heap_alloc_new w (.cells #[.int .i64 p.1, .int .i64 p.2] 80)
  obtain ⟨w1, hw1⟩ : ∃ w1, w1 = w.alloc (.cells #[.int .i64 p.1, .int .i64 p.2] 80) := ⟨_, rfl⟩
  rw [← hw1] at g1 b1 ⊢
  have s1 : w1.heap.size = w.heap.size + 1 := by rw [hw1]; exact sz_alloc _ _
  have g2 := World.grownBy_alloc w1 (.cells #[.int .i64 (ℓ : Int), .bool t] 77) none
  have b2 := heap_alloc_new w1 (.cells #[.int .i64 (ℓ : Int), .bool t] 77)
  obtain ⟨w2, hw2⟩ : ∃ w2, w2 = w1.alloc (.cells #[.int .i64 (ℓ : Int), .bool t] 77) := ⟨_, rfl⟩
  rw [← hw2] at g2 b2 ⊢
  have s2 : w2.heap.size = w1.heap.size + 1 := by rw [hw2]; exact sz_alloc _ _
  have b1' := blk_keep b1 g2
  have b1d : w2.drew.heap[w.heap.size]? = _ := b1'
  have b2d : w2.drew.heap[w1.heap.size]? = _ := b2
  have g02 : w.grownBy w2.drew none := grown_drew (grown_trans g1 g2)
  obtain ⟨w3, hw3⟩ : ∃ w3, w3 = w2.drew := ⟨_, rfl⟩
  have s3 : w3.heap.size = w2.heap.size := by rw [hw3]; rfl
  rw [← hw3] at b1d b2d g02 ⊢
  have h3 := h.kept g02
  obtain ⟨w4, r1, r2, r3⟩ := h3.ed.update keyP Try.underlying70 hp (((ℓ : Int), t) : Sta)
  have K4 : Kp w3 w4 (fun q => some q = some T.me) := Kp.of_grown r3
  have s4 := K4.size
  have hme : T.me < w.heap.size := (h.lt _ (h.inT _ (.inr (.inl rfl)))).2
  have h4 := h3.edges (by omega) K4 r2
  have b1e : w4.heap[w.heap.size]? = some (.cells #[.int .i64 p.1, .int .i64 p.2] 80 (0, 0)) := by rw [K4.block _ (by omega) (fun e => absurd (Option.some.inj e) (by omega))]; exact b1d
  have b2e : w4.heap[w1.heap.size]? = some (.cells #[.int .i64 (ℓ : Int), .bool t] 77 (0, 0)) := by rw [K4.block _ (by omega) (fun e => absurd (Option.some.inj e) (by omega))]; exact b2d
  have O4 : Oth w w4 lv lv ℓ := Oth.of_kp (S := fun q => some q = some T.me) h ((Kp.of_none g02).then K4 (fun q _ e => e)) (fun l hl q hq e => h.top l hl q hq (.inr (.inl (by cases e; rfl))))
  have KU4 : Kp w w4 U := (Kp.of_none g02).then K4 (fun q _ e => by cases e; exact h.inT _ (.inr (.inl rfl)))
  refine ⟨_, rfl, T.me, by rw [add_blk]; exact blk_cell h3.blk 2, p.1, blk_cell b1d 0, p.2, blk_cell b1d 1, (ℓ : Int), blk_cell b2d 0, t, blk_cell b2d 1, w4, r1, (ℓ : Int), blk_cell b2e 0, ?_⟩
  refine (lat_calls h4 (by omega) hℓ hl hN hlen).mono fun ev w5 hh => ?_
  obtain ⟨l, rfl, hat⟩ := hh
  -- what at left
  obtain ⟨T5, lv5, h5, K5, O5, hl5, hold, hlen5, hlen5', e5, t5, o5⟩ : ∃ T5 lv5, HG w5 base g N len (extS U w w5) T5 lv5 (updK M p ((ℓ : Int), t)) deg ∧ Kp w w5 U ∧ Oth w w5 lv lv5 ℓ ∧ lv5[ℓ]? = some l ∧ (∀ l0, lv[ℓ]? = some l0 → l0 = l) ∧ lv.length ≤ lv5.length ∧ lv5.length ≤ max lv.length (ℓ + 1) ∧ (∀ k, EL lv5 k = EL lv k) ∧ (∀ k, TL lv5 k = TL lv k) ∧ ∀ k, OL lv5 k = OL lv k := by
    have h4' : HG w4 base g N len (extS U w w4) T lv (updK M p ((ℓ : Int), t)) deg := h4.wide (fun q hq => hq.imp id (fun e => ⟨by omega, e.2⟩)) (fun q hq => hq.elim (fun e => by have := h.lt q e; omega) (fun e => ⟨by omega, e.2⟩))
    rcases hat with ⟨a1, rfl⟩ | ⟨a1, a2, a3, a4, T', a5, a6⟩
    · exact ⟨T, lv, h4', KU4, O4, a1, fun l0 hl0 => by rw [a1] at hl0; cases hl0; rfl, Nat.le_refl _, by omega, fun _ => rfl, fun _ => rfl, fun _ => rfl⟩
    · refine ⟨T', lv ++ [l], ?_, KU4.then a6 (fun q hq e => h.inT q e), ?_, by rw [a1]; simp, fun l0 hl0 => ?_, by simp, by simp; omega, EL_push a2, TL_push a3, OL_push a4⟩
      · exact a5.wide (fun q hq => by
          rcases hq with (hq | hq) | hq
          · exact .inl hq
          · exact .inr ⟨by omega, by have := a6.size; omega⟩
          · exact .inr ⟨by omega, hq.2⟩) (fun q hq => by
          rcases hq with hq | hq
          · have := h.lt q hq; have := a6.size; omega
          · exact ⟨by omega, hq.2⟩)
      · intro k l0 hk hne
        obtain ⟨c1, c2⟩ := O4 k l0 hk hne
        have hkl := (List.getElem?_eq_some_iff.1 hk).1
        refine ⟨by rw [List.getElem?_append_left hkl]; exact c1, fun q hq => ?_⟩
        rw [a6.block q (by have := (h.lt q (h.inL l0 (List.mem_of_getElem? hk) q hq)).2; omega) (h.top l0 (List.mem_of_getElem? hk) q hq)]
        exact c2 q hq
      · have := (List.getElem?_eq_some_iff.1 hl0).1; omega
  have K45 : Kp w4 w5 (T.Own g) := by
    rcases hat with ⟨_, rfl⟩ | ⟨_, _, _, _, T', _, a6⟩
    · exact Kp.refl _ _
    · exact a6
  clear hat
  have s5 := K5.size
  have hlt5 := (List.getElem?_eq_some_iff.1 hl5).1
  have hel : lv5[ℓ] = l := (List.getElem?_eq_some_iff.1 hl5).2
  have hL5 := h5.lev l (List.mem_of_getElem? hl5)
  -- the two blocks of the arguments
  have far : ∀ q, q = w.heap.size ∨ q = w1.heap.size → ¬ U q := fun q hq e => by have := h.lt q e; omega
  have b1f : w5.heap[w.heap.size]? = some (.cells #[.int .i64 p.1, .int .i64 p.2] 80 (0, 0)) := by rw [K45.block _ (by omega) (fun e => far _ (.inl rfl) (h.inT _ e))]; exact b1e
  have b2f : w5.heap[w1.heap.size]? = some (.cells #[.int .i64 (ℓ : Int), .bool t] 77 (0, 0)) := by rw [K45.block _ (by omega) (fun e => far _ (.inr rfl) (h.inT _ e))]; exact b2e
  refine ⟨_, rfl, t, blk_cell b2f 1, ?_⟩
  have gd := grown_drew (grown_refl w5 none)
  have b1g : w5.drew.heap[w.heap.size]? = _ := b1f
  have h6 := h5.kept gd
  obtain ⟨w6, hw6⟩ : ∃ w6, w6 = w5.drew := ⟨_, rfl⟩
  have s6 : w6.heap.size = w5.heap.size := by rw [hw6]; rfl
  rw [← hw6] at b1g gd h6 ⊢
  have hL6 := h6.lev l (List.mem_of_getElem? hl5)
  have Kw6 : Kp w w6 U := K5.then (Kp.of_none (S := fun _ => False) gd) (fun _ _ e => e.elim)
  have O56 : Oth w w6 lv lv5 ℓ := fun k l0 hk hne => by
    obtain ⟨c1, c2⟩ := O5 k l0 hk hne
    exact ⟨c1, fun q hq => by rw [gd.block q (by have := (h.lt q (h.inL l0 (List.mem_of_getElem? hk) q hq)).2; omega) (by simp)]; exact c2 q hq⟩
  -- the last step
  have last : ∀ (W : World) (S : Nat → Prop) (l' : LV), Kp w6 W S → (∀ q, S q → l.Fp q) → LvAt W base N len l' → SameL l l' → (∀ q, l'.Fp q → extS l.Fp w6 W q) → l'.E = l.E → l'.TR = (if t = true then setR l.TR p.1 p.2 true else l.TR) → l'.OR = (if t = false then setR l.OR p.1 p.2 true else l.OR) → KeepOk w W base g N len U lv M deg p ℓ t := by
    intro W S l' K hS hL hs hF he ht ho
    have hS' : ∀ q, S q → (lv5[ℓ]).Fp q := by rw [hel]; exact hS
    have h7 := h6.lvl (by omega) hlt5 K hS' hL (by rw [hel]; exact hs.b) (by rw [hel]; exact hF)
    have O7 := h6.oth hlt5 K hS' l'
    have szW := K.size
    have hSU : ∀ q, q < w.heap.size → S q → U q := fun q hq hs' => by
      have := h5.inL l (List.mem_of_getElem? hl5) q (hS q hs')
      rcases this with e | e
      · exact e
      · omega
    refine ⟨T5, lv5.set ℓ l', l', ?_, Kw6.then K hSU, O56.trans O7, List.getElem?_set_self hlt5, fun l0 hl0 => by rw [hold l0 hl0]; exact hs, by simpa using hlen5, by simpa using hlen5', fun k => ?_, fun k => ?_, fun k => ?_⟩
    · exact h7.wide (fun q hq => by
        rcases hq with (hq | hq) | hq
        · exact .inl hq
        · exact .inr ⟨hq.1, by omega⟩
        · exact .inr ⟨by omega, hq.2⟩) (fun q hq => by
        rcases hq with hq | hq
        · have := h.lt q hq; omega
        · exact ⟨by omega, hq.2⟩)
    · rw [EL_set hlt5, ← e5 k]
      by_cases e : k = ℓ
      · subst e; rw [if_pos rfl, he, EL_some hl5]
      · rw [if_neg e]
    · rw [TL_set hlt5, ← t5 k]
      by_cases e : k = ℓ
      · subst e; rw [if_pos rfl, ht, TL_some hl5]; simp
      · rw [if_neg e, if_neg (fun h => e h.1)]
    · rw [OL_set hlt5, ← o5 k]
      by_cases e : k = ℓ
      · subst e; rw [if_pos rfl, ho, OL_some hl5]; simp
      · rw [if_neg e, if_neg (fun h => e h.1)]
  refine ⟨fun ht => ⟨_, rfl, l.t, by rw [add_blk]; exact blk_cell hL6.blk 1, p.1, blk_cell b1g 0, p.2, blk_cell b1g 1, (nset_calls hL6.tr hp.1 hp.2 true).mono fun ev w7 hh => ?_⟩, fun ht => ⟨_, rfl, l.o, by rw [add_blk]; exact blk_cell hL6.blk 2, p.1, blk_cell b1g 0, p.2, blk_cell b1g 1, (nset_calls hL6.ot hp.1 hp.2 true).mono fun ev w7 hh => ?_⟩⟩
  · obtain ⟨rfl, O', n7, K7, sub, _⟩ := hh
    refine ⟨rfl, rfl, last w7 l.TF _ K7 (fun q hq => .inr (.inr (.inl hq))) (hL6.tree K7 n7) ⟨rfl, rfl, rfl, rfl, sub, fun _ h => h⟩ (fun q hq => ?_) rfl (by rw [if_pos ht]) (by rw [if_neg (by rw [ht]; simp)])⟩
    rcases hq with hq | hq | hq | hq
    · exact .inl (.inl hq)
    · exact .inl (.inr (.inl hq))
    · exact hq.imp (fun e => .inr (.inr (.inl e))) id
    · exact .inl (.inr (.inr (.inr hq)))
  · obtain ⟨rfl, O', n7, K7, sub, _⟩ := hh
    refine ⟨rfl, rfl, last w7 l.OF _ K7 (fun q hq => .inr (.inr (.inr hq))) (hL6.other K7 n7) ⟨rfl, rfl, rfl, rfl, fun _ h => h, sub⟩ (fun q hq => ?_) rfl (by rw [if_neg (by rw [ht]; simp)]) (by rw [if_pos ht])⟩
    rcases hq with hq | hq | hq | hq
    · exact .inl (.inl hq)
    · exact .inl (.inr (.inl hq))
    · exact .inl (.inr (.inr (.inl hq)))
    · exact hq.imp (fun e => .inr (.inr (.inr e))) id
end
end Go.Proofs.Ytpfkpmapimonbaa

/-! hdt.Graph.lose: the walk. -/
namespace Go.Proofs.Ytpfkpmapimonbaa
open Go Go.V Go.RowKit
set_option linter.unusedVariables false
set_option linter.unusedSimpArgs false
set_option maxHeartbeats 8000000
set_option maxRecDepth 100000

section
variable {w w' w'' : World} {base g N len : Nat} {U : Nat → Prop} {T : Tp} {lv : List LV} {M : EMap} {deg : List Int}
/-- A level that is there. -/
theorem lat_old (h : HG w base g N len U T lv M deg) (hb : base ≤ w.heap.size) {i : Nat} {l : LV} (hi : lv[i]? = some l) (hl : lv.length ≤ 2 ^ 20) (hN : N ≤ 65536) (hlen : N ≤ len) :
    Calls P 60 #[.pointer (some ⟨g, 0, none⟩), .int .i64 (i : Int)] w fun ev w' => ev = .returned (.pointer (some ⟨l.b, 0, none⟩)) ∧ w' = w := by
  have hlt := (List.getElem?_eq_some_iff.1 hi).1
  refine (lat_calls h hb (by omega) hl hN hlen).mono fun ev w' hh => ?_
  obtain ⟨l', rfl, ⟨h1, rfl⟩ | ⟨h1, _⟩⟩ := hh
  · rw [hi] at h1; cases h1; exact ⟨rfl, rfl⟩
  · omega
/-- What lose comes to. -/
def LoseOk (w w' : World) (base g N len : Nat) (U : Nat → Prop) (T : Tp) (lv : List LV) (M : EMap) (deg : List Int) (p : Arc) (ℓ : Nat) : Prop :=
  ∃ lv' l l', HG w' base g N len (extS U w w') T lv' (delK M p) deg ∧ Kp w w' U ∧ Oth w w' lv lv' ℓ ∧ lv[ℓ]? = some l ∧ lv'[ℓ]? = some l' ∧ SameL l l' ∧ lv'.length = lv.length ∧
    (∀ k, EL lv' k = EL lv k) ∧ (∀ k, TL lv' k = if k = ℓ then setR (TL lv k) p.1 p.2 false else TL lv k) ∧ (∀ k, OL lv' k = if k = ℓ then setR (OL lv k) p.1 p.2 false else OL lv k) ∧
    (∀ q ∈ l.TO, ShM w w' q.2) ∧ ∀ q ∈ l.OO, ShM w w' q.2
theorem lose_calls (h : HG w base g N len U T lv M deg) (hb : base ≤ w.heap.size) {p : Arc} (hp : okArc p) {ℓ : Nat} {t : Bool} (hM : getK M p = some ((ℓ : Int), t)) (hℓ : ℓ < lv.length) (hl : lv.length ≤ 2 ^ 20) (hN : N ≤ 65536) (hlen : N ≤ len) :
    Calls P 65 #[.pointer (some ⟨g, 0, none⟩), .agg #[.int .i64 p.1, .int .i64 p.2]] w fun ev w' => ev = .returned (.agg #[.int .i64 (ℓ : Int), .bool t]) ∧ LoseOk w w' base g N len U T lv M deg p ℓ := by
  apply vc65; unfold VC65; try (conv => zeta)
  have g1 := World.grownBy_alloc w (.cells #[.int .i64 p.1, .int .i64 p.2] 80) none
  have b1 := heap_alloc_new w (.cells #[.int .i64 p.1, .int .i64 p.2] 80)
  have s1 := sz_alloc w (.cells #[.int .i64 p.1, .int .i64 p.2] 80)
  obtain ⟨w1, hw1⟩ : ∃ w1, w1 = w.alloc (.cells #[.int .i64 p.1, .int .i64 p.2] 80) := ⟨_, rfl⟩
  rw [← hw1] at g1 b1 s1 ⊢
  have g2 := World.grownBy_alloc w1 (.cells #[.int .i64 0, .bool false] 77) none
  have b2 := heap_alloc_new w1 (.cells #[.int .i64 0, .bool false] 77)
  have s2 := sz_alloc w1 (.cells #[.int .i64 0, .bool false] 77)
  obtain ⟨w2, hw2⟩ : ∃ w2, w2 = (w1.alloc (.cells #[.int .i64 0, .bool false] 77)).drew := ⟨_, rfl⟩
  have g2' : w1.grownBy w2 none := by rw [hw2]; exact grown_drew g2
  have s2' : w2.heap.size = w1.heap.size + 1 := by rw [hw2]; exact s2
  have b2' : w2.heap[w1.heap.size]? = some (.cells #[.int .i64 0, .bool false] 77 (0, 0)) := by rw [hw2]; exact b2
  rw [← hw2]
  clear g2 b2 s2
  have b1' := blk_keep b1 g2'
  have h2 := h.kept (grown_trans g1 g2')
  have g3 := World.grownBy_alloc w2 (.cells #[.int .i64 0, .bool false] 77) none
  have b3 := heap_alloc_new w2 (.cells #[.int .i64 0, .bool false] 77)
  have s3 := sz_alloc w2 (.cells #[.int .i64 0, .bool false] 77)
  have q1 := blk_set b3 0 (.int .i64 (ℓ : Int))
  have q2 := blk_set q1 1 (.bool t)
  have gS : w2.grownBy (((w2.alloc (.cells #[.int .i64 0, .bool false] 77)).setCell ⟨w2.heap.size, 0, none⟩ (.int .i64 (ℓ : Int))).setCell ⟨w2.heap.size, 1, none⟩ (.bool t)) none := (kset (kset (Kp.of_none (S := fun q => w2.heap.size ≤ q) g3) (Nat.le_refl _)) (Nat.le_refl _)).grown (fun q hq e => by omega)
  have sS : (((w2.alloc (.cells #[.int .i64 0, .bool false] 77)).setCell ⟨w2.heap.size, 0, none⟩ (.int .i64 (ℓ : Int))).setCell ⟨w2.heap.size, 1, none⟩ (.bool t)).heap.size = w2.heap.size + 1 := by
    have e1 := (kset (j := 0) (u := .int .i64 (ℓ : Int)) (Kp.refl (w2.alloc (.cells #[.int .i64 0, .bool false] 77)) (fun q => q = w2.heap.size)) rfl)
    simp [World.setCell, s3]
  have lk := h2.look hp false
  simp only [hM, Option.getD_some, Bool.false_eq_true, if_false] at lk
  refine ⟨fun W => w2.grownBy W none, grown_refl _ _, _, rfl, T.me, fun wq hq => by rw [add_blk]; exact blk_cell (h2.kept hq).blk 2, p.1, fun wq hq => blk_cell (blk_keep b1' hq) 0, p.2, fun wq hq => blk_cell (blk_keep b1' hq) 1, (ℓ : Int), t, fun wq hq => ?_, g3, ⟨_, blk_cell b3 0⟩, blk_free b3 0, ⟨_, blk_cell q1 1⟩, blk_free q1 1, gS, ?_⟩
  · have := (h2.kept hq).look hp false
    simpa [hM] using this
  obtain ⟨w3, hw3⟩ : ∃ w3, w3 = (((w2.alloc (.cells #[.int .i64 0, .bool false] 77)).setCell ⟨w2.heap.size, 0, none⟩ (.int .i64 (ℓ : Int))).setCell ⟨w2.heap.size, 1, none⟩ (.bool t)).drew := ⟨_, rfl⟩
  have g3' : w2.grownBy w3 none := by rw [hw3]; exact grown_drew gS
  have b3' : w3.heap[w2.heap.size]? = some (.cells #[.int .i64 (ℓ : Int), .bool t] 77 (0, 0)) := by rw [hw3]; exact q2
  have s3' : w3.heap.size = w2.heap.size + 1 := by rw [hw3]; exact sS
  rw [← hw3]
  clear gS sS q1 q2 b3 g3 s3 lk
  have g03 := grown_trans g1 (grown_trans g2' g3')
  have h3 := h.kept g03
  have c1 := blk_keep b1' g3'
  have c2 := blk_keep b2' g3'
  obtain ⟨w4, r1, r2, r3⟩ := h3.ed.strike keyP Try.underlying70 hp 0
  have K4 : Kp w3 w4 (fun q => some q = some T.me) := Kp.of_grown r3
  have hmeU := h.inT _ (.inr (.inl rfl) : T.Own g T.me)
  have hme := (h.lt _ hmeU).2
  have h4 := h3.edges (by omega) K4 r2
  refine ⟨_, rfl, T.me, by rw [add_blk]; exact blk_cell h3.blk 2, p.1, blk_cell c1 0, p.2, blk_cell c1 1, w4, r1, ?_⟩
  have sz4 := K4.size
  -- blocks that are no graph's
  have gd4 := grown_drew (grown_refl w4 none)
  have h4' := h4.kept gd4
  have K04 : Kp w w4.drew U := ((Kp.of_none (S := U) g03).then K4 (fun q _ e => by cases e; exact hmeU)).then (Kp.of_none (S := fun _ => False) gd4) (fun _ _ e => e.elim)
  have K34 : Kp w3 w4.drew (fun q => some q = some T.me) := K4.then (Kp.of_none (S := fun _ => False) gd4) (fun _ _ e => e.elim)
  obtain ⟨w5, hw5⟩ : ∃ w5, w5 = w4.drew := ⟨_, rfl⟩
  have s5 : w5.heap.size = w4.heap.size := by rw [hw5]; rfl
  rw [← hw5] at h4' K04 K34 ⊢
  have O4 : Oth w w5 lv lv ℓ := Oth.of_kp (S := fun q => some q = some T.me) h ((Kp.of_none g03).then K34 (fun q _ e => e)) (fun l hl q hq e => h.top l hl q hq (.inr (.inl (by cases e; rfl))))
  obtain ⟨l, hlv⟩ : ∃ l, lv[ℓ]? = some l := ⟨lv[ℓ], by simp [hℓ]⟩
  have hel : lv[ℓ] = l := (List.getElem?_eq_some_iff.1 hlv).2
  have hml := List.mem_of_getElem? hlv
  have same5 : ∀ q, l.Fp q → w5.heap[q]? = w.heap[q]? := fun q hq => ((Kp.of_none (S := fun q => some q = some T.me) g03).then K34 (fun q _ e => e)).block q (h.lt q (h.inL l hml q hq)).2 (fun e => h.top l hml q hq (.inr (.inl (by cases e; rfl))))
  -- the walk keeps what is no block of the graph
  have tmp : ∀ W, Kp w5 W (extS U w3 w4) → ∀ q o, q < w3.heap.size → ¬ U q → w3.heap[q]? = some o → W.heap[q]? = some o := fun W hK q o hq hU ho => by
    rw [hK.block q (by omega) (fun e => e.elim hU (fun e => by omega)), K34.block q hq (fun e => hU (by cases e; exact hmeU))]; exact ho
  have nU : ∀ q, w.heap.size ≤ q → ¬ U q := fun q hq e => by have := (h.lt q e).2; omega
  have d1 : ∀ W, Kp w5 W (extS U w3 w4) → W.heap[w.heap.size]? = some (.cells #[.int .i64 p.1, .int .i64 p.2] 80 (0, 0)) := fun W hK => tmp W hK _ _ (by omega) (nU _ (Nat.le_refl _)) c1
  have d2 : ∀ W, Kp w5 W (extS U w3 w4) → W.heap[w1.heap.size]? = some (.cells #[.int .i64 0, .bool false] 77 (0, 0)) := fun W hK => tmp W hK _ _ (by omega) (nU _ (by omega)) c2
  have d3 : ∀ W, Kp w5 W (extS U w3 w4) → W.heap[w2.heap.size]? = some (.cells #[.int .i64 (ℓ : Int), .bool t] 77 (0, 0)) := fun W hK => tmp W hK _ _ (by omega) (nU _ (by omega)) b3'
  obtain ⟨U4, hU4⟩ : ∃ U4, U4 = extS U w3 w4 := ⟨_, rfl⟩
  rw [← hU4] at h4' d1 d2 d3
  have U4w : ∀ q, q < w.heap.size → U4 q → U q := fun q hq e => by rw [hU4] at e; exact e.elim id (fun e => by omega)
  have hL4 := h4'.lev l hml
  refine ⟨fun W => Kp w5 W U4, Kp.refl _ _, (ℓ : Int), blk_cell (d3 _ (Kp.refl _ _)) 0, (lat_old h4' (by omega) hlv hl hN hlen).mono fun ev w6 hh => ?_⟩
  obtain ⟨rfl, rfl⟩ := hh
  refine ⟨_, rfl, Kp.refl _ _, _, rfl, l.t, by rw [add_blk]; exact blk_cell hL4.blk 1, p.1, fun wq hq => blk_cell (d1 wq hq) 0, p.2, fun wq hq => blk_cell (d1 wq hq) 1, (nset_calls hL4.tr hp.1 hp.2 false).mono fun ev w7 hh => ?_⟩
  obtain ⟨rfl, O7, n7, K7, sub7, sh7⟩ := hh
  have hlv4 : l.TF = (lv[ℓ]).TF := by rw [hel]
  have L7 := hL4.tree K7 n7
  have fp7 : ∀ q, LV.Fp { l with TF := extS l.TF w6 w7, TO := O7, TR := setR l.TR p.1 p.2 false } q → extS (lv[ℓ]).Fp w6 w7 q := fun q hq => by
    rw [hel]
    rcases hq with hq | hq | hq | hq
    · exact .inl (.inl hq)
    · exact .inl (.inr (.inl hq))
    · exact hq.imp (fun e => .inr (.inr (.inl e))) id
    · exact .inl (.inr (.inr (.inr hq)))
  have h7 := h4'.lvl (by omega) hℓ K7 (fun q hq => by rw [hel]; exact .inr (.inr (.inl hq))) L7 (by rw [hel]) fp7
  have O47 := h4'.oth hℓ K7 (fun q hq => by rw [hel]; exact .inr (.inr (.inl hq))) { l with TF := extS l.TF w6 w7, TO := O7, TR := setR l.TR p.1 p.2 false }
  have K7U : Kp w6 w7 U4 := K7.mono fun q _ hq => h4'.inL l hml q (.inr (.inr (.inl hq)))
  have sz7 := K7.size
  refine ⟨by trivial, K7U, ?_⟩
  obtain ⟨l7, hl7⟩ : ∃ l7, l7 = { l with TF := extS l.TF w6 w7, TO := O7, TR := setR l.TR p.1 p.2 false } := ⟨_, rfl⟩
  have f7 : l7.b = l.b ∧ l7.t = l.t ∧ l7.o = l.o ∧ l7.f = l.f ∧ l7.OO = l.OO ∧ l7.OR = l.OR ∧ l7.E = l.E ∧ l7.TO = O7 ∧ l7.TR = setR l.TR p.1 p.2 false ∧ l7.OF = l.OF := by subst hl7; exact ⟨rfl, rfl, rfl, rfl, rfl, rfl, rfl, rfl, rfl, rfl⟩
  rw [← hl7] at L7 h7 O47 fp7
  have ls7 : ℓ < (lv.set ℓ l7).length := by simpa using hℓ
  have hl7s : (lv.set ℓ l7)[ℓ]? = some l7 := List.getElem?_set_self hℓ
  have hel7 : (lv.set ℓ l7)[ℓ] = l7 := (List.getElem?_eq_some_iff.1 hl7s).2
  have gd7 := grown_drew (grown_refl w7 none)
  have h7' := h7.kept gd7
  have K7d : Kp w6 w7.drew U4 := K7U.then (Kp.of_none (S := fun _ => False) gd7) (fun _ _ e => e.elim)
  have e8 : ∀ q : Nat, w7.drew.heap[q]? = w7.heap[q]? := fun q => rfl
  obtain ⟨w8, hw8⟩ : ∃ w8, w8 = w7.drew := ⟨_, rfl⟩
  have s8 : w8.heap.size = w7.heap.size := by rw [hw8]; rfl
  rw [← hw8] at h7' K7d gd7 e8 ⊢
  have hL8 := h7'.lev l7 (List.mem_of_getElem? hl7s)
  refine ⟨fun W => Kp w6 W (extS U4 w6 w7), K7d.mono (fun q _ e => .inl e), (ℓ : Int), blk_cell (d3 _ K7d) 0, (lat_old h7' (by omega) hl7s (by simpa using hl) hN hlen).mono fun ev w9 hh => ?_⟩
  obtain ⟨rfl, rfl⟩ := hh
  have dd1 : ∀ W, Kp w6 W (extS U4 w6 w7) → W.heap[w.heap.size]? = some (.cells #[.int .i64 p.1, .int .i64 p.2] 80 (0, 0)) := fun W hK => d1 W (hK.mono fun q hq e => e.elim id (fun e => by omega))
  refine ⟨_, rfl, K7d.mono (fun q _ e => .inl e), _, rfl, l7.o, by rw [add_blk]; exact blk_cell hL8.blk 2, p.1, fun wq hq => blk_cell (dd1 wq hq) 0, p.2, fun wq hq => blk_cell (dd1 wq hq) 1, (nset_calls hL8.ot hp.1 hp.2 false).mono fun ev w10 hh => ?_⟩
  obtain ⟨rfl, O10, n10, K10, sub10, sh10⟩ := hh
  have L10 := hL8.other K10 n10
  have fp10 : ∀ q, LV.Fp { l7 with OF := extS l7.OF w9 w10, OO := O10, OR := setR l7.OR p.1 p.2 false } q → extS ((lv.set ℓ l7)[ℓ]).Fp w9 w10 q := fun q hq => by
    rw [hel7]
    rcases hq with hq | hq | hq | hq
    · exact .inl (.inl hq)
    · exact .inl (.inr (.inl hq))
    · exact .inl (.inr (.inr (.inl hq)))
    · exact hq.imp (fun e => .inr (.inr (.inr e))) id
  have h10 := h7'.lvl (by omega) ls7 K10 (fun q hq => by rw [hel7]; exact .inr (.inr (.inr hq))) L10 (by rw [hel7]) fp10
  have O810 := h7'.oth ls7 K10 (fun q hq => by rw [hel7]; exact .inr (.inr (.inr hq))) { l7 with OF := extS l7.OF w9 w10, OO := O10, OR := setR l7.OR p.1 p.2 false }
  have sz10 := K10.size
  have K10U : Kp w9 w10 (extS U4 w6 w7) := K10.mono fun q _ hq => h7'.inL l7 (List.mem_of_getElem? hl7s) q (.inr (.inr (.inr hq)))
  have K610 : Kp w6 w10 U4 := K7d.then K10U (fun q hq e => e.elim id (fun e => by omega))
  obtain ⟨l10, hl10⟩ : ∃ l10, l10 = { l7 with OF := extS l7.OF w9 w10, OO := O10, OR := setR l7.OR p.1 p.2 false } := ⟨_, rfl⟩
  have f10 : l10.b = l7.b ∧ l10.t = l7.t ∧ l10.o = l7.o ∧ l10.f = l7.f ∧ l10.TO = l7.TO ∧ l10.TR = l7.TR ∧ l10.E = l7.E ∧ l10.OO = O10 ∧ l10.OR = setR l7.OR p.1 p.2 false := by subst hl10; exact ⟨rfl, rfl, rfl, rfl, rfl, rfl, rfl, rfl, rfl⟩
  rw [← hl10] at L10 h10 O810 fp10
  have hd3 := d3 w10 K610
  have hd2 := d2 w10 K610
  have t1 := blk_set hd2 0 (.int .i64 (ℓ : Int))
  have t2 := blk_set t1 1 (.bool t)
  refine ⟨by trivial, K610.mono (fun q _ e => .inl e), (ℓ : Int), blk_cell hd3 0, t, blk_cell hd3 1, ⟨_, blk_cell hd2 0⟩, blk_free hd2 0, ⟨_, blk_cell t1 1⟩, blk_free t1 1, (ℓ : Int), blk_cell t2 0, t, blk_cell t2 1, rfl, ?_⟩
  have KE : Kp w10 ((w10.setCell ⟨w1.heap.size, 0, none⟩ (.int .i64 (ℓ : Int))).setCell ⟨w1.heap.size, 1, none⟩ (.bool t)) (fun q => q = w1.heap.size) := kset (kset (Kp.refl _ _) rfl) rfl
  obtain ⟨w11, hw11⟩ : ∃ w11, w11 = (w10.setCell ⟨w1.heap.size, 0, none⟩ (.int .i64 (ℓ : Int))).setCell ⟨w1.heap.size, 1, none⟩ (.bool t) := ⟨_, rfl⟩
  rw [← hw11] at KE ⊢
  have sz11 := KE.size
  have nU4 : ¬ U4 w1.heap.size := fun e => by rw [hU4] at e; exact e.elim (nU _ (by omega)) (fun e => by omega)
  have h11 := h10.kp KE (fun q hq e => by
    subst e
    rcases hq with (hq | hq) | hq
    · exact nU4 hq
    · omega
    · omega)
  have K5 : Kp w w11 U := (K04.then K610 U4w).then KE (fun q hq e => by omega)
  have oE : Oth w10 w11 ((lv.set ℓ l7).set ℓ l10) ((lv.set ℓ l7).set ℓ l10) ℓ := Oth.of_kp h10 KE (fun l' hl' q hq e => by
    subst e
    have := h10.inL l' hl' _ hq
    rcases this with (hq | hq) | hq
    · exact nU4 hq
    · omega
    · omega)
  have O78 : Oth w7 w9 (lv.set ℓ l7) (lv.set ℓ l7) ℓ := fun k l' hk _ => ⟨hk, fun q _ => e8 q⟩
  refine ⟨(lv.set ℓ l7).set ℓ l10, l, l10, h11.wide (fun q hq => ?_) (fun q hq => ?_), K5, (((O4.trans O47).trans O78).trans O810).trans oE, hlv, List.getElem?_set_self ls7, ⟨by rw [f10.1, f7.1], by rw [f10.2.2.2.1, f7.2.2.2.1], by rw [f10.2.1, f7.2.1], by rw [f10.2.2.1, f7.2.2.1], fun q hq => ?_, fun q hq => ?_⟩, by simp, fun k => ?_, fun k => ?_, fun k => ?_, fun q hq => ?_, fun q hq => ?_⟩
  · rcases hq with (hq | hq) | hq
    · rw [hU4] at hq
      exact hq.imp id (fun e => ⟨by omega, by omega⟩)
    · exact .inr ⟨by omega, by omega⟩
    · exact .inr ⟨by omega, by omega⟩
  · rcases hq with hq | hq
    · have := h.lt q hq; omega
    · exact ⟨by omega, hq.2⟩
  · rw [f10.2.2.2.2.1, f7.2.2.2.2.2.2.2.1]; exact sub7 q hq
  · rw [f10.2.2.2.2.2.2.2.1]; exact sub10 q (by rw [f7.2.2.2.2.1]; exact hq)
  · rw [EL_set ls7, EL_set hℓ]
    by_cases e : k = ℓ
    · subst e; rw [if_pos rfl, f10.2.2.2.2.2.2.1, f7.2.2.2.2.2.2.1, EL_some hlv]
    · rw [if_neg e, if_neg e]
  · rw [TL_set ls7, TL_set hℓ]
    by_cases e : k = ℓ
    · subst e; rw [if_pos rfl, if_pos rfl, f10.2.2.2.2.2.1, f7.2.2.2.2.2.2.2.2.1, TL_some hlv]
    · rw [if_neg e, if_neg e, if_neg e]
  · rw [OL_set ls7, OL_set hℓ]
    by_cases e : k = ℓ
    · subst e; rw [if_pos rfl, if_pos rfl, f10.2.2.2.2.2.2.2.2, f7.2.2.2.2.2.1, OL_some hlv]
    · rw [if_neg e, if_neg e, if_neg e]
  · have hqF := (hL4.tr.qF q hq).1
    have hne : ¬ l7.OF q.2 := by rw [f7.2.2.2.2.2.2.2.2.2]; exact hL4.d3 _ hqF
    have hq5 := h4'.lt _ (h4'.inL l hml _ (.inr (.inr (.inl hqF))))
    have hqw := (h.lt _ (h.inL l hml _ (.inr (.inr (.inl hqF))))).2
    exact ((((ShM.of_eq (same5 _ (.inr (.inr (.inl hqF))))).trans (sh7 rfl q hq)).trans (ShM.of_eq (e8 _))).trans (ShM.of_kp K10 hne)).trans (ShM.of_kp KE (fun e => by omega))
  · have hqF := (hL4.ot.qF q hq).1
    have hne : ¬ l.TF q.2 := fun e => hL4.d3 _ e hqF
    have hqw := (h.lt _ (h.inL l hml _ (.inr (.inr (.inr hqF))))).2
    exact ((((ShM.of_eq (same5 _ (.inr (.inr (.inr hqF))))).trans (ShM.of_kp K7 hne)).trans (ShM.of_eq (e8 _))).trans (sh10 rfl q (by rw [f7.2.2.2.2.1]; exact hq))).trans (ShM.of_kp KE (fun e => by omega))
end
end Go.Proofs.Ytpfkpmapimonbaa
