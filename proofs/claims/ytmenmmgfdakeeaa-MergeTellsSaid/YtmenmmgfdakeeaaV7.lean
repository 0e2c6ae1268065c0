/- The own library V, part 7: a function's whole text: what must hold for a call of it to come to an end as told. -/
import Derived.Test.YtmenmmgfdakeeaaV6
import Derived.Test.YtmenmmgfdakeeaaVX
import Derived.Deep.LoopGhost
namespace Go.V

structure Cx where
  P : Program
  T : Tys
  fs : List Nat
  n : Nat

/-- A region's notes: which operations wrap; which loads are asked in the whole class; what waits for what. -/
structure Ra where
  wr : List Nat
  ql : List Nat
  waits : Waits

inductive Sk where
  | reg (a : Ra)
  | regX (a : Ra) (t : XT)
  | seq (x y : Sk)
  | cond (x y : Sk)
  | join (J : List (Nat × Sh)) (W : List Nat) (x : Sk)
  | block (x : Sk)
  | loop (J : List (Nat × Sh)) (W : List Nat) (x : Sk)
  | leaf

def intLike : Option TE → Bool
  | some ⟨.int _, _, _, _, _⟩ => true
  | _ => false
def strLike : Option TE → Bool
  | some ⟨.str, _, _, _, _⟩ => true
  | _ => false
def sliceLike : Option TE → Bool
  | some ⟨.slice _, _, _, _, _⟩ => true
  | _ => false
def mapLike : Option TE → Bool
  | some ⟨.map _ _, _, _, _, _⟩ => true
  | _ => false

def kindOf (T : Tys) (o : Oper) : Nat :=
  match o.op with
  | .load .. | .lookup .. => 1
  | .move _ | .assign _ | .pick .. | .nilCheck _ | .binOp .. | .unOp .. | .fieldAddr .. | .field .. | .indexAddr .. | .index .. | .slice .. | .build .. | .makeFunc .. | .extract .. | .makeInterface .. => 0
  | .convert src dst _ => if intLike (tf T src) && intLike (tf T dst) || strLike (tf T src) && strLike (tf T dst) then 0 else if sliceLike (tf T src) && strLike (tf T dst) then 1 else 2
  | .call { callee := .builtin .len, argTypes, .. } => (match argTypes[0]? with
    | some t => if mapLike (tf T t) then 1 else 0
    | none => 2)
  | .call { callee := .builtin .max, .. } | .call { callee := .builtin .min, .. } => 0
  | _ => 2

def kinds (T : Tys) (ql : List Nat) (ops : List Oper) : Kinds := fun i =>
  match ops[i]? with
  | some o => let k := kindOf T o; bif ql.contains i && Nat.beq k 1 then 0 else k
  | none => 2

def vput (n : Nat) (F : Fr) (dst : Option Tmp) (s : SV) (K : Fr → Prop) : Prop :=
  match dst with
  | none => K F
  | some d => bif Nat.blt d n then K (upd F d s) else False

/-- The class of worlds, where one is wanted. -/
def inC (C : Option (World → Prop)) (w : World) (φ : Prop) : Prop :=
  match C with
  | none => φ
  | some C => C w ∧ φ

def clsOf (C : Option (World → Prop)) : World → Prop :=
  match C with
  | none => fun _ => True
  | some C => C

def vone (cx : Cx) (wr : Bool) (m : Nat) (C : Option (World → Prop)) (o : Oper) (F : Fr) (w : World) (K : Fr → World → Prop) : Prop :=
  match kindOf cx.T o with
  | 0 => vpure cx.P cx.T wr o F fun s => vput cx.n F o.dst s fun F' => K F' w
  | 1 => vread cx.P cx.T o F (Dm m (clsOf C) w) fun s => vput cx.n F o.dst s fun F' => K F' w
  | _ => vact cx.P cx.T cx.fs o F w fun s w' => inC C w' (vput cx.n F o.dst s fun F' => K F' w')

def vops (cx : Cx) (a : Ra) (C : Option (World → Prop)) (ops : List Oper) : List (Nat × Oper) → Fr → World → (Fr → World → Prop) → Prop
  | [], F, w, K => K F w
  | (i, o) :: r, F, w, K =>
    let go (F : Fr) : Prop := vone cx (a.wr.contains i) (bif a.ql.contains i then 0 else 1) C o F w fun F' w' => vops cx a C ops r F' w' K
    let skip (F : Fr) : Prop := vput cx.n F o.dst (.v undef) fun F' => vops cx a C ops r F' w K
    match o.guard with
    | none => go F
    | some (j, want) => (match (ops[j]?).bind (·.dst) with
      | none => False
      | some t => bif Nat.blt t cx.n then (match F t with
        | .v (.bool true) => bif want then go F else skip F
        | .v (.bool false) => bif want then skip F else go F
        | .v (.tuple _) => skip F
        | .b c => (c = true → bif want then go (upd F t (.v (.bool true))) else skip (upd F t (.v (.bool true)))) ∧ (c = false → bif want then skip (upd F t (.v (.bool false))) else go (upd F t (.v (.bool false))))
        | .p q _ => (q → bif want then go (upd F t (.v (.bool true))) else skip (upd F t (.v (.bool true)))) ∧ (¬ q → bif want then skip (upd F t (.v (.bool false))) else go (upd F t (.v (.bool false))))
        | _ => False) else False)

def vreg (cx : Cx) (a : Ra) (ops : List Oper) (draw : Bool) (F : Fr) (w : World) (K : Fr → World → Prop) : Prop :=
  bif draw then
    bif mixB ops (kinds cx.T a.ql ops) a.waits then
      (match a.ql with
      | [] => vops cx a none ops (enum 0 ops) F w.drew K
      | _ => ∃ C : World → Prop, C w.drew ∧ vops cx a (some C) ops (enum 0 ops) F w.drew K)
    else False
  else vops cx a none ops (enum 0 ops) F w K

def vxt (cx : Cx) (a : Ra) (C : Option (World → Prop)) (ops : List Oper) (F : Fr) (w : World) (K : Fr → World → Prop) : XT → Prop
  | .leaf L => vops cx a C ops (pick ops L) F w K
  | .split _ _ x y => vxt cx a C ops F w K x ∧ vxt cx a C ops F w K y

def vregX (cx : Cx) (a : Ra) (t : XT) (ops : List Oper) (draw : Bool) (F : Fr) (w : World) (K : Fr → World → Prop) : Prop :=
  bif draw then
    bif mixX ops (kinds cx.T a.ql ops) a.waits t then
      (match a.ql with
      | [] => vxt cx a none ops F w.drew K t
      | _ => ∃ C : World → Prop, C w.drew ∧ vxt cx a (some C) ops F w.drew K t)
    else False
  else False

section
variable {cx : Cx} {F : Fr} {a : Act} {w : World}

structure St (cx : Cx) (F : Fr) (a : Act) : Prop where
  ag : Ag F a
  size : a.tmps.size = cx.n
  defers : a.defers = []

theorem size_put (a : Act) (d : Option Tmp) (v : Value) : (a.put d v).tmps.size = a.tmps.size := by cases d <;> simp [Act.put]
theorem defers_put (a : Act) (d : Option Tmp) (v : Value) : (a.put d v).defers = a.defers := by cases d <;> rfl

theorem vput_spec (hS : St cx F a) {d : Option Tmp} {s : SV} {v : Value} (hs : AgV s v) {K : Fr → Prop} (h : vput cx.n F d s K) : ∃ F', St cx F' (a.put d v) ∧ K F' := by
  cases d with
  | none => exact ⟨F, hS, h⟩
  | some d =>
    simp only [vput] at h
    cases hb : Nat.blt d cx.n with
    | false => rw [hb] at h; exact h.elim
    | true =>
      rw [hb] at h
      have hd : d < cx.n := by simpa [Nat.blt_eq] using hb
      exact ⟨_, ⟨hS.ag.put hS.size hd hs, by rw [size_put]; exact hS.size, by rw [defers_put]; exact hS.defers⟩, h⟩

theorem St.known (hS : St cx F a) {t : Nat} {c : Bool} (h : AgV (.v (.bool c)) (a.tmps.getD t undef)) : St cx (upd F t (.v (.bool c))) a := by
  refine ⟨fun u => ?_, hS.size, hS.defers⟩
  unfold upd
  cases hb : Nat.beq u t with
  | true =>
    have : u = t := Nat.eq_of_beq_eq_true hb
    subst this
    exact h
  | false => exact hS.ag u

theorem vone_spec (hT : TOk cx.P cx.T) (hfs : FOk cx.P cx.fs) (hS : St cx F a) {wr : Bool} {m k : Nat} {C : Option (World → Prop)} {ops : Array Oper} {o : Oper} {K : Fr → World → Prop} {K' : Act → World → Prop}
    (hw : Region.wanted o (yielded ops a.tmps) = true) (hk : k = kindOf cx.T o ∨ (k = 0 ∧ kindOf cx.T o = 1 ∧ m = 0)) (hm : m = 0 → kindOf cx.T o = 1 → k = 0)
    (hK : ∀ F' a' w', St cx F' a' → K F' w' → K' a' w') (h : vone cx wr m C o F w K) : stepMix cx.P ops (clsOf C) k o K' a w := by
  unfold vone at h
  unfold stepMix
  rw [if_pos hw]
  split at h
  · rename_i hk0
    obtain rfl : k = 0 := by
      rcases hk with hk | hk
      · rw [hk, hk0]
      · exact hk.1
    obtain ⟨s, v, h1, h2, h3⟩ := vpure_spec hT hS.ag h
    obtain ⟨F', hS', hK3⟩ := vput_spec hS h1 h3
    exact ⟨v, fun w' _ => .inl (h2 w'), hK _ _ _ hS' hK3⟩
  · rename_i hk1
    obtain ⟨s, v, h1, h2, h3⟩ := vread_spec hT hS.ag h
    obtain ⟨F', hS', hK3⟩ := vput_spec hS h1 h3
    rcases Nat.eq_zero_or_pos m with hm0 | hm0
    · obtain rfl := hm hm0 hk1
      subst hm0
      exact ⟨v, fun w' hC => .inl (h2 w' hC), hK _ _ _ hS' hK3⟩
    · obtain ⟨m, rfl⟩ : ∃ m', m = m' + 1 := ⟨m - 1, by omega⟩
      obtain rfl : k = 1 := by
        rcases hk with hk | hk
        · rw [hk, hk1]
        · omega
      exact ⟨v, .inl h2, hK _ _ _ hS' hK3⟩
  · rename_i hn0 hn1
    have hk2 : k = kindOf cx.T o := by
      rcases hk with hk | hk
      · exact hk
      · exact absurd hk.2.1 hn1
    split
    · exact absurd hk2.symm hn0
    · exact absurd hk2.symm hn1
    · refine Oper.wp_mono ?_ (vact_spec hT hfs hS.ag h)
      rintro a' w' ⟨s, v, rfl, h1, h2⟩
      refine ⟨⟨v, rfl⟩, ?_⟩
      cases C with
      | none =>
        simp only [inC] at h2
        obtain ⟨F', hS', hK3⟩ := vput_spec hS h1 h2
        exact ⟨trivial, hK _ _ _ hS' hK3⟩
      | some C =>
        simp only [inC] at h2
        obtain ⟨F', hS', hK3⟩ := vput_spec hS h1 h2.2
        exact ⟨h2.1, hK _ _ _ hS' hK3⟩

theorem skip_spec (hS : St cx F a) {k : Nat} {C : Option (World → Prop)} {ops : Array Oper} {o : Oper} {K : Fr → World → Prop} {K' : Act → World → Prop}
    (hw : Region.wanted o (yielded ops a.tmps) = false) (hK : ∀ F' a' w', St cx F' a' → K F' w' → K' a' w') (h : vput cx.n F o.dst (.v undef) fun F' => K F' w) : stepMix cx.P ops (clsOf C) k o K' a w := by
  unfold stepMix
  rw [if_neg (by rw [hw]; simp)]
  obtain ⟨F', hS', hK3⟩ := vput_spec (s := .v undef) (v := undef) hS rfl h
  exact hK _ _ _ hS' hK3

theorem vops_spec (hT : TOk cx.P cx.T) (hfs : FOk cx.P cx.fs) {ra : Ra} {C : Option (World → Prop)} {ops : List Oper} {K : Fr → World → Prop} :
    ∀ (r : List (Nat × Oper)) (F : Fr) (a : Act) (w : World), (∀ x ∈ r, ops[x.1]? = some x.2) → St cx F a → vops cx ra C ops r F w K →
      wpMix cx.P ops.toArray (clsOf C) (kinds cx.T ra.ql ops) (fun a' w' => ∃ F', St cx F' a' ∧ K F' w') r a w
  | [], F, a, w, _, hS, h => ⟨F, hS, h⟩
  | (i, o) :: r, F, a, w, hr, hS, h => by
    have hi : ops[i]? = some o := hr (i, o) (by simp)
    have ih : ∀ F' a' w', St cx F' a' → vops cx ra C ops r F' w' K → wpMix cx.P ops.toArray (clsOf C) (kinds cx.T ra.ql ops) (fun a' w' => ∃ F', St cx F' a' ∧ K F' w') r a' w' :=
      fun F' a' w' hS' h' => vops_spec hT hfs r F' a' w' (fun x hx => hr x (by simp [hx])) hS' h'
    have hkd : kinds cx.T ra.ql ops i = (bif ra.ql.contains i && Nat.beq (kindOf cx.T o) 1 then 0 else kindOf cx.T o) := by
      unfold kinds; rw [hi]
    have go : ∀ (F : Fr), St cx F a → Region.wanted o (yielded ops.toArray a.tmps) = true →
        vone cx (ra.wr.contains i) (bif ra.ql.contains i then 0 else 1) C o F w (fun F' w' => vops cx ra C ops r F' w' K) →
        stepMix cx.P ops.toArray (clsOf C) (kinds cx.T ra.ql ops i) o (wpMix cx.P ops.toArray (clsOf C) (kinds cx.T ra.ql ops) (fun a' w' => ∃ F', St cx F' a' ∧ K F' w') r) a w := by
      intro F hS hw h
      refine vone_spec hT hfs hS hw ?_ ?_ ih h
      · rw [hkd]
        cases hq : ra.ql.contains i <;> cases hk : Nat.beq (kindOf cx.T o) 1 <;> simp
        have := Nat.eq_of_beq_eq_true hk
        omega
      · rw [hkd]
        intro hm hk1
        cases hq : ra.ql.contains i with
        | false => rw [hq] at hm; simp at hm
        | true => simp [hk1]
    have skip : ∀ (F : Fr), St cx F a → Region.wanted o (yielded ops.toArray a.tmps) = false → vput cx.n F o.dst (.v undef) (fun F' => vops cx ra C ops r F' w K) →
        stepMix cx.P ops.toArray (clsOf C) (kinds cx.T ra.ql ops i) o (wpMix cx.P ops.toArray (clsOf C) (kinds cx.T ra.ql ops) (fun a' w' => ∃ F', St cx F' a' ∧ K F' w') r) a w := by
      intro F hS hw h
      exact skip_spec hS hw ih h
    simp only [vops] at h
    simp only [wpMix]
    split at h
    · rename_i hg
      exact go F hS (by simp [Region.wanted, hg]) h
    · rename_i j want hg
      split at h
      · exact h.elim
      · rename_i t ht
        have htdst := ht
        have yl : ∀ c : Bool, a.tmps.getD t undef = .bool c → yielded ops.toArray a.tmps j = some c ∨ ¬ t < cx.n := by
          intro c hc
          by_cases htn : t < cx.n
          · left
            unfold yielded
            have : (ops.toArray[j]?).bind (·.dst) = some t := by simpa using ht
            rw [this]
            have hlt : t < a.tmps.size := by rw [hS.size]; exact htn
            simp only [Option.bind_some, Array.getElem?_eq_getElem hlt]
            simp [Array.getD, hlt] at hc
            rw [hc]
          · exact .inr htn
        cases hb : Nat.blt t cx.n with
        | false => rw [hb] at h; exact h.elim
        | true =>
          rw [hb] at h
          simp only [cond_true] at h
          have htn : t < cx.n := by simpa [Nat.blt_eq] using hb
          have hwant : ∀ c : Bool, a.tmps.getD t undef = .bool c → Region.wanted o (yielded ops.toArray a.tmps) = (c == want) := by
            intro c hc
            rcases yl c hc with h | h
            · simp [Region.wanted, hg, h]
            · exact absurd htn h
          have ht := hS.ag t
          split at h
          · rename_i he; rw [he] at ht; simp only [AgV] at ht
            have hw := hwant true ht
            cases want with
            | true => exact go F hS (by rw [hw]; rfl) h
            | false => exact skip F hS (by rw [hw]; rfl) h
          · rename_i he; rw [he] at ht; simp only [AgV] at ht
            have hw := hwant false ht
            cases want with
            | true => exact skip F hS (by rw [hw]; rfl) h
            | false => exact go F hS (by rw [hw]; rfl) h
          · rename_i vs he; rw [he] at ht; simp only [AgV] at ht
            refine skip F hS ?_ h
            have : yielded ops.toArray a.tmps j = none := by
              unfold yielded
              have h2 : (ops.toArray[j]?).bind (·.dst) = some t := by simpa using htdst
              rw [h2]
              have hlt : t < a.tmps.size := by rw [hS.size]; exact htn
              simp only [Option.bind_some, Array.getElem?_eq_getElem hlt]
              simp [Array.getD, hlt] at ht
              rw [ht]
            simp [Region.wanted, hg, this]
          · rename_i c he; rw [he] at ht; simp only [AgV] at ht
            have hw := hwant c ht
            have hS' := hS.known (t := t) (c := c) (by simpa [AgV] using ht)
            cases c with
            | true =>
              have h := h.1 rfl
              cases want with
              | true => exact go _ hS' (by rw [hw]; rfl) h
              | false => exact skip _ hS' (by rw [hw]; rfl) h
            | false =>
              have h := h.2 rfl
              cases want with
              | true => exact skip _ hS' (by rw [hw]; rfl) h
              | false => exact go _ hS' (by rw [hw]; rfl) h
          · rename_i q d he; rw [he] at ht; simp only [AgV] at ht
            by_cases hq : q
            · have ht' : a.tmps.getD t undef = .bool true := by rw [ht]; simp [hq]
              have hw := hwant true ht'
              have hS' := hS.known (t := t) (c := true) (by simpa [AgV] using ht')
              have h := h.1 hq
              cases want with
              | true => exact go _ hS' (by rw [hw]; rfl) h
              | false => exact skip _ hS' (by rw [hw]; rfl) h
            · have ht' : a.tmps.getD t undef = .bool false := by rw [ht]; simp [hq]
              have hw := hwant false ht'
              have hS' := hS.known (t := t) (c := false) (by simpa [AgV] using ht')
              have h := h.2 hq
              cases want with
              | true => exact skip _ hS' (by rw [hw]; rfl) h
              | false => exact go _ hS' (by rw [hw]; rfl) h
          · exact h.elim

theorem enum_get (l : List Oper) : ∀ x ∈ enum 0 l, l[x.1]? = some x.2 := by
  rintro ⟨i, o⟩ hx
  have := (mem_enum.1 hx).2
  simpa using this

theorem vreg_spec (hT : TOk cx.P cx.T) (hfs : FOk cx.P cx.fs) (hmix : cx.P.follows .mixedOrders = true) (hS : St cx F a) {ra : Ra} {id : Nat} {ops : List Oper} {draw : Bool} {K : Fr → World → Prop} {Q : Exit → Act → World → Prop}
    (hQ : ∀ F' a' w', St cx F' a' → K F' w' → Q .normal a' w') (h : vreg cx ra ops draw F w K) : (Code.region id ops.toArray draw).wp cx.P Q a w := by
  unfold vreg at h
  cases draw with
  | false =>
    simp only [cond_false] at h
    refine wp_region_seq (C := clsOf none) (kd := kinds cx.T ra.ql ops) trivial (wpMix_mono ?_ _ _ _ (vops_spec hT hfs _ _ _ _ (enum_get ops) hS h))
    rintro a' w' ⟨F', hS', hK⟩ _
    exact hQ _ _ _ hS' hK
  | true =>
    simp only [cond_true] at h
    cases hB : mixB ops (kinds cx.T ra.ql ops) ra.waits with
    | false => rw [hB] at h; exact h.elim
    | true =>
      rw [hB] at h
      simp only [cond_true] at h
      split at h
      · refine wp_region_mix (C := clsOf none) (kd := kinds cx.T ra.ql ops) hmix hB trivial (wpMix_mono ?_ _ _ _ (vops_spec hT hfs _ _ _ _ (enum_get ops) hS h))
        rintro a' w' ⟨F', hS', hK⟩ _
        exact hQ _ _ _ hS' hK
      · obtain ⟨C, hC, h⟩ := h
        refine wp_region_mix (C := clsOf (some C)) (kd := kinds cx.T ra.ql ops) hmix hB hC (wpMix_mono ?_ _ _ _ (vops_spec hT hfs _ _ _ _ (enum_get ops) hS h))
        rintro a' w' ⟨F', hS', hK⟩ _
        exact hQ _ _ _ hS' hK
end
end Go.V
