/- The own library V, part 8: code, loops, functions. -/
import Derived.Test.YtmenmmgfdakeeaaV7
namespace Go.V

/-- A function of what stands in some slots. -/
def TF : List (Nat × Sh) → Type → Type
  | [], X => X
  | (_, .int _) :: r, X => Int → TF r X
  | (_, .bool) :: r, X => Bool → TF r X
  | (_, .str) :: r, X => ByteArray → TF r X
  | (_, .slice) :: r, X => Option Addr → Nat → Nat → TF r X
  | (_, .ptr) :: r, X => Option Addr → TF r X
  | (_, .map) :: r, X => Option Nat → TF r X
  | (_, .any) :: r, X => Value → TF r X
  | (_, .addr) :: r, X => Addr → TF r X

/-- .. at what stands there now. -/
def apJ {X : Type} : (J : List (Nat × Sh)) → TF J X → Fr → (X → Prop) → Prop
  | [], I, _, K => K I
  | (t, .int k) :: r, I, F, K => (match F t with
    | .v (.int k' x) => if k = k' then apJ r (I x) F K else False
    | _ => False)
  | (t, .bool) :: r, I, F, K => (match F t with
    | .v (.bool c) => apJ r (I c) F K
    | .b c => apJ r (I c) F K
    | .p q d => apJ r (I (@decide q d)) F K
    | _ => False)
  | (t, .str) :: r, I, F, K => (match F t with
    | .v (.string x) => apJ r (I x) F K
    | _ => False)
  | (t, .slice) :: r, I, F, K => (match F t with
    | .v (.slice A n c) => apJ r (I A n c) F K
    | _ => False)
  | (t, .ptr) :: r, I, F, K => (match F t with
    | .v (.pointer p) => apJ r (I p) F K
    | _ => False)
  | (t, .map) :: r, I, F, K => (match F t with
    | .v (.map p) => apJ r (I p) F K
    | _ => False)
  | (t, .any) :: r, I, F, K => (match F t with
    | .v x => apJ r (I x) F K
    | _ => False)
  | (t, .addr) :: r, I, F, K => (match F t with
    | .v (.pointer (some a)) => apJ r (I a) F K
    | _ => False)

/-- .. whatever stands there. -/
def allJ {X : Type} : (J : List (Nat × Sh)) → TF J X → Fr → (X → Fr → Prop) → Prop
  | [], I, F, K => K I F
  | (t, .int k) :: r, I, F, K => ∀ x : Int, allJ r (I x) (upd F t (.v (.int k x))) K
  | (t, .bool) :: r, I, F, K => ∀ c : Bool, allJ r (I c) (upd F t (.b c)) K
  | (t, .str) :: r, I, F, K => ∀ x : ByteArray, allJ r (I x) (upd F t (.v (.string x))) K
  | (t, .slice) :: r, I, F, K => ∀ (A : Option Addr) (n c : Nat), allJ r (I A n c) (upd F t (.v (.slice A n c))) K
  | (t, .ptr) :: r, I, F, K => ∀ p : Option Addr, allJ r (I p) (upd F t (.v (.pointer p))) K
  | (t, .map) :: r, I, F, K => ∀ p : Option Nat, allJ r (I p) (upd F t (.v (.map p))) K
  | (t, .any) :: r, I, F, K => ∀ x : Value, allJ r (I x) (upd F t (.v x)) K
  | (t, .addr) :: r, I, F, K => ∀ a : Addr, allJ r (I a) (upd F t (.v (.pointer (some a)))) K

def hav (F : Fr) (W : List Nat) : Fr := fun t => bif W.contains t then .un else F t

def writesIn : Code → List Nat → Bool
  | .region _ ops _, W => ops.toList.all fun o => match o.dst with
    | some d => W.contains d
    | none => true
  | .seq a b, W => writesIn a W && writesIn b W
  | .cond _ a b, W => writesIn a W && writesIn b W
  | .block _ a, W => writesIn a W
  | .loop a, W => writesIn a W
  | .skip, _ | .exit _, _ | .ret, _ => true
  | _, _ => false

def normalTo (e : Exit) (A B : Prop) : Prop :=
  match e with
  | .normal => A
  | _ => B

def XC (cx : Cx) : Sk → Code → (Exit → Fr → World → Prop) → Fr → World → Prop
  | .reg ra, .region _ ops draw, Q, F, w => vreg cx ra ops.toList draw F w fun F w => Q .normal F w
  | .regX ra t, .region _ ops draw, Q, F, w => vregX cx ra t ops.toList draw F w fun F w => Q .normal F w
  | .seq x y, .seq c d, Q, F, w => XC cx x c (fun e F w => match e with
    | .normal => XC cx y d Q F w
    | e => Q e F w) F w
  | .cond x y, .cond c t e, Q, F, w => (match ev F c with
    | .v (.bool true) => XC cx x t Q F w
    | .v (.bool false) => XC cx y e Q F w
    | .b b => (b = true → XC cx x t Q F w) ∧ (b = false → XC cx y e Q F w)
    | .p q _ => (q → XC cx x t Q F w) ∧ (¬ q → XC cx y e Q F w)
    | _ => False)
  | .join J W x, c, Q, F, w => bif writesIn c W then
      ∃ I : TF J (World → Prop),
        XC cx x c (fun e F' w' => match e with
            | .normal => apJ J I F' fun I => I w'
            | e => Q e F' w') F w ∧
        allJ J I (hav F W) fun I F' => ∀ w', I w' → Q .normal F' w'
    else False
  | .block x, .block id c, Q, F, w => XC cx x c (fun e F w => match e with
    | .exit i => bif Nat.beq i id then Q .normal F w else Q (.exit i) F w
    | e => Q e F w) F w
  | .loop J W x, .loop c, Q, F, w => bif writesIn c W then
      ∃ I : Nat → TF J (World → Prop), (∃ m, apJ J (I m) F fun I => I w) ∧
        ∀ m, allJ J (I m) (hav F W) fun Im F' => ∀ w', Im w' → XC cx x c (fun e F w => match e with
          | .normal => ∃ m', m' < m ∧ apJ J (I m') F fun I => I w
          | e => Q e F w) F' w'
    else False
  | .leaf, .skip, Q, F, w => Q .normal F w
  | .leaf, .exit i, Q, F, w => Q (.exit i) F w
  | .leaf, .ret, Q, F, w => Q .ret F w
  | _, _, _, _, _ => False

section
variable {cx : Cx} {F : Fr} {a : Act} {w : World}

/-- Slots that a code doesn't write stay. -/
def Keeps (c : Code) (a a' : Act) : Prop := ∀ (W : List Nat) (t : Nat), writesIn c W = true → W.contains t = false → a'.tmps.getD t undef = a.tmps.getD t undef

theorem Keeps.refl (c : Code) (a : Act) : Keeps c a a := fun _ _ _ _ => rfl
theorem Keeps.trans {c : Code} {a a' a'' : Act} (h : Keeps c a a') (k : Keeps c a' a'') : Keeps c a a'' := fun W t h1 h2 => (k W t h1 h2).trans (h W t h1 h2)

theorem put_keeps {a : Act} {d : Option Tmp} {v : Value} {t : Nat} (h : d ≠ some t) : (a.put d v).tmps.getD t undef = a.tmps.getD t undef := by
  cases d with
  | none => rfl
  | some d =>
    have hne : d ≠ t := fun e => h (by rw [e])
    simp [Act.put, Array.getElem?_setIfInBounds_ne hne]

theorem hav_ag {c : Code} {W : List Nat} {F' : Fr} {a' : Act} (hS : St cx F a) (hS' : St cx F' a') (hW : writesIn c W = true) (h : Keeps c a a') : St cx (hav F W) a' := by
  refine ⟨fun t => ?_, hS'.size, hS'.defers⟩
  unfold hav
  cases hc : W.contains t with
  | true => exact trivial
  | false =>
    simp only [cond_false]
    rw [h W t hW hc]
    exact hS.ag t

theorem St.upd (hS : St cx F a) {t : Nat} {s : SV} (h : AgV s (a.tmps.getD t undef)) : St cx (upd F t s) a := by
  refine ⟨fun u => ?_, hS.size, hS.defers⟩
  unfold V.upd
  cases hb : Nat.beq u t with
  | true =>
    have : u = t := Nat.eq_of_beq_eq_true hb
    subst this
    exact h
  | false => exact hS.ag u

/-- What was said of the slots holds of them. -/
theorem ap_all {X : Type} : ∀ {J : List (Nat × Sh)} {I : TF J X} {F F' : Fr} {K : X → Prop} {K' : X → Fr → Prop}, St cx F a → St cx F' a → apJ J I F K → allJ J I F' K' → ∃ (i : X) (F'' : Fr), St cx F'' a ∧ K i ∧ K' i F''
  | [], I, F, F', K, K', _, h2, h3, h4 => ⟨I, F', h2, h3, h4⟩
  | (t, .int k) :: r, I, F, F', K, K', h1, h2, h3, h4 => by
    have ht := h1.ag t
    simp only [apJ] at h3
    split at h3
    · rename_i k' x he
      rw [he] at ht
      split at h3
      · rename_i hk; subst hk
        exact ap_all h1 (h2.upd ht) h3 (h4 x)
      · exact h3.elim
    · exact h3.elim
  | (t, .bool) :: r, I, F, F', K, K', h1, h2, h3, h4 => by
    have ht := h1.ag t
    simp only [apJ] at h3
    split at h3
    · rename_i c he; rw [he] at ht; exact ap_all h1 (h2.upd (s := .b c) ht) h3 (h4 c)
    · rename_i c he; rw [he] at ht; exact ap_all h1 (h2.upd (s := .b c) ht) h3 (h4 c)
    · rename_i q d he; rw [he] at ht; exact ap_all h1 (h2.upd (s := .b (@decide q d)) ht) h3 (h4 _)
    · exact h3.elim
  | (t, .str) :: r, I, F, F', K, K', h1, h2, h3, h4 => by
    have ht := h1.ag t
    simp only [apJ] at h3
    split at h3
    · rename_i x he; rw [he] at ht; exact ap_all h1 (h2.upd ht) h3 (h4 x)
    · exact h3.elim
  | (t, .slice) :: r, I, F, F', K, K', h1, h2, h3, h4 => by
    have ht := h1.ag t
    simp only [apJ] at h3
    split at h3
    · rename_i A n c he; rw [he] at ht; exact ap_all h1 (h2.upd ht) h3 (h4 A n c)
    · exact h3.elim
  | (t, .ptr) :: r, I, F, F', K, K', h1, h2, h3, h4 => by
    have ht := h1.ag t
    simp only [apJ] at h3
    split at h3
    · rename_i x he; rw [he] at ht; exact ap_all h1 (h2.upd ht) h3 (h4 x)
    · exact h3.elim
  | (t, .map) :: r, I, F, F', K, K', h1, h2, h3, h4 => by
    have ht := h1.ag t
    simp only [apJ] at h3
    split at h3
    · rename_i x he; rw [he] at ht; exact ap_all h1 (h2.upd ht) h3 (h4 x)
    · exact h3.elim
  | (t, .any) :: r, I, F, F', K, K', h1, h2, h3, h4 => by
    have ht := h1.ag t
    simp only [apJ] at h3
    split at h3
    · rename_i x he; rw [he] at ht; exact ap_all h1 (h2.upd ht) h3 (h4 x)
    · exact h3.elim
  | (t, .addr) :: r, I, F, F', K, K', h1, h2, h3, h4 => by
    have ht := h1.ag t
    simp only [apJ] at h3
    split at h3
    · rename_i x he; rw [he] at ht; exact ap_all h1 (h2.upd ht) h3 (h4 x)
    · exact h3.elim

/-- A run writes no other slots than its operations name. -/
theorem wpMix_keeps {P : Program} {ops : Array Oper} {C : World → Prop} {kd : Kinds} {D : Nat → Prop} {Q : Act → World → Prop} :
    ∀ (l : List (Nat × Oper)) (a : Act) (w : World), (∀ x ∈ l, ∀ d, x.2.dst = some d → D d) → wpMix P ops C kd Q l a w → wpMix P ops C kd (fun a' w' => (∀ t, ¬ D t → a'.tmps.getD t undef = a.tmps.getD t undef) ∧ Q a' w') l a w
  | [], a, w, _, h => ⟨fun _ _ => rfl, h⟩
  | (i, o) :: l, a, w, hl, h => by
    have ho := hl (i, o) (by simp)
    have ih := fun a w (h : wpMix P ops C kd Q l a w) => wpMix_keeps (D := D) (Q := Q) l a w (fun x hx => hl x (by simp [hx])) h
    simp only [wpMix] at h ⊢
    have key : ∀ v a' w', a' = a.put o.dst v → wpMix P ops C kd Q l a' w' → wpMix P ops C kd (fun a'' w'' => (∀ t, ¬ D t → a''.tmps.getD t undef = a.tmps.getD t undef) ∧ Q a'' w'') l a' w' := by
      rintro v a' w' rfl h
      refine wpMix_mono ?_ _ _ _ (ih _ _ h)
      rintro a'' w'' ⟨h1, h2⟩
      exact ⟨fun t ht => (h1 t ht).trans (put_keeps fun e => ht (ho t e)), h2⟩
    unfold stepMix at h ⊢
    split
    · rename_i hw
      rw [if_pos hw] at h
      split at h
      · obtain ⟨v, h1, h2⟩ := h; exact ⟨v, h1, key v _ _ rfl h2⟩
      · obtain ⟨v, h1, h2⟩ := h; exact ⟨v, h1, key v _ _ rfl h2⟩
      · refine Oper.wp_mono ?_ h
        rintro a' w' ⟨⟨u, rfl⟩, h1, h2⟩
        exact ⟨⟨u, rfl⟩, h1, key u _ _ rfl h2⟩
    · rename_i hw
      rw [if_neg hw] at h
      exact key _ _ _ rfl h

def Post (cx : Cx) (c : Code) (a : Act) (Q : Exit → Fr → World → Prop) : Exit → Act → World → Prop := fun e a' w' => ∃ F', St cx F' a' ∧ Keeps c a a' ∧ Q e F' w'

theorem vreg_spec' (hT : TOk cx.P cx.T) (hfs : FOk cx.P cx.fs) (hmix : cx.P.follows .mixedOrders = true) (hS : St cx F a) {ra : Ra} {id : Nat} {ops : List Oper} {draw : Bool} {Q : Exit → Fr → World → Prop}
    (h : vreg cx ra ops draw F w fun F w => Q .normal F w) : (Code.region id ops.toArray draw).wp cx.P (Post cx (Code.region id ops.toArray draw) a Q) a w := by
  have mono : ∀ {C : Option (World → Prop)} {w : World}, vops cx ra C ops (enum 0 ops) F w (fun F w => Q .normal F w) →
      wpMix cx.P ops.toArray (clsOf C) (kinds cx.T ra.ql ops) (fun a' w' => clsOf C w' → Post cx (Code.region id ops.toArray draw) a Q .normal a' w') (enum 0 ops) a w := by
    intro C w h
    have h1 := vops_spec hT hfs _ _ _ _ (enum_get ops) hS h
    refine wpMix_mono ?_ _ _ _ (wpMix_keeps (D := fun t => ∃ o ∈ ops, o.dst = some t) _ _ _ ?_ h1)
    · rintro a' w' ⟨hs, F', hS', hK⟩ _
      refine ⟨F', hS', fun W t hW ht => hs t ?_, hK⟩
      rintro ⟨o, ho, hd⟩
      simp only [writesIn, List.all_eq_true] at hW
      have := hW o (by simpa using ho)
      rw [hd] at this
      simp only at this
      rw [ht] at this
      cases this
    · rintro ⟨i, o⟩ hx d hd
      exact ⟨o, List.mem_of_getElem? (enum_get ops _ hx), hd⟩
  unfold vreg at h
  cases draw with
  | false =>
    simp only [cond_false] at h
    exact wp_region_seq (C := clsOf none) (kd := kinds cx.T ra.ql ops) trivial (mono h)
  | true =>
    simp only [cond_true] at h
    cases hB : mixB ops (kinds cx.T ra.ql ops) ra.waits with
    | false => rw [hB] at h; exact h.elim
    | true =>
      rw [hB] at h
      simp only [cond_true] at h
      split at h
      · exact wp_region_mix (C := clsOf none) (kd := kinds cx.T ra.ql ops) hmix hB trivial (mono h)
      · obtain ⟨C, hC, h⟩ := h
        exact wp_region_mix (C := clsOf (some C)) (kd := kinds cx.T ra.ql ops) hmix hB hC (mono h)

theorem vregX_spec' (hT : TOk cx.P cx.T) (hfs : FOk cx.P cx.fs) (hmix : cx.P.follows .mixedOrders = true) (hS : St cx F a) {ra : Ra} {t : XT} {id : Nat} {ops : List Oper} {draw : Bool} {Q : Exit → Fr → World → Prop}
    (h : vregX cx ra t ops draw F w fun F w => Q .normal F w) : (Code.region id ops.toArray draw).wp cx.P (Post cx (Code.region id ops.toArray draw) a Q) a w := by
  have mono : ∀ {C : Option (World → Prop)} {w : World} (t : XT), vxt cx ra C ops F w (fun F w => Q .normal F w) t →
      wpX cx.P ops (clsOf C) (kinds cx.T ra.ql ops) (fun a' w' => clsOf C w' → Post cx (Code.region id ops.toArray draw) a Q .normal a' w') a w t := by
    intro C w t
    induction t with
    | leaf L =>
      intro h
      have h1 := vops_spec hT hfs _ _ _ _ (fun x hx => (mem_pick.1 (show (x.1, x.2) ∈ pick ops L from hx)).2) hS h
      refine wpMix_mono ?_ _ _ _ (wpMix_keeps (D := fun t => ∃ o ∈ ops, o.dst = some t) _ _ _ ?_ h1)
      · rintro a' w' ⟨hs, F', hS', hK⟩ _
        refine ⟨F', hS', fun W t hW ht => hs t ?_, hK⟩
        rintro ⟨o, ho, hd⟩
        simp only [writesIn, List.all_eq_true] at hW
        have := hW o (by simpa using ho)
        rw [hd] at this
        simp only at this
        rw [ht] at this
        cases this
      · rintro ⟨i, o⟩ hx d hd
        exact ⟨o, List.mem_of_getElem? (mem_pick.1 hx).2, hd⟩
    | split p q x y ihx ihy => exact fun h => ⟨ihx h.1, ihy h.2⟩
  unfold vregX at h
  cases draw with
  | false => exact h.elim
  | true =>
    simp only [cond_true] at h
    cases hB : mixX ops (kinds cx.T ra.ql ops) ra.waits t with
    | false => rw [hB] at h; exact h.elim
    | true =>
      rw [hB] at h
      simp only [cond_true] at h
      split at h
      · exact wp_region_X (C := clsOf none) (kd := kinds cx.T ra.ql ops) hmix hB trivial (mono t h)
      · obtain ⟨C, hC, h⟩ := h
        exact wp_region_X (C := clsOf (some C)) (kd := kinds cx.T ra.ql ops) hmix hB hC (mono t h)

theorem loop_ghost {P : Program} {c : Code} {Q : Exit → Act → World → Prop} (I : Nat → Act → World → Prop) {m : Nat} {a : Act} {w : World} (h₀ : I m a w)
    (round : ∀ m a w, I m a w → c.wp P (Exit.then (fun a' w' => ∃ m', m' < m ∧ I m' a' w') Q) a w) : (Code.loop c).wp P Q a w := by
  intro b k cs
  have key : ∀ n a w, I n a w → ∃ e a' w', Q e a' w' ∧ Arrives P (lone (b.at a (.code c :: .inLoop c :: k)) cs w) b k cs e a' w' := by
    intro n
    induction n using Nat.strongRecOn with
    | _ n ih =>
      intro a w hI
      obtain ⟨e, a₁, w₁, hq, harr⟩ := round n a w hI b (.inLoop c :: k) cs
      cases e with
      | normal =>
        obtain ⟨m', hlt, hI₁⟩ := hq
        obtain ⟨e₂, a₂, w₂, hq₂, harr₂⟩ := ih m' hlt a₁ w₁ hI₁
        exact ⟨e₂, a₂, w₂, hq₂, .of_steps (Steps.trans harr (.one step_inLoop)) harr₂⟩
      | exit id => exact ⟨_, a₁, w₁, hq, .pass (x := .inLoop c) rfl (fun _ _ => .inl (by simp)) harr⟩
      | goto l => exact ⟨_, a₁, w₁, hq, .pass (x := .inLoop c) rfl (fun _ _ => .inl (by simp)) harr⟩
      | ret => exact ⟨_, a₁, w₁, hq, .pass (x := .inLoop c) rfl (fun _ _ => .inl (by simp)) harr⟩
      | panic ch => exact ⟨_, a₁, w₁, hq, .pass (x := .inLoop c) rfl (fun _ _ => .inl (by simp)) harr⟩
      | outgrown => exact ⟨_, a₁, w₁, hq, .pass (x := .inLoop c) rfl (fun _ _ => .inl (by simp)) harr⟩
  obtain ⟨e, a', w', hq, harr⟩ := key _ a w h₀
  exact ⟨e, a', w', hq, .of_steps (.one step_loop) harr⟩

theorem seq_left {c d : Code} {a a' : Act} (h : Keeps c a a') : Keeps (.seq c d) a a' := fun W t hW ht => h W t (by simp only [writesIn, Bool.and_eq_true] at hW; exact hW.1) ht
theorem seq_right {c d : Code} {a a' : Act} (h : Keeps d a a') : Keeps (.seq c d) a a' := fun W t hW ht => h W t (by simp only [writesIn, Bool.and_eq_true] at hW; exact hW.2) ht
theorem cond_left {x : Operand} {c d : Code} {a a' : Act} (h : Keeps c a a') : Keeps (.cond x c d) a a' := fun W t hW ht => h W t (by simp only [writesIn, Bool.and_eq_true] at hW; exact hW.1) ht
theorem cond_right {x : Operand} {c d : Code} {a a' : Act} (h : Keeps d a a') : Keeps (.cond x c d) a a' := fun W t hW ht => h W t (by simp only [writesIn, Bool.and_eq_true] at hW; exact hW.2) ht

theorem join_spec {c : Code} {J : List (Nat × Sh)} {W : List Nat} {I : TF J (World → Prop)} {Q : Exit → Fr → World → Prop} {F' : Fr} {a' : Act} {w' : World} (hS : St cx F a) (hW : writesIn c W = true)
    (hall : allJ J I (hav F W) fun I F' => ∀ w', I w' → Q .normal F' w') (hS' : St cx F' a') (hk : Keeps c a a') (h : apJ J I F' fun I => I w') : Post cx c a Q .normal a' w' := by
  obtain ⟨i, F'', h1, h2, h3⟩ := ap_all hS' (hav_ag hS hS' hW hk) h hall
  exact ⟨F'', h1, hk, h3 w' h2⟩

theorem XC_spec (hT : TOk cx.P cx.T) (hfs : FOk cx.P cx.fs) (hmix : cx.P.follows .mixedOrders = true) : ∀ (sk : Sk) (c : Code) (Q : Exit → Fr → World → Prop) (F : Fr) (a : Act) (w : World),
    St cx F a → XC cx sk c Q F w → c.wp cx.P (Post cx c a Q) a w := by
  intro sk
  induction sk with
  | reg ra =>
    intro c Q F a w hS h
    cases c with
    | region id ops draw =>
      simp only [XC] at h
      have e : ops = ops.toList.toArray := by simp
      rw [e]
      exact vreg_spec' hT hfs hmix hS h
    | _ => simp only [XC] at h
  | regX ra t =>
    intro c Q F a w hS h
    cases c with
    | region id ops draw =>
      simp only [XC] at h
      have e : ops = ops.toList.toArray := by simp
      rw [e]
      exact vregX_spec' hT hfs hmix hS h
    | _ => simp only [XC] at h
  | seq x y ihx ihy =>
    intro c Q F a w hS h
    cases c with
    | seq c d =>
      simp only [XC] at h
      refine wp_seq (wp_mono (ihx c _ F a w hS h) ?_)
      intro e a' w' hp
      obtain ⟨F', h1, h2, h3⟩ := hp
      cases e with
      | normal =>
        refine wp_mono (ihy d Q F' a' w' h1 h3) ?_
        rintro e a'' w'' ⟨F'', h4, h5, h6⟩
        exact ⟨F'', h4, (seq_left h2).trans (seq_right h5), h6⟩
      | _ => exact ⟨F', h1, seq_left h2, h3⟩
    | _ => simp only [XC] at h
  | cond x y ihx ihy =>
    intro c Q F a w hS h
    cases c with
    | cond c t e =>
      have left : XC cx x t Q F w → t.wp cx.P (Post cx (.cond c t e) a Q) a w := fun h => wp_mono (ihx t Q F a w hS h) fun e a' w' ⟨F', h1, h2, h3⟩ => ⟨F', h1, cond_left h2, h3⟩
      have right : XC cx y e Q F w → e.wp cx.P (Post cx (.cond c t e) a Q) a w := fun h => wp_mono (ihy e Q F a w hS h) fun e a' w' ⟨F', h1, h2, h3⟩ => ⟨F', h1, cond_right h2, h3⟩
      simp only [XC] at h
      have hc := hS.ag.ev c
      split at h
      · rename_i hv; rw [hv] at hc; exact wp_cond_true hc (left h)
      · rename_i hv; rw [hv] at hc; exact wp_cond_false hc (right h)
      · rename_i b hv; rw [hv] at hc
        cases b with
        | true => exact wp_cond_true hc (left (h.1 rfl))
        | false => exact wp_cond_false hc (right (h.2 rfl))
      · rename_i q d hv; rw [hv] at hc
        by_cases hq : q
        · exact wp_cond_true (by rw [hc]; simp [hq]) (left (h.1 hq))
        · exact wp_cond_false (by rw [hc]; simp [hq]) (right (h.2 hq))
      · exact h.elim
    | _ => simp only [XC] at h
  | join J W x ih =>
    intro c Q F a w hS h
    have h : XC cx (.join J W x) c Q F w := h
    simp only [XC] at h
    cases hb : writesIn c W with
    | false => rw [hb] at h; exact h.elim
    | true =>
      rw [hb] at h
      obtain ⟨I, h, hall⟩ := h
      refine wp_mono (ih c _ F a w hS h) ?_
      rintro ex a' w' ⟨F', h1, h2, h3⟩
      cases ex with
      | normal => exact join_spec hS hb hall h1 h2 h3
      | _ => exact ⟨F', h1, h2, h3⟩
  | block x ih =>
    intro c Q F a w hS h
    cases c with
    | block id c =>
      simp only [XC] at h
      refine wp_block (wp_mono (ih c _ F a w hS h) ?_)
      rintro e a' w' ⟨F', h1, h2, h3⟩
      cases e with
      | exit i =>
        simp only at h3
        cases hb : Nat.beq i id with
        | true =>
          rw [hb] at h3
          have := Nat.eq_of_beq_eq_true hb
          simp only [Exit.inBlock, this, if_true]
          exact ⟨F', h1, h2, h3⟩
        | false =>
          rw [hb] at h3
          have : i ≠ id := fun e => by subst e; simp at hb
          simp only [Exit.inBlock, this, if_false]
          exact ⟨F', h1, h2, h3⟩
      | _ => exact ⟨F', h1, h2, h3⟩
    | _ => simp only [XC] at h
  | loop J W x ih =>
    intro c Q F a w hS h
    cases c with
    | loop c =>
      simp only [XC] at h
      cases hb : writesIn c W with
      | false => rw [hb] at h; exact h.elim
      | true =>
        rw [hb] at h
        obtain ⟨I, ⟨m, h0⟩, hall⟩ := h
        refine loop_ghost (fun m a' w' => ∃ F', St cx F' a' ∧ Keeps c a a' ∧ apJ J (I m) F' fun I => I w') (m := m) ⟨F, hS, Keeps.refl _ _, h0⟩ ?_
        rintro m a' w' ⟨F', h1, h2, h3⟩
        obtain ⟨i, F'', h4, h5, h6⟩ := ap_all h1 (hav_ag hS h1 hb h2) h3 (hall m)
        refine wp_mono (ih c _ F'' a' w' h4 (h6 w' h5)) ?_
        rintro e a'' w'' ⟨G, h7, h8, h9⟩
        cases e with
        | normal =>
          obtain ⟨m', hlt, h9⟩ := h9
          exact ⟨m', hlt, G, h7, h2.trans h8, h9⟩
        | _ => exact ⟨G, h7, h2.trans h8, h9⟩
    | _ => simp only [XC] at h
  | leaf =>
    intro c Q F a w hS h
    cases c with
    | skip => exact wp_skip ⟨F, hS, Keeps.refl _ _, h⟩
    | exit i => exact wp_exit ⟨F, hS, Keeps.refl _ _, h⟩
    | ret => exact wp_ret ⟨F, hS, Keeps.refl _ _, h⟩
    | _ => simp only [XC] at h
end

/-! ### Functions -/
def vres (T : Tys) (F : Fr) (w : World) : List ResultVar → (List Value → Prop) → Prop
  | [], K => K []
  | .tmp t :: r, K => vv F (.tmp t) fun v => vres T F w r fun vs => K (v :: vs)
  | .cell t ty :: r, K => vptr F (.tmp t) fun a => (match tf T ty with
    | some te => bif te.ld.agg then (bif Nat.beq te.shs.length te.size then exLoad (fun φ => φ w) a 0 te.shs fun cs => vres T F w r fun vs => K (.agg cs.toArray :: vs) else False)
      else exSh (te.shs.headD .any) fun _ v => w.cell? a = some v ∧ vres T F w r fun vs => K (v :: vs)
    | none => False)

def oneOf (vs : List Value) : Value :=
  match vs with
  | [v] => v
  | vs => .tuple vs.toArray

def F0 (args : List Value) : Fr := fun t => match args[t]? with
  | some v => mk v
  | none => .un

def XF (cx : Cx) (fn : Func) (sk : Sk) (args : List Value) (w : World) (R : Ending → World → Prop) : Prop :=
  match fn.body with
  | some c => bif Nat.beq fn.ntmps cx.n && Nat.ble args.length cx.n then XC cx sk c (fun e F w => match e with
    | .normal | .ret => vres cx.T F w fn.results.toList fun vs => R (.returned (oneOf vs)) w
    | _ => False) (F0 args) w else False
  | none => False

def resOne (tmps : Array Value) : ResultVar → Sem Value
  | .tmp t => pure (tmps.getD t undef)
  | .cell a t => do loadVar t (← asAddr (tmps.getD a undef))

theorem results_eq (fn : Func) (tmps : Array Value) : results fn tmps = (do let vs ← fn.results.mapM (resOne tmps); pure (if h : vs.size = 1 then vs[0] else .tuple vs)) := by
  unfold results
  congr 2

theorem vres_spec {cx : Cx} (hT : TOk cx.P cx.T) {F : Fr} {a : Act} {w : World} (hS : St cx F a) : ∀ {rs : List ResultVar} {K : List Value → Prop}, vres cx.T F w rs K →
    ∃ vs, (rs.mapM (resOne a.tmps)).run cx.P w = .ok vs w ∧ K vs
  | [], K, h => ⟨[], by simp, h⟩
  | .tmp t :: r, K, h => by
    have h := vv_spec hS.ag (x := .tmp t) h
    obtain ⟨vs, h1, h2⟩ := vres_spec hT hS h
    refine ⟨_, ?_, h2⟩
    simp only [List.mapM_cons, resOne, Sem.run_bind, Sem.run_pure, Result.andThen_ok, h1]
    rfl
  | .cell t ty :: r, K, h => by
    simp only [vres] at h
    obtain ⟨ad, hx, h⟩ := vptr_spec hS.ag h
    have hx : a.tmps.getD t undef = .pointer (some ad) := hx
    split at h
    · rename_i te hte
      have hl : ∃ v, (loadVar ty ad).run cx.P w = .ok v w ∧ vres cx.T F w r fun vs => K (v :: vs) := by
        cases hb : te.ld.agg with
        | true =>
          rw [hb] at h
          simp only [cond_true] at h
          cases hl : Nat.beq te.shs.length te.size with
          | false => rw [hl] at h; exact h.elim
          | true =>
            rw [hl] at h
            simp only [cond_true] at h
            obtain ⟨vs, hlen, hD, hK⟩ := exLoad_spec (D := fun φ => φ w) (fun _ _ h k => ⟨h, k⟩) (fun _ _ h k => h w k) (fun _ h => h w) h
            refine ⟨_, ?_, hK⟩
            have hs : te.size = vs.length := by rw [hlen]; exact (Nat.eq_of_beq_eq_true hl).symm
            simp only [loadVar, Sem.run_bind, (hT.get hte).isAgg w, Result.andThen_ok, hb, if_true, (hT.get hte).sizeOf w, loadCells, hs]
            rw [loadCellsFrom_run vs 0 #[] hD]
            simp
        | false =>
          rw [hb] at h
          simp only [cond_false] at h
          obtain ⟨s, v, h1, h2, h3⟩ := exSh_spec h
          refine ⟨v, ?_, h3⟩
          simp [loadVar, (hT.get hte).isAgg w, hb, load, Sem.run, h2]
      obtain ⟨v, hv, h⟩ := hl
      obtain ⟨vs, h1, h2⟩ := vres_spec hT hS h
      refine ⟨_, ?_, h2⟩
      simp only [List.mapM_cons, resOne, Sem.run_bind, hx, asAddr, Sem.run_pure, Result.andThen_ok, hv, h1]
    · exact h.elim

theorem XF_spec {cx : Cx} {f : FuncId} {fn : Func} {sk : Sk} {args : List Value} {w : World} {R : Ending → World → Prop} (hT : TOk cx.P cx.T) (hfs : FOk cx.P cx.fs) (hmix : cx.P.follows .mixedOrders = true)
    (hf : cx.P.funcs[f]? = some fn) (h : XF cx fn sk args w R) : Calls cx.P f args.toArray w R := by
  unfold XF at h
  split at h
  · rename_i c hc
    cases hb : Nat.beq fn.ntmps cx.n && Nat.ble args.length cx.n with
    | false => rw [hb] at h; exact h.elim
    | true =>
      rw [hb] at h
      simp only [cond_true] at h
      simp only [Bool.and_eq_true] at hb
      have hn : fn.ntmps = cx.n := Nat.eq_of_beq_eq_true hb.1
      have hl : args.length ≤ cx.n := Nat.le_of_ble_eq_true hb.2
      refine calls_of_wp hf hc ?_
      have hS : St cx (F0 args) { tmps := args.toArray ++ Array.replicate (fn.ntmps - args.toArray.size) undef, defers := [] } := by
        refine ⟨fun t => ?_, by simp; omega, rfl⟩
        unfold F0
        split
        · rename_i v hv
          have hlt := (List.getElem?_eq_some_iff.1 hv).1
          have : (args.toArray ++ Array.replicate (fn.ntmps - args.toArray.size) undef).getD t undef = v := by
            rw [Array.getD_eq_getD_getElem?, Array.getElem?_append_left (by simpa using hlt)]
            simp [hv]
          rw [this]
          exact AgV.mk v
        · exact trivial
      refine wp_mono (XC_spec hT hfs hmix sk c _ _ _ w hS h) ?_
      rintro e a' w' ⟨F', h1, _, h2⟩
      have fin : (vres cx.T F' w' fn.results.toList fun vs => R (.returned (oneOf vs)) w') → a'.defers = [] ∧ ∃ v, (results fn a'.tmps).run cx.P w' = .ok v w' ∧ R (.returned v) w' := by
        intro h2
        obtain ⟨vs, h3, h4⟩ := vres_spec hT h1 h2
        refine ⟨h1.defers, oneOf vs, ?_, h4⟩
        rw [results_eq, Sem.run_bind]
        have : (fn.results.mapM (resOne a'.tmps)).run cx.P w' = .ok vs.toArray w' := by
          rw [Array.mapM_eq_mapM_toList, Sem.run_map, h3]
          rfl
        rw [this]
        simp only [Result.andThen_ok, Sem.run_pure]
        match vs with
        | [] => rfl
        | [v] => rfl
        | _ :: _ :: _ => simp [oneOf]
      cases e with
      | normal => exact fin h2
      | ret => exact fin h2
      | _ => exact h2.elim
  · exact h.elim
end Go.V
