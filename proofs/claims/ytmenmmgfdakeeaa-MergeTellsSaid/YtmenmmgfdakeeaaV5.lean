/- The own library V, part 5: the other operations that compute. -/
import Derived.Test.YtmenmmgfdakeeaaV4
namespace Go.V
variable {P : Program} {T : Tys} {F : Fr} {a : Act} {wr : Bool} {K : SV → Prop} {dst : Option Tmp} {ty : TypeId} {pos : String} {after : Array Edge} {guard : Option (Nat × Bool)}

theorem goes_pick (hA : Ag F a) {c x y : Operand}
    (h : vpure P T wr ⟨dst, .pick c x y, ty, pos, after, guard⟩ F K) : Goes P ⟨dst, .pick c x y, ty, pos, after, guard⟩ a K := by
  simp only [vpure] at h
  have hc := hA.ev c
  split at h
  · rename_i he; rw [he] at hc; simp only [AgV] at hc
    exact ⟨_, _, hA.ev x, fun w => by simp [execOp, hc, asBool], h⟩
  · rename_i he; rw [he] at hc; simp only [AgV] at hc
    exact ⟨_, _, hA.ev y, fun w => by simp [execOp, hc, asBool], h⟩
  · exact h.elim

theorem goes_nilCheck (hA : Ag F a) {x : Operand}
    (h : vpure P T wr ⟨dst, .nilCheck x, ty, pos, after, guard⟩ F K) : Goes P ⟨dst, .nilCheck x, ty, pos, after, guard⟩ a K := by
  simp only [vpure] at h
  have hc := hA.ev x
  split at h
  · rename_i p he; rw [he] at hc; simp only [AgV] at hc
    obtain ⟨ad, rfl, h⟩ := h
    exact ⟨.v _, _, (rfl : _ = _), fun w => by simp [execOp, hc], h⟩
  · rename_i g f c he; rw [he] at hc; simp only [AgV] at hc
    exact ⟨.v _, _, (rfl : _ = _), fun w => by simp [execOp, hc], h⟩
  · exact h.elim

theorem goes_indexAddr (hT : TOk P T) (hA : Ag F a) {t : TypeId} {x ix : Operand}
    (h : vpure P T wr ⟨dst, .indexAddr t x ix, ty, pos, after, guard⟩ F K) : Goes P ⟨dst, .indexAddr t x ix, ty, pos, after, guard⟩ a K := by
  refine Goes.of (S := Instr.indexAt t (a.eval x) (a.eval ix)) (val_then (by simp only [execOp])) ?_
  simp only [vpure] at h
  obtain ⟨k, i, hi, h⟩ := vint_spec hA h
  split at h
  · rename_i e _ _ _ _ ht
    split at h
    · rename_i te hte
      split at h
      · rename_i A n c he
        have hx := hA.ev x
        rw [he] at hx; simp only [AgV] at hx
        obtain ⟨ad, rfl, h0, h1, h⟩ := h
        rw [addMul_eq] at h
        refine ⟨.v _, _, (rfl : _ = _), fun w => ?_, h⟩
        simp [Instr.indexAt, hi, hx, asIntOf, Ty.run_und w ((hT.get ht).slice rfl), h0, h1, (hT.get hte).sizeOf w]
      · exact h.elim
    · exact h.elim
  · rename_i n e _ _ _ _ ht
    split at h
    · rename_i te hte
      obtain ⟨ad, hx, h⟩ := vptr_spec hA h
      obtain ⟨⟨h0, h1⟩, h⟩ := h
      rw [addMul_eq] at h
      refine ⟨.v _, _, (rfl : _ = _), fun w => ?_, h⟩
      simp [Instr.indexAt, hi, hx, asIntOf, Ty.run_und w ((hT.get ht).arr rfl), Instr.sureAddr, h0, h1, (hT.get hte).sizeOf w]
    · exact h.elim
  · exact h.elim

theorem pickIx_spec {i : Int} : ∀ {j : Nat} {cs : List Value}, pickIx i j cs K → (j : Int) ≤ i → i < (j : Int) + cs.length → ∃ c, cs[i.toNat - j]? = some c ∧ K (mk c)
  | j, [], _, h1, h2 => by simp at h2; omega
  | j, c :: r, h, h1, h2 => by
    simp only [pickIx] at h
    by_cases he : i = (j : Int)
    · exact ⟨c, by simp [he], h.1 he⟩
    · obtain ⟨c', hc, hk⟩ := pickIx_spec (j := j + 1) (cs := r) h.2 (by omega) (by simp at h2 ⊢; omega)
      refine ⟨c', ?_, hk⟩
      rw [show i.toNat - j = (i.toNat - (j + 1)) + 1 by omega]
      simpa using hc

theorem goes_index (hT : TOk P T) (hA : Ag F a) {t : TypeId} {x ix : Operand}
    (h : vpure P T wr ⟨dst, .index t x ix, ty, pos, after, guard⟩ F K) : Goes P ⟨dst, .index t x ix, ty, pos, after, guard⟩ a K := by
  refine Goes.of (S := Instr.index t (a.eval x) (a.eval ix)) (val_then (by simp only [execOp])) ?_
  simp only [vpure] at h
  obtain ⟨k, i, hi, h⟩ := vint_spec hA h
  split at h
  · rename_i n e _ _ _ _ ht
    split at h
    · rename_i te hte
      have h := vv_spec hA h
      split at h
      · rename_i cs hcs
        cases hb : te.ld.agg with
        | true => rw [hb] at h; exact h.elim
        | false =>
          rw [hb] at h
          simp only [cond_false] at h
          cases h1 : Nat.beq te.size 1 with
          | false => rw [h1] at h; exact h.elim
          | true =>
            rw [h1] at h
            simp only [cond_true] at h
            cases h2 : Nat.beq cs.size n with
            | false => rw [h2] at h; exact h.elim
            | true =>
              rw [h2] at h
              simp only [cond_true] at h
              have e1 : te.size = 1 := Nat.eq_of_beq_eq_true h1
              have e2 : cs.size = n := Nat.eq_of_beq_eq_true h2
              obtain ⟨⟨h3, h4⟩, h⟩ := h
              obtain ⟨c, hc, hk⟩ := pickIx_spec h (by simpa using h3) (by simp; omega)
              refine ⟨mk c, c, AgV.mk c, fun w => ?_, hk⟩
              have hc' : cs[i.toNat]? = some c := by simpa using hc
              simp [Instr.index, hi, hcs, asIntOf, Ty.run_und w ((hT.get ht).arr rfl), h3, h4, part, (hT.get hte).isAgg w, hb, (hT.get hte).sizeOf w, e1, hc']
      · exact h.elim
    · exact h.elim
  · rename_i _ _ _ _ ht
    have h := vv_spec hA h
    split at h
    · rename_i s hs
      obtain ⟨⟨h3, h4⟩, h⟩ := h
      refine ⟨.v _, _, (rfl : _ = _), fun w => ?_, h⟩
      have hlt : i.toNat < s.size := by omega
      have hlt' : i.toNat < s.data.toList.length := by simpa using hlt
      have hg : s[i.toNat]? = some (s.data.toList.getD i.toNat 0) := by
        rw [getElem?_pos s i.toNat hlt]
        simp only [List.getD_eq_getElem?_getD, List.getElem?_eq_getElem hlt', Option.getD_some]
        rfl
      simp [Instr.index, hi, hs, asIntOf, Ty.run_und w ((hT.get ht).str rfl), h3, hg, bt]
    · exact h.elim
  · exact h.elim

theorem goes_build (hT : TOk P T) (hA : Ag F a) {t : TypeId} {parts : Array (Nat × Operand)}
    (h : vpure P T wr ⟨dst, .build t parts, ty, pos, after, guard⟩ F K) : Goes P ⟨dst, .build t parts, ty, pos, after, guard⟩ a K := by
  refine Goes.of (S := Instr.build t (parts.map fun (i, x) => (i, a.eval x))) (val_then (by simp only [execOp])) ?_
  have hl : ∀ vs, vs = parts.toList.map (fun p => (p.1, a.eval p.2)) → (parts.map fun (i, x) => (i, a.eval x)).toList = vs := by
    rintro _ rfl
    simp
  simp only [vpure] at h
  split at h
  · rename_i fs _ _ z _ ht
    have sz : ∀ {fs : List (Nat × Nat)} {K : List (Nat × Nat) → Prop}, sizes T fs K → ∃ l, K l ∧ ∀ (f : List Field), f.map (fun g => (g.offset, g.type)) = fs → ∀ w, (f.mapM fun g => do pure (g.offset, ← sizeOf g.type) : Sem (List (Nat × Nat))).run P w = .ok l w := by
      intro fs
      induction fs with
      | nil =>
        intro K h
        refine ⟨[], h, fun f hf w => ?_⟩
        simp at hf
        subst hf
        simp
      | cons p r ih =>
        obtain ⟨o, ty⟩ := p
        intro K h
        unfold sizes at h
        split at h
        · rename_i te hte
          obtain ⟨l, hK, hl⟩ := ih h
          refine ⟨_, hK, fun f hf w => ?_⟩
          cases f with
          | nil => simp at hf
          | cons g f =>
            simp only [List.map_cons, List.cons.injEq, Prod.mk.injEq] at hf
            obtain ⟨⟨rfl, rfl⟩, hf⟩ := hf
            simp only [List.mapM_cons, Sem.run_bind, Sem.run_pure, Result.andThen_ok, (hT.get hte).sizeOf w, hl f hf w]
        · exact h.elim
    obtain ⟨ps, h, hps⟩ := sz h
    have h := vps_spec hA h
    split at h
    · rename_i cells hc
      obtain ⟨fa, hu, hfs⟩ := (hT.get ht).struct rfl
      refine ⟨.v _, _, (rfl : _ = _), fun w => ?_, h⟩
      have hm : (fa.mapM fun g => do pure (g.offset, ← sizeOf g.type) : Sem (Array (Nat × Nat))).run P w = .ok ps.toArray w := by
        rw [Array.mapM_eq_mapM_toList, Sem.run_map, hps _ hfs w]
        rfl
      simp only [Instr.build, Sem.run_bind, (hT.get ht).zeroValue w, Result.andThen_ok, Ty.run_und w hu, hm]
      rw [hl _ rfl]
      have : (fun x : Nat => ps.toArray[x]?) = (fun x : Nat => ps[x]?) := by funext x; simp
      rw [this, hc]
      simp
    · exact h.elim
  · rename_i n e _ _ z _ ht
    split at h
    · rename_i te hte
      have h := vps_spec hA h
      split at h
      · rename_i cells hc
        refine ⟨.v _, _, (rfl : _ = _), fun w => ?_, h⟩
        simp only [Instr.build, Sem.run_bind, (hT.get ht).zeroValue w, Result.andThen_ok, Ty.run_und w ((hT.get ht).arr rfl), (hT.get hte).sizeOf w]
        rw [hl _ rfl, hc]
        simp
      · exact h.elim
    · exact h.elim
  · exact h.elim

theorem goes_makeFunc (hA : Ag F a) {fn : Fn} {f c : Array Operand}
    (h : vpure P T wr ⟨dst, .makeFunc fn f c, ty, pos, after, guard⟩ F K) : Goes P ⟨dst, .makeFunc fn f c, ty, pos, after, guard⟩ a K := by
  refine Goes.of (S := Instr.makeFunc fn (f.map a.eval) (c.map a.eval)) (val_then (by simp only [execOp])) ?_
  simp only [vpure] at h
  have h := vvs_spec hA (vvs_spec hA h)
  refine ⟨.v _, _, (rfl : _ = _), fun w => ?_, h⟩
  simp [Instr.makeFunc]
  constructor <;> apply Array.toList_inj.1 <;> simp

theorem goes_extract (hA : Ag F a) {x : Operand} {i : Nat}
    (h : vpure P T wr ⟨dst, .extract x i, ty, pos, after, guard⟩ F K) : Goes P ⟨dst, .extract x i, ty, pos, after, guard⟩ a K := by
  refine Goes.of (S := Instr.extract (a.eval x) i) (val_then (by simp only [execOp])) ?_
  simp only [vpure] at h
  have hx := hA.ev x
  split at h
  · rename_i vs he; rw [he] at hx; simp only [AgV] at hx
    split at h
    · rename_i v hv
      exact ⟨mk v, v, AgV.mk v, fun w => by simp [Instr.extract, hx, hv], h⟩
    · exact h.elim
  · exact h.elim

theorem goes_convert (hT : TOk P T) (hA : Ag F a) {src d : TypeId} {x : Operand}
    (h : vpure P T wr ⟨dst, .convert src d x, ty, pos, after, guard⟩ F K) : Goes P ⟨dst, .convert src d x, ty, pos, after, guard⟩ a K := by
  refine Goes.of (S := Go.convert src d (a.eval x)) (val_then (by simp only [execOp])) ?_
  simp only [vpure] at h
  have hx := hA.ev x
  split at h
  · rename_i k1 _ _ _ _ k _ _ _ _ k2 n h1 h2 he
    rw [he] at hx; simp only [AgV] at hx
    have u1 := fun w => Ty.run_und w ((hT.get h1).int rfl)
    have u2 := fun w => Ty.run_und w ((hT.get h2).int rfl)
    cases wr with
    | true => exact ⟨.v _, _, (rfl : _ = _), fun w => by simp [Go.convert, hx, u1, u2, Conv.intToInt], h⟩
    | false => exact ⟨.v _, _, (rfl : _ = _), fun w => by simp [Go.convert, hx, u1, u2, Conv.intToInt, wrap_in h.1], h.2⟩
  · rename_i _ _ _ _ _ _ _ _ s h1 h2 he
    rw [he] at hx; simp only [AgV] at hx
    have u1 := fun w => Ty.run_und w ((hT.get h1).str rfl)
    have u2 := fun w => Ty.run_und w ((hT.get h2).str rfl)
    exact ⟨.v _, _, (rfl : _ = _), fun w => by simp [Go.convert, hx, u1, u2], h⟩
  · exact h.elim

theorem goes_makeInterface (hA : Ag F a) {t : TypeId} {x : Operand}
    (h : vpure P T wr ⟨dst, .makeInterface t x, ty, pos, after, guard⟩ F K) : Goes P ⟨dst, .makeInterface t x, ty, pos, after, guard⟩ a K := by
  refine Goes.of (S := Instr.makeInterface t (a.eval x)) (val_then (by simp only [execOp])) ?_
  simp only [vpure] at h
  obtain ⟨s, v, h1, h2, h3⟩ := exT_spec (vv_spec hA h)
  exact ⟨s, v, h1, h2, h3⟩

theorem goes_len (hT : TOk P T) (hA : Ag F a) {args : Array Operand} {ts : Array TypeId}
    (h : vpure P T wr ⟨dst, .call ⟨.builtin .len, args, ts⟩, ty, pos, after, guard⟩ F K) : Goes P ⟨dst, .call ⟨.builtin .len, args, ts⟩, ty, pos, after, guard⟩ a K := by
  refine Goes.of (S := Builtin.len_ ts ty (args.map a.eval)) (semP_spec rfl) ?_
  simp only [vpure] at h
  split at h
  · rename_i x t hx ht
    have hax : (args.map a.eval)[0]? = some (a.eval x) := by simp [hx]
    have he := hA.ev x
    split at h
    · rename_i e _ _ _ _ hte
      split at h
      · rename_i A n c hs
        rw [hs] at he; simp only [AgV] at he
        refine ⟨.v _, _, (rfl : _ = _), fun w => ?_, h⟩
        simp [Builtin.len_, hx, ht, he, Ty.run_und w ((hT.get hte).slice rfl), goInt]
      · exact h.elim
    · rename_i _ _ _ _ hte
      split at h
      · rename_i s hs
        rw [hs] at he; simp only [AgV] at he
        refine ⟨.v _, _, (rfl : _ = _), fun w => ?_, h⟩
        simp [Builtin.len_, hx, ht, he, Ty.run_und w ((hT.get hte).str rfl), goInt]
      · exact h.elim
    · rename_i n e _ _ _ _ hte
      refine ⟨.v _, _, (rfl : _ = _), fun w => ?_, h⟩
      simp [Builtin.len_, hx, ht, Ty.run_und w ((hT.get hte).arr rfl), goInt]
    · exact h.elim
  · exact h.elim

theorem mxs_spec {k : IntKind} : ∀ {vs : List Value} {x : Int} {K : Int → Prop}, mxs k x vs K → ∃ z, K z ∧ ∀ w, (vs.foldlM Builtin.max2 (.int k x)).run P w = .ok (.int k z) w
  | [], x, K, h => ⟨x, h, fun w => by simp⟩
  | v :: r, x, K, h => by
    cases v with
    | int k' y =>
      simp only [mxs] at h
      obtain ⟨z, hk, hz⟩ := mxs_spec h
      refine ⟨z, hk, fun w => ?_⟩
      simp only [List.foldlM_cons, Builtin.max2, pure_bind]
      exact hz w
    | _ => simp only [mxs] at h
theorem mns_spec {k : IntKind} : ∀ {vs : List Value} {x : Int} {K : Int → Prop}, mns k x vs K → ∃ z, K z ∧ ∀ w, (vs.foldlM Builtin.min2 (.int k x)).run P w = .ok (.int k z) w
  | [], x, K, h => ⟨x, h, fun w => by simp⟩
  | v :: r, x, K, h => by
    cases v with
    | int k' y =>
      simp only [mns] at h
      obtain ⟨z, hk, hz⟩ := mns_spec h
      refine ⟨z, hk, fun w => ?_⟩
      simp only [List.foldlM_cons, Builtin.min2, pure_bind]
      exact hz w
    | _ => simp only [mns] at h

theorem run_builtin {b : Builtin} {args : Array Operand} {ts : Array TypeId} {S : Sem Value} (hS : ∀ c, builtin b ts ty c (args.map a.eval) = (do pure (.value (← S)))) (w : World) :
    (execOp a.eval ⟨dst, .call ⟨.builtin b, args, ts⟩, ty, pos, after, guard⟩).run P w = (S.run P w).andThen fun v w' => .ok (.value v) w' := by
  have : (execOp a.eval ⟨dst, .call ⟨.builtin b, args, ts⟩, ty, pos, after, guard⟩).run P w = (builtin b ts ty (args.map fun | .const _ => true | _ => false) (args.map a.eval)).run P w := by
    simp only [execOp, resolve]
    rfl
  rw [this, hS]
  simp

theorem goes_max (hA : Ag F a) {args : Array Operand} {ts : Array TypeId}
    (h : vpure P T wr ⟨dst, .call ⟨.builtin .max, args, ts⟩, ty, pos, after, guard⟩ F K) : Goes P ⟨dst, .call ⟨.builtin .max, args, ts⟩, ty, pos, after, guard⟩ a K := by
  refine Goes.of (S := Builtin.max_ ts ty (args.map a.eval)) (run_builtin fun c => rfl) ?_
  simp only [vpure] at h
  split at h
  · rename_i x r hx
    obtain ⟨k, n, hn, h⟩ := vint_spec hA h
    have h := vvs_spec hA h
    obtain ⟨z, hk, hz⟩ := mxs_spec (P := P) h
    refine ⟨.v _, _, (rfl : _ = _), fun w => ?_, hk⟩
    simp only [Builtin.max_, Array.toList_map, hx, List.map_cons, hn]
    exact hz w
  · exact h.elim

theorem goes_min (hA : Ag F a) {args : Array Operand} {ts : Array TypeId}
    (h : vpure P T wr ⟨dst, .call ⟨.builtin .min, args, ts⟩, ty, pos, after, guard⟩ F K) : Goes P ⟨dst, .call ⟨.builtin .min, args, ts⟩, ty, pos, after, guard⟩ a K := by
  refine Goes.of (S := Builtin.min_ ts ty (args.map a.eval)) (run_builtin fun c => rfl) ?_
  simp only [vpure] at h
  split at h
  · rename_i x r hx
    obtain ⟨k, n, hn, h⟩ := vint_spec hA h
    have h := vvs_spec hA h
    obtain ⟨z, hk, hz⟩ := mns_spec (P := P) h
    refine ⟨.v _, _, (rfl : _ = _), fun w => ?_, hk⟩
    simp only [Builtin.min_, Array.toList_map, hx, List.map_cons, hn]
    exact hz w
  · exact h.elim

theorem cut0 (A : Option Addr) : A.map (·.add 0) = A := by cases A <;> simp [Addr.add]

theorem goes_slice (hT : TOk P T) (hA : Ag F a) {t : TypeId} {x : Operand} {lo hi mxo : Option Operand}
    (h : vpure P T wr ⟨dst, .slice t x lo hi mxo, ty, pos, after, guard⟩ F K) : Goes P ⟨dst, .slice t x lo hi mxo, ty, pos, after, guard⟩ a K := by
  refine Goes.of (S := Instr.sliceAt t (a.eval x) (lo.map a.eval) (hi.map a.eval) (mxo.map a.eval)) (val_then (by simp only [execOp])) ?_
  have bnd : ∀ (k : IntKind) (i : Int) (y : Nat) (c : BoundsCode) (w : World), 0 ≤ i → i ≤ (y : Int) → (Instr.sliceBound (.int k i) y c).run P w = .ok i.toNat w := by
    intro k i y c w h0 h1
    simp [Instr.sliceBound, asIntOf, h0, h1]
  cases mxo with
  | some m => simp only [vpure] at h
  | none =>
    simp only [vpure] at h
    have he := hA.ev x
    split at h
    · rename_i e _ _ _ _ ht
      split at h
      · rename_i te hte
        have hu := (hT.get ht).slice rfl
        split at h
        · rename_i A n c hs
          rw [hs] at he; simp only [AgV] at he
          have base : ∀ (l hh m : Nat) w, (Instr.sliceBounds true n c (lo.map a.eval) (hi.map a.eval) none).run P w = .ok (l, hh, m) w →
              (Instr.sliceAt t (a.eval x) (lo.map a.eval) (hi.map a.eval) none).run P w = .ok (.slice (if m = l then A else A.map (·.add (l * te.size))) (hh - l) (m - l)) w := by
            intro l hh m w hb
            simp [Instr.sliceAt, Instr.slice, he, Ty.run_und w hu, hb, (hT.get hte).sizeOf w]
          split at h
          · refine ⟨.v _, _, (rfl : _ = _), fun w => ?_, h⟩
            rw [show (none : Option Operand).map a.eval = none from rfl] at base ⊢
            rw [base 0 n c w (by simp [Instr.sliceBounds])]
            simp [cut0]
          · rename_i hv
            obtain ⟨k, i, hiv, h⟩ := vint_spec hA h
            obtain ⟨⟨h0, h1⟩, h⟩ := h
            refine ⟨.v _, _, (rfl : _ = _), fun w => ?_, h⟩
            simp only [Option.map_none, Option.map_some, hiv] at base ⊢
            rw [base 0 i.toNat c w (by simp [Instr.sliceBounds, bnd k i c _ w h0 h1])]
            simp [cut0]
          · rename_i lv
            obtain ⟨k, i, hiv, h⟩ := vint_spec hA h
            obtain ⟨⟨h0, h1⟩, h⟩ := h
            refine ⟨.v _, _, (rfl : _ = _), fun w => ?_, h⟩
            simp only [Option.map_none, Option.map_some, hiv] at base ⊢
            rw [base i.toNat n c w (by simp [Instr.sliceBounds, bnd k i n _ w h0 h1])]
            rfl
          · rename_i lv hv
            obtain ⟨k, i, hiv, h⟩ := vint_spec hA h
            obtain ⟨k', j, hjv, h⟩ := vint_spec hA h
            obtain ⟨⟨h0, h1, h2, h3⟩, h⟩ := h
            refine ⟨.v _, _, (rfl : _ = _), fun w => ?_, h⟩
            simp only [Option.map_none, Option.map_some, hiv, hjv] at base ⊢
            rw [base i.toNat j.toNat c w (by simp [Instr.sliceBounds, bnd k' j c _ w h0 h1, bnd k i j.toNat _ w h2 (by omega)])]
            rfl
        · exact h.elim
      · exact h.elim
    · rename_i _ _ _ _ ht
      have hu := (hT.get ht).str rfl
      split at h
      · rename_i s hs
        rw [hs] at he; simp only [AgV] at he
        have base : ∀ (l hh m : Nat) w, (Instr.sliceBounds false s.size s.size (lo.map a.eval) (hi.map a.eval) none).run P w = .ok (l, hh, m) w →
            (Instr.sliceAt t (a.eval x) (lo.map a.eval) (hi.map a.eval) none).run P w = .ok (.string (s.extract l hh)) w := by
          intro l hh m w hb
          simp [Instr.sliceAt, Instr.slice, he, Ty.run_und w hu, hb]
        split at h
        · refine ⟨.v _, _, (rfl : _ = _), fun w => ?_, h⟩
          rw [show (none : Option Operand).map a.eval = none from rfl] at base ⊢
          rw [base 0 s.size s.size w (by simp [Instr.sliceBounds])]
        · rename_i hv
          obtain ⟨k, i, hiv, h⟩ := vint_spec hA h
          obtain ⟨⟨h0, h1⟩, h⟩ := h
          refine ⟨.v _, _, (rfl : _ = _), fun w => ?_, h⟩
          simp only [Option.map_none, Option.map_some, hiv] at base ⊢
          rw [base 0 i.toNat s.size w (by simp [Instr.sliceBounds, bnd k i s.size _ w h0 h1])]
        · rename_i lv
          obtain ⟨k, i, hiv, h⟩ := vint_spec hA h
          obtain ⟨⟨h0, h1⟩, h⟩ := h
          refine ⟨.v _, _, (rfl : _ = _), fun w => ?_, h⟩
          simp only [Option.map_none, Option.map_some, hiv] at base ⊢
          rw [base i.toNat s.size s.size w (by simp [Instr.sliceBounds, bnd k i s.size _ w h0 h1])]
        · rename_i lv hv
          obtain ⟨k, i, hiv, h⟩ := vint_spec hA h
          obtain ⟨k', j, hjv, h⟩ := vint_spec hA h
          obtain ⟨⟨h0, h1, h2, h3⟩, h⟩ := h
          refine ⟨.v _, _, (rfl : _ = _), fun w => ?_, h⟩
          simp only [Option.map_none, Option.map_some, hiv, hjv] at base ⊢
          rw [base i.toNat j.toNat s.size w (by simp [Instr.sliceBounds, bnd k' j s.size _ w h0 h1, bnd k i j.toNat _ w h2 (by omega)])]
      · exact h.elim
    · exact h.elim

/-- **Whatever computes.** -/
theorem vpure_spec (hT : TOk P T) (hA : Ag F a) {o : Oper} (h : vpure P T wr o F K) : Goes P o a K := by
  obtain ⟨dst, op, ty, pos, after, guard⟩ := o
  cases op
  case move x => exact ⟨_, _, hA.ev x, fun w => by simp [execOp], h⟩
  case assign x => exact ⟨_, _, hA.ev x, fun w => by simp [execOp], h⟩
  case pick => exact goes_pick hA h
  case nilCheck => exact goes_nilCheck hA h
  case binOp => exact goes_binop hT hA h
  case unOp => exact goes_unop hA h
  case convert => exact goes_convert hT hA h
  case makeInterface => exact goes_makeInterface hA h
  case makeFunc => exact goes_makeFunc hA h
  case slice => exact goes_slice hT hA h
  case fieldAddr => exact goes_fieldAddr hT hA h
  case field => exact goes_field hT hA h
  case indexAddr => exact goes_indexAddr hT hA h
  case index => exact goes_index hT hA h
  case build => exact goes_build hT hA h
  case extract => exact goes_extract hA h
  case call c =>
    obtain ⟨callee, args, ts⟩ := c
    cases callee with
    | value f => simp only [vpure] at h
    | invoke r m => simp only [vpure] at h
    | builtin b =>
      cases b
      case len => exact goes_len hT hA h
      case max => exact goes_max hA h
      case min => exact goes_min hA h
      all_goals simp only [vpure] at h
  all_goals simp only [vpure] at h

end Go.V
