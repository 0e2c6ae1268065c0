/- Own texts, packed: Z21, Z22, Z24, Z25, Z26, Z27, Z28, Z29, Z30. -/
import Derived.Test.YtpfkpmapimonbaaGTCg
import Derived.Test.YtpfkpmapimonbaaGTXg
import Derived.ChangeKeysEq
import Derived.Laws.StructEq
import Derived.Test.YtpfkpmapimonbaaGXg
import Derived.Test.YtpfkpmapimonbaaGTDg

/-! archipelagoref21: a graph in memory; pair, there, at, Has, Add, Drop: the walks. -/
namespace Go.Proofs.Ytpfkpmapimonbaa
open Go Go.V Go.RowKit
set_option linter.unusedVariables false
set_option linter.unusedSimpArgs false
set_option maxHeartbeats 4000000
set_option maxRecDepth 100000

theorem equal_pr (a b c e : Int) (w : World) : (Op.equalIn 10000 35 (.agg #[.int .i64 a, .int .i64 b]) (.agg #[.int .i64 c, .int .i64 e])).run P w = .ok (decide (a = c ∧ b = e)) w := by
  rw [run_equalIn_array (P := P) (w := w) 9999 (n := 2) (e := 3) (i := (P.info? 3).getD default) _ _ Try.underlying35 (by kernel_rfl)]
  have hu : P.underlying 3 = some (.int .i64) := by kernel_rfl
  have hp : P.plainKey 3 = true := by kernel_rfl
  have hc : P.cellsOf 3 = 1 := by kernel_rfl
  have e1 : ∀ (x y : Int) (w : World), (part 3 #[.int .i64 x, .int .i64 y] 0).run P w = .ok (.int .i64 x) w := fun x y w => run_part_plain w hp rfl
  have e2 : ∀ (x y : Int) (w : World), (part 3 #[.int .i64 x, .int .i64 y] 1).run P w = .ok (.int .i64 y) w := fun x y w => run_part_plain w hp rfl
  have q : ∀ (x y : Int) (w : World), (Op.equalIn 9999 3 (.int .i64 x) (.int .i64 y)).run P w = .ok (x == y) w := fun x y w => run_equalIn_int w 9998 _ _ _ _ _ hu
  rw [hc, show List.range 2 = [0, 1] from rfl]
  simp only [Op.eqItems, Nat.zero_mul, Nat.one_mul, Sem.run_bind, Sem.run_ite, e1, e2, q, Result.andThen_ok]
  by_cases h1 : a = c
  · by_cases h2 : b = e
    · simp [h1, h2]
    · simp [h1, h2]
  · simp [h1]
theorem run_eqP (s t : Operand) (a b c e : Int) (w : World) : Sem.run P (do eqGuard .eql 35 s t (.agg #[.int .i64 a, .int .i64 b]) (.agg #[.int .i64 c, .int .i64 e]); Go.binOp .eql 35 (.agg #[.int .i64 a, .int .i64 b]) (.agg #[.int .i64 c, .int .i64 e]) : Sem Value) w = .ok (.bool (decide (a = c ∧ b = e))) w := by
  rw [Sem.run_bind, run_eqGuard_agg w .eql 35 s t _ _ (by kernel_rfl), Result.andThen_ok, run_eql_struct w, equal_pr]
  rfl
def prC (e : Nat × Nat) : List Value := [.int .i64 (e.1 : Int), .int .i64 (e.2 : Int)]
def prs (E : List (Nat × Nat)) : List Value := E.flatMap prC
theorem prs_length (E : List (Nat × Nat)) : (prs E).length = E.length * 2 := by
  induction E with
  | nil => rfl
  | cons x E ih => show (prC x ++ prs E).length = _; rw [List.length_append, ih]; show 2 + _ = _; simp only [List.length_cons]; omega
theorem prs_append (E F : List (Nat × Nat)) : prs (E ++ F) = prs E ++ prs F := by simp [prs]
theorem prs_get : ∀ (E : List (Nat × Nat)) (x : Nat) (hx : x < E.length) (j : Nat), j < 2 → (prs E)[x * 2 + j]? = (prC E[x])[j]?
  | a :: E, 0, hx, j, hj => by
    show (prC a ++ prs E)[0 * 2 + j]? = _
    rw [Nat.zero_mul, Nat.zero_add, List.getElem?_append_left (by show j < 2; exact hj)]; rfl
  | a :: E, x + 1, hx, j, hj => by
    show (prC a ++ prs E)[(x + 1) * 2 + j]? = _
    rw [List.getElem?_append_right (by show 2 ≤ _; omega)]
    have := prs_get E x (by simpa using hx) j hj
    rw [show (x + 1) * 2 + j - (prC a).length = x * 2 + j by show _ - 2 = _; omega, this]; rfl
theorem prs_take (E : List (Nat × Nat)) (k : Nat) : (prs E).take (k * 2) = prs (E.take k) := by
  induction k generalizing E with
  | zero => simp [prs]
  | succ k ih =>
    cases E with
    | nil => simp [prs]
    | cons e E =>
      rw [show (k + 1) * 2 = k * 2 + 1 + 1 by omega]
      show List.take (k * 2 + 1 + 1) (.int .i64 (e.1 : Int) :: .int .i64 (e.2 : Int) :: prs E) = .int .i64 (e.1 : Int) :: .int .i64 (e.2 : Int) :: prs (List.take k E)
      rw [List.take_succ_cons, List.take_succ_cons, ih]
theorem prs_drop (E : List (Nat × Nat)) (k : Nat) : (prs E).drop (k * 2) = prs (E.drop k) := by
  induction k generalizing E with
  | zero => simp
  | succ k ih =>
    cases E with
    | nil => simp [prs]
    | cons e E => rw [show (k + 1) * 2 = k * 2 + 1 + 1 by omega]; exact ih E
theorem elemPr : ElemK P 32 35 2 (P.bytesOf 35) := ⟨(P.info? 35).getD default, ((P.info? 35).getD default).zero.getD undef, by kernel_rfl, by kernel_rfl, by kernel_rfl, by kernel_rfl, by kernel_rfl, by kernel_rfl, by decide⟩
theorem bytesPr : P.bytesOf 35 ≤ 64 := of_decide_eq_true (by kernel_rfl)
/-- A graph of the reference in memory, whose blocks are of T. -/
structure GR (w : World) (base r N : Nat) (T : Nat → Prop) (A : Option Addr) (n c : Nat) (E : List (Nat × Nat)) : Prop where
  blk : w.heap[r]? = some (.cells #[.int .i64 (N : Int), .slice A n c] 34 (0, 0))
  own : OwnedK w base 35 2 A n c (prs E)
  tr : T r
  ta : ∀ q, (Value.slice A n c).ownBlock = some q → T q
  lt : ∀ q, T q → q < w.heap.size
section
variable {w w' : World} {base r N n c : Nat} {T : Nat → Prop} {A : Option Addr} {E : List (Nat × Nat)}
theorem GR.len (h : GR w base r N T A n c E) : n = E.length := by have := h.own.cases.1; rw [prs_length] at this; omega
theorem GR.kp {S : Nat → Prop} (h : GR w base r N T A n c E) (hk : Kp w w' S) (hd : ∀ q, T q → ¬ S q) : GR w' base r N T A n c E :=
  ⟨by rw [hk.block _ (Array.getElem?_eq_some_iff.1 h.blk).1 (hd r h.tr)]; exact h.blk, h.own.kp hk (fun q hq => hd q (h.ta q hq)), h.tr, h.ta, fun q hq => Nat.lt_of_lt_of_le (h.lt q hq) hk.size⟩
theorem GR.kept (h : GR w base r N T A n c E) (hg : w.grownBy w' none) : GR w' base r N T A n c E := h.kp (S := fun _ => False) (Kp.of_none hg) (fun _ _ e => e)
theorem GR.cell (h : GR w base r N T A n c E) {x : Nat} (hx : x < E.length) : ∃ a, A = some a ∧ w.cell? (a.add (x * 2)) = some (.int .i64 (E[x].1 : Int)) ∧ w.cell? (Addr.add (a.add (x * 2)) 1) = some (.int .i64 (E[x].2 : Int)) := by
  obtain ⟨a, e1, e2⟩ := h.own.row (x * 2 + 0) (.int .i64 (E[x].1 : Int)) (by rw [prs_get E x hx 0 (by omega)]; rfl)
  obtain ⟨b, f1, f2⟩ := h.own.row (x * 2 + 1) (.int .i64 (E[x].2 : Int)) (by rw [prs_get E x hx 1 (by omega)]; rfl)
  rw [e1] at f1; cases f1
  exact ⟨a, e1, e2, by rw [add_add]; exact f2⟩
theorem there_calls (h : GR w base r N T A n c E) (x : Int) : Calls P 55 #[.pointer (some ⟨r, 0, none⟩), .int .i64 x] w fun ev w' => ev = .returned (.bool (decide (0 ≤ x ∧ x < (N : Int)))) ∧ w' = w := by
  apply vc55; unfold VC55; try (conv => zeta)
  refine ⟨fun h0 => ⟨_, rfl, _, blk_cell h.blk 0, ?_, rfl⟩, fun h0 => ⟨?_, rfl⟩⟩
  · congr 2
    exact decide_eq_decide.2 ⟨fun h' => ⟨h0, h'⟩, fun h' => h'.2⟩
  · rw [decide_eq_false (by omega)]
theorem mnE (u v : Int) : mn u v = min u v := by unfold mn; split <;> omega
theorem mxE (u v : Int) : mx u v = max u v := by unfold mx; split <;> omega
theorem pair_calls (u v : Int) : Calls P 64 #[.int .i64 u, .int .i64 v] w fun ev w' => ev = .returned (.agg #[.int .i64 (min u v), .int .i64 (max u v)]) ∧ w.grownBy w' none := by
  apply vc64; unfold VC64; try (conv => zeta)
  simp only [mnE, mxE]
  have b0 := heap_alloc_new w (.cells #[.int .i64 0, .int .i64 0] 35)
  have s1 := blk_set b0 0 (.int .i64 (min u v))
  have s2 := blk_set s1 1 (.int .i64 (max u v))
  refine ⟨⟨_, blk_cell b0 0⟩, blk_free b0 0, ⟨_, blk_cell s1 1⟩, blk_free s1 1, _, blk_cell s2 0, _, blk_cell s2 1, rfl, ?_⟩
  exact (kset (kset (Kp.of_none (S := fun q => w.heap.size ≤ q) (World.grownBy_alloc w _ none)) (Nat.le_refl _)) (Nat.le_refl _)).grown (fun q hq e => by omega)
/-- Where an edge stands. -/
def AtP (E : List (Nat × Nat)) (u v i : Int) : Prop := (i = -1 ∧ ¬ ((0 ≤ u ∧ 0 ≤ v) ∧ pairE u.toNat v.toNat ∈ E)) ∨ ∃ j : Nat, i = j ∧ (0 ≤ u ∧ 0 ≤ v) ∧ ∃ h : j < E.length, E[j] = pairE u.toNat v.toNat
theorem pair_nat {e : Nat × Nat} {u v : Int} : ((e.1 : Int) = min u v ∧ (e.2 : Int) = max u v) ↔ (0 ≤ u ∧ 0 ≤ v) ∧ e = pairE u.toNat v.toNat := by
  obtain ⟨a, b⟩ := e
  unfold pairE
  simp only [Prod.mk.injEq]
  omega
theorem gat_calls (h : GR w base r N T A n c E) (u v : Int) (hl : E.length ≤ 2 ^ 30) : Calls P 53 #[.pointer (some ⟨r, 0, none⟩), .int .i64 u, .int .i64 v] w fun ev w' => ∃ i : Int, ev = .returned (.int .i64 i) ∧ AtP E u v i ∧ w.grownBy w' none := by
  apply vc53; unfold VC53; try (conv => zeta)
  simp only [InK]
  have hn := h.len
  refine ⟨fun m i W => ∃ p : Nat, i = p ∧ p ≤ E.length ∧ m = E.length - p ∧ w.grownBy W none ∧ ∀ j (hj : j < E.length), j < p → ¬ ((0 ≤ u ∧ 0 ≤ v) ∧ E[j] = pairE u.toNat v.toNat), ⟨_, 0, rfl, by omega, rfl, grown_refl _ _, fun j hj h => by omega⟩, ?_⟩
  rintro m i W ⟨p, rfl, hp, rfl, gW, hx⟩
  have hW := h.kept gW
  have tp : (p : Int).toNat = p := by omega
  rw [tp]
  refine ⟨_, rfl, _, _, _, by rw [add_blk]; exact blk_cell hW.blk 1, fun hlt => ?_, fun hge => ⟨-1, rfl, .inl ⟨rfl, ?_⟩, gW⟩⟩
  · have lp : p < E.length := by omega
    have gd := grown_drew (grown_refl W none)
    have hd := hW.kept gd
    obtain ⟨a, e1, e2, e3⟩ := hd.cell lp
    refine ⟨fun W' => W.drew.grownBy W' none, grown_refl _ _, _, rfl, _, _, _, fun W' g' => by rw [add_blk]; exact blk_cell (hd.kept g').blk 1, a, e1, by omega, by omega, (E[p].1 : Int), fun W' g' => ?_, (E[p].2 : Int), fun W' g' => ?_, (pair_calls u v).mono fun ev w2 hh => ?_⟩
    · obtain ⟨a', f1, f2, f3⟩ := (hd.kept g').cell lp
      rw [e1] at f1; cases f1; exact f2
    · obtain ⟨a', f1, f2, f3⟩ := (hd.kept g').cell lp
      rw [e1] at f1; cases f1; exact f3
    · obtain ⟨rfl, g2⟩ := hh
      have gg := grown_trans gW (grown_trans gd g2)
      refine ⟨_, _, rfl, g2, _, fun w => run_eqP _ _ _ _ _ _ w, fun hy => ⟨(p : Int), rfl, .inr ⟨p, rfl, ?_⟩, gg⟩, fun hno => ⟨by omega, E.length - (p + 1), by omega, p + 1, by omega, by omega, rfl, gg, fun j hj hjp => ?_⟩⟩
      · have := pair_nat.1 (of_decide_eq_true hy)
        exact ⟨this.1, lp, this.2⟩
      · by_cases e : j = p
        · subst e
          exact fun h' => (of_decide_eq_false hno) (pair_nat.2 h')
        · exact hx j hj (by omega)
  · rintro ⟨h0, h1⟩
    obtain ⟨j, hj, e⟩ := List.mem_iff_getElem.1 h1
    exact hx j hj (by omega) ⟨h0, e⟩
theorem ghas_calls (h : GR w base r N T A n c E) (u v : Int) (hl : E.length ≤ 2 ^ 30) : Calls P 34 #[.pointer (some ⟨r, 0, none⟩), .int .i64 u, .int .i64 v] w fun ev w' => ev = .returned (.bool (decide ((0 ≤ u ∧ 0 ≤ v) ∧ pairE u.toNat v.toNat ∈ E))) ∧ w.grownBy w' none := by
  apply vc34; unfold VC34; try (conv => zeta)
  refine (gat_calls h u v hl).mono fun ev w1 hh => ?_
  obtain ⟨i, rfl, hi, g1⟩ := hh
  refine ⟨_, rfl, ?_, g1⟩
  rcases hi with ⟨rfl, hno⟩ | ⟨j, rfl, h0, hj, e⟩
  · rw [decide_eq_false hno]; rfl
  · rw [decide_eq_true (show (0 ≤ u ∧ 0 ≤ v) ∧ pairE u.toNat v.toNat ∈ E from ⟨h0, by rw [← e]; exact List.getElem_mem hj⟩), decide_eq_true (by omega)]
end
end Go.Proofs.Ytpfkpmapimonbaa

/-! archipelagoref21: Add, Drop, Part, Connected, Link, Count; archipelagohelp.Ints: the walks. -/
namespace Go.Proofs.Ytpfkpmapimonbaa
open Go Go.V Go.RowKit
set_option linter.unusedVariables false
set_option linter.unusedSimpArgs false
set_option maxHeartbeats 4000000
set_option maxRecDepth 100000

theorem intsZ_calls {w : World} {A B : Option Addr} {n c m d : Nat} {xs ys : List Int} (hA : Row w A (i64s xs)) (hB : Row w B (i64s ys)) (hn : n = xs.length) (hm : m = ys.length) (hb : n ≤ 2 ^ 60) :
    Calls P 23 #[.slice A n c, .slice B m d] w fun ev w' => ev = .returned (.bool (decide (xs = ys))) ∧ w.grownBy w' none := by
  apply vc23; unfold VC23; try (conv => zeta)
  simp only [InK]
  refine ⟨fun h => ⟨?_, grown_refl _ _⟩, fun h => ?_⟩
  · have : xs ≠ ys := fun e => by subst e; omega
    simp [this]
  · have hl : xs.length = ys.length := by omega
    refine ⟨fun ms i w' => ∃ k : Nat, i = (k : Int) ∧ k ≤ xs.length ∧ ms = xs.length - k ∧ xs.take k = ys.take k ∧ w.grownBy w' none, ⟨_, 0, rfl, by omega, rfl, by simp, grown_refl _ _⟩, ?_⟩
    rintro ms i w' ⟨k, rfl, hk, rfl, ht, hg⟩
    refine ⟨fun hlt => ?_, fun hge => ?_⟩
    · have l1 : k < xs.length := by omega
      have l2 : k < ys.length := by omega
      obtain ⟨a, ha1, ha2⟩ := (hA.kept_none hg) k (.int .i64 xs[k]) (by simp [l1])
      obtain ⟨b, hb1, hb2⟩ := (hB.kept_none hg) k (.int .i64 ys[k]) (by simp [l2])
      refine ⟨a, ha1, by omega, by omega, xs[k], ha2, b, hb1, by omega, by omega, ys[k], hb2, fun hne => ⟨?_, grown_drew hg⟩, fun he => ?_⟩
      · have : xs ≠ ys := fun e => hne (by subst e; rfl)
        simp [this]
      · have he : xs[k] = ys[k] := Decidable.not_not.1 he
        refine ⟨by omega, xs.length - (k + 1), by omega, k + 1, by omega, by omega, rfl, ?_, grown_drew hg⟩
        rw [List.take_succ_eq_append_getElem l1, List.take_succ_eq_append_getElem l2, ht, he]
    · have hk' : k = xs.length := by omega
      rw [hk', List.take_length, hl, List.take_length] at ht
      refine ⟨?_, hg⟩
      simp [ht]
theorem append_prs {w : World} {base : Nat} {A B : Option Addr} {n c m d : Nat} {xs ys : List (Nat × Nat)} (ho : OwnedK w base 35 2 A n c (prs xs)) (hB : Row w B (prs ys)) (hm : m = ys.length) (hd : B = none → d = 0) (hn : n + m ≤ 2 ^ 39) (hb : base ≤ w.heap.size) :
    ∃ (A' : Option Addr) (n' c' : Nat) (w' : World), Sem.run P (Builtin.append_ #[32, 32] 32 #[.slice A n c, .slice B m d]) w = .ok (.slice A' n' c') w' ∧
      OwnedK w' base 35 2 A' n' c' (prs (xs ++ ys)) ∧ w.grownBy w' (Value.slice A n c).ownBlock ∧ (∀ k, (Value.slice A' n' c').ownBlock = some k → (Value.slice A n c).ownBlock = some k ∨ w.heap.size ≤ k) := by
  cases B with
  | none =>
    have hys : ys = [] := by
      cases ys with
      | nil => rfl
      | cons y ys => obtain ⟨a, e, _⟩ := hB 0 _ rfl; cases e
    subst hys
    have h0 : m = 0 := by simpa using hm
    have h1 := hd rfl
    subst h0 h1
    exact ⟨A, n, c, w, ho.appends_nil elemPr, by simpa using ho, grown_refl _ _, fun k hk => .inl hk⟩
  | some a =>
    obtain ⟨A', n', c', w', h1, h2, h3, h4, h5⟩ := ho.appends (ty := 32) elemPr bytesPr (a := a) (m := m) (cc := d) (us := prs ys) (by rw [prs_length, hm]) (fun j u hj => by obtain ⟨b, q1, q2⟩ := hB j u hj; cases q1; exact q2) (fun u hu => by
      simp only [prs, List.mem_flatMap] at hu
      obtain ⟨e, _, he⟩ := hu
      simp [prC] at he
      rcases he with rfl | rfl <;> rfl) (by omega) hb
    refine ⟨A', n', c', w', h1, by rw [prs_append]; exact h2, h4, fun k hk => ?_⟩
    rcases h5 with h | h
    · left; rw [← h]; exact hk
    · right; rw [h] at hk; cases hk; exact Nat.le_refl _
theorem cutPr {w : World} {A : Option Addr} {c k : Nat} {l : List (Nat × Nat)} (h : Row w A (prs l)) (hA : A = none → c = 0) (hc : l.length ≤ c) : Row w (cutA A c k 2) (prs (l.drop k)) ∧ (cutA A c k 2 = none → c - k = 0) := by
  unfold cutA
  split
  · rename_i hck
    refine ⟨?_, fun _ => by omega⟩
    rw [List.drop_eq_nil_of_le (by omega)]
    intro j u hj; simp [prs] at hj
  · have := h.drop (k * 2)
    rw [prs_drop] at this
    refine ⟨this, fun e => ?_⟩
    cases A with
    | none => rw [hA rfl]; omega
    | some a => simp at e
theorem takePr {w : World} {A : Option Addr} {l : List (Nat × Nat)} (h : Row w A (prs l)) (k : Nat) : Row w A (prs (l.take k)) := by
  intro j u hj
  rw [← prs_take, List.getElem?_take] at hj
  split at hj
  · exact h j u hj
  · cases hj
section
variable {w w' : World} {base r N n c : Nat} {T : Nat → Prop} {A : Option Addr} {E : List (Nat × Nat)}
theorem GR.capz (h : GR w base r N T A n c E) : A = none → c = 0 := by
  obtain ⟨_, h2 | ⟨_, _, e, _⟩⟩ := h.own.cases
  · intro _; exact h2.2.2.1
  · intro e'; rw [e'] at e; cases e
/-- The row of edges is another one. -/
theorem GR.put {A' : Option Addr} {n' c' : Nat} {E' : List (Nat × Nat)} {W : World} (h : GR w base r N T A n c E) (hb : W.heap[r]? = some (.cells #[.int .i64 (N : Int), .slice A n c] 34 (0, 0))) (ho : OwnedK W base 35 2 A' n' c' (prs E')) (hk : Kp w W T) (hn : ∀ k, (Value.slice A' n' c').ownBlock = some k → T k ∨ w.heap.size ≤ k) :
    GR (W.setCell ⟨r, 1, none⟩ (.slice A' n' c')) base r N (extS T w (W.setCell ⟨r, 1, none⟩ (.slice A' n' c'))) A' n' c' E' ∧ Kp w (W.setCell ⟨r, 1, none⟩ (.slice A' n' c')) T := by
  have s1 := blk_set hb 1 (.slice A' n' c')
  have KS : Kp W (W.setCell ⟨r, 1, none⟩ (.slice A' n' c')) (fun q => q = r) := kset (Kp.refl W _) rfl
  have KF := hk.then KS (fun q _ e => by rw [e]; exact h.tr)
  have ho' := ho.kp KS (fun q hq e => by subst e; exact own_far ho hb (by decide) hq)
  refine ⟨⟨by simpa using s1, ho', .inl h.tr, fun q hq => ?_, fun q hq => ?_⟩, KF⟩
  · rcases hn q hq with e | e
    · exact .inl e
    · exact .inr ⟨e, ho'.block_lt q hq⟩
  · rcases hq with e | e
    · exact Nat.lt_of_lt_of_le (h.lt q e) KF.size
    · exact e.2
theorem gadd_calls (h : GR w base r N T A n c E) (hb : base ≤ w.heap.size) (u v : Int) (hl : E.length ≤ 2 ^ 29) (hN : N ≤ 2 ^ 40) : Calls P 30 #[.pointer (some ⟨r, 0, none⟩), .int .i64 u, .int .i64 v] w fun ev w' => ev = .returned (.bool (decide ((0 ≤ u ∧ u < N) ∧ (0 ≤ v ∧ v < N) ∧ u ≠ v ∧ pairE u.toNat v.toNat ∉ E))) ∧
    ∃ (A' : Option Addr) (n' c' : Nat), GR w' base r N (extS T w w') A' n' c' (if (0 ≤ u ∧ u < N) ∧ (0 ≤ v ∧ v < N) ∧ u ≠ v ∧ pairE u.toNat v.toNat ∉ E then E ++ [pairE u.toNat v.toNat] else E) ∧ Kp w w' T := by
  apply vc30; unfold VC30; try (conv => zeta)
  have no : ∀ W, w.grownBy W none → ¬ ((0 ≤ u ∧ u < N) ∧ (0 ≤ v ∧ v < N) ∧ u ≠ v ∧ pairE u.toNat v.toNat ∉ E) → Ending.returned (.bool false) = Ending.returned (.bool (decide ((0 ≤ u ∧ u < N) ∧ (0 ≤ v ∧ v < N) ∧ u ≠ v ∧ pairE u.toNat v.toNat ∉ E))) ∧
      ∃ (A' : Option Addr) (n' c' : Nat), GR W base r N (extS T w W) A' n' c' (if (0 ≤ u ∧ u < N) ∧ (0 ≤ v ∧ v < N) ∧ u ≠ v ∧ pairE u.toNat v.toNat ∉ E then E ++ [pairE u.toNat v.toNat] else E) ∧ Kp w W T := fun W gW hn => by
    have h' := h.kept gW
    refine ⟨by rw [decide_eq_false hn], A, n, c, by rw [if_neg hn]; exact ⟨h'.blk, h'.own, .inl h'.tr, fun q hq => .inl (h'.ta q hq), fun q hq => hq.elim (h'.lt q) (fun e => e.2)⟩, Kp.of_none gW⟩
  refine (there_calls h u).mono fun ev w1 hh => ?_
  obtain ⟨rfl, rfl⟩ := hh
  refine ⟨_, rfl, fun h1 => no _ (grown_refl _ _) (fun h' => (of_decide_eq_false h1) h'.1), fun h1 => (there_calls h v).mono fun ev w2 hh => ?_⟩
  obtain ⟨rfl, rfl⟩ := hh
  have hu : 0 ≤ u ∧ u < (N : Int) := by simpa using h1
  refine ⟨_, rfl, fun h2 => no _ (grown_refl _ _) (fun h' => (of_decide_eq_false h2) h'.2.1), fun h2 => ⟨fun he => no _ (grown_refl _ _) (fun h' => h'.2.2.1 he), fun hne => (ghas_calls h u v (by omega)).mono fun ev w3 hh => ?_⟩⟩
  obtain ⟨rfl, g3⟩ := hh
  have hv : 0 ≤ v ∧ v < (N : Int) := by simpa using h2
  refine ⟨_, rfl, fun h3 => no _ g3 (fun h' => h'.2.2.2 (of_decide_eq_true h3).2), fun h3 => ?_⟩
  have yes : (0 ≤ u ∧ u < (N : Int)) ∧ (0 ≤ v ∧ v < (N : Int)) ∧ u ≠ v ∧ pairE u.toNat v.toNat ∉ E := ⟨hu, hv, hne, fun h' => (of_decide_eq_false h3) ⟨⟨hu.1, hv.1⟩, h'⟩⟩
  have gd := grown_drew (grown_refl w3 none)
  have h3d := (h.kept g3).kept gd
  have g3d := grown_trans g3 gd
  obtain ⟨w4, hw4⟩ : ∃ w4, w4 = w3.drew := ⟨_, rfl⟩
  rw [← hw4] at gd h3d g3d ⊢
  have hn := h.len
  -- the edge as a row
  have row5 : ∀ W, w4.grownBy W none → GR W base r N T A n c E ∧ (W.alloc (.cells #[.int .i64 (min u v), .int .i64 (max u v)] 35)).cell? ⟨r, 1, none⟩ = some (.slice A n c) ∧ ∃ (A' : Option Addr) (n' c' : Nat) (W' : World), Sem.run P (Builtin.append_ #[32, 32] 32 #[.slice A n c, .slice (some ⟨W.heap.size, 0, none⟩) 1 1]) (W.alloc (.cells #[.int .i64 (min u v), .int .i64 (max u v)] 35)) = .ok (.slice A' n' c') W' ∧ (∃ uv_ : Value, W'.cell? ⟨r, 1, none⟩ = some uv_) ∧ W'.frozen? ⟨r, 1, none⟩ = false ∧
      GR (W'.setCell ⟨r, 1, none⟩ (.slice A' n' c')) base r N (extS T w2 (W'.setCell ⟨r, 1, none⟩ (.slice A' n' c'))) A' n' c' (E ++ [pairE u.toNat v.toNat]) ∧ Kp w2 (W'.setCell ⟨r, 1, none⟩ (.slice A' n' c')) T := by
    intro W gW
    have hW := h3d.kept gW
    have gA := World.grownBy_alloc W (.cells #[.int .i64 (min u v), .int .i64 (max u v)] 35) none
    have rA : Row (W.alloc (.cells #[.int .i64 (min u v), .int .i64 (max u v)] 35)) (some ⟨W.heap.size, 0, none⟩) (prs [pairE u.toNat v.toNat]) := by
      have := row_new W #[.int .i64 (min u v), .int .i64 (max u v)] 35
      have e : prs [pairE u.toNat v.toNat] = [.int .i64 (min u v), .int .i64 (max u v)] := by
        have := (pair_nat (e := pairE u.toNat v.toNat) (u := u) (v := v)).2 ⟨⟨hu.1, hv.1⟩, rfl⟩
        simp [prs, prC, this.1, this.2]
      rw [e]; exact this
    have hA := hW.kept gA
    have g0A := grown_trans (grown_trans g3d gW) gA
    obtain ⟨A', n', c', W', r1, r2, r3, r4⟩ := append_prs hA.own rA (m := 1) (d := 1) rfl (fun e => by cases e) (by omega) (Nat.le_trans hb g0A.size)
    have b1 : W'.heap[r]? = some (.cells #[.int .i64 (N : Int), .slice A n c] 34 (0, 0)) := by rw [r3.block _ (Array.getElem?_eq_some_iff.1 hA.blk).1 (fun e => own_far hA.own hA.blk (by decide) e.symm)]; exact hA.blk
    have K : Kp w2 W' T := (Kp.of_none g0A).step r3 (fun k hk => .inr (h.ta k hk))
    obtain ⟨q1, q2⟩ := h.put b1 r2 K (fun k hk => by
      rcases r4 k hk with e | e
      · exact .inl (h.ta k e)
      · exact .inr (Nat.le_trans g0A.size e))
    exact ⟨hW, blk_cell hA.blk 1, A', n', c', W', r1, ⟨_, blk_cell b1 1⟩, blk_free b1 1, q1, q2⟩
  have fin : ∀ W, GR W base r N (extS T w2 W) A n c E → True := fun _ _ => trivial
  refine ⟨⟨_, rfl, A, n, c, by rw [add_blk]; exact blk_cell h3d.blk 1, (pair_calls u v).mono fun ev w5 hh => ?_⟩, ⟨_, rfl, (pair_calls u v).mono fun ev w5 hh => ?_⟩, ⟨_, rfl, (pair_calls u v).mono fun ev w5 hh => ?_⟩⟩
  · obtain ⟨rfl, g5⟩ := hh
    obtain ⟨hW, _, A', n', c', W', r1, r2, r3, r4, r5⟩ := row5 w5 g5
    refine ⟨_, _, rfl, A', n', c', W', r1, _, rfl, by rw [add_blk]; exact r2, by rw [add_blk]; exact r3, by rw [decide_eq_true yes], A', n', c', ?_⟩
    rw [if_pos yes, add_blk]; exact ⟨r4, r5⟩
  · obtain ⟨rfl, g5⟩ := hh
    obtain ⟨hW, _, A', n', c', W', r1, r2, r3, r4, r5⟩ := row5 w5 g5
    refine ⟨_, _, rfl, A, n, c, by rw [add_blk]; exact blk_cell hW.blk 1, A', n', c', W', r1, _, rfl, by rw [add_blk]; exact r2, by rw [add_blk]; exact r3, by rw [decide_eq_true yes], A', n', c', ?_⟩
    rw [if_pos yes, add_blk]; exact ⟨r4, r5⟩
  · obtain ⟨rfl, g5⟩ := hh
    obtain ⟨hW, hc5, A', n', c', W', r1, r2, r3, r4, r5⟩ := row5 w5 g5
    refine ⟨_, _, rfl, A, n, c, by rw [add_blk]; exact hc5, A', n', c', W', r1, _, rfl, by rw [add_blk]; exact r2, by rw [add_blk]; exact r3, by rw [decide_eq_true yes], A', n', c', ?_⟩
    rw [if_pos yes, add_blk]; exact ⟨r4, r5⟩
theorem erase_at {E : List (Nat × Nat)} (hd : E.Nodup) {j : Nat} (hj : j < E.length) {e : Nat × Nat} (he : E[j] = e) : E.erase e = E.take j ++ E.drop (j + 1) := by
  have hi : E.idxOf e = j := by rw [← he, List.Nodup.idxOf_getElem hd]
  have hm : e ∈ E := by rw [← he]; exact List.getElem_mem hj
  rw [List.erase_eq_eraseIdx_of_idxOf hi, List.eraseIdx_eq_take_drop_succ]
theorem gdrop_calls (h : GR w base r N T A n c E) (hb : base ≤ w.heap.size) (hd : E.Nodup) (u v : Int) (hl : E.length ≤ 2 ^ 29) : Calls P 18 #[.pointer (some ⟨r, 0, none⟩), .int .i64 u, .int .i64 v] w fun ev w' => ev = .returned (.bool (decide ((0 ≤ u ∧ 0 ≤ v) ∧ pairE u.toNat v.toNat ∈ E))) ∧
    ∃ (A' : Option Addr) (n' c' : Nat), GR w' base r N (extS T w w') A' n' c' (if (0 ≤ u ∧ 0 ≤ v) ∧ pairE u.toNat v.toNat ∈ E then E.erase (pairE u.toNat v.toNat) else E) ∧ Kp w w' T := by
  apply vc18; unfold VC18; try (conv => zeta)
  simp only [InK]
  refine (gat_calls h u v (by omega)).mono fun ev w1 hh => ?_
  obtain ⟨i, rfl, hi, g1⟩ := hh
  have h1 := h.kept g1
  refine ⟨_, rfl, fun hlt => ?_, fun hge => ?_⟩
  · rcases hi with ⟨_, hno⟩ | ⟨j, rfl, _⟩
    · exact ⟨by rw [decide_eq_false hno], A, n, c, by rw [if_neg hno]; exact ⟨h1.blk, h1.own, .inl h1.tr, fun q hq => .inl (h1.ta q hq), fun q hq => hq.elim (h1.lt q) (fun e => e.2)⟩, Kp.of_none g1⟩
    · omega
  obtain ⟨j, rfl, h0, hj, he⟩ : ∃ j : Nat, i = j ∧ (0 ≤ u ∧ 0 ≤ v) ∧ ∃ h : j < E.length, E[j] = pairE u.toNat v.toNat := by
    rcases hi with ⟨rfl, _⟩ | h'
    · omega
    · exact h'
  have yes : (0 ≤ u ∧ 0 ≤ v) ∧ pairE u.toNat v.toNat ∈ E := ⟨h0, by rw [← he]; exact List.getElem_mem hj⟩
  have gd := grown_drew (grown_refl w1 none)
  have hd2 := h1.kept gd
  have g2 := grown_trans g1 gd
  obtain ⟨w2, hw2⟩ : ∃ w2, w2 = w1.drew := ⟨_, rfl⟩
  rw [← hw2] at gd hd2 g2 ⊢
  have hn := h.len
  have hnc := owned_leM h.own
  have tj : (j : Int).toNat = j := by omega
  have tj1 : ((j : Int) + 1).toNat = j + 1 := by omega
  rw [tj, tj1]
  obtain ⟨A3, n3, c3, w3, a1, a2, a3, a4⟩ := append_prs (xs := []) (OwnedK.nil w2 base 35 2) (takePr hd2.own.row j) (m := j) (d := c) (by rw [List.length_take]; omega) h.capz (by omega) (Nat.le_trans hb g2.size)
  rw [List.nil_append] at a2
  have g23 : w2.grownBy w3 none := a3
  have h3 := hd2.kept g23
  have hn3 : n3 = j := by have := a2.cases.1; rw [prs_length, List.length_take] at this; omega
  obtain ⟨k1, k2⟩ := cutPr (k := j + 1) h3.own.row h.capz (by omega)
  have g03 := grown_trans g2 g23
  obtain ⟨A4, n4, c4, w4, b1, b2, b3, b4⟩ := append_prs a2 k1 (m := n - (j + 1)) (d := c - (j + 1)) (by rw [List.length_drop]; omega) k2 (by omega) (Nat.le_trans hb g03.size)
  rw [← erase_at hd hj he] at b2
  have ha3ge : ∀ k, (Value.slice A3 n3 c3).ownBlock = some k → w2.heap.size ≤ k := fun k hk => by
    rcases a4 k hk with e | e
    · cases e
    · exact e
  have bb : w4.heap[r]? = some (.cells #[.int .i64 (N : Int), .slice A n c] 34 (0, 0)) := by rw [b3.block _ (Array.getElem?_eq_some_iff.1 h3.blk).1 (fun e => own_far a2 h3.blk (by decide) e.symm)]; exact h3.blk
  have K : Kp w w4 T := (Kp.of_none g03).step b3 (fun k hk => .inl (Nat.le_trans g2.size (ha3ge k hk)))
  obtain ⟨q1, q2⟩ := h.put bb b2 K (fun k hk => by
    rcases b4 k hk with e | e
    · exact .inr (Nat.le_trans g2.size (ha3ge k e))
    · exact .inr (Nat.le_trans g03.size e))
  have fin : Ending.returned (.bool true) = Ending.returned (.bool (decide ((0 ≤ u ∧ 0 ≤ v) ∧ pairE u.toNat v.toNat ∈ E))) ∧ ∃ (A' : Option Addr) (n' c' : Nat), GR (w4.setCell ⟨r, 1, none⟩ (.slice A4 n4 c4)) base r N (extS T w (w4.setCell ⟨r, 1, none⟩ (.slice A4 n4 c4))) A' n' c' (if (0 ≤ u ∧ 0 ≤ v) ∧ pairE u.toNat v.toNat ∈ E then E.erase (pairE u.toNat v.toNat) else E) ∧ Kp w (w4.setCell ⟨r, 1, none⟩ (.slice A4 n4 c4)) T := ⟨by rw [decide_eq_true yes], A4, n4, c4, by rw [if_pos yes]; exact q1, q2⟩
  refine ⟨⟨_, rfl, A, n, c, by rw [add_blk]; exact blk_cell hd2.blk 1, ⟨by omega, by omega⟩, A3, n3, c3, w3, a1, _, rfl, A, n, c, by rw [add_blk]; exact blk_cell h3.blk 1, by omega, ⟨by omega, by omega⟩, A4, n4, c4, w4, b1, _, rfl, by rw [add_blk]; exact ⟨_, blk_cell bb 1⟩, by rw [add_blk]; exact blk_free bb 1, by rw [add_blk]; exact fin⟩, ⟨_, rfl, A, n, c, by rw [add_blk]; exact blk_cell hd2.blk 1, ⟨by omega, by omega⟩, _, rfl, A, n, c, by rw [add_blk]; exact blk_cell hd2.blk 1, A3, n3, c3, w3, a1, by omega, ⟨by omega, by omega⟩, A4, n4, c4, w4, b1, _, rfl, by rw [add_blk]; exact ⟨_, blk_cell bb 1⟩, by rw [add_blk]; exact blk_free bb 1, by rw [add_blk]; exact fin⟩⟩
end
end Go.Proofs.Ytpfkpmapimonbaa

/-! archipelagoref21: Part, Connected, Link, Count: the walks, at a forest's edges. -/
namespace Go.Proofs.Ytpfkpmapimonbaa
open Go Go.V Go.RowKit
set_option linter.unusedVariables false
set_option linter.unusedSimpArgs false
set_option maxHeartbeats 4000000
set_option maxRecDepth 100000

abbrev boolsV (xs : List Bool) : List Value := xs.map Value.bool
theorem elemB1 : Elem P 44 4 (.bool false) 1 := ⟨(P.info? 4).getD default, by kernel_rfl, by kernel_rfl, by kernel_rfl, by kernel_rfl, by kernel_rfl, by kernel_rfl⟩
theorem run_neB21 (s t : Operand) (a b : Bool) (w : World) : Sem.run P (do eqGuard .neq 4 s t (.bool a) (.bool b); Go.binOp .neq 4 (.bool a) (.bool b) : Sem Value) w = .ok (.bool (!decide (a = b))) w := by
  cases a <;> cases b <;> rfl
section
variable {w w' : World} {base r N n c : Nat} {T : Nat → Prop} {A : Option Addr} {E : List (Nat × Nat)}
variable {L : List Nd} {M : List (Arc × Nat)} {free : List Nat} {σ : Nat → List Nat} {lab : Nat → It}
/-- A row of marks in a block of its own. -/
theorem own_cell {W : World} {b0 b m k : Nat} {xs : List Bool} (h : OwnedK W b0 4 1 (some ⟨b, 0, none⟩) m k (boolsV xs)) {j : Nat} (hj : j < xs.length) : W.cell? ⟨b, j, none⟩ = some (.bool xs[j]) := by
  obtain ⟨a, e1, e2⟩ := h.row j (.bool xs[j]) (by simp [hj])
  cases e1
  rw [add_blk] at e2; exact e2
theorem gpart_calls (h : GR w base r N T A n c E) (hT : TG N L σ M free lab E) (hN : N ≤ 2 ^ 30) (u : Int) : Calls P 22 #[.pointer (some ⟨r, 0, none⟩), .int .i64 u] w fun ev w' => ∃ (A : Option Addr) (m k : Nat), ev = .returned (.slice A m k) ∧ OwnedK w' w.heap.size 3 1 A m k (i64s (intsN (partN N σ u))) ∧ w.grownBy w' none := by
  apply vc22; unfold VC22; try (conv => zeta)
  simp only [InK]
  have hlen := h.len
  have hle := hT.le
  have hEl : E.length ≤ N := by have := hT.cnt; omega
  refine (there_calls h u).mono fun ev w1 hh => ?_
  obtain ⟨rfl, rfl⟩ := hh
  refine ⟨_, rfl, fun hno => ⟨none, 0, 0, rfl, ?_, grown_refl _ _⟩, fun hyes => ?_⟩
  · have : partN N σ u = [] := if_neg (of_decide_eq_false hno)
    rw [this]; exact OwnedK.nil _ _ _ _
  have hu : 0 ≤ u ∧ u < (N : Int) := by simpa using hyes
  obtain ⟨u, rfl⟩ : ∃ a : Nat, u = a := ⟨u.toNat, by omega⟩
  have tu : (u : Int).toNat = u := by omega
  have hp : partN N σ (u : Int) = verts N σ u := if_pos hu
  have huN : u < N := by omega
  rw [hp, tu]
  obtain ⟨w2, r1, r2, r3⟩ := run_made (P := P) (w := w1) elemB1 (by omega) (m := N) (by omega)
  have o2 : OwnedK w2 w1.heap.size 4 1 (some ⟨w1.heap.size, 0, none⟩) N N (boolsV (List.replicate N false)) := by
    have := r2.ownsRow (base := w1.heap.size) (Nat.le_refl _) (by simp only [maxLen]; omega)
    simpa [OwnedK] using this
  obtain ⟨b0, e0, _, _, p1, p2, p3, p4⟩ := own_put o2 (k := u) (by simp; omega) (.bool true)
  cases e0
  have hset : (boolsV (List.replicate N false)).set u (.bool true) = boolsV ((List.replicate N false).set u true) := by simp [List.map_set]
  rw [hset] at p3
  refine ⟨_, rfl, _, blk_cell h.blk 0, _, _, _, w2, r1, _, rfl, by omega, by omega, ?_⟩
  rw [add_blk]
  refine ⟨p1, p2, ?_⟩
  obtain ⟨w3, hw3⟩ : ∃ w3, w3 = w2.setCell ⟨w1.heap.size, u, none⟩ (.bool true) := ⟨_, rfl⟩
  rw [← hw3] at p3 p4 ⊢
  have g13 : w1.grownBy w3 none := ((Kp.of_none (S := fun q => w1.heap.size ≤ q) r3).then p4 (fun q _ e => by omega)).grown (fun q hq e => by omega)
  have hEN : ∀ e ∈ E, e.1 < N ∧ e.2 < N := fun e he => by have := hT.edge.ok e he; omega
  have rstay : r < w1.heap.size := (Array.getElem?_eq_some_iff.1 h.blk).1
  -- what marks are, and how they are read and written
  refine ⟨fun m again W => ∃ bs : List Bool, bs.length = N ∧ OwnedK W w1.heap.size 4 1 (some ⟨w1.heap.size, 0, none⟩) N N (boolsV bs) ∧ w1.grownBy W none ∧ bs[u]? = some true ∧ (∀ x, x < N → bs[x]? = some true → x ∈ σ u) ∧ (again = false → ∀ e ∈ E, bs[e.1]? = bs[e.2]?) ∧ m = 2 * bs.count false + (if again then 1 else 0), ⟨_, (List.replicate N false).set u true, by simp, p3, g13, by rw [List.getElem?_set_self (by simp; omega)], fun x hx hm => ?_, fun e => (by cases e), rfl⟩, ?_⟩
  · by_cases e : u = x
    · subst e; exact hT.ars.self (by omega)
    · rw [List.getElem?_set_ne e, List.getElem?_replicate, if_pos hx] at hm; cases hm
  rintro m again W ⟨bs, hbl, oW, gW, hbu, hbs, hcl, rfl⟩
  refine ⟨fun ha => ?_, fun ha => ?_⟩
  · subst ha
    refine ⟨fun m2 again i W' => ∃ (p : Nat) (bs' : List Bool), i = p ∧ p ≤ E.length ∧ m2 = E.length - p ∧ bs'.length = N ∧ OwnedK W' w1.heap.size 4 1 (some ⟨w1.heap.size, 0, none⟩) N N (boolsV bs') ∧ w1.grownBy W' none ∧ bs'[u]? = some true ∧ (∀ x, x < N → bs'[x]? = some true → x ∈ σ u) ∧ (again = false → bs' = bs ∧ ∀ j (hj : j < E.length), j < p → bs[E[j].1]? = bs[E[j].2]?) ∧ (again = true → bs'.count false < bs.count false) ∧ bs'.count false ≤ bs.count false,
      ⟨_, 0, bs, rfl, by omega, rfl, hbl, oW, gW, hbu, hbs, fun _ => ⟨rfl, fun j hj h => by omega⟩, fun e => (by cases e), Nat.le_refl _⟩, ?_⟩
    rintro m2 again2 i W2 ⟨p, bs2, rfl, hp2, rfl, hbl2, o2, g2, hbu2, hbs2, hf, ht, hc⟩
    have tp : (p : Int).toNat = p := by omega
    rw [tp]
    have h2 := h.kept g2
    refine ⟨_, rfl, _, _, _, by rw [add_blk]; exact blk_cell h2.blk 1, fun hlt => ?_, fun hge => ?_⟩
    · have lp : p < E.length := by omega
      have gd1 := grown_drew (grown_refl W2 none)
      have gd2 := grown_drew gd1
      have h3 := h2.kept gd1
      obtain ⟨a, e1, e2, e3⟩ := h3.cell lp
      obtain ⟨x1, x2⟩ := hEN _ (List.getElem_mem lp)
      have o4 := o2.kept gd2
      have g4 := grown_trans g2 gd2
      obtain ⟨w4, hw4⟩ : ∃ w4, w4 = W2.drew.drew := ⟨_, rfl⟩
      rw [← hw4] at gd2 o4 g4 ⊢
      have c1 := own_cell o4 (j := E[p].1) (by omega)
      have c2 := own_cell o4 (j := E[p].2) (by omega)
      have t1 : ((E[p].1 : Nat) : Int).toNat = E[p].1 := by omega
      have t2 : ((E[p].2 : Nat) : Int).toNat = E[p].2 := by omega
      refine ⟨_, rfl, _, _, _, by rw [add_blk]; exact blk_cell h3.blk 1, a, e1, by omega, by omega, ⟨by omega, by omega⟩, (E[p].1 : Int), e2, _, rfl, _, _, _, by rw [add_blk]; exact blk_cell h3.blk 1, a, e1, by omega, by omega, ⟨by omega, by omega⟩, (E[p].2 : Int), e3, ?_⟩
      rw [t1, t2]
      refine ⟨_, rfl, by omega, by omega, _, by rw [add_blk]; exact c1, _, rfl, by omega, by omega, _, by rw [add_blk]; exact c2, _, fun w => run_neB21 _ _ _ _ w, fun hne => ?_, fun heq => ⟨by omega, E.length - (p + 1), by omega, p + 1, bs2, by omega, by omega, rfl, hbl2, o4, g4, hbu2, hbs2, fun e => ?_, ht, hc⟩⟩
      · -- one is marked, the other one not: both are then
        have hne' : bs2[E[p].1]'(by omega) ≠ bs2[E[p].2]'(by omega) := by simpa using hne
        have both : E[p].1 ∈ σ u ∧ E[p].2 ∈ σ u := by
          have hends := hT.tour.ends hT.ars hT.edge (List.getElem_mem lp) (u := u)
          cases hb1 : bs2[E[p].1]'(by omega) with
          | true =>
            have := hbs2 _ x1 (by rw [List.getElem?_eq_getElem (by omega), hb1])
            exact ⟨this, hends.1 this⟩
          | false =>
            have hb2 : bs2[E[p].2]'(by omega) = true := by
              cases hb2 : bs2[E[p].2]'(by omega) with
              | true => rfl
              | false => rw [hb1, hb2] at hne'; exact absurd rfl hne'
            have := hbs2 _ x2 (by rw [List.getElem?_eq_getElem (by omega), hb2])
            exact ⟨hends.2 this, this⟩
        obtain ⟨b1, q1, _, _, q2, q3, q4, q5⟩ := own_put o4 (k := E[p].1) (by simp; omega) (.bool true)
        cases q1
        have hs1 : (boolsV bs2).set E[p].1 (.bool true) = boolsV (bs2.set E[p].1 true) := by simp [List.map_set]
        rw [hs1] at q4
        obtain ⟨b2, q1', _, _, s2, s3, s4, s5⟩ := own_put q4 (k := E[p].2) (by simp; omega) (.bool true)
        cases q1'
        have hs2 : (boolsV (bs2.set E[p].1 true)).set E[p].2 (.bool true) = boolsV ((bs2.set E[p].1 true).set E[p].2 true) := by simp [List.map_set]
        rw [hs2] at s4
        have gF : w1.grownBy ((w4.setCell ⟨w1.heap.size, E[p].1, none⟩ (.bool true)).setCell ⟨w1.heap.size, E[p].2, none⟩ (.bool true)) none := (((Kp.of_none (S := fun q => w1.heap.size ≤ q) g4).then q5 (fun q _ e => by omega)).then s5 (fun q _ e => by omega)).grown (fun q hq e => by omega)
        have cnt1 : ((bs2.set E[p].1 true).set E[p].2 true).count false < bs2.count false := by
          have l1 : E[p].1 < bs2.length := by omega
          have l2 : E[p].2 < bs2.length := by omega
          have hne12 : E[p].1 ≠ E[p].2 := fun e => hne' (by simp only [e])
          rw [List.count_set (by simpa using l2), List.count_set l1]
          rw [List.getElem_set_ne hne12]
          have pos1 : bs2[E[p].1] = false → 0 < bs2.count false := fun e => List.count_pos_iff.2 (by rw [← e]; exact List.getElem_mem l1)
          have pos2 : bs2[E[p].2] = false → 0 < bs2.count false := fun e => List.count_pos_iff.2 (by rw [← e]; exact List.getElem_mem l2)
          cases hb1 : bs2[E[p].1] <;> cases hb2 : bs2[E[p].2]
          · rw [hb1, hb2] at hne'; exact absurd rfl hne'
          · have := pos1 hb1; simp; omega
          · have := pos2 hb2; simp; omega
          · rw [hb1, hb2] at hne'; exact absurd rfl hne'
        refine ⟨_, rfl, by omega, by omega, by rw [add_blk]; exact q2, by rw [add_blk]; exact q3, _, rfl, by omega, by omega, by rw [add_blk, add_blk]; exact s2, by rw [add_blk, add_blk]; exact s3, by omega, E.length - (p + 1), by omega, p + 1, (bs2.set E[p].1 true).set E[p].2 true, by omega, by omega, rfl, by simp [hbl2], by rw [add_blk, add_blk]; exact s4, by rw [add_blk, add_blk]; exact gF, ?_, fun x hx hm => ?_, fun e => (by cases e), fun _ => by omega, by omega⟩
        · rw [List.getElem?_set]
          split
          · rw [if_pos (by simp; omega)]
          · rw [List.getElem?_set]
            split
            · rw [if_pos (by omega)]
            · exact hbu2
        · rw [List.getElem?_set] at hm
          split at hm
          · rename_i e; rw [← e]; exact both.2
          · rw [List.getElem?_set] at hm
            split at hm
            · rename_i e; rw [← e]; exact both.1
            · exact hbs2 x hx hm
      · have heq' : bs2[E[p].1]'(by omega) = bs2[E[p].2]'(by omega) := by simpa using heq
        obtain ⟨rfl, hj⟩ := hf e
        refine ⟨rfl, fun j hjl hjp => ?_⟩
        by_cases e : j = p
        · subst e
          rw [List.getElem?_eq_getElem (by omega), List.getElem?_eq_getElem (by omega), heq']
        · exact hj j hjl (by omega)
    · have hpe : p = E.length := by omega
      subst hpe
      refine ⟨2 * bs2.count false + (if again2 then 1 else 0), ?_, bs2, hbl2, o2, g2, hbu2, hbs2, fun e => ?_, rfl⟩
      · cases again2 with
        | true => have := ht rfl; simp; omega
        | false => simp; omega
      · obtain ⟨rfl, hj⟩ := hf e
        intro e' he'
        obtain ⟨j, hjl, rfl⟩ := List.mem_iff_getElem.1 he'
        exact hj j hjl hjl
  · subst ha
    have hclosed := hcl rfl
    have key : ∀ x, x < N → (bs[x]? = some true ↔ x ∈ σ u) := hT.tour.marks hT.ars hT.edge huN (S := fun x => bs[x]? = some true) hbu hbs fun e he => by rw [hclosed e he]
    refine ⟨fun m2 oA on oc i W' => ∃ p : Nat, i = p ∧ p ≤ N ∧ m2 = N - p ∧ OwnedK W' W.heap.size 3 1 oA on oc (i64s (intsN ((List.range p).filter fun x => decide (x ∈ σ u)))) ∧ W.grownBy W' none, ⟨_, 0, rfl, by omega, rfl, by simpa using OwnedK.nil _ _ _ _, grown_refl _ _⟩, ?_⟩
    rintro m2 oA on oc i W2 ⟨p, rfl, hp2, rfl, o9, g2⟩
    have tp : (p : Int).toNat = p := by omega
    rw [tp]
    have g02 := grown_trans gW g2
    have h2 := h.kept g02
    have hon : on ≤ p := by
      have h1 := o9.cases.1
      have h2 := List.length_filter_le (fun x => decide (x ∈ σ u)) (List.range p)
      simp at h1 h2; omega
    refine ⟨_, rfl, _, blk_cell h2.blk 0, fun hlt => ?_, fun hge => ?_⟩
    · have lp : p < N := by omega
      have cp := own_cell (oW.kept g2) (j := p) (by omega)
      have hnext : (List.range (p + 1)).filter (fun x => decide (x ∈ σ u)) = (List.range p).filter (fun x => decide (x ∈ σ u)) ++ [p].filter (fun x => decide (x ∈ σ u)) := by rw [List.range_succ, List.filter_append]
      have hk := key p lp
      rw [List.getElem?_eq_getElem (by omega)] at hk
      refine ⟨_, rfl, by omega, by omega, _, by rw [add_blk]; exact cp, fun hy => ?_, fun hno => ⟨by omega, N - (p + 1), by omega, p + 1, by omega, by omega, rfl, ?_, g2⟩⟩
      · have hin : p ∈ σ u := hk.1 (by rw [hy])
        have gA := World.grownBy_alloc W2 (.cells #[.int .i64 (p : Int)] 3) none
        have bA := heap_alloc_new W2 (.cells #[.int .i64 (p : Int)] 3)
        obtain ⟨A3, n3, c3, W3, a1, a2, a3, a4, a5⟩ := append_i (x := (p : Int)) (a := ⟨W2.heap.size, 0, none⟩) (o9.kept gA) (blk_cell bA 0) (by omega) (Nat.le_trans g2.size gA.size)
        refine ⟨A3, n3, c3, W3, a1, by omega, N - (p + 1), by omega, p + 1, by omega, by omega, rfl, ?_, grown_step (grown_trans g2 gA) a3 (fun k hk => o9.block_ge k hk)⟩
        have : [p].filter (fun x => decide (x ∈ σ u)) = [p] := List.filter_eq_self.2 (fun x hx => by simp at hx; subst hx; simp [hin])
        rw [hnext, this]; simpa using a2
      · have hin : p ∉ σ u := fun h' => by have := hk.2 h'; rw [hno] at this; cases this
        have : [p].filter (fun x => decide (x ∈ σ u)) = [] := List.filter_eq_nil_iff.2 (fun x hx => by simp at hx; subst hx; simp [hin])
        rw [hnext, this, List.append_nil]; exact o9
    · have : p = N := by omega
      subst this
      exact ⟨oA, on, oc, rfl, o9.mono gW.size, g02⟩
/-- Is a vertex of another one's tree? -/
theorem partN_mem {v : Int} {u : Int} : v ∈ intsN (partN N σ u) ↔ (0 ≤ u ∧ u < N) ∧ (0 ≤ v ∧ v < N) ∧ v.toNat ∈ σ u.toNat := by
  unfold partN
  by_cases h : 0 ≤ u ∧ u < (N : Int)
  · rw [if_pos h, List.mem_map]
    constructor
    · rintro ⟨x, hx, rfl⟩
      have := mem_verts.1 hx
      exact ⟨h, by omega, this.2⟩
    · rintro ⟨_, h2, h3⟩
      exact ⟨v.toNat, mem_verts.2 ⟨by omega, h3⟩, by omega⟩
  · rw [if_neg h]; simp; intro h1 h2; omega
theorem gconnected_calls (h : GR w base r N T A n c E) (hT : TG N L σ M free lab E) (hN : N ≤ 2 ^ 30) (u v : Int) : Calls P 20 #[.pointer (some ⟨r, 0, none⟩), .int .i64 u, .int .i64 v] w fun ev w' => ev = .returned (.bool (decide ((0 ≤ u ∧ u < N) ∧ (0 ≤ v ∧ v < N) ∧ σ u.toNat = σ v.toNat))) ∧ w.grownBy w' none := by
  apply vc20; unfold VC20; try (conv => zeta)
  simp only [InK]
  have hle := hT.le
  have hd : ((0 ≤ u ∧ u < N) ∧ (0 ≤ v ∧ v < N) ∧ σ u.toNat = σ v.toNat) ↔ v ∈ intsN (partN N σ u) := by
    rw [partN_mem]
    constructor
    · rintro ⟨h1, h2, h3⟩; exact ⟨h1, h2, by rw [h3]; exact hT.ars.self (by omega)⟩
    · rintro ⟨h1, h2, h3⟩; exact ⟨h1, h2, (hT.ars.eq h3).symm⟩
  rw [show decide ((0 ≤ u ∧ u < (N : Int)) ∧ (0 ≤ v ∧ v < (N : Int)) ∧ σ u.toNat = σ v.toNat) = decide (v ∈ intsN (partN N σ u)) from decide_eq_decide.2 hd]
  refine (gpart_calls h hT hN u).mono fun ev w1 hh => ?_
  obtain ⟨A1, n1, c1, rfl, o1, g1⟩ := hh
  have hpl : (partN N σ u).length ≤ N := by
    unfold partN; split
    · have := List.length_filter_le (fun x => decide (x ∈ σ u.toNat)) (List.range N); unfold verts; simpa using this
    · simp
  obtain ⟨l, hl⟩ : ∃ l, intsN (partN N σ u) = l := ⟨_, rfl⟩
  simp only [hl] at o1 ⊢
  have hll : l.length ≤ N := by rw [← hl]; simpa using hpl
  have hn1 : n1 = l.length := by have := o1.cases.1; simp at this; omega
  refine ⟨_, _, _, rfl, fun m i W => ∃ p : Nat, i = p ∧ p ≤ l.length ∧ m = l.length - p ∧ w1.grownBy W none ∧ ∀ j (hj : j < l.length), j < p → l[j] ≠ v, ⟨_, 0, rfl, by omega, rfl, grown_refl _ _, fun j hj h => by omega⟩, ?_⟩
  rintro m i W ⟨p, rfl, hp, rfl, gW, hx⟩
  have tp : (p : Int).toNat = p := by omega
  rw [tp]
  refine ⟨fun hlt => ?_, fun hge => ⟨?_, grown_trans g1 gW⟩⟩
  · have lp : p < l.length := by omega
    obtain ⟨a, e1, e2⟩ := (o1.kept gW).row p (.int .i64 l[p]) (by simp [lp])
    refine ⟨a, e1, by omega, by omega, _, e2, fun he => ⟨?_, grown_trans g1 gW⟩, fun hne => ⟨by omega, l.length - (p + 1), by omega, p + 1, by omega, by omega, rfl, gW, fun j hj hjp => ?_⟩⟩
    · rw [decide_eq_true (by rw [← he]; exact List.getElem_mem lp)]
    · by_cases e : j = p
      · subst e; exact hne
      · exact hx j hj (by omega)
  · rw [decide_eq_false]
    intro hm
    obtain ⟨j, hj, e⟩ := List.mem_iff_getElem.1 hm
    exact hx j hj (by omega) e
theorem glink_calls (h : GR w base r N T A n c E) (hT : TG N L σ M free lab E) (hb : base ≤ w.heap.size) (hN : N ≤ 2 ^ 30) (hl : E.length ≤ 2 ^ 29) (u v : Int) : Calls P 16 #[.pointer (some ⟨r, 0, none⟩), .int .i64 u, .int .i64 v] w fun ev w' => ev = .returned (.bool (decide ((0 ≤ u ∧ u < N) ∧ (0 ≤ v ∧ v < N) ∧ σ u.toNat ≠ σ v.toNat))) ∧
    ∃ (A' : Option Addr) (n' c' : Nat), GR w' base r N (extS T w w') A' n' c' (if (0 ≤ u ∧ u < N) ∧ (0 ≤ v ∧ v < N) ∧ σ u.toNat ≠ σ v.toNat then E ++ [pairE u.toNat v.toNat] else E) ∧ Kp w w' T := by
  apply vc16; unfold VC16; try (conv => zeta)
  refine (gconnected_calls h hT hN u v).mono fun ev w1 hh => ?_
  obtain ⟨rfl, g1⟩ := hh
  have h1 := h.kept g1
  refine ⟨_, rfl, fun hno => (gadd_calls h1 (Nat.le_trans hb g1.size) u v hl (by omega)).mono fun ev w2 hh => ?_, fun hyes => ?_⟩
  · obtain ⟨rfl, A', n', c', a1, a2⟩ := hh
    have hno' := of_decide_eq_false hno
    have hiff : ((0 ≤ u ∧ u < (N : Int)) ∧ (0 ≤ v ∧ v < (N : Int)) ∧ u ≠ v ∧ pairE u.toNat v.toNat ∉ E) ↔ ((0 ≤ u ∧ u < (N : Int)) ∧ (0 ≤ v ∧ v < (N : Int)) ∧ σ u.toNat ≠ σ v.toNat) := by
      constructor
      · rintro ⟨h1, h2, _, _⟩; exact ⟨h1, h2, fun e => hno' ⟨h1, h2, e⟩⟩
      · rintro ⟨h1, h2, h3⟩
        refine ⟨h1, h2, fun e => h3 (by rw [e]), fun hm => h3 ?_⟩
        obtain ⟨k, hk⟩ := (hT.edge.iff _ _).2 hm
        exact (hT.tour.both hT.ars hk).2.2.symm
    refine ⟨_, rfl, by rw [decide_eq_decide.2 hiff], A', n', c', ?_, (Kp.of_none g1).then a2 (fun _ _ e => e)⟩
    have e : (if (0 ≤ u ∧ u < (N : Int)) ∧ (0 ≤ v ∧ v < (N : Int)) ∧ u ≠ v ∧ pairE u.toNat v.toNat ∉ E then E ++ [pairE u.toNat v.toNat] else E) = if (0 ≤ u ∧ u < (N : Int)) ∧ (0 ≤ v ∧ v < (N : Int)) ∧ σ u.toNat ≠ σ v.toNat then E ++ [pairE u.toNat v.toNat] else E := by
      by_cases hc : (0 ≤ u ∧ u < (N : Int)) ∧ (0 ≤ v ∧ v < (N : Int)) ∧ σ u.toNat ≠ σ v.toNat
      · rw [if_pos hc, if_pos (hiff.2 hc)]
      · rw [if_neg hc, if_neg (fun h' => hc (hiff.1 h'))]
    rw [e] at a1
    have g2 := a2.size
    exact ⟨a1.blk, a1.own, a1.tr.imp id (fun e => ⟨Nat.le_trans g1.size e.1, e.2⟩), fun q hq => (a1.ta q hq).imp id (fun e => ⟨Nat.le_trans g1.size e.1, e.2⟩), fun q hq => hq.elim (fun e => Nat.lt_of_lt_of_le (h1.lt q e) g2) (fun e => e.2)⟩
  · have hy : (0 ≤ u ∧ u < (N : Int)) ∧ (0 ≤ v ∧ v < (N : Int)) ∧ σ u.toNat = σ v.toNat := by
      have := hyes
      simp at this
      exact ⟨⟨this.1, this.2.1⟩, ⟨this.2.2.1, this.2.2.2.1⟩, this.2.2.2.2⟩
    have hc : ¬ ((0 ≤ u ∧ u < (N : Int)) ∧ (0 ≤ v ∧ v < (N : Int)) ∧ σ u.toNat ≠ σ v.toNat) := fun h' => h'.2.2 hy.2.2
    refine ⟨by rw [decide_eq_false hc], A, n, c, ?_, Kp.of_none g1⟩
    rw [if_neg hc]
    exact ⟨h1.blk, h1.own, .inl h1.tr, fun q hq => .inl (h1.ta q hq), fun q hq => hq.elim (h1.lt q) (fun e => e.2)⟩
theorem gcount_calls (h : GR w base r N T A n c E) (hT : TG N L σ M free lab E) (hN : N ≤ 2 ^ 30) : Calls P 26 #[.pointer (some ⟨r, 0, none⟩)] w fun ev w' => ev = .returned (.int .i64 (cntS N σ : Int)) ∧ w.grownBy w' none := by
  apply vc26; unfold VC26; try (conv => zeta)
  simp only [InK]
  have hle := hT.le
  have fle : ∀ p : Nat, ((List.range p).filter fun u => decide (∀ y ∈ σ u, y < N → u ≤ y)).length ≤ p := fun p => by
    have := List.length_filter_le (fun u => decide (∀ y ∈ σ u, y < N → u ≤ y)) (List.range p); simpa using this
  refine ⟨fun m k i W => ∃ p : Nat, i = p ∧ p ≤ N ∧ m = N - p ∧ k = (((List.range p).filter fun u => decide (∀ y ∈ σ u, y < N → u ≤ y)).length : Int) ∧ w.grownBy W none, ⟨_, 0, rfl, by omega, rfl, by simp, grown_refl _ _⟩, ?_⟩
  rintro m k i W ⟨p, rfl, hp, rfl, rfl, gW⟩
  have hW := h.kept gW
  refine ⟨_, rfl, _, blk_cell hW.blk 0, fun hlt => ?_, fun hge => ?_⟩
  · have lp : p < N := by omega
    refine (gpart_calls hW hT hN (p : Int)).mono fun ev w1 hh => ?_
    obtain ⟨A1, n1, c1, rfl, o1, g1⟩ := hh
    have hpn : partN N σ (p : Int) = verts N σ p := by unfold partN; rw [if_pos (by omega)]; simp
    rw [hpn] at o1
    have pin : p ∈ verts N σ p := mem_verts.2 ⟨lp, hT.ars.self (by omega)⟩
    obtain ⟨x, rest, hv⟩ : ∃ x rest, verts N σ p = x :: rest := by
      cases hv : verts N σ p with
      | nil => rw [hv] at pin; simp at pin
      | cons x rest => exact ⟨x, rest, rfl⟩
    have hn1 : 0 < n1 := by have := o1.cases.1; rw [hv] at this; simp at this; omega
    obtain ⟨a, e1, e2⟩ := o1.row 0 (.int .i64 (x : Int)) (by rw [hv]; rfl)
    rw [addr0] at e2
    have hx : x = p ↔ ∀ y ∈ σ p, y < N → p ≤ y := by
      have hr := verts_rise N σ p
      rw [hv, List.pairwise_cons] at hr
      constructor
      · rintro rfl y hy hyn
        have : y ∈ verts N σ x := mem_verts.2 ⟨hyn, hy⟩
        rw [hv] at this
        rcases List.mem_cons.1 this with e | e
        · omega
        · have := hr.1 y e; omega
      · intro hle'
        have hxv : x ∈ verts N σ p := by rw [hv]; simp
        have h1 := hle' x (mem_verts.1 hxv).2 (mem_verts.1 hxv).1
        rw [hv] at pin
        rcases List.mem_cons.1 pin with e | e
        · exact e.symm
        · have := hr.1 p e; omega
    have hnext : ((List.range (p + 1)).filter fun u => decide (∀ y ∈ σ u, y < N → u ≤ y)).length = ((List.range p).filter fun u => decide (∀ y ∈ σ u, y < N → u ≤ y)).length + (if x = p then 1 else 0) := by
      rw [List.range_succ, List.filter_append, List.length_append]
      congr 1
      by_cases e : x = p
      · rw [if_pos e, List.filter_eq_self.2 (fun z hz => by simp at hz; subst hz; exact decide_eq_true (hx.1 e))]; rfl
      · rw [if_neg e, List.filter_eq_nil_iff.2 (fun z hz => by simp at hz; subst hz; simpa using fun h' => e (hx.2 h'))]; rfl
    have := fle p
    refine ⟨_, _, _, rfl, a, e1, by omega, by omega, (x : Int), e2, fun he => ⟨by omega, by omega, N - (p + 1), by omega, p + 1, by omega, by omega, rfl, ?_, grown_trans gW g1⟩, fun hne => ⟨by omega, N - (p + 1), by omega, p + 1, by omega, by omega, rfl, ?_, grown_trans gW g1⟩⟩
    · rw [hnext, if_pos (by omega)]; omega
    · rw [hnext, if_neg (by omega)]; omega
  · have : p = N := by omega
    subst this
    exact ⟨rfl, gW⟩
end
end Go.Proofs.Ytpfkpmapimonbaa

/-! tour.New: the walk; a forest's answers by its edges. -/
namespace Go.Proofs.Ytpfkpmapimonbaa
open Go Go.V Go.RowKit
set_option linter.unusedVariables false
set_option linter.unusedSimpArgs false
set_option maxHeartbeats 4000000
set_option maxRecDepth 100000

def sig0 (i : Nat) : Nat → List Nat := fun z => if z < i then [z] else []
theorem sig0_next (i : Nat) : nodeS (sig0 i) i = sig0 (i + 1) := by
  funext z
  unfold nodeS sig0
  by_cases e : z = i
  · subst e; simp
  · rw [if_neg e]
    by_cases h : z < i
    · rw [if_pos h, if_pos (by omega)]
    · rw [if_neg h, if_neg (by omega)]
theorem ArS.zero : ArS [] (sig0 0) := ⟨fun x hx => by simp at hx, fun x hx => by simp at hx, fun x _ => by simp [sig0]⟩
theorem TG.new {N : Nat} {L : List Nd} (hl : L.length = N) (hs : ArS L (sig0 N)) : TG N L (sig0 N) [] [] It.v [] := by
  refine ⟨hs, ⟨by omega, fun _ _ => rfl, fun u v k hk => ?_, fun x hx => ?_, fun x hx k hk => ?_, by simp, fun k hk => by simp at hk⟩, ⟨by simp, fun e he => by simp at he, fun x y => ?_⟩, rfl, by simp, fun p hp => by simp at hp, ?_⟩
  · simp [arcOf, getK] at hk
  · refine ⟨x, ?_⟩
    unfold sig0; rw [if_pos hx]; exact Et.single x
  · unfold sig0 at hk; rw [if_pos hx] at hk; simp at hk; left; omega
  · simp [arcOf, getK]
  · unfold cntS
    rw [List.filter_eq_self.2]
    · simp
    · intro x hx
      simp only [decide_eq_true_eq]
      intro y hy hyn
      unfold sig0 at hy
      rw [if_pos (by simpa using hx)] at hy
      simp at hy; omega
def nOf (n : Int) : Nat := (min (max n 0) 65536).toNat
theorem fnew_calls {w : World} {base : Nat} (hb : base ≤ w.heap.size) (n sd : Int) : Calls P 13 #[.int .i64 n, .int .u64 sd] w fun ev w' => ∃ f g : Nat, ev = .returned (.pointer (some ⟨f, 0, none⟩)) ∧ FG w' base f g (nOf n) (fun q => w.heap.size ≤ q ∧ q < w'.heap.size) (nOf n) (sig0 (nOf n)) [] ∧ w.grownBy w' none := by
  apply vc13; unfold VC13; try (conv => zeta)
  simp only [InK, mnE, mxE]
  refine (new_calls21 sd hb).mono fun ev w1 hh => ?_
  obtain ⟨s', rfl, ha, g1, _⟩ := hh
  have hN : (min (max n 0) 65536 : Int) = (nOf n : Int) := by unfold nOf; omega
  have hNb : nOf n ≤ 65536 := by unfold nOf; omega
  rw [hN]
  refine ⟨_, rfl, ?_⟩
  have hm : MapA (w1.alloc (.map #[] 0)) w1.heap.size [] := MapAt.made w1
  have g2 := World.grownBy_alloc w1 (.map #[] 0) none
  obtain ⟨w2, hw2⟩ : ∃ w2, w2 = w1.alloc (.map #[] 0) := ⟨_, rfl⟩
  rw [← hw2] at hm g2 ⊢
  have g3 := World.grownBy_alloc w2 (.cells #[.pointer (some ⟨w.heap.size, 0, none⟩), .int .i64 (nOf n : Int), .map (some w1.heap.size), .slice none 0 0] 60) none
  have b3 := heap_alloc_new w2 (.cells #[.pointer (some ⟨w.heap.size, 0, none⟩), .int .i64 (nOf n : Int), .map (some w1.heap.size), .slice none 0 0] 60)
  obtain ⟨w3, hw3⟩ : ∃ w3, w3 = w2.alloc (.cells #[.pointer (some ⟨w.heap.size, 0, none⟩), .int .i64 (nOf n : Int), .map (some w1.heap.size), .slice none 0 0] 60) := ⟨_, rfl⟩
  rw [← hw3] at g3 b3 ⊢
  have g03 := grown_trans g1 (grown_trans g2 g3)
  have fm0 : FoM w3 base w2.heap.size w.heap.size w1.heap.size none 0 0 none 0 0 (nOf n) [] s' [] [] := ⟨b3, ha.kept (grown_trans g2 g3), hm.kept g3, OwnedK.nil _ _ _ _⟩
  refine ⟨_, rfl, _, by rw [add_blk]; exact blk_cell b3 1, ?_⟩
  refine ⟨fun m i W => ∃ (p : Nat) (A : Option Addr) (na ca : Nat) (sx : Int) (L : List Nd), i = p ∧ p ≤ nOf n ∧ m = nOf n - p ∧ FoM W base w2.heap.size w.heap.size w1.heap.size A na ca none 0 0 (nOf n) L sx [] [] ∧ L.length = p ∧ ArS L (sig0 p) ∧ w.grownBy W none ∧ (∀ q, (Value.slice A na ca).ownBlock = some q → w.heap.size ≤ q), ⟨_, 0, none, 0, 0, s', [], rfl, by omega, rfl, fm0, rfl, ArS.zero, g03, fun q hq => by cases hq⟩, ?_⟩
  rintro m i W ⟨p, A, na, ca, sx, L, rfl, hp, rfl, hF, hLl, hs, gW, hown⟩
  refine ⟨fun hlt => ?_, fun hge => ?_⟩
  · refine ⟨_, rfl, _, blk_cell hF.blk 0, (node_calls21 hF.ar (Nat.le_trans hb gW.size) (by omega)).mono fun ev w4 hh => ?_⟩
    obtain ⟨rfl, A', n', c', s2, r, a1, a2, K1⟩ := hh
    refine ⟨_, rfl, by omega, nOf n - (p + 1), by omega, p + 1, A', n', c', s2, L ++ [⟨-1, -1, -1, 1, r⟩], by omega, by omega, rfl, ⟨?_, a1, hF.mp.kp K1 (fun e => ?_), OwnedK.nil _ _ _ _⟩, by simp [hLl], ?_, ?_, fun q hq => ?_⟩
    · rw [K1.block _ (Array.getElem?_eq_some_iff.1 hF.blk).1 (fun e => ?_)]
      · exact hF.blk
      · rcases e with e | e
        · have := hF.blk; rw [e, hF.ar.blk] at this; cases this
        · exact own_far hF.ar.own hF.blk (by decide) e.symm
    · rcases e with e | e
      · exact map_ne hF.mp hF.ar.blk e
      · obtain ⟨cur, h'⟩ := hF.ar.own.block_type _ e.symm
        exact map_ne hF.mp h' rfl
    · have := hs.node (r := r)
      rw [hLl, sig0_next] at this; exact this
    · exact ((Kp.of_none (S := fun q => w.heap.size ≤ q) gW).then K1 (fun q hq e => e.elim (fun e => by omega) (fun e => by have := hown q e.symm; omega))).grown (fun q hq e => by omega)
    · rcases a2 q hq with e | e
      · exact hown q e
      · exact Nat.le_trans gW.size e
  · have hpe : p = nOf n := by omega
    subst hpe
    refine ⟨w2.heap.size, w.heap.size, rfl, ⟨L, [], [], It.v, by omega, ⟨w1.heap.size, A, na, ca, none, 0, 0, sx, hF, ⟨⟨?_, ?_⟩, ⟨Nat.le_refl _, ?_⟩, ⟨g1.size, ?_⟩, fun q hq => ⟨hown q hq, hF.ar.own.block_lt q hq⟩, fun q hq => by cases hq⟩, fun q hq => hq.2⟩, TG.new hLl hs⟩, gW⟩
    · exact Nat.le_trans g1.size g2.size
    · exact (Array.getElem?_eq_some_iff.1 hF.blk).1
    · exact (Array.getElem?_eq_some_iff.1 hF.ar.blk).1
    · exact hF.mp.lt
section
variable {N : Nat} {L : List Nd} {σ : Nat → List Nat} {M : List ((Int × Int) × Nat)} {free : List Nat} {lab : Nat → It} {E : List (Nat × Nat)}
theorem TG.self (h : TG N L σ M free lab E) {x : Nat} (hx : x < N) : x ∈ σ x := h.ars.self (by have := h.le; omega)
theorem TG.same_iff (h : TG N L σ M free lab E) {x y : Nat} (hy : y < N) : σ x = σ y ↔ y ∈ σ x := ⟨fun e => by rw [e]; exact h.self hy, fun e => (h.ars.eq e).symm⟩
/-- The ends of an edge are of one tree. -/
theorem TG.step (h : TG N L σ M free lab E) {a b u : Nat} (he : (a, b) ∈ E) : a ∈ σ u ↔ b ∈ σ u := h.tour.ends h.ars h.edge (e := (a, b)) he
/-- What is reached, and is closed, is the tree. -/
theorem TG.comp (h : TG N L σ M free lab E) {u : Nat} (hu : u < N) {S : Nat → Prop} (hS : S u) (hsub : ∀ x, x < N → S x → x ∈ σ u) (hcl : ∀ a b, (a, b) ∈ E → (S a ↔ S b)) {x : Nat} (hx : x < N) : x ∈ σ u ↔ S x :=
  (h.tour.marks h.ars h.edge hu (S := S) hS hsub (fun e he => hcl e.1 e.2 he) x hx).symm
/-- How many vertices a tree has. -/
theorem TG.size (h : TG N L σ M free lab E) {u : Nat} (hu : u < N) : ((σ u).length + 2) / 3 = (verts N σ u).length := by
  have := h.tour.size h.ars hu
  omega
theorem TG.verts_is (h : TG N L σ M free lab E) {u : Nat} (hu : u < N) {S : Nat → Prop} [DecidablePred S] (hS : S u) (hsub : ∀ x, x < N → S x → x ∈ σ u) (hcl : ∀ a b, (a, b) ∈ E → (S a ↔ S b)) : verts N σ u = (List.range N).filter fun x => decide (S x) := by
  unfold verts
  refine List.filter_congr fun x hx => ?_
  exact decide_eq_decide.2 (h.comp hu hS hsub hcl (by simpa using hx))
end
end Go.Proofs.Ytpfkpmapimonbaa

/-! A forest in use: its calls; archipelagolaw22.known, TourMany: the walks. -/
namespace Go.Proofs.Ytpfkpmapimonbaa
open Go Go.V Go.RowKit
set_option linter.unusedVariables false
set_option linter.unusedSimpArgs false
set_option maxHeartbeats 4000000
set_option maxRecDepth 100000

/-- A forest that was made behind world w0; what was there before is as it was. -/
def FS (w0 w : World) (f g N len : Nat) (σ : Nat → List Nat) (E : List (Nat × Nat)) : Prop :=
  ∃ S : Nat → Prop, FG w w0.heap.size f g N S len σ E ∧ (∀ q, S q → w0.heap.size ≤ q) ∧ w0.grownBy w none
def inN (N : Nat) (u : Int) : Prop := 0 ≤ u ∧ u < (N : Int)
instance (N : Nat) (u : Int) : Decidable (inN N u) := inferInstanceAs (Decidable (_ ∧ _))
section
variable {w0 w w' : World} {f g N len : Nat} {σ : Nat → List Nat} {E : List (Nat × Nat)}
theorem FS.kept (h : FS w0 w f g N len σ E) (hg : w.grownBy w' none) : FS w0 w' f g N len σ E := by
  obtain ⟨S, ⟨L, M, free, lab, h1, h2, h3⟩, h4, h5⟩ := h
  exact ⟨S, ⟨L, M, free, lab, h1, h2.kept hg, h3⟩, h4, grown_trans h5 hg⟩
theorem FS.grown (h : FS w0 w f g N len σ E) : w0.grownBy w none := by obtain ⟨_, _, _, h⟩ := h; exact h
theorem FS.tg (h : FS w0 w f g N len σ E) : ∃ L M free lab, TG N L σ M free lab E := by
  obtain ⟨S, ⟨L, M, free, lab, h1, h2, h3⟩, h4, h5⟩ := h
  exact ⟨L, M, free, lab, h3⟩
theorem fs_new (hg : w0.grownBy w none) (n sd : Int) : Calls P 13 #[.int .i64 n, .int .u64 sd] w fun ev w' => ∃ f g : Nat, ev = .returned (.pointer (some ⟨f, 0, none⟩)) ∧ FS w0 w' f g (nOf n) (nOf n) (sig0 (nOf n)) [] ∧ w.grownBy w' none :=
  (fnew_calls (base := w0.heap.size) hg.size n sd).mono fun ev w' hh => by
    obtain ⟨f, g, rfl, h1, h2⟩ := hh
    exact ⟨f, g, rfl, ⟨_, h1, fun q hq => Nat.le_trans hg.size hq.1, grown_trans hg h2⟩, h2⟩
theorem fs_link (h : FS w0 w f g N len σ E) (hl : len + 2 ≤ 2 ^ 20) (u v : Int) : Calls P 15 #[.pointer (some ⟨f, 0, none⟩), .int .i64 u, .int .i64 v] w fun ev w' => ev = .returned (.bool (decide (inN N u ∧ inN N v ∧ σ u.toNat ≠ σ v.toNat))) ∧
    ∃ σ', FS w0 w' f g N (len + 2) σ' (if inN N u ∧ inN N v ∧ σ u.toNat ≠ σ v.toNat then E ++ [pairE u.toNat v.toNat] else E) ∧ (¬ (inN N u ∧ inN N v ∧ σ u.toNat ≠ σ v.toNat) → σ' = σ) := by
  obtain ⟨S, ⟨L, M, free, lab, h1, h2, h3⟩, h4, h5⟩ := h
  refine (link_calls h2 h3 h5.size (by omega) u v).mono fun ev w' hh => ?_
  obtain ⟨rfl, σ', ⟨L', M', free', lab', a1, a2, a3⟩, K, hno⟩ := hh
  refine ⟨rfl, σ', ⟨_, ⟨L', M', free', lab', by omega, a2, a3⟩, fun q hq => hq.elim (h4 q) (fun e => Nat.le_trans h5.size e.1), ?_⟩, hno⟩
  exact ((Kp.of_none (S := fun q => w0.heap.size ≤ q) h5).then K (fun q _ e => h4 q e)).grown (fun q hq e => by omega)
theorem fs_cut (h : FS w0 w f g N len σ E) (hl : len ≤ 2 ^ 20) {u v : Int} (hu : okI u) (hv : okI v) : Calls P 17 #[.pointer (some ⟨f, 0, none⟩), .int .i64 u, .int .i64 v] w fun ev w' => ev = .returned (.bool (decide ((0 ≤ u ∧ 0 ≤ v) ∧ pairE u.toNat v.toNat ∈ E))) ∧
    ∃ σ', FS w0 w' f g N len σ' (if (0 ≤ u ∧ 0 ≤ v) ∧ pairE u.toNat v.toNat ∈ E then E.erase (pairE u.toNat v.toNat) else E) ∧ (¬ ((0 ≤ u ∧ 0 ≤ v) ∧ pairE u.toNat v.toNat ∈ E) → σ' = σ) := by
  obtain ⟨S, ⟨L, M, free, lab, h1, h2, h3⟩, h4, h5⟩ := h
  refine (cut_calls h2 h3 h5.size (by omega) hu hv).mono fun ev w' hh => ?_
  obtain ⟨rfl, σ', ⟨L', M', free', lab', a1, a2, a3⟩, K, hno⟩ := hh
  refine ⟨rfl, σ', ⟨_, ⟨L', M', free', lab', by omega, a2, a3⟩, fun q hq => hq.elim (h4 q) (fun e => Nat.le_trans h5.size e.1), ?_⟩, hno⟩
  exact ((Kp.of_none (S := fun q => w0.heap.size ≤ q) h5).then K (fun q _ e => h4 q e)).grown (fun q hq e => by omega)
theorem fs_conn (h : FS w0 w f g N len σ E) (u v : Int) : Calls P 19 #[.pointer (some ⟨f, 0, none⟩), .int .i64 u, .int .i64 v] w fun ev w' => ev = .returned (.bool (decide (inN N u ∧ inN N v ∧ σ u.toNat = σ v.toNat))) ∧ w' = w := by
  obtain ⟨S, ⟨L, M, free, lab, h1, h2, h3⟩, h4, h5⟩ := h
  exact connected_calls h2 h3.ars h3.le u v
theorem fs_size (h : FS w0 w f g N len σ E) (hl : len ≤ 2 ^ 20) (u : Int) : Calls P 21 #[.pointer (some ⟨f, 0, none⟩), .int .i64 u] w fun ev w' => ev = .returned (.int .i64 (if inN N u then ((verts N σ u.toNat).length : Int) else 0)) ∧ w' = w := by
  obtain ⟨S, ⟨L, M, free, lab, h1, h2, h3⟩, h4, h5⟩ := h
  refine (fsize_calls h2 h3.ars h3.le (by omega) u).mono fun ev w' hh => ?_
  obtain ⟨rfl, rfl⟩ := hh
  refine ⟨?_, rfl⟩
  by_cases hc : inN N u
  · rw [if_pos hc, if_pos (show 0 ≤ u ∧ u < (N : Int) from hc), h3.size (by obtain ⟨a, b⟩ := hc; omega)]
  · rw [if_neg hc, if_neg (show ¬ (0 ≤ u ∧ u < (N : Int)) from hc)]
theorem fs_count (h : FS w0 w f g N len σ E) (hl : len ≤ 2 ^ 20) : Calls P 25 #[.pointer (some ⟨f, 0, none⟩)] w fun ev w' => ev = .returned (.int .i64 ((N : Int) - (E.length : Int))) ∧ FS w0 w' f g N len σ E ∧ w.grownBy w' none := by
  have h' := h
  obtain ⟨S, ⟨L, M, free, lab, h1, h2, h3⟩, h4, h5⟩ := h
  have hc := h3.cnt
  have hm := h3.mlen
  have hle := h3.le
  refine (count_calls h2 (by omega) (by omega)).mono fun ev w' hh => ?_
  obtain ⟨rfl, g⟩ := hh
  refine ⟨?_, h'.kept g, g⟩
  rw [hm]
  congr 2
  congr 1
  omega
theorem fs_part (h : FS w0 w f g N len σ E) (hl : len ≤ 2 ^ 20) (u : Int) : Calls P 24 #[.pointer (some ⟨f, 0, none⟩), .int .i64 u] w fun ev w' => ∃ (A : Option Addr) (m k : Nat), ev = .returned (.slice A m k) ∧ OwnedK w' w.heap.size 3 1 A m k (i64s (intsN (partN N σ u))) ∧ w.grownBy w' none ∧ FS w0 w' f g N len σ E := by
  have h' := h
  obtain ⟨S, ⟨L, M, free, lab, h1, h2, h3⟩, h4, h5⟩ := h
  refine (fpart_calls h2 h3 (by omega) u).mono fun ev w' hh => ?_
  obtain ⟨A, m, k, rfl, a1, a2⟩ := hh
  exact ⟨A, m, k, rfl, a1, a2, h'.kept a2⟩
end
theorem known22_calls {w : World} : Calls P 12 #[] w fun ev w' => ev = .returned (.bool true) ∧ w.grownBy w' none := by
  apply vc12; unfold VC12; try (conv => zeta)
  refine (fs_new (grown_refl w none) 4 7).mono fun ev w1 hh => ?_
  obtain ⟨f, g, rfl, h1, _⟩ := hh
  have hN : nOf 4 = 4 := by decide
  rw [hN] at h1
  refine ⟨_, rfl, fun h => (by cases h), fun _ => ?_⟩
  refine (fs_link h1 (by omega) 0 1).mono fun ev w2 hh => ?_
  obtain ⟨rfl, σ2, h2, _⟩ := hh
  have c1 : inN 4 0 ∧ inN 4 1 ∧ sig0 4 (0 : Int).toNat ≠ sig0 4 (1 : Int).toNat := by decide
  rw [if_pos c1, List.nil_append, show pairE (0 : Int).toNat (1 : Int).toNat = (0, 1) from rfl] at h2
  refine ⟨_, rfl, (fs_link h2 (by omega) 1 2).mono fun ev w3 hh => ?_⟩
  obtain ⟨rfl, σ3, h3, _⟩ := hh
  have c2 : inN 4 1 ∧ inN 4 2 ∧ σ2 (1 : Int).toNat ≠ σ2 (2 : Int).toNat := by
    obtain ⟨L, M, free, lab, t⟩ := h2.tg
    refine ⟨by decide, by decide, fun e => ?_⟩
    have := (t.same_iff (x := 1) (y := 2) (by omega)).1 e
    have := (t.comp (u := 1) (by omega) (S := fun x => x = 0 ∨ x = 1) (by simp) (fun x _ hx => by
      rcases hx with rfl | rfl
      · exact (t.step (a := 0) (b := 1) (by simp)).2 (t.self (by omega))
      · exact t.self (by omega)) (fun a b hab => by simp at hab; obtain ⟨rfl, rfl⟩ := hab; simp) (x := 2) (by omega)).1 this
    omega
  rw [if_pos c2, show pairE (1 : Int).toNat (2 : Int).toNat = (1, 2) from rfl] at h3
  have h3e : ([(0, 1)] ++ [(1, 2)] : List (Nat × Nat)) = [(0, 1), (1, 2)] := rfl
  rw [h3e] at h3
  refine ⟨_, rfl, (fs_link h3 (by omega) 2 0).mono fun ev w4 hh => ?_⟩
  obtain ⟨rfl, σ4, h4, e4⟩ := hh
  obtain ⟨L3, M3, free3, lab3, t3⟩ := h3.tg
  have in3 : ∀ x, x < 3 → x ∈ σ3 0 := fun x hx => by
    have a0 : 0 ∈ σ3 0 := t3.self (by omega)
    have a1 : 1 ∈ σ3 0 := (t3.step (a := 0) (b := 1) (by simp)).1 a0
    have a2 : 2 ∈ σ3 0 := (t3.step (a := 1) (b := 2) (by simp)).1 a1
    have : x = 0 ∨ x = 1 ∨ x = 2 := by omega
    rcases this with rfl | rfl | rfl
    · exact a0
    · exact a1
    · exact a2
  have c3 : ¬ (inN 4 2 ∧ inN 4 0 ∧ σ3 (2 : Int).toNat ≠ σ3 (0 : Int).toNat) := fun h => h.2.2 (t3.ars.eq (in3 2 (by omega)))
  rw [e4 c3, if_neg c3] at h4
  have hv : verts 4 σ3 0 = [0, 1, 2] := by
    rw [t3.verts_is (u := 0) (by omega) (S := fun x => x < 3) (by omega) (fun x _ hx => in3 x hx) (fun a b hab => by simp at hab; rcases hab with ⟨rfl, rfl⟩ | ⟨rfl, rfl⟩ <;> simp)]
    decide
  refine ⟨_, rfl, (fs_size h4 (by omega) 0).mono fun ev w5 hh => ?_⟩
  obtain ⟨rfl, rfl⟩ := hh
  rw [if_pos (show inN 4 0 by decide), show (0 : Int).toNat = 0 from rfl, hv]
  refine ⟨_, rfl, (fs_count h4 (by omega)).mono fun ev w6 hh => ?_⟩
  obtain ⟨rfl, h6, _⟩ := hh
  refine ⟨_, rfl, (fs_cut h6 (by omega) (u := 1) (v := 0) (by unfold okI; omega) (by unfold okI; omega)).mono fun ev w7 hh => ?_⟩
  obtain ⟨rfl, σ7, h7, _⟩ := hh
  have c7 : (0 ≤ (1 : Int) ∧ 0 ≤ (0 : Int)) ∧ pairE (1 : Int).toNat (0 : Int).toNat ∈ [(0, 1), (1, 2)] := by decide
  rw [if_pos c7, show [(0, 1), (1, 2)].erase (pairE (1 : Int).toNat (0 : Int).toNat) = [(1, 2)] by decide] at h7
  refine ⟨_, rfl, (fs_cut h7 (by omega) (u := 0) (v := 1) (by unfold okI; omega) (by unfold okI; omega)).mono fun ev w8 hh => ?_⟩
  obtain ⟨rfl, σ8, h8, e8⟩ := hh
  have c8 : ¬ ((0 ≤ (0 : Int) ∧ 0 ≤ (1 : Int)) ∧ pairE (0 : Int).toNat (1 : Int).toNat ∈ [(1, 2)]) := by decide
  rw [e8 c8, if_neg c8] at h8
  obtain ⟨L7, M7, free7, lab7, t7⟩ := h7.tg
  have s12 : σ7 1 = σ7 2 := (t7.same_iff (by omega)).2 ((t7.step (a := 1) (b := 2) (by simp)).1 (t7.self (by omega)))
  have n01 : σ7 0 ≠ σ7 1 := fun e => by
    have := (t7.same_iff (x := 0) (y := 1) (by omega)).1 e
    have := (t7.comp (u := 0) (by omega) (S := fun x => x = 0) rfl (fun x _ hx => by subst hx; exact t7.self (by omega)) (fun a b hab => by simp at hab; obtain ⟨rfl, rfl⟩ := hab; simp) (x := 1) (by omega)).1 this
    omega
  have v2 : verts 4 σ7 2 = [1, 2] := by
    rw [t7.verts_is (u := 2) (by omega) (S := fun x => x = 1 ∨ x = 2) (by simp) (fun x _ hx => by
      rcases hx with rfl | rfl
      · exact (t7.step (a := 1) (b := 2) (by simp)).2 (t7.self (by omega))
      · exact t7.self (by omega)) (fun a b hab => by simp at hab; obtain ⟨rfl, rfl⟩ := hab; simp)]
    decide
  refine ⟨_, rfl, fun _ => ⟨fun _ => ⟨fun _ => ⟨fun _ => ⟨fun _ => ⟨fun _ => ⟨fun _ => ?_, fun h => absurd (decide_eq_false c8) h⟩, fun h => absurd c7 (of_decide_eq_false h)⟩, fun h => absurd (by simp) h⟩, fun h => absurd rfl h⟩, fun h => absurd (decide_eq_false c3) h⟩, fun h => absurd c2 (of_decide_eq_false h)⟩, fun h => absurd c1 (of_decide_eq_false h)⟩
  refine (fs_conn h8 1 2).mono fun ev w9 hh => ?_
  obtain ⟨rfl, rfl⟩ := hh
  have c9 : inN 4 1 ∧ inN 4 2 ∧ σ7 (1 : Int).toNat = σ7 (2 : Int).toNat := ⟨by decide, by decide, s12⟩
  refine ⟨_, rfl, fun _ => (fs_conn h8 0 1).mono fun ev w10 hh => ?_, fun h => absurd c9 (of_decide_eq_false h)⟩
  obtain ⟨rfl, rfl⟩ := hh
  have c10 : ¬ (inN 4 0 ∧ inN 4 1 ∧ σ7 (0 : Int).toNat = σ7 (1 : Int).toNat) := fun h => n01 h.2.2
  refine ⟨_, rfl, fun _ => (fs_part h8 (by omega) 2).mono fun ev w11 hh => ?_, fun h => absurd (decide_eq_false c10) h⟩
  obtain ⟨A11, m11, k11, rfl, o11, g11, h11⟩ := hh
  have hp : partN 4 σ7 2 = [1, 2] := by unfold partN; rw [if_pos (by decide)]; exact v2
  rw [hp] at o11
  have gA := World.grownBy_alloc w11 (.cells #[.int .i64 1, .int .i64 2] 3) none
  have rA := row_new w11 #[.int .i64 1, .int .i64 2] 3
  have hm : m11 = 2 := by have := o11.cases.1; simp at this; omega
  refine ⟨_, _, _, rfl, (intsZ_calls (xs := intsN [1, 2]) (ys := [1, 2]) (o11.kept gA).row rA (by rw [hm]; rfl) rfl (by omega)).mono fun ev w12 hh => ?_⟩
  obtain ⟨rfl, g12⟩ := hh
  have h12 := (h11.kept gA).kept g12
  have c12 : intsN [1, 2] = [1, 2] := by decide
  refine ⟨_, rfl, fun _ => (fs_size h12 (by omega) 9).mono fun ev w13 hh => ?_, fun h => absurd c12 (of_decide_eq_false h)⟩
  obtain ⟨rfl, rfl⟩ := hh
  rw [if_neg (show ¬ inN 4 9 by decide)]
  refine ⟨_, rfl, fun _ => (fs_conn h12 3 3).mono fun ev w14 hh => ?_, fun h => absurd rfl h⟩
  obtain ⟨rfl, rfl⟩ := hh
  exact ⟨_, rfl, by rw [decide_eq_true (show inN 4 3 ∧ inN 4 3 ∧ σ7 (3 : Int).toNat = σ7 (3 : Int).toNat from ⟨by decide, by decide, rfl⟩)], h12.grown⟩
end Go.Proofs.Ytpfkpmapimonbaa

/-! archipelagolaw22.TourMany: the walk. -/
namespace Go.Proofs.Ytpfkpmapimonbaa
open Go Go.V Go.RowKit
set_option linter.unusedVariables false
set_option linter.unusedSimpArgs false
set_option maxHeartbeats 4000000
set_option maxRecDepth 100000

theorem run_eqB21 (s t : Operand) (a b : Bool) (w : World) : Sem.run P (do eqGuard .eql 4 s t (.bool a) (.bool b); Go.binOp .eql 4 (.bool a) (.bool b) : Sem Value) w = .ok (.bool (decide (a = b))) w := by
  cases a <;> cases b <;> rfl
end Go.Proofs.Ytpfkpmapimonbaa

/-! archipelagolaw22.TourLong: the walk. -/
namespace Go.Proofs.Ytpfkpmapimonbaa
open Go Go.V Go.RowKit
set_option linter.unusedVariables false
set_option linter.unusedSimpArgs false
set_option maxHeartbeats 4000000
set_option maxRecDepth 100000

theorem TG.chain {N : Nat} {L : List Nd} {σ : Nat → List Nat} {M : List ((Int × Int) × Nat)} {free : List Nat} {lab : Nat → It} {E : List (Nat × Nat)} (h : TG N L σ M free lab E) {a b : Nat} (hc : ∀ j, a ≤ j → j < b → (j, j + 1) ∈ E) : ∀ d, a + d ≤ b → ∀ u, a + d ∈ σ u ↔ a ∈ σ u
  | 0, _, u => Iff.rfl
  | d + 1, hd, u => (h.step (hc (a + d) (by omega) (by omega))).symm.trans (h.chain hc d (by omega) u)
theorem count_le (c : Nat) : ∀ k : Nat, ((List.range k).filter fun x => decide (x ≤ c)).length = min k (c + 1)
  | 0 => by simp
  | k + 1 => by
    rw [List.range_succ, List.filter_append, List.length_append, count_le c k]
    by_cases h : k ≤ c
    · simp [h]; omega
    · simp [h]; omega
theorem count_gt (c : Nat) : ∀ k : Nat, ((List.range k).filter fun x => decide (c < x)).length = k - (c + 1)
  | 0 => by simp
  | k + 1 => by
    rw [List.range_succ, List.filter_append, List.length_append, count_gt c k]
    by_cases h : c < k
    · simp [h]; omega
    · simp [h]; omega
def PathE (k : Nat) (E : List (Nat × Nat)) : Prop := ∀ e, e ∈ E ↔ ∃ j, j + 1 < k ∧ e = (j, j + 1)
theorem PathE.mk {k : Nat} {E : List (Nat × Nat)} (h : PathE k E) {j : Nat} (hj : j + 1 < k) : (j, j + 1) ∈ E := (h _).2 ⟨j, hj, rfl⟩
theorem PathE.of {k : Nat} {E : List (Nat × Nat)} (h : PathE k E) {a b : Nat} (hab : (a, b) ∈ E) : b = a + 1 ∧ a + 1 < k := by
  obtain ⟨j, hj, e⟩ := (h _).1 hab
  cases e; exact ⟨rfl, hj⟩
theorem pairE_down (c : Nat) : pairE (c + 1) c = (c, c + 1) := by unfold pairE; rw [Nat.min_eq_right (by omega), Nat.max_eq_left (by omega)]
theorem pairE_up (c : Nat) : pairE c (c + 1) = (c, c + 1) := by rw [pairE_comm]; exact pairE_down c
theorem walkTourLong {w : World} {n sd : Int} {A : Option Addr} {m c : Nat} {l : List Int} (hn : 0 ≤ n ∧ n ≤ 255) (hsd : 0 ≤ sd ∧ sd ≤ 18446744073709551615) (hrow : Row w A (l.map (Value.int .u8))) (hm : m = l.length) (hb : ∀ x ∈ l, 0 ≤ x ∧ x ≤ 255) :
    Calls P 4 #[.int .u8 n, .int .u64 sd, .slice A m c] w fun ev w' => ev = .returned (.bool true) ∧ w.grownBy w' none := by
  apply vc4; unfold VC4; try (conv => zeta)
  simp only [InK]
  obtain ⟨k, hk⟩ : ∃ k : Nat, n % 60 + 2 = (k : Int) := ⟨(n % 60 + 2).toNat, by omega⟩
  have hk2 : 2 ≤ k ∧ k ≤ 61 := by omega
  simp only [hk]
  refine known22_calls.mono fun ev w1 hh => ?_
  obtain ⟨rfl, g1⟩ := hh
  refine ⟨true, rfl, fun h => (by cases h), fun _ => ⟨fun _ => ⟨by trivial, g1⟩, fun h40 => ⟨⟨by omega, by omega⟩, by omega, by omega, (fs_new g1 (k : Int) sd).mono fun ev w2 hh => ?_⟩⟩⟩
  obtain ⟨f, fg, rfl, h2, g2⟩ := hh
  rw [show nOf (k : Int) = k by unfold nOf; omega] at h2
  refine ⟨_, rfl, fun q i W => ∃ (p : Nat) (σ : Nat → List Nat) (E : List (Nat × Nat)), i = p ∧ 1 ≤ p ∧ p ≤ k ∧ q = k - p ∧ FS w W f fg k (k + 2 * (p - 1)) σ E ∧ PathE p E ∧ E.length = p - 1, ⟨_, 1, _, [], rfl, by omega, by omega, rfl, h2, fun e => ⟨fun h => (by simp at h), fun ⟨j, hj, _⟩ => (by omega)⟩, rfl⟩, ?_⟩
  rintro q i W ⟨p, σ, E, rfl, hp1, hpk, rfl, hF, hE, hEl⟩
  refine ⟨fun hlt => ?_, fun hge => ?_⟩
  · -- one edge more
    obtain ⟨p, rfl⟩ : ∃ p', p = p' + 1 := ⟨p - 1, by omega⟩
    obtain ⟨L, M, free, lab, t⟩ := hF.tg
    have e1 : ((p + 1 : Nat) : Int) - 1 = (p : Int) := by omega
    rw [e1]
    refine ⟨by omega, (fs_link hF (by omega) ((p + 1 : Nat) : Int) (p : Int)).mono fun ev w3 hh => ?_⟩
    obtain ⟨rfl, σ', hF', _⟩ := hh
    simp only [Int.toNat_natCast] at hF' ⊢
    have cond : inN k ((p + 1 : Nat) : Int) ∧ inN k (p : Int) ∧ σ (p + 1) ≠ σ p := by
      refine ⟨⟨by omega, by omega⟩, ⟨by omega, by omega⟩, fun e => ?_⟩
      have h1 := (t.same_iff (x := p) (y := p + 1) (by omega)).1 e.symm
      have h2 := (t.comp (u := p) (by omega) (S := fun x => x < p + 1) (by omega) (fun x _ hx => by
        have h0 := (t.chain (a := x) (b := p) (fun j h1 h2 => hE.mk (by omega)) (p - x) (by omega) p).1 (by rw [show x + (p - x) = p by omega]; exact t.self (by omega))
        exact h0) (fun a b hab => by obtain ⟨rfl, h⟩ := hE.of hab; omega) (x := p + 1) (by omega)).1 h1
      omega
    rw [if_pos cond, pairE_down] at hF'
    refine ⟨_, rfl, fun h => absurd cond (of_decide_eq_false h), fun _ => ⟨by omega, k - (p + 2), by omega, p + 2, σ', _, by omega, by omega, by omega, rfl, by rw [show k + 2 * (p + 2 - 1) = k + 2 * (p + 1 - 1) + 2 by omega]; exact hF', fun e => ?_, by simp [hEl]⟩⟩
    rw [List.mem_append, List.mem_singleton, hE]
    constructor
    · rintro (⟨j, hj, rfl⟩ | rfl)
      · exact ⟨j, by omega, rfl⟩
      · exact ⟨p, by omega, rfl⟩
    · rintro ⟨j, hj, rfl⟩
      by_cases e : j = p
      · right; rw [e]
      · left; exact ⟨j, by omega, rfl⟩
  have hpe : p = k := by omega
  subst hpe
  -- what a whole path is
  have whole : ∀ {L M free lab} {σ : Nat → List Nat} {E : List (Nat × Nat)}, TG p L σ M free lab E → PathE p E → ∀ x u, x < p → u < p → x ∈ σ u := fun t hE x u hx hu => by
    have h1 := t.chain (a := 0) (b := p - 1) (fun j _ h2 => hE.mk (by omega))
    have hx' := h1 x (by omega) u
    have hu' := h1 u (by omega) u
    rw [Nat.zero_add] at hx' hu'
    exact hx'.2 (hu'.1 (t.self hu))
  refine ⟨fun q i W' => ∃ (j : Nat) (σ : Nat → List Nat) (E : List (Nat × Nat)), i = j ∧ j ≤ l.length ∧ q = l.length - j ∧ FS w W' f fg p (p + 2 * (p - 1) + 4 * j) σ E ∧ PathE p E ∧ E.length = p - 1, ⟨_, 0, σ, E, rfl, by omega, rfl, hF, hE, hEl⟩, ?_⟩
  rintro q i W3 ⟨j, σ3, E3, rfl, hj, rfl, hF3, hE3, hEl3⟩
  have tj : (j : Int).toNat = j := by omega
  rw [tj]
  obtain ⟨L3, M3, free3, lab3, t3⟩ := hF3.tg
  refine ⟨fun hlt => ?_, fun hge => ⟨by omega, (fs_conn hF3 0 ((p : Int) - 1)).mono fun ev w4 hh => ?_⟩⟩
  · have lj : j < l.length := by omega
    obtain ⟨a, e1, e2⟩ := (hrow.kept_none hF3.grown) j (.int .u8 l[j]) (by simp [lj])
    have hlb := hb _ (List.getElem_mem lj)
    have m1 := Int.emod_nonneg l[j] (show ((p : Int) - 1) ≠ 0 by omega)
    have m2 := Int.emod_lt_of_pos l[j] (show (0 : Int) < (p : Int) - 1 by omega)
    obtain ⟨x, hx⟩ : ∃ x : Nat, l[j] % ((p : Int) - 1) = (x : Int) := ⟨(l[j] % ((p : Int) - 1)).toNat, by omega⟩
    rw [hx] at m1 m2
    have hxk : x + 1 < p := by omega
    refine ⟨a, e1, by omega, by omega, _, e2, by omega, by omega, ⟨by omega, by omega⟩, ?_⟩
    rw [hx]
    have ex1 : (x : Int) + 1 = ((x + 1 : Nat) : Int) := by omega
    have ep1 : (p : Int) - 1 = ((p - 1 : Nat) : Int) := by omega
    rw [ex1, ep1]
    refine ⟨by omega, (fs_cut hF3 (by omega) (u := (x : Int)) (v := ((x + 1 : Nat) : Int)) (by unfold okI; omega) (by unfold okI; omega)).mono fun ev w4 hh => ?_⟩
    obtain ⟨rfl, σ4, hF4, _⟩ := hh
    simp only [Int.toNat_natCast] at hF4 ⊢
    have c4 : (0 ≤ (x : Int) ∧ 0 ≤ ((x + 1 : Nat) : Int)) ∧ pairE x (x + 1) ∈ E3 := ⟨⟨by omega, by omega⟩, by rw [pairE_up]; exact hE3.mk hxk⟩
    rw [if_pos c4, pairE_up] at hF4
    obtain ⟨E4, hE4⟩ : ∃ E4, E4 = E3.erase (x, x + 1) := ⟨_, rfl⟩
    rw [← hE4] at hF4
    have mem4 : ∀ e, e ∈ E4 ↔ e ≠ (x, x + 1) ∧ e ∈ E3 := fun e => by rw [hE4, List.Nodup.mem_erase_iff t3.edge.nodup]
    have len4 : E4.length = p - 2 := by rw [hE4, List.length_erase_of_mem (hE3.mk hxk), hEl3]; omega
    obtain ⟨L4, M4, free4, lab4, t4⟩ := hF4.tg
    have cl4 : ∀ a b, (a, b) ∈ E4 → (a ≤ x ↔ b ≤ x) := fun a b hab => by
      obtain ⟨h1, h2⟩ := (mem4 _).1 hab
      obtain ⟨rfl, h3⟩ := hE3.of h2
      have : a ≠ x := fun e => h1 (by rw [e])
      omega
    have low : ∀ y, y ≤ x → y ∈ σ4 0 := fun y hy => by
      have := (t4.chain (a := 0) (b := x) (fun j' _ h2 => (mem4 _).2 ⟨fun e => by cases e; omega, hE3.mk (by omega)⟩) y (by omega) 0)
      rw [Nat.zero_add] at this
      exact this.2 (t4.self (by omega))
    have high : ∀ y, x < y → y < p → y ∈ σ4 (p - 1) := fun y hy hyp => by
      have := (t4.chain (a := y) (b := p - 1) (fun j' h1 h2 => (mem4 _).2 ⟨fun e => by cases e; omega, hE3.mk (by omega)⟩) (p - 1 - y) (by omega) (p - 1))
      rw [show y + (p - 1 - y) = p - 1 by omega] at this
      exact this.1 (t4.self (by omega))
    have comp0 : ∀ y, y < p → (y ∈ σ4 0 ↔ y ≤ x) := fun y hy => t4.comp (u := 0) (by omega) (S := fun y => y ≤ x) (by omega) (fun y _ hy => low y hy) cl4 hy
    have v0 : (verts p σ4 0).length = x + 1 := by
      rw [t4.verts_is (u := 0) (by omega) (S := fun y => y ≤ x) (by omega) (fun y _ hy => low y hy) cl4, count_le]; omega
    have v1 : (verts p σ4 (p - 1)).length = p - (x + 1) := by
      rw [t4.verts_is (u := p - 1) (by omega) (S := fun y => x < y) (by omega) (fun y hyp hy => high y hy hyp) (fun a b hab => by have := cl4 a b hab; omega), count_gt]
    refine ⟨_, rfl, fun h => absurd c4 (of_decide_eq_false h), fun _ => ⟨by omega, (fs_conn hF4 0 ((p - 1 : Nat) : Int)).mono fun ev w5 hh => ?_⟩⟩
    obtain ⟨rfl, rfl⟩ := hh
    have c5 : ¬ (inN p 0 ∧ inN p ((p - 1 : Nat) : Int) ∧ σ4 (0 : Int).toNat = σ4 ((p - 1 : Nat) : Int).toNat) := fun h => by
      have h3 := h.2.2
      rw [show (0 : Int).toNat = 0 from rfl, Int.toNat_natCast] at h3
      have := (comp0 (p - 1) (by omega)).1 ((t4.same_iff (by omega)).1 h3)
      omega
    refine ⟨_, rfl, fun h => absurd (of_decide_eq_true h) c5, fun _ => (fs_size hF4 (by omega) 0).mono fun ev w6 hh => ?_⟩
    obtain ⟨rfl, rfl⟩ := hh
    rw [if_pos (show inN p 0 from ⟨by omega, by omega⟩), show (0 : Int).toNat = 0 from rfl, v0]
    refine ⟨_, rfl, by omega, fun h => absurd (by omega) h, fun _ => ⟨by omega, (fs_size hF4 (by omega) ((p - 1 : Nat) : Int)).mono fun ev w7 hh => ?_⟩⟩
    obtain ⟨rfl, rfl⟩ := hh
    rw [if_pos (show inN p ((p - 1 : Nat) : Int) from ⟨by omega, by omega⟩), Int.toNat_natCast, v1]
    refine ⟨_, rfl, by omega, by omega, fun h => absurd (by omega) h, fun _ => (fs_count hF4 (by omega)).mono fun ev w8 hh => ?_⟩
    obtain ⟨rfl, hF8, _⟩ := hh
    refine ⟨_, rfl, fun h => absurd (by omega) h, fun _ => ⟨by omega, (fs_cut hF8 (by omega) (u := (x : Int)) (v := ((x + 1 : Nat) : Int)) (by unfold okI; omega) (by unfold okI; omega)).mono fun ev w9 hh => ?_⟩⟩
    obtain ⟨rfl, σ9, hF9, e9⟩ := hh
    have c9 : ¬ ((0 ≤ (x : Int) ∧ 0 ≤ ((x + 1 : Nat) : Int)) ∧ pairE (x : Int).toNat ((x + 1 : Nat) : Int).toNat ∈ E4) := fun h => by
      rw [Int.toNat_natCast, Int.toNat_natCast, pairE_up] at h
      exact ((mem4 _).1 h.2).1 rfl
    rw [e9 c9, if_neg c9] at hF9
    refine ⟨_, rfl, fun h => absurd (of_decide_eq_true h) c9, fun _ => ⟨by omega, (fs_link hF9 (by omega) ((x + 1 : Nat) : Int) (x : Int)).mono fun ev w10 hh => ?_⟩⟩
    obtain ⟨rfl, σ10, hF10, _⟩ := hh
    simp only [Int.toNat_natCast] at hF10 ⊢
    have c10 : inN p ((x + 1 : Nat) : Int) ∧ inN p (x : Int) ∧ σ4 (x + 1) ≠ σ4 x := by
      refine ⟨⟨by omega, by omega⟩, ⟨by omega, by omega⟩, fun e => ?_⟩
      have h1 : σ4 0 = σ4 x := (t4.same_iff (by omega)).2 (low x (Nat.le_refl _))
      have := (comp0 (x + 1) (by omega)).1 ((t4.same_iff (x := 0) (by omega)).1 (by rw [h1, e]))
      omega
    rw [if_pos c10, pairE_down] at hF10
    have hE10 : PathE p (E4 ++ [(x, x + 1)]) := fun e => by
      rw [List.mem_append, List.mem_singleton, mem4, hE3]
      constructor
      · rintro (⟨_, h⟩ | rfl)
        · exact h
        · exact ⟨x, hxk, rfl⟩
      · intro h
        by_cases e' : e = (x, x + 1)
        · exact .inr e'
        · exact .inl ⟨e', h⟩
    obtain ⟨L10, M10, free10, lab10, t10⟩ := hF10.tg
    refine ⟨_, rfl, fun h => absurd c10 (of_decide_eq_false h), fun _ => ⟨by omega, (fs_link hF10 (by omega) 0 ((p - 1 : Nat) : Int)).mono fun ev w11 hh => ?_⟩⟩
    obtain ⟨rfl, σ11, hF11, e11⟩ := hh
    have c11 : ¬ (inN p 0 ∧ inN p ((p - 1 : Nat) : Int) ∧ σ10 (0 : Int).toNat ≠ σ10 ((p - 1 : Nat) : Int).toNat) := fun h => h.2.2 (by
      rw [show (0 : Int).toNat = 0 from rfl, Int.toNat_natCast]
      exact (t10.same_iff (by omega)).2 (whole t10 hE10 _ _ (by omega) (by omega)))
    rw [e11 c11, if_neg c11] at hF11
    refine ⟨_, rfl, fun h => absurd (of_decide_eq_true h) c11, fun _ => (fs_size hF11 (by omega) (x : Int)).mono fun ev w12 hh => ?_⟩
    obtain ⟨rfl, rfl⟩ := hh
    have vx : (verts p σ10 x).length = p := by
      rw [t10.verts_is (u := x) (by omega) (S := fun y => y ≤ p) (by omega) (fun y hy _ => whole t10 hE10 y x hy (by omega)) (fun a b hab => by obtain ⟨rfl, h⟩ := hE10.of hab; omega), count_le]; omega
    rw [if_pos (show inN p (x : Int) from ⟨by omega, by omega⟩), Int.toNat_natCast, vx]
    refine ⟨_, rfl, fun h => absurd rfl h, fun _ => (fs_count hF11 (by omega)).mono fun ev w13 hh => ?_⟩
    obtain ⟨rfl, hF13, _⟩ := hh
    have hl10 : (E4 ++ [(x, x + 1)]).length = p - 1 := by rw [List.length_append, len4]; simp; omega
    refine ⟨_, rfl, fun h => absurd (by rw [hl10]; omega) h, fun _ => ⟨by omega, l.length - (j + 1), by omega, j + 1, σ10, _, by omega, by omega, rfl, by rw [show p + 2 * (p - 1) + 4 * (j + 1) = p + 2 * (p - 1) + 4 * j + 2 + 2 by omega]; exact hF13, hE10, hl10⟩⟩
  · obtain ⟨rfl, rfl⟩ := hh
    refine ⟨_, rfl, ?_, hF3.grown⟩
    rw [decide_eq_true]
    refine ⟨⟨by omega, by omega⟩, ⟨by omega, by omega⟩, ?_⟩
    rw [show (0 : Int).toNat = 0 from rfl, show ((p : Int) - 1).toNat = p - 1 by omega]
    exact (t3.same_iff (by omega)).2 (whole t3 hE3 _ _ (by omega) (by omega))
end Go.Proofs.Ytpfkpmapimonbaa

/-! archipelagolaw22.TourStars: the walk. -/
namespace Go.Proofs.Ytpfkpmapimonbaa
open Go Go.V Go.RowKit
set_option linter.unusedVariables false
set_option linter.unusedSimpArgs false
set_option maxHeartbeats 4000000
set_option maxRecDepth 100000

/-- A forest in use beside blocks Q of others, which it leaves as they are. -/
def FR (w0 w : World) (f g N len : Nat) (σ : Nat → List Nat) (E : List (Nat × Nat)) (Q : Nat → Prop) : Prop :=
  ∃ S : Nat → Prop, FG w w0.heap.size f g N S len σ E ∧ (∀ q, S q → w0.heap.size ≤ q ∧ ¬ Q q) ∧ w0.grownBy w none ∧ ∀ q, Q q → w0.heap.size ≤ q ∧ q < w.heap.size
section
variable {w0 w w' : World} {f g N len : Nat} {σ : Nat → List Nat} {E : List (Nat × Nat)} {Q : Nat → Prop}
theorem FR.fs (h : FR w0 w f g N len σ E Q) : FS w0 w f g N len σ E := by
  obtain ⟨S, h1, h2, h3, h4⟩ := h
  exact ⟨S, h1, fun q hq => (h2 q hq).1, h3⟩
theorem FR.kept (h : FR w0 w f g N len σ E Q) (hg : w.grownBy w' none) : FR w0 w' f g N len σ E Q := by
  obtain ⟨S, ⟨L, M, free, lab, h1, h2, h3⟩, h4, h5, h6⟩ := h
  exact ⟨S, ⟨L, M, free, lab, h1, h2.kept hg, h3⟩, h4, grown_trans h5 hg, fun q hq => ⟨(h6 q hq).1, Nat.lt_of_lt_of_le (h6 q hq).2 hg.size⟩⟩
theorem FR.kpQ (h : FR w0 w f g N len σ E Q) (hk : Kp w w' Q) : FR w0 w' f g N len σ E Q := by
  obtain ⟨S, ⟨L, M, free, lab, h1, h2, h3⟩, h4, h5, h6⟩ := h
  refine ⟨S, ⟨L, M, free, lab, h1, h2.kp hk (fun q hq => (h4 q hq).2), h3⟩, h4, ?_, fun q hq => ⟨(h6 q hq).1, Nat.lt_of_lt_of_le (h6 q hq).2 hk.size⟩⟩
  exact ((Kp.of_none (S := fun q => w0.heap.size ≤ q) h5).then hk (fun q _ e => (h6 q e).1)).grown (fun q hq e => by omega)
theorem FS.fr (h : FS w0 w f g N len σ E) (hg : w.grownBy w' none) {b : Nat} (hb : w.heap.size ≤ b ∧ b < w'.heap.size) : FR w0 w' f g N len σ E (fun q => q = b) := by
  obtain ⟨S, ⟨L, M, free, lab, h1, h2, h3⟩, h4, h5⟩ := h
  refine ⟨S, ⟨L, M, free, lab, h1, h2.kept hg, h3⟩, fun q hq => ⟨h4 q hq, fun e => by have := h2.bound q hq; omega⟩, grown_trans h5 hg, fun q hq => by subst hq; exact ⟨Nat.le_trans h5.size hb.1, hb.2⟩⟩
theorem fr_cut (h : FR w0 w f g N len σ E Q) (hl : len ≤ 2 ^ 20) {u v : Int} (hu : okI u) (hv : okI v) : Calls P 17 #[.pointer (some ⟨f, 0, none⟩), .int .i64 u, .int .i64 v] w fun ev w' => ev = .returned (.bool (decide ((0 ≤ u ∧ 0 ≤ v) ∧ pairE u.toNat v.toNat ∈ E))) ∧
    ∃ σ', FR w0 w' f g N len σ' (if (0 ≤ u ∧ 0 ≤ v) ∧ pairE u.toNat v.toNat ∈ E then E.erase (pairE u.toNat v.toNat) else E) Q ∧ (¬ ((0 ≤ u ∧ 0 ≤ v) ∧ pairE u.toNat v.toNat ∈ E) → σ' = σ) ∧ Kp w w' (fun q => ¬ Q q) := by
  obtain ⟨S, ⟨L, M, free, lab, h1, h2, h3⟩, h4, h5, h6⟩ := h
  refine (cut_calls h2 h3 h5.size (by omega) hu hv).mono fun ev w' hh => ?_
  obtain ⟨rfl, σ', ⟨L', M', free', lab', a1, a2, a3⟩, K, hno⟩ := hh
  refine ⟨rfl, σ', ⟨_, ⟨L', M', free', lab', by omega, a2, a3⟩, fun q hq => hq.elim (h4 q) (fun e => ⟨Nat.le_trans h5.size e.1, fun e' => by have := (h6 q e').2; omega⟩), ?_, fun q hq => ⟨(h6 q hq).1, Nat.lt_of_lt_of_le (h6 q hq).2 K.size⟩⟩, hno, K.mono (fun q _ e => (h4 q e).2)⟩
  exact ((Kp.of_none (S := fun q => w0.heap.size ≤ q) h5).then K (fun q _ e => (h4 q e).1)).grown (fun q hq e => by omega)
end
def StarE (gs : List Bool) (E : List (Nat × Nat)) : Prop := ∀ e, e ∈ E ↔ ∃ j, 1 ≤ j ∧ gs[j]? = some false ∧ e = (0, j)
theorem pairE_z (v : Nat) : pairE v 0 = (0, v) := by unfold pairE; simp
theorem pairE_z' (v : Nat) : pairE 0 v = (0, v) := by unfold pairE; simp
theorem filter_idx : ∀ gs : List Bool, ((List.range gs.length).filter fun x => decide (gs[x]? = some false)).length = gs.count false := by
  intro gs
  induction gs with
  | nil => rfl
  | cons b gs ih =>
    rw [List.length_cons, List.range_succ_eq_map, List.filter_cons, List.count_cons]
    have h : ((List.range gs.length).map Nat.succ).filter (fun x => decide ((b :: gs)[x]? = some false)) = ((List.range gs.length).filter fun x => decide (gs[x]? = some false)).map Nat.succ := by
      rw [List.filter_map]; rfl
    cases b
    · simp [h, ih]
    · simp [h, ih]
theorem filter_eq_one {N v : Nat} (hv : v < N) : ((List.range N).filter fun x => decide (x = v)) = [v] := by
  refine rise_ext (List.Pairwise.filter _ List.pairwise_lt_range) (by simp) fun a => ?_
  simp; omega
/-- What a star's trees are. -/
theorem star_in {N : Nat} {L : List Nd} {σ : Nat → List Nat} {M : List ((Int × Int) × Nat)} {free : List Nat} {lab : Nat → It} {E : List (Nat × Nat)} (t : TG N L σ M free lab E) {gs : List Bool} (hE : StarE gs E) (h0 : gs[0]? = some false) (hN : 0 < N) : ∀ x, gs[x]? = some false → x ∈ σ 0 := fun x hx => by
  by_cases e : x = 0
  · subst e; exact t.self hN
  · exact (t.step ((hE (0, x)).2 ⟨x, by omega, hx, rfl⟩)).1 (t.self hN)
theorem star_cl {E : List (Nat × Nat)} {gs : List Bool} (hE : StarE gs E) (h0 : gs[0]? = some false) : ∀ a b, (a, b) ∈ E → (gs[a]? = some false ↔ gs[b]? = some false) := fun a b hab => by
  obtain ⟨j, hj, hg, e⟩ := (hE _).1 hab
  cases e
  simp [h0, hg]
theorem walkTourStars {w : World} {n sd : Int} {A : Option Addr} {m c : Nat} {l : List Int} {about : Bool} (hn : 0 ≤ n ∧ n ≤ 255) (hsd : 0 ≤ sd ∧ sd ≤ 18446744073709551615) (hrow : Row w A (l.map (Value.int .u8))) (hm : m = l.length) (hb : ∀ x ∈ l, 0 ≤ x ∧ x ≤ 255) :
    Calls P 5 #[.int .u8 n, .int .u64 sd, .slice A m c, .bool about] w fun ev w' => ev = .returned (.bool true) ∧ w.grownBy w' none := by
  apply vc5; unfold VC5; try (conv => zeta)
  simp only [InK]
  obtain ⟨k, hk⟩ : ∃ k : Nat, n % 60 + 1 = (k : Int) := ⟨(n % 60 + 1).toNat, by omega⟩
  have hk2 : 1 ≤ k ∧ k ≤ 60 := by omega
  simp only [hk]
  have ek : (k : Int) + 1 = ((k + 1 : Nat) : Int) := by omega
  simp only [ek]
  refine known22_calls.mono fun ev w1 hh => ?_
  obtain ⟨rfl, g1⟩ := hh
  refine ⟨true, rfl, fun h => (by cases h), fun _ => ⟨fun _ => ⟨by trivial, g1⟩, fun h40 => ⟨⟨by omega, by omega⟩, by omega, by omega, by omega, (fs_new g1 ((k + 1 : Nat) : Int) sd).mono fun ev w2 hh => ?_⟩⟩⟩
  obtain ⟨f, fg, rfl, h2, g2⟩ := hh
  rw [show nOf ((k + 1 : Nat) : Int) = k + 1 by unfold nOf; omega] at h2
  have h2' : FS w w2 f fg (k + 1) (k + 1 + 4 * 1) (sig0 (k + 1)) [] := by
    obtain ⟨S, ⟨L, M, free, lab, a1, a2, a3⟩, a4, a5⟩ := h2
    exact ⟨S, ⟨L, M, free, lab, by omega, a2, a3⟩, a4, a5⟩
  have hE0 : StarE (List.replicate 1 false) [] := fun e => ⟨fun h => (by simp at h), fun ⟨j, hj, hg, _⟩ => (by rw [List.getElem?_replicate, if_neg (by omega)] at hg; cases hg)⟩
  refine ⟨_, rfl, fun q i W => ∃ (p : Nat) (σ : Nat → List Nat) (E : List (Nat × Nat)), i = p ∧ 1 ≤ p ∧ p ≤ k + 1 ∧ q = k + 1 - p ∧ FS w W f fg (k + 1) (k + 1 + 4 * p) σ E ∧ StarE (List.replicate p false) E ∧ E.length = p - 1, ⟨_, 1, sig0 (k + 1), [], rfl, by omega, by omega, rfl, h2', hE0, rfl⟩, ?_⟩
  rintro q i W ⟨p, σ, E, rfl, hp1, hpk, rfl, hF, hE, hEl⟩
  refine ⟨fun hlt => ?_, fun hge => ?_⟩
  · -- a ray more
    refine ⟨fun u v W' => W' = W ∧ ((u = p ∧ v = 0) ∨ (u = 0 ∧ v = p)), ⟨fun _ => ⟨rfl, .inl ⟨rfl, rfl⟩⟩, fun _ => ⟨rfl, .inr ⟨rfl, rfl⟩⟩⟩, ?_⟩
    rintro u v W' ⟨rfl, huv⟩
    obtain ⟨L, M, free, lab, t⟩ := hF.tg
    have h0 : (List.replicate p false)[0]? = some false := by rw [List.getElem?_replicate, if_pos (by omega)]
    have hpn : p ∉ σ 0 := fun h => by
      have := (t.comp (u := 0) (by omega) (S := fun x => (List.replicate p false)[x]? = some false) h0 (fun x _ hx => star_in t hE h0 (by omega) x hx) (star_cl hE h0) (x := p) (by omega)).1 h
      rw [List.getElem?_replicate, if_neg (by omega)] at this; cases this
    have ne : σ p ≠ σ 0 := fun e => hpn (by rw [← e]; exact t.self (by omega))
    have cond : inN (k + 1) u ∧ inN (k + 1) v ∧ σ u.toNat ≠ σ v.toNat := by
      rcases huv with ⟨rfl, rfl⟩ | ⟨rfl, rfl⟩
      · exact ⟨⟨by omega, by omega⟩, ⟨by omega, by omega⟩, by simpa using ne⟩
      · exact ⟨⟨by omega, by omega⟩, ⟨by omega, by omega⟩, by simpa using ne.symm⟩
    have hpe : pairE u.toNat v.toNat = (0, p) := by
      rcases huv with ⟨rfl, rfl⟩ | ⟨rfl, rfl⟩
      · simpa using pairE_z p
      · simpa using pairE_z' p
    refine (fs_link hF (by omega) u v).mono fun ev w3 hh => ?_
    obtain ⟨rfl, σ3, hF3, _⟩ := hh
    rw [if_pos cond, hpe] at hF3
    have hE3 : StarE (List.replicate (p + 1) false) (E ++ [(0, p)]) := fun e => by
      rw [List.mem_append, List.mem_singleton, hE]
      constructor
      · rintro (⟨j, hj, hg, rfl⟩ | rfl)
        · rw [List.getElem?_replicate] at hg
          split at hg
          · exact ⟨j, hj, by rw [List.getElem?_replicate, if_pos (by omega)], rfl⟩
          · cases hg
        · exact ⟨p, hp1, by rw [List.getElem?_replicate, if_pos (by omega)], rfl⟩
      · rintro ⟨j, hj, hg, rfl⟩
        rw [List.getElem?_replicate] at hg
        split at hg
        · by_cases e : j = p
          · right; rw [e]
          · left; exact ⟨j, hj, by rw [List.getElem?_replicate, if_pos (by omega)], rfl⟩
        · cases hg
    obtain ⟨L3, M3, free3, lab3, t3⟩ := hF3.tg
    have h03 : (List.replicate (p + 1) false)[0]? = some false := by rw [List.getElem?_replicate, if_pos (by omega)]
    have hin3 : σ3 p = σ3 0 := t3.ars.eq (star_in t3 hE3 h03 (by omega) p (by rw [List.getElem?_replicate, if_pos (by omega)]))
    refine ⟨_, rfl, fun h => absurd cond (of_decide_eq_false h), fun _ => (fs_link hF3 (by omega) v u).mono fun ev w4 hh => ?_⟩
    obtain ⟨rfl, σ4, hF4, e4⟩ := hh
    have c4 : ¬ (inN (k + 1) v ∧ inN (k + 1) u ∧ σ3 v.toNat ≠ σ3 u.toNat) := fun h => h.2.2 (by
      rcases huv with ⟨rfl, rfl⟩ | ⟨rfl, rfl⟩
      · simpa using hin3.symm
      · simpa using hin3)
    rw [e4 c4, if_neg c4] at hF4
    exact ⟨_, rfl, fun h => absurd (of_decide_eq_true h) c4, fun _ => ⟨by omega, k + 1 - (p + 1), by omega, p + 1, σ3, _, by omega, by omega, by omega, rfl, by rw [show k + 1 + 4 * (p + 1) = k + 1 + 4 * p + 2 + 2 by omega]; exact hF4, hE3, by simp [hEl]; omega⟩⟩
  have hpe : p = k + 1 := by omega
  subst hpe
  obtain ⟨w3, r1, r2, r3⟩ := run_made (P := P) (w := W) elemB1 (by omega) (m := k + 1) (by omega)
  have o3 : OwnedK w3 W.heap.size 4 1 (some ⟨W.heap.size, 0, none⟩) (k + 1) (k + 1) (boolsV (List.replicate (k + 1) false)) := by
    have := r2.ownsRow (base := W.heap.size) (Nat.le_refl _) (by simp only [maxLen]; omega)
    simpa [OwnedK] using this
  have hbl3 : W.heap.size < w3.heap.size := o3.block_lt _ rfl
  have hR3 := hF.fr r3 (b := W.heap.size) ⟨Nat.le_refl _, hbl3⟩
  have hc0 : (List.replicate (k + 1) false).count true = 0 := List.count_eq_zero.2 (fun h => by have := List.eq_of_mem_replicate h; cases this)
  refine ⟨by omega, _, _, _, w3, r1, ?_⟩
  refine ⟨fun q cc i W' => ∃ (j : Nat) (σ : Nat → List Nat) (E : List (Nat × Nat)) (gs : List Bool), i = j ∧ j ≤ l.length ∧ q = l.length - j ∧ gs.length = k + 1 ∧ gs[0]? = some false ∧ cc = (gs.count true : Int) ∧ FR w W' f fg (k + 1) (k + 1 + 4 * (k + 1)) σ E (fun q => q = W.heap.size) ∧ StarE gs E ∧ E.length + gs.count true = k ∧ OwnedK W' W.heap.size 4 1 (some ⟨W.heap.size, 0, none⟩) (k + 1) (k + 1) (boolsV gs), ⟨_, 0, σ, E, List.replicate (k + 1) false, rfl, by omega, rfl, by simp, by rw [List.getElem?_replicate, if_pos (by omega)], by rw [hc0]; rfl, hR3, hE, by rw [hc0]; omega, o3⟩, ?_⟩
  rintro q cc i W4 ⟨j, σ4, E4, gs, rfl, hj, rfl, hgl, hg0, rfl, hR4, hE4, hEl4, o4⟩
  have tj : (j : Int).toNat = j := by omega
  rw [tj]
  refine ⟨fun hlt => ?_, fun hge => ⟨by trivial, hR4.fs.grown⟩⟩
  have lj : j < l.length := by omega
  obtain ⟨a, e1, e2⟩ := (hrow.kept_none hR4.fs.grown) j (.int .u8 l[j]) (by simp [lj])
  have hlb := hb _ (List.getElem_mem lj)
  have m1 := Int.emod_nonneg l[j] (show (k : Int) ≠ 0 by omega)
  have m2 := Int.emod_lt_of_pos l[j] (show (0 : Int) < (k : Int) by omega)
  obtain ⟨v, hv⟩ : ∃ v : Nat, l[j] % (k : Int) + 1 = (v : Int) := ⟨(l[j] % (k : Int) + 1).toNat, by omega⟩
  have hvk : 1 ≤ v ∧ v ≤ k := by omega
  have tv : (v : Int).toNat = v := by omega
  refine ⟨a, e1, by omega, by omega, _, e2, by omega, ⟨by omega, by omega⟩, ?_⟩
  rw [hv, tv]
  have lv : v < gs.length := by omega
  have gd := grown_drew (grown_refl W4 none)
  have hR4d := hR4.kept gd
  have o4d := o4.kept gd
  obtain ⟨w5, hw5⟩ : ∃ w5, w5 = W4.drew := ⟨_, rfl⟩
  rw [← hw5] at gd hR4d o4d ⊢
  refine ⟨by omega, fun W' => W'.cell? ⟨W.heap.size, v, none⟩ = some (.bool gs[v]), own_cell o4d lv, (fr_cut hR4d (by omega) (u := (v : Int)) (v := 0) (by unfold okI; omega) (by unfold okI; omega)).mono fun ev w6 hh => ?_⟩
  obtain ⟨rfl, σ6, hR6, e6, K6⟩ := hh
  rw [tv, show (0 : Int).toNat = 0 from rfl, pairE_z] at hR6 e6 ⊢
  have o6 := o4d.kp K6 (fun q hq e => e (by simpa [Value.ownBlock] using hq.symm))
  have hmem : (0, v) ∈ E4 ↔ gs[v] = false := by
    rw [hE4]
    constructor
    · rintro ⟨j', _, hg, e⟩; cases e; rw [List.getElem?_eq_getElem lv] at hg; exact Option.some.inj hg
    · intro h; exact ⟨v, hvk.1, by rw [List.getElem?_eq_getElem lv, h], rfl⟩
  have hcond : ((0 ≤ (v : Int) ∧ (0 : Int) ≤ 0) ∧ (0, v) ∈ E4) ↔ gs[v] = false := ⟨fun h => hmem.1 h.2, fun h => ⟨⟨by omega, by omega⟩, hmem.2 h⟩⟩
  have hx74 : ¬ (decide ((0 ≤ (v : Int) ∧ (0 : Int) ≤ 0) ∧ (0, v) ∈ E4) = gs[v]) := by
    rw [decide_eq_decide.2 hcond]
    have hbb : ∀ b : Bool, ¬ (decide (b = false) = b) := by decide
    exact hbb _
  refine ⟨_, rfl, own_cell o6 lv, _, rfl, by omega, by omega, gs[v], fun W' hW => by rw [add_blk]; exact hW, _, fun w => run_eqB21 _ _ _ _ w, fun h => absurd (of_decide_eq_true h) hx74, fun _ => ?_⟩
  -- behind the cut
  refine ⟨fun c1 W' => ∃ (σ' : Nat → List Nat) (E' : List (Nat × Nat)) (gs' : List Bool), gs'.length = k + 1 ∧ gs'[0]? = some false ∧ gs'[v]? = some true ∧ c1 = (gs'.count true : Int) ∧ FR w W' f fg (k + 1) (k + 1 + 4 * (k + 1)) σ' E' (fun q => q = W.heap.size) ∧ StarE gs' E' ∧ E'.length + gs'.count true = k ∧ OwnedK W' W.heap.size 4 1 (some ⟨W.heap.size, 0, none⟩) (k + 1) (k + 1) (boolsV gs'), ?_, ?_⟩
  · refine ⟨_, rfl, by omega, by omega, gs[v], by rw [add_blk]; exact own_cell o6 lv, fun hf => ?_, fun ht => ?_⟩
    · obtain ⟨b', q1, _, _, q2, q3, q4, q5⟩ := own_put o6 (k := v) (by simp; omega) (.bool true)
      cases q1
      have hs1 : (boolsV gs).set v (.bool true) = boolsV (gs.set v true) := by simp [List.map_set]
      rw [hs1] at q4
      have hc := hcond.2 hf
      rw [if_pos hc] at hR6
      have hct : (gs.set v true).count true = gs.count true + 1 := by
        rw [List.count_set lv, hf]; simp
      have hcl : gs.count true ≤ k := by omega
      refine ⟨_, rfl, by omega, by omega, by rw [add_blk]; exact q2, by rw [add_blk]; exact q3, by omega, σ6, _, gs.set v true, by simp [hgl], by rw [List.getElem?_set_ne (by omega)]; exact hg0, by rw [List.getElem?_set_self lv], by rw [hct]; omega, by rw [add_blk]; exact hR6.kpQ q5, fun e => ?_, by rw [List.length_erase_of_mem hc.2, hct]; have := List.length_pos_of_mem hc.2; omega, by rw [add_blk]; exact q4⟩
      obtain ⟨L4, M4, free4, lab4, t4⟩ := hR4.fs.tg
      rw [List.Nodup.mem_erase_iff t4.edge.nodup, hE4]
      constructor
      · rintro ⟨hne, j', hj', hg, rfl⟩
        refine ⟨j', hj', ?_, rfl⟩
        rw [List.getElem?_set_ne (fun e => hne (by rw [e]))]; exact hg
      · rintro ⟨j', hj', hg, rfl⟩
        have hne : v ≠ j' := fun e => by subst e; rw [List.getElem?_set_self lv] at hg; cases hg
        rw [List.getElem?_set_ne hne] at hg
        exact ⟨fun e => by cases e; exact hne rfl, j', hj', hg, rfl⟩
    · have hc : ¬ ((0 ≤ (v : Int) ∧ (0 : Int) ≤ 0) ∧ (0, v) ∈ E4) := fun h => ht (hcond.1 h)
      rw [e6 hc, if_neg hc] at hR6
      have hvt : gs[v]? = some true := by
        rw [List.getElem?_eq_getElem lv]
        cases h : gs[v] with
        | true => rfl
        | false => exact absurd h ht
      exact ⟨σ4, E4, gs, hgl, hg0, hvt, rfl, hR6, hE4, hEl4, o6⟩
  · rintro c1 W7 ⟨σ7, E7, gs7, hgl7, hg07, hgv7, rfl, hR7, hE7, hEl7, o7⟩
    have hF7 := hR7.fs
    obtain ⟨L7, M7, free7, lab7, t7⟩ := hF7.tg
    have hcnt : gs7.count false + gs7.count true = k + 1 := by
      have : ∀ l : List Bool, l.count false + l.count true = l.length := by
        intro l
        induction l with
        | nil => rfl
        | cons b l ih => rw [List.count_cons, List.count_cons, List.length_cons]; cases b <;> simp <;> omega
      rw [this, hgl7]
    have v0 : (verts (k + 1) σ7 0).length = k + 1 - gs7.count true := by
      rw [t7.verts_is (u := 0) (by omega) (S := fun x => gs7[x]? = some false) hg07 (fun x _ hx => star_in t7 hE7 hg07 (by omega) x hx) (star_cl hE7 hg07)]
      have := filter_idx gs7
      rw [hgl7] at this
      rw [this]; omega
    have vv : (verts (k + 1) σ7 v).length = 1 := by
      rw [t7.verts_is (u := v) (by omega) (S := fun x => x = v) rfl (fun x _ hx => by subst hx; exact t7.self (by omega)) (fun a b hab => by
        obtain ⟨j', hj', hg, e⟩ := (hE7 _).1 hab
        cases e
        have : b ≠ v := fun e => by subst e; rw [hg] at hgv7; cases hgv7
        omega), filter_eq_one (by omega)]
      rfl
    have nin : v ∉ σ7 0 := fun h => by
      have := (t7.comp (u := 0) (by omega) (S := fun x => gs7[x]? = some false) hg07 (fun x _ hx => star_in t7 hE7 hg07 (by omega) x hx) (star_cl hE7 hg07) (x := v) (by omega)).1 h
      rw [hgv7] at this; cases this
    have hct7 : gs7.count true ≤ k := by omega
    refine (fs_size hF7 (by omega) 0).mono fun ev w8 hh => ?_
    obtain ⟨rfl, rfl⟩ := hh
    rw [if_pos (show inN (k + 1) 0 from ⟨by omega, by omega⟩), show (0 : Int).toNat = 0 from rfl, v0]
    refine ⟨_, rfl, by omega, by omega, fun h => absurd (by omega) h, fun _ => (fs_size hF7 (by omega) (v : Int)).mono fun ev w9 hh => ?_⟩
    obtain ⟨rfl, rfl⟩ := hh
    rw [if_pos (show inN (k + 1) (v : Int) from ⟨by omega, by omega⟩), tv, vv]
    refine ⟨_, rfl, fun h => absurd rfl h, fun _ => (fs_count hF7 (by omega)).mono fun ev w10 hh => ?_⟩
    obtain ⟨rfl, hF10, g10⟩ := hh
    refine ⟨_, rfl, by omega, fun h => absurd (by omega) h, fun _ => (fs_conn hF10 0 (v : Int)).mono fun ev w11 hh => ?_⟩
    obtain ⟨rfl, rfl⟩ := hh
    have c11 : ¬ (inN (k + 1) 0 ∧ inN (k + 1) (v : Int) ∧ σ7 (0 : Int).toNat = σ7 (v : Int).toNat) := fun h => by
      have h3 := h.2.2
      rw [tv, show (0 : Int).toNat = 0 from rfl] at h3
      exact nin ((t7.same_iff (by omega)).1 h3)
    refine ⟨_, rfl, fun h => absurd (of_decide_eq_true h) c11, fun _ => (fs_part hF10 (by omega) 0).mono fun ev w12 hh => ?_⟩
    obtain ⟨A12, n12, c12, rfl, o12, g12, hF12⟩ := hh
    have hn12 : n12 = k + 1 - gs7.count true := by
      have := o12.cases.1
      rw [show partN (k + 1) σ7 0 = verts (k + 1) σ7 0 from if_pos ⟨by omega, by omega⟩] at this
      simp at this; omega
    have g12' := grown_trans g10 g12
    exact ⟨_, _, _, rfl, by omega, by omega, fun h => absurd (by omega) h, fun _ => ⟨by omega, l.length - (j + 1), by omega, j + 1, σ7, E7, gs7, by omega, by omega, rfl, hgl7, hg07, rfl, hR7.kept g12', hE7, hEl7, o7.kept g12'⟩⟩
end Go.Proofs.Ytpfkpmapimonbaa

/-! archipelagolaw22.TourPlays: the walk. -/
namespace Go.Proofs.Ytpfkpmapimonbaa
open Go Go.V Go.RowKit
set_option linter.unusedVariables false
set_option linter.unusedSimpArgs false
set_option maxHeartbeats 4000000
set_option maxRecDepth 100000

/-- An act of a story: what, two numbers, a raw one. -/
structure ActV where
  (wh u v raw : Int)
def actC (a : ActV) : List Value := [.int .u8 a.wh, .int .u8 a.u, .int .u8 a.v, .int .i64 a.raw]
def acts (l : List ActV) : List Value := l.flatMap actC
def okAct (a : ActV) : Prop := (0 ≤ a.wh ∧ a.wh ≤ 255) ∧ (0 ≤ a.u ∧ a.u ≤ 255) ∧ (0 ≤ a.v ∧ a.v ≤ 255) ∧ okI a.raw
theorem acts_get : ∀ (l : List ActV) (x : Nat) (hx : x < l.length) (j : Nat), j < 4 → (acts l)[x * 4 + j]? = (actC l[x])[j]?
  | a :: l, 0, hx, j, hj => by
    show (actC a ++ acts l)[0 * 4 + j]? = _
    rw [Nat.zero_mul, Nat.zero_add, List.getElem?_append_left (by show j < 4; exact hj)]; rfl
  | a :: l, x + 1, hx, j, hj => by
    show (actC a ++ acts l)[(x + 1) * 4 + j]? = _
    rw [List.getElem?_append_right (by show 4 ≤ _; omega)]
    have := acts_get l x (by simpa using hx) j hj
    rw [show (x + 1) * 4 + j - (actC a).length = x * 4 + j by show _ - 4 = _; omega, this]; rfl
theorem act_at {w : World} {A : Option Addr} {l : List ActV} (h : Row w A (acts l)) {j : Nat} (hj : j < l.length) : ∃ a, A = some a ∧ w.cell? (a.add (j * 4)) = some (.int .u8 l[j].wh) ∧ w.cell? (Addr.add (a.add (j * 4)) 1) = some (.int .u8 l[j].u) ∧ w.cell? (Addr.add (a.add (j * 4)) 2) = some (.int .u8 l[j].v) ∧ w.cell? (Addr.add (a.add (j * 4)) 3) = some (.int .i64 l[j].raw) := by
  obtain ⟨a, e0, f0⟩ := h (j * 4 + 0) (.int .u8 l[j].wh) (by rw [acts_get l j hj 0 (by omega)]; rfl)
  obtain ⟨a1, e1, f1⟩ := h (j * 4 + 1) (.int .u8 l[j].u) (by rw [acts_get l j hj 1 (by omega)]; rfl)
  obtain ⟨a2, e2, f2⟩ := h (j * 4 + 2) (.int .u8 l[j].v) (by rw [acts_get l j hj 2 (by omega)]; rfl)
  obtain ⟨a3, e3, f3⟩ := h (j * 4 + 3) (.int .i64 l[j].raw) (by rw [acts_get l j hj 3 (by omega)]; rfl)
  rw [e0] at e1 e2 e3
  cases e1; cases e2; cases e3
  exact ⟨a, e0, f0, by rw [add_add]; exact f1, by rw [add_add]; exact f2, by rw [add_add]; exact f3⟩
/-- A forest and a graph of the reference of the same edges. -/
def PSt (w0 W : World) (f g r N len : Nat) (σ : Nat → List Nat) (E : List (Nat × Nat)) : Prop :=
  ∃ (S T : Nat → Prop) (A : Option Addr) (n c : Nat), FG W w0.heap.size f g N S len σ E ∧ GR W w0.heap.size r N T A n c E ∧ (∀ q, S q → ¬ T q) ∧ (∀ q, S q → w0.heap.size ≤ q) ∧ (∀ q, T q → w0.heap.size ≤ q) ∧ w0.grownBy W none
section
variable {w0 W W' : World} {f g r N len : Nat} {σ : Nat → List Nat} {E : List (Nat × Nat)}
theorem PSt.fs (h : PSt w0 W f g r N len σ E) : FS w0 W f g N len σ E := by
  obtain ⟨S, T, A, n, c, h1, h2, h3, h4, h5, h6⟩ := h
  exact ⟨S, h1, h4, h6⟩
theorem PSt.kept (h : PSt w0 W f g r N len σ E) (hg : W.grownBy W' none) : PSt w0 W' f g r N len σ E := by
  obtain ⟨S, T, A, n, c, ⟨L, M, free, lab, a1, a2, a3⟩, h2, h3, h4, h5, h6⟩ := h
  exact ⟨S, T, A, n, c, ⟨L, M, free, lab, a1, a2.kept hg, a3⟩, h2.kept hg, h3, h4, h5, grown_trans h6 hg⟩
theorem PSt.gr (h : PSt w0 W f g r N len σ E) : ∃ T A n c, GR W w0.heap.size r N T A n c E := by
  obtain ⟨S, T, A, n, c, h1, h2, _⟩ := h
  exact ⟨T, A, n, c, h2⟩
theorem PSt.small (h : PSt w0 W f g r N len σ E) : E.length ≤ N := by
  obtain ⟨L, M, free, lab, t⟩ := h.fs.tg
  have := t.cnt; omega
theorem ps_link (h : PSt w0 W f g r N len σ E) (hN : N ≤ 2 ^ 20) (hl : len + 2 ≤ 2 ^ 20) (u v : Int) :
    Calls P 15 #[.pointer (some ⟨f, 0, none⟩), .int .i64 u, .int .i64 v] W fun ev W1 => ∃ b : Bool, ev = .returned (.bool b) ∧ Calls P 16 #[.pointer (some ⟨r, 0, none⟩), .int .i64 u, .int .i64 v] W1 fun ev W2 => ev = .returned (.bool b) ∧ ∃ σ' E', PSt w0 W2 f g r N (len + 2) σ' E' := by
  have hEl := h.small
  obtain ⟨S, T, A, n, c, ⟨L, M, free, lab, a1, a2, a3⟩, h2, h3, h4, h5, h6⟩ := h
  refine (link_calls a2 a3 h6.size (by omega) u v).mono fun ev W1 hh => ?_
  obtain ⟨rfl, σ', ⟨L', M', free', lab', b1, b2, b3⟩, K1, _⟩ := hh
  refine ⟨_, rfl, ?_⟩
  have hG1 := h2.kp K1 (fun q hq e => h3 q e hq)
  refine (glink_calls hG1 a3 (Nat.le_trans h6.size K1.size) (by omega) (by omega) u v).mono fun ev W2 hh => ?_
  obtain ⟨rfl, A', n', c', d1, K2⟩ := hh
  refine ⟨rfl, σ', _, extS S W W1, extS T W1 W2, A', n', c', ⟨L', M', free', lab', by omega, b2.kp K2 (fun q hq e => ?_), b3⟩, d1, fun q hq e => ?_, fun q hq => ?_, fun q hq => ?_, ?_⟩
  · rcases hq with hq | hq
    · exact h3 q hq e
    · have := h2.lt q e; omega
  · rcases e with e | e
    · rcases hq with hq | hq
      · exact h3 q hq e
      · have := h2.lt q e; omega
    · rcases hq with hq | hq
      · have := a2.bound q hq; have := K1.size; omega
      · omega
  · exact hq.elim (h4 q) (fun e => Nat.le_trans h6.size e.1)
  · exact hq.elim (h5 q) (fun e => Nat.le_trans (Nat.le_trans h6.size K1.size) e.1)
  · exact (((Kp.of_none (S := fun q => w0.heap.size ≤ q) h6).then K1 (fun q _ e => h4 q e)).then K2 (fun q _ e => h5 q e)).grown (fun q hq e => by omega)
theorem ps_cut (h : PSt w0 W f g r N len σ E) (hN : N ≤ 2 ^ 20) (hl : len ≤ 2 ^ 20) {u v : Int} (hu : okI u) (hv : okI v) :
    Calls P 17 #[.pointer (some ⟨f, 0, none⟩), .int .i64 u, .int .i64 v] W fun ev W1 => ∃ b : Bool, ev = .returned (.bool b) ∧ Calls P 18 #[.pointer (some ⟨r, 0, none⟩), .int .i64 u, .int .i64 v] W1 fun ev W2 => ev = .returned (.bool b) ∧ ∃ σ' E', PSt w0 W2 f g r N len σ' E' := by
  have hEl := h.small
  obtain ⟨S, T, A, n, c, ⟨L, M, free, lab, a1, a2, a3⟩, h2, h3, h4, h5, h6⟩ := h
  refine (cut_calls a2 a3 h6.size (by omega) hu hv).mono fun ev W1 hh => ?_
  obtain ⟨rfl, σ', ⟨L', M', free', lab', b1, b2, b3⟩, K1, _⟩ := hh
  refine ⟨_, rfl, ?_⟩
  have hG1 := h2.kp K1 (fun q hq e => h3 q e hq)
  refine (gdrop_calls hG1 (Nat.le_trans h6.size K1.size) a3.edge.nodup u v (by omega)).mono fun ev W2 hh => ?_
  obtain ⟨rfl, A', n', c', d1, K2⟩ := hh
  refine ⟨rfl, σ', _, extS S W W1, extS T W1 W2, A', n', c', ⟨L', M', free', lab', by omega, b2.kp K2 (fun q hq e => ?_), b3⟩, d1, fun q hq e => ?_, fun q hq => ?_, fun q hq => ?_, ?_⟩
  · rcases hq with hq | hq
    · exact h3 q hq e
    · have := h2.lt q e; omega
  · rcases e with e | e
    · rcases hq with hq | hq
      · exact h3 q hq e
      · have := h2.lt q e; omega
    · rcases hq with hq | hq
      · have := a2.bound q hq; have := K1.size; omega
      · omega
  · exact hq.elim (h4 q) (fun e => Nat.le_trans h6.size e.1)
  · exact hq.elim (h5 q) (fun e => Nat.le_trans (Nat.le_trans h6.size K1.size) e.1)
  · exact (((Kp.of_none (S := fun q => w0.heap.size ≤ q) h6).then K1 (fun q _ e => h4 q e)).then K2 (fun q _ e => h5 q e)).grown (fun q hq e => by omega)
end
theorem walkTourPlays {w : World} {n k sd : Int} {A : Option Addr} {m c : Nat} {l : List ActV} (hn : okI n) (hk : 0 ≤ k ∧ k ≤ 255) (hsd : 0 ≤ sd ∧ sd ≤ 18446744073709551615) (hrow : Row w A (acts l)) (hm : m = l.length) (hb : ∀ x ∈ l, okAct x) :
    Calls P 3 #[.int .i64 n, .int .u8 k, .int .u64 sd, .slice A m c] w fun ev w' => ev = .returned (.bool true) ∧ w.grownBy w' none := by
  apply vc3; unfold VC3; try (conv => zeta)
  simp only [InK]
  refine known22_calls.mono fun ev w1 hh => ?_
  obtain ⟨rfl, g1⟩ := hh
  refine ⟨true, rfl, fun h => (by cases h), fun _ => ⟨fun _ => ⟨by trivial, g1⟩, fun h80 => ⟨⟨by omega, by omega⟩, by omega, ?_⟩⟩⟩
  refine ⟨fun mm W => W = w1 ∧ nOf mm ≤ 14, ⟨fun h0 => ⟨rfl, by unfold nOf; omega⟩, fun h0 => ⟨rfl, by unfold nOf; omega⟩⟩, ?_⟩
  rintro mm w2 ⟨rfl, hmm⟩
  refine (fs_new g1 mm sd).mono fun ev w3 hh => ?_
  obtain ⟨f, fg, rfl, h3, g3⟩ := hh
  refine ⟨_, rfl, ?_⟩
  apply vc14; unfold VC14; try (conv => zeta)
  simp only [mnE, mxE]
  have hNe : (min (max mm 0) 65536 : Int) = (nOf mm : Int) := by unfold nOf; omega
  rw [hNe]
  obtain ⟨N, hN⟩ : ∃ N, N = nOf mm := ⟨_, rfl⟩
  rw [← hN] at h3 hmm ⊢
  have g4 := World.grownBy_alloc w3 (.cells #[.int .i64 (N : Int), .slice none 0 0] 34) none
  have b4 := heap_alloc_new w3 (.cells #[.int .i64 (N : Int), .slice none 0 0] 34)
  obtain ⟨w4, hw4⟩ : ∃ w4, w4 = w3.alloc (.cells #[.int .i64 (N : Int), .slice none 0 0] 34) := ⟨_, rfl⟩
  rw [← hw4] at g4 b4 ⊢
  have lt4 : w3.heap.size < w4.heap.size := (Array.getElem?_eq_some_iff.1 b4).1
  have hP4 : PSt w w4 f fg w3.heap.size N N (sig0 N) [] := by
    obtain ⟨S, ⟨L, M, free, lab, a1, a2, a3⟩, a4, a5⟩ := h3
    refine ⟨S, (fun q => q = w3.heap.size), none, 0, 0, ⟨L, M, free, lab, a1, a2.kept g4, a3⟩, ⟨b4, OwnedK.nil _ _ _ _, rfl, fun q hq => (by cases hq), fun q hq => by rw [hq]; exact lt4⟩, fun q hq e => ?_, a4, fun q hq => by rw [hq]; exact a5.size, grown_trans a5 g4⟩
    have := a2.bound q hq; omega
  refine ⟨_, rfl, fun q i W => ∃ (j : Nat) (σ : Nat → List Nat) (E : List (Nat × Nat)), i = j ∧ j ≤ l.length ∧ q = l.length - j ∧ PSt w W f fg w3.heap.size N (N + 2 * j) σ E, ⟨_, 0, sig0 N, [], rfl, by omega, rfl, hP4⟩, ?_⟩
  rintro q i W ⟨j, σ, E, rfl, hj, rfl, hP⟩
  have tj : (j : Int).toNat = j := by omega
  rw [tj]
  refine ⟨fun hlt => ?_, fun hge => ⟨by trivial, hP.fs.grown⟩⟩
  have lj : j < l.length := by omega
  obtain ⟨ok1, ok2, ok3, ok4⟩ := hb _ (List.getElem_mem lj)
  have gd := grown_drew (grown_refl W none)
  have hPd := hP.kept gd
  obtain ⟨W0, hW0⟩ : ∃ W0, W0 = W.drew := ⟨_, rfl⟩
  rw [← hW0] at gd hPd ⊢
  have rowAt : ∀ W', w.grownBy W' none → ∃ a, A = some a ∧ W'.cell? (a.add (j * 4)) = some (.int .u8 l[j].wh) ∧ W'.cell? (Addr.add (a.add (j * 4)) 1) = some (.int .u8 l[j].u) ∧ W'.cell? (Addr.add (a.add (j * 4)) 2) = some (.int .u8 l[j].v) ∧ W'.cell? (Addr.add (a.add (j * 4)) 3) = some (.int .i64 l[j].raw) := fun W' hg => act_at (hrow.kept_none hg) lj
  obtain ⟨a, e0, f0, f1, f2, f3⟩ := rowAt W0 hPd.fs.grown
  have hl2 : N + 2 * j ≤ 200 := by omega
  refine ⟨a, e0, by omega, by omega, _, f1, ⟨by omega, by omega⟩, by omega, a, e0, by omega, by omega, _, f2, ⟨by omega, by omega⟩, by omega, fun u W' => W' = W0 ∧ okI u, ⟨a, e0, by omega, by omega, _, f1, fun h250 => ⟨a, e0, by omega, by omega, _, f3, rfl, ok4⟩, fun h250 => ⟨rfl, by unfold okI; omega⟩⟩, ?_⟩
  rintro u W6 ⟨rfl, hu⟩
  have hv : okI (l[j].v % 14) := by unfold okI; omega
  refine ⟨fun u v W' => okI u ∧ okI v ∧ ∃ σ' E', PSt w W' f fg w3.heap.size N (N + 2 * (j + 1)) σ' E', ⟨a, e0, by omega, by omega, _, f0, ⟨by omega, by omega⟩, fun hlink => ?_, fun hcut => ?_⟩, ?_⟩
  · refine (ps_link hPd (by omega) (by omega) u (l[j].v % 14)).mono fun ev W7 hh => ?_
    obtain ⟨b, rfl, hc⟩ := hh
    refine ⟨b, rfl, hc.mono fun ev W8 hh => ?_⟩
    obtain ⟨rfl, σ8, E8, hP8⟩ := hh
    exact ⟨b, rfl, _, fun w => run_neB21 _ _ _ _ w, fun h => (by simp at h), fun _ => ⟨hu, hv, σ8, E8, by rw [show N + 2 * (j + 1) = N + 2 * j + 2 by omega]; exact hP8⟩⟩
  · obtain ⟨T, A4, n4, c4, hG⟩ := hPd.gr
    have hn4 := hG.len
    refine ⟨fun u v W' => okI u ∧ okI v ∧ W6.grownBy W' none, ⟨_, rfl, _, _, _, by rw [add_blk]; exact blk_cell hG.blk 1, fun hpos => ⟨a, e0, by omega, by omega, _, f2, fun h100 => ?_, fun h100 => ⟨hu, hv, grown_refl _ _⟩⟩, fun hpos => ⟨hu, hv, grown_refl _ _⟩⟩, ?_⟩
    · -- an edge that is there
      have gd6 := grown_drew (grown_refl W6 none)
      obtain ⟨W9, hW9⟩ : ∃ W9, W9 = W6.drew := ⟨_, rfl⟩
      rw [← hW9] at gd6 ⊢
      have hG9 := hG.kept gd6
      have gw9 := grown_trans hPd.fs.grown gd6
      have m1 := Int.emod_nonneg l[j].u (show (n4 : Int) ≠ 0 by omega)
      have m2 := Int.emod_lt_of_pos l[j].u (show (0 : Int) < (n4 : Int) by omega)
      obtain ⟨x, hx⟩ : ∃ x : Nat, l[j].u % (n4 : Int) = (x : Int) := ⟨(l[j].u % (n4 : Int)).toNat, by omega⟩
      rw [hx] at m1 m2
      have lx : x < E.length := by omega
      have tx : (x : Int).toNat = x := by omega
      obtain ⟨a9, q1, q2, q3⟩ := hG9.cell lx
      have cG : ∀ W', W9.grownBy W' none → W'.cell? (Addr.add ⟨w3.heap.size, 0, none⟩ 1) = some (.slice A4 n4 c4) := fun W' hg => by rw [add_blk]; exact blk_cell (hG9.kept hg).blk 1
      have cE : ∀ W', W9.grownBy W' none → W'.cell? (a9.add (x * 2)) = some (.int .i64 (E[x].1 : Int)) ∧ W'.cell? (Addr.add (a9.add (x * 2)) 1) = some (.int .i64 (E[x].2 : Int)) := fun W' hg => by
        obtain ⟨b9, s1, s2, s3⟩ := (hG9.kept hg).cell lx
        rw [q1] at s1; cases s1
        exact ⟨s2, s3⟩
      have cA : ∀ W', W9.grownBy W' none → W'.cell? (Addr.add (a.add (j * 4)) 1) = some (.int .u8 l[j].u) ∧ W'.cell? (Addr.add (a.add (j * 4)) 2) = some (.int .u8 l[j].v) := fun W' hg => by
        obtain ⟨b9, s1, s2, s3, s4, s5⟩ := rowAt W' (grown_trans gw9 hg)
        rw [e0] at s1; cases s1
        exact ⟨s3, s4⟩
      have gA := World.grownBy_alloc W9 (.cells #[.int .i64 0, .int .i64 0] 35) none
      have bA := heap_alloc_new W9 (.cells #[.int .i64 0, .int .i64 0] 35)
      have s1 := blk_set bA 0 (.int .i64 (E[x].1 : Int))
      have s2 := blk_set s1 1 (.int .i64 (E[x].2 : Int))
      have gS : W9.grownBy (((W9.alloc (.cells #[.int .i64 0, .int .i64 0] 35)).setCell ⟨W9.heap.size, 0, none⟩ (.int .i64 (E[x].1 : Int))).setCell ⟨W9.heap.size, 1, none⟩ (.int .i64 (E[x].2 : Int))) none := (kset (kset (Kp.of_none (S := fun q => W9.heap.size ≤ q) gA) (Nat.le_refl _)) (Nat.le_refl _)).grown (fun q hq e => by omega)
      refine ⟨fun W' => W9.grownBy W' none, grown_refl _ _, _, rfl, A4, n4, c4, cG, a, e0, by omega, by omega, _, fun W' hg => (cA W' hg).1, by omega, _, rfl, A4, n4, c4, cG, ⟨by omega, by omega⟩, a9, q1, by omega, by omega, (E[x].1 : Int), ?_, (E[x].2 : Int), ?_, gA, ⟨_, blk_cell bA 0⟩, blk_free bA 0, ⟨_, blk_cell s1 1⟩, blk_free s1 1, gS, ?_⟩
      · intro W' hg; rw [hx, tx]; exact (cE W' hg).1
      · intro W' hg; rw [hx, tx]; exact (cE W' hg).2
      have gSd := grown_drew gS
      obtain ⟨W10, hW10⟩ : ∃ W10, W10 = (((W9.alloc (.cells #[.int .i64 0, .int .i64 0] 35)).setCell ⟨W9.heap.size, 0, none⟩ (.int .i64 (E[x].1 : Int))).setCell ⟨W9.heap.size, 1, none⟩ (.int .i64 (E[x].2 : Int))).drew := ⟨_, rfl⟩
      have b10 : W10.heap[W9.heap.size]? = some (.cells #[.int .i64 (E[x].1 : Int), .int .i64 (E[x].2 : Int)] 35 (0, 0)) := by rw [hW10]; exact s2
      rw [← hW10] at gSd ⊢
      have hEx : E[x].1 < N ∧ E[x].2 < N := by
        obtain ⟨L, M, free, lab, t⟩ := hPd.fs.tg
        have := t.edge.ok _ (List.getElem_mem lx); omega
      have pickE : ∀ y : Int, 0 ≤ y → y < 2 → ∃ z : Int, W10.cell? (Addr.add ⟨W9.heap.size, 0, none⟩ y.toNat) = some (.int .i64 z) ∧ okI z := fun y y0 y2 => by
        have : y = 0 ∨ y = 1 := by omega
        rcases this with rfl | rfl
        · exact ⟨(E[x].1 : Int), by rw [add_blk]; exact blk_cell b10 0, by unfold okI; omega⟩
        · exact ⟨(E[x].2 : Int), by rw [add_blk]; exact blk_cell b10 1, by unfold okI; omega⟩
      obtain ⟨z1, y1, y1ok⟩ := pickE (l[j].v % 2) (by omega) (by omega)
      obtain ⟨z2, y2, y2ok⟩ := pickE (1 - l[j].v % 2) (by omega) (by omega)
      exact ⟨a, e0, by omega, by omega, _, (cA W10 gSd).2, ⟨by omega, by omega⟩, ⟨by omega, by omega⟩, z1, y1, a, e0, by omega, by omega, _, (cA W10 gSd).2, ⟨by omega, by omega⟩, ⟨by omega, by omega⟩, ⟨by omega, by omega⟩, z2, y2, y1ok, y2ok, grown_trans gd6 gSd⟩
    · rintro u1 v1 W9 ⟨hu1, hv1, g9⟩
      refine (ps_cut (hPd.kept g9) (by omega) (by omega) hu1 hv1).mono fun ev W10 hh => ?_
      obtain ⟨b, rfl, hc⟩ := hh
      refine ⟨b, rfl, hc.mono fun ev W11 hh => ?_⟩
      obtain ⟨rfl, σ11, E11, hP11⟩ := hh
      refine ⟨b, rfl, _, fun w => run_neB21 _ _ _ _ w, fun h => (by simp at h), fun _ => ⟨hu1, hv1, σ11, E11, ?_⟩⟩
      obtain ⟨S, T', A', n', c', ⟨L, M, free, lab, z1, z2⟩, z3⟩ := hP11
      exact ⟨S, T', A', n', c', ⟨L, M, free, lab, by omega, z2⟩, z3⟩
  · -- the answers
    rintro u2 v2 W12 ⟨hu2, hv2, σ2, E2, hP2⟩
    obtain ⟨L, M, free, lab, t⟩ := hP2.fs.tg
    have hN20 : N ≤ 2 ^ 30 := by omega
    have hl3 : N + 2 * (j + 1) ≤ 2 ^ 20 := by omega
    refine (fs_conn hP2.fs u2 v2).mono fun ev W13 hh => ?_
    obtain ⟨rfl, rfl⟩ := hh
    obtain ⟨T2, A2, n2, c2, hG2⟩ := hP2.gr
    refine ⟨_, rfl, (gconnected_calls hG2 t hN20 u2 v2).mono fun ev W14 hh => ?_⟩
    obtain ⟨rfl, g14⟩ := hh
    have hP14 := hP2.kept g14
    refine ⟨_, rfl, _, fun w => run_neB21 _ _ _ _ w, fun h => (by simp only [Bool.not_eq_true', decide_eq_false_iff_not] at h; exact absurd (decide_eq_decide.2 Iff.rfl) h), fun _ => (fs_size hP14.fs hl3 u2).mono fun ev W15 hh => ?_⟩
    obtain ⟨rfl, rfl⟩ := hh
    refine ⟨_, rfl, (gpart_calls (hG2.kept g14) t hN20 u2).mono fun ev W16 hh => ?_⟩
    obtain ⟨A16, n16, c16, rfl, o16, g16⟩ := hh
    have hn16 : (n16 : Int) = if inN N u2 then ((verts N σ2 u2.toNat).length : Int) else 0 := by
      have h1 := o16.cases.1
      unfold partN at h1
      by_cases hc : inN N u2
      · rw [if_pos hc]; rw [if_pos (show 0 ≤ u2 ∧ u2 < (N : Int) from hc)] at h1; simp at h1; omega
      · rw [if_neg hc]; rw [if_neg (show ¬ (0 ≤ u2 ∧ u2 < (N : Int)) from hc)] at h1; simp at h1; omega
    have hP16 := hP14.kept g16
    refine ⟨_, _, _, rfl, fun h => absurd hn16.symm h, fun _ => (fs_part hP16.fs hl3 v2).mono fun ev W17 hh => ?_⟩
    obtain ⟨A17, n17, c17, rfl, o17, g17, _⟩ := hh
    have g1417 := grown_trans g14 (grown_trans g16 g17)
    have hP17 := hP16.kept g17
    refine ⟨_, _, _, rfl, (gpart_calls (hG2.kept g1417) t hN20 v2).mono fun ev W18 hh => ?_⟩
    obtain ⟨A18, n18, c18, rfl, o18, g18⟩ := hh
    have hP18 := hP17.kept g18
    have hpl : (partN N σ2 v2).length ≤ N := by
      unfold partN; split
      · have := List.length_filter_le (fun x => decide (x ∈ σ2 v2.toNat)) (List.range N); unfold verts; simpa using this
      · simp
    have hn17 : n17 = (intsN (partN N σ2 v2)).length := by have := o17.cases.1; simp at this ⊢; omega
    have hn18 : n18 = (intsN (partN N σ2 v2)).length := by have := o18.cases.1; simp at this ⊢; omega
    refine ⟨_, _, _, rfl, (intsZ_calls (o17.kept g18).row o18.row hn17 hn18 (by rw [hn17]; simp; omega)).mono fun ev W19 hh => ?_⟩
    obtain ⟨rfl, g19⟩ := hh
    have hP19 := hP18.kept g19
    refine ⟨_, rfl, fun h => absurd rfl (of_decide_eq_false h), fun _ => (fs_count hP19.fs hl3).mono fun ev W20 hh => ?_⟩
    obtain ⟨rfl, _, g20⟩ := hh
    have g1420 := grown_trans g1417 (grown_trans g18 (grown_trans g19 g20))
    refine ⟨_, rfl, (gcount_calls (hG2.kept g1420) t hN20).mono fun ev W21 hh => ?_⟩
    obtain ⟨rfl, g21⟩ := hh
    have hcnt : (N : Int) - (E2.length : Int) = (cntS N σ2 : Int) := by have := t.cnt; omega
    exact ⟨_, rfl, fun h => absurd hcnt h, fun _ => ⟨by omega, l.length - (j + 1), by omega, j + 1, σ2, E2, by omega, by omega, rfl, (hP19.kept g20).kept g21⟩⟩
end Go.Proofs.Ytpfkpmapimonbaa
