/- Own texts, packed: Z21, Z22, Z24, Z25, Z26, Z27, Z28, Z29, Z30. -/
import Derived.Test.YtpfkpmapimonbaaGTCg
import Derived.Test.YtpfkpmapimonbaaGTXg
import Derived.ChangeKeysEq
import Derived.Laws.StructEq
import Derived.Test.YtpfkpmapimonbaaGXg
import Derived.Test.YtpfkpmapimonbaaGTDg

/-! archipelagoref21: a graph in memory; pair, there, at, Has, Add, Drop: the walks. -/
namespace Go.Proofs.Ytpfkpmapimonbaa
open Go Go.V Go.RowKit
set_option linter.unusedVariables false
set_option linter.unusedSimpArgs false
set_option maxHeartbeats 4000000
set_option maxRecDepth 100000

theorem equal_pr (a b c e : Int) (w : World) : (Op.equalIn 10000 35 (.agg #[.int .i64 a, .int .i64 b]) (.agg #[.int .i64 c, .int .i64 e])).run P w = .ok (decide (a = c ∧ b = e)) w := by
  rw [run_equalIn_array (P := P) (w := w) 9999 (n := 2) (e := 3) (i := (P.info? 3).getD default) _ _ Try.underlying35 (by kernel_rfl)]
  have hu : P.underlying 3 = some (.int .i64) := by kernel_rfl
  have hp : P.plainKey 3 = true := by kernel_rfl
  have hc : P.cellsOf 3 = 1 := by kernel_rfl
  have e1 : ∀ (x y : Int) (w : World), (part 3 #[.int .i64 x, .int .i64 y] 0).run P w = .ok (.int .i64 x) w := fun x y w => run_part_plain w hp rfl
  have e2 : ∀ (x y : Int) (w : World), (part 3 #[.int .i64 x, .int .i64 y] 1).run P w = .ok (.int .i64 y) w := fun x y w => run_part_plain w hp rfl
  have q : ∀ (x y : Int) (w : World), (Op.equalIn 9999 3 (.int .i64 x) (.int .i64 y)).run P w = .ok (x == y) w := fun x y w => run_equalIn_int w 9998 _ _ _ _ _ hu
  rw [hc, show List.range 2 = [0, 1] from rfl]
  simp only [Op.eqItems, Nat.zero_mul, Nat.one_mul, Sem.run_bind, Sem.run_ite, e1, e2, q, Result.andThen_ok]
  by_cases h1 : a = c
  · by_cases h2 : b = e
    · simp [h1, h2]
    · simp [h1, h2]
  · simp [h1]
theorem run_eqP (s t : Operand) (a b c e : Int) (w : World) : Sem.run P (do eqGuard .eql 35 s t (.agg #[.int .i64 a, .int .i64 b]) (.agg #[.int .i64 c, .int .i64 e]); Go.binOp .eql 35 (.agg #[.int .i64 a, .int .i64 b]) (.agg #[.int .i64 c, .int .i64 e]) : Sem Value) w = .ok (.bool (decide (a = c ∧ b = e))) w := by
  rw [Sem.run_bind, run_eqGuard_agg w .eql 35 s t _ _ (by kernel_rfl), Result.andThen_ok, run_eql_struct w, equal_pr]
  rfl
def prC (e : Nat × Nat) : List Value := [.int .i64 (e.1 : Int), .int .i64 (e.2 : Int)]
def prs (E : List (Nat × Nat)) : List Value := E.flatMap prC
theorem prs_length (E : List (Nat × Nat)) : (prs E).length = E.length * 2 := by
  induction E with
  | nil => rfl
  | cons x E ih => show (prC x ++ prs E).length = _; rw [List.length_append, ih]; show 2 + _ = _; simp only [List.length_cons]; omega
theorem prs_append (E F : List (Nat × Nat)) : prs (E ++ F) = prs E ++ prs F := by simp [prs]
theorem prs_get : ∀ (E : List (Nat × Nat)) (x : Nat) (hx : x < E.length) (j : Nat), j < 2 → (prs E)[x * 2 + j]? = (prC E[x])[j]?
  | a :: E, 0, hx, j, hj => by
    show (prC a ++ prs E)[0 * 2 + j]? = _
    rw [Nat.zero_mul, Nat.zero_add, List.getElem?_append_left (by show j < 2; exact hj)]; rfl
  | a :: E, x + 1, hx, j, hj => by
    show (prC a ++ prs E)[(x + 1) * 2 + j]? = _
    rw [List.getElem?_append_right (by show 2 ≤ _; omega)]
    have := prs_get E x (by simpa using hx) j hj
    rw [show (x + 1) * 2 + j - (prC a).length = x * 2 + j by show _ - 2 = _; omega, this]; rfl
theorem prs_take (E : List (Nat × Nat)) (k : Nat) : (prs E).take (k * 2) = prs (E.take k) := by
  induction k generalizing E with
  | zero => simp [prs]
  | succ k ih =>
    cases E with
    | nil => simp [prs]
    | cons e E =>
      rw [show (k + 1) * 2 = k * 2 + 1 + 1 by omega]
      show List.take (k * 2 + 1 + 1) (.int .i64 (e.1 : Int) :: .int .i64 (e.2 : Int) :: prs E) = .int .i64 (e.1 : Int) :: .int .i64 (e.2 : Int) :: prs (List.take k E)
      rw [List.take_succ_cons, List.take_succ_cons, ih]
theorem prs_drop (E : List (Nat × Nat)) (k : Nat) : (prs E).drop (k * 2) = prs (E.drop k) := by
  induction k generalizing E with
  | zero => simp
  | succ k ih =>
    cases E with
    | nil => simp [prs]
    | cons e E => rw [show (k + 1) * 2 = k * 2 + 1 + 1 by omega]; exact ih E
theorem elemPr : ElemK P 32 35 2 (P.bytesOf 35) := ⟨(P.info? 35).getD default, ((P.info? 35).getD default).zero.getD undef, by kernel_rfl, by kernel_rfl, by kernel_rfl, by kernel_rfl, by kernel_rfl, by kernel_rfl, by decide⟩
theorem bytesPr : P.bytesOf 35 ≤ 64 := of_decide_eq_true (by kernel_rfl)
/-- A graph of the reference in memory, whose blocks are of T. -/
structure GR (w : World) (base r N : Nat) (T : Nat → Prop) (A : Option Addr) (n c : Nat) (E : List (Nat × Nat)) : Prop where
  blk : w.heap[r]? = some (.cells #[.int .i64 (N : Int), .slice A n c] 34 (0, 0))
  own : OwnedK w base 35 2 A n c (prs E)
  tr : T r
  ta : ∀ q, (Value.slice A n c).ownBlock = some q → T q
  lt : ∀ q, T q → q < w.heap.size
section
variable {w w' : World} {base r N n c : Nat} {T : Nat → Prop} {A : Option Addr} {E : List (Nat × Nat)}
theorem GR.len (h : GR w base r N T A n c E) : n = E.length := by have := h.own.cases.1; rw [prs_length] at this; omega
theorem GR.kp {S : Nat → Prop} (h : GR w base r N T A n c E) (hk : Kp w w' S) (hd : ∀ q, T q → ¬ S q) : GR w' base r N T A n c E :=
  ⟨by rw [hk.block _ (Array.getElem?_eq_some_iff.1 h.blk).1 (hd r h.tr)]; exact h.blk, h.own.kp hk (fun q hq => hd q (h.ta q hq)), h.tr, h.ta, fun q hq => Nat.lt_of_lt_of_le (h.lt q hq) hk.size⟩
theorem GR.kept (h : GR w base r N T A n c E) (hg : w.grownBy w' none) : GR w' base r N T A n c E := h.kp (S := fun _ => False) (Kp.of_none hg) (fun _ _ e => e)
theorem GR.cell (h : GR w base r N T A n c E) {x : Nat} (hx : x < E.length) : ∃ a, A = some a ∧ w.cell? (a.add (x * 2)) = some (.int .i64 (E[x].1 : Int)) ∧ w.cell? (Addr.add (a.add (x * 2)) 1) = some (.int .i64 (E[x].2 : Int)) := by
  obtain ⟨a, e1, e2⟩ := h.own.row (x * 2 + 0) (.int .i64 (E[x].1 : Int)) (by rw [prs_get E x hx 0 (by omega)]; rfl)
  obtain ⟨b, f1, f2⟩ := h.own.row (x * 2 + 1) (.int .i64 (E[x].2 : Int)) (by rw [prs_get E x hx 1 (by omega)]; rfl)
  rw [e1] at f1; cases f1
  exact ⟨a, e1, e2, by rw [add_add]; exact f2⟩
theorem there_calls (h : GR w base r N T A n c E) (x : Int) : Calls P 55 #[.pointer (some ⟨r, 0, none⟩), .int .i64 x] w fun ev w' => ev = .returned (.bool (decide (0 ≤ x ∧ x < (N : Int)))) ∧ w' = w := by
  apply vc55; unfold VC55; try (conv => zeta)
  refine ⟨fun h0 => ⟨_, rfl, _, blk_cell h.blk 0, ?_, rfl⟩, fun h0 => ⟨?_, rfl⟩⟩
  · congr 2
    exact decide_eq_decide.2 ⟨fun h' => ⟨h0, h'⟩, fun h' => h'.2⟩
  · rw [decide_eq_false (by omega)]
theorem mnE (u v : Int) : mn u v = min u v := by unfold mn; split <;> omega
theorem mxE (u v : Int) : mx u v = max u v := by unfold mx; split <;> omega
theorem pair_calls (u v : Int) : Calls P 64 #[.int .i64 u, .int .i64 v] w fun ev w' => ev = .returned (.agg #[.int .i64 (min u v), .int .i64 (max u v)]) ∧ w.grownBy w' none := by
  apply vc64; unfold VC64; try (conv => zeta)
  simp only [mnE, mxE]
  have b0 := heap_alloc_new w (.cells #[.int .i64 0, .int .i64 0] 35)
  have s1 := blk_set b0 0 (.int .i64 (min u v))
  have s2 := blk_set s1 1 (.int .i64 (max u v))
  refine ⟨⟨_, blk_cell b0 0⟩, blk_free b0 0, ⟨_, blk_cell s1 1⟩, blk_free s1 1, _, blk_cell s2 0, _, blk_cell s2 1, rfl, ?_⟩
  exact (kset (kset (Kp.of_none (S := fun q => w.heap.size ≤ q) (World.grownBy_alloc w _ none)) (Nat.le_refl _)) (Nat.le_refl _)).grown (fun q hq e => by omega)
/-- Where an edge stands. -/
def AtP (E : List (Nat × Nat)) (u v i : Int) : Prop := (i = -1 ∧ ¬ ((0 ≤ u ∧ 0 ≤ v) ∧ pairE u.toNat v.toNat ∈ E)) ∨ ∃ j : Nat, i = j ∧ (0 ≤ u ∧ 0 ≤ v) ∧ ∃ h : j < E.length, E[j] = pairE u.toNat v.toNat
theorem pair_nat {e : Nat × Nat} {u v : Int} : ((e.1 : Int) = min u v ∧ (e.2 : Int) = max u v) ↔ (0 ≤ u ∧ 0 ≤ v) ∧ e = pairE u.toNat v.toNat := by
  obtain ⟨a, b⟩ := e
  unfold pairE
  simp only [Prod.mk.injEq]
  omega
theorem gat_calls (h : GR w base r N T A n c E) (u v : Int) (hl : E.length ≤ 2 ^ 30) : Calls P 53 #[.pointer (some ⟨r, 0, none⟩), .int .i64 u, .int .i64 v] w fun ev w' => ∃ i : Int, ev = .returned (.int .i64 i) ∧ AtP E u v i ∧ w.grownBy w' none := by
  apply vc53; unfold VC53; try (conv => zeta)
  simp only [InK]
  have hn := h.len
  refine ⟨fun m i W => ∃ p : Nat, i = p ∧ p ≤ E.length ∧ m = E.length - p ∧ w.grownBy W none ∧ ∀ j (hj : j < E.length), j < p → ¬ ((0 ≤ u ∧ 0 ≤ v) ∧ E[j] = pairE u.toNat v.toNat), ⟨_, 0, rfl, by omega, rfl, grown_refl _ _, fun j hj h => by omega⟩, ?_⟩
  rintro m i W ⟨p, rfl, hp, rfl, gW, hx⟩
  have hW := h.kept gW
  have tp : (p : Int).toNat = p := by omega
  rw [tp]
  refine ⟨_, rfl, _, _, _, by rw [add_blk]; exact blk_cell hW.blk 1, fun hlt => ?_, fun hge => ⟨-1, rfl, .inl ⟨rfl, ?_⟩, gW⟩⟩
  · have lp : p < E.length := by omega
    have gd := grown_drew (grown_refl W none)
    have hd := hW.kept gd
    obtain ⟨a, e1, e2, e3⟩ := hd.cell lp
    refine ⟨fun W' => W.drew.grownBy W' none, grown_refl _ _, _, rfl, _, _, _, fun W' g' => by rw [add_blk]; exact blk_cell (hd.kept g').blk 1, a, e1, by omega, by omega, (E[p].1 : Int), fun W' g' => ?_, (E[p].2 : Int), fun W' g' => ?_, (pair_calls u v).mono fun ev w2 hh => ?_⟩
    · obtain ⟨a', f1, f2, f3⟩ := (hd.kept g').cell lp
      rw [e1] at f1; cases f1; exact f2
    · obtain ⟨a', f1, f2, f3⟩ := (hd.kept g').cell lp
      rw [e1] at f1; cases f1; exact f3
    · obtain ⟨rfl, g2⟩ := hh
      have gg := grown_trans gW (grown_trans gd g2)
      refine ⟨_, _, rfl, g2, _, fun w => run_eqP _ _ _ _ _ _ w, fun hy => ⟨(p : Int), rfl, .inr ⟨p, rfl, ?_⟩, gg⟩, fun hno => ⟨by omega, E.length - (p + 1), by omega, p + 1, by omega, by omega, rfl, gg, fun j hj hjp => ?_⟩⟩
      · have := pair_nat.1 (of_decide_eq_true hy)
        exact ⟨this.1, lp, this.2⟩
      · by_cases e : j = p
        · subst e
          exact fun h' => (of_decide_eq_false hno) (pair_nat.2 h')
        · exact hx j hj (by omega)
  · rintro ⟨h0, h1⟩
    obtain ⟨j, hj, e⟩ := List.mem_iff_getElem.1 h1
    exact hx j hj (by omega) ⟨h0, e⟩
theorem ghas_calls (h : GR w base r N T A n c E) (u v : Int) (hl : E.length ≤ 2 ^ 30) : Calls P 34 #[.pointer (some ⟨r, 0, none⟩), .int .i64 u, .int .i64 v] w fun ev w' => ev = .returned (.bool (decide ((0 ≤ u ∧ 0 ≤ v) ∧ pairE u.toNat v.toNat ∈ E))) ∧ w.grownBy w' none := by
  apply vc34; unfold VC34; try (conv => zeta)
  refine (gat_calls h u v hl).mono fun ev w1 hh => ?_
  obtain ⟨i, rfl, hi, g1⟩ := hh
  refine ⟨_, rfl, ?_, g1⟩
  rcases hi with ⟨rfl, hno⟩ | ⟨j, rfl, h0, hj, e⟩
  · rw [decide_eq_false hno]; rfl
  · rw [decide_eq_true (show (0 ≤ u ∧ 0 ≤ v) ∧ pairE u.toNat v.toNat ∈ E from ⟨h0, by rw [← e]; exact List.getElem_mem hj⟩), decide_eq_true (by omega)]
end
end Go.Proofs.Ytpfkpmapimonbaa

/-! archipelagoref21: Add, Drop, Part, Connected, Link, Count; archipelagohelp.Ints: the walks. -/
namespace Go.Proofs.Ytpfkpmapimonbaa
open Go Go.V Go.RowKit
set_option linter.unusedVariables false
set_option linter.unusedSimpArgs false
set_option maxHeartbeats 4000000
set_option maxRecDepth 100000

theorem append_prs {w : World} {base : Nat} {A B : Option Addr} {n c m d : Nat} {xs ys : List (Nat × Nat)} (ho : OwnedK w base 35 2 A n c (prs xs)) (hB : Row w B (prs ys)) (hm : m = ys.length) (hd : B = none → d = 0) (hn : n + m ≤ 2 ^ 39) (hb : base ≤ w.heap.size) :
    ∃ (A' : Option Addr) (n' c' : Nat) (w' : World), Sem.run P (Builtin.append_ #[32, 32] 32 #[.slice A n c, .slice B m d]) w = .ok (.slice A' n' c') w' ∧
      OwnedK w' base 35 2 A' n' c' (prs (xs ++ ys)) ∧ w.grownBy w' (Value.slice A n c).ownBlock ∧ (∀ k, (Value.slice A' n' c').ownBlock = some k → (Value.slice A n c).ownBlock = some k ∨ w.heap.size ≤ k) := by
  cases B with
  | none =>
    have hys : ys = [] := by
      cases ys with
      | nil => rfl
      | cons y ys => obtain ⟨a, e, _⟩ := hB 0 _ rfl; cases e
    subst hys
    have h0 : m = 0 := by simpa using hm
    have h1 := hd rfl
    subst h0 h1
    exact ⟨A, n, c, w, ho.appends_nil elemPr, by simpa using ho, grown_refl _ _, fun k hk => .inl hk⟩
  | some a =>
    obtain ⟨A', n', c', w', h1, h2, h3, h4, h5⟩ := ho.appends (ty := 32) elemPr bytesPr (a := a) (m := m) (cc := d) (us := prs ys) (by rw [prs_length, hm]) (fun j u hj => by obtain ⟨b, q1, q2⟩ := hB j u hj; cases q1; exact q2) (fun u hu => by
      simp only [prs, List.mem_flatMap] at hu
      obtain ⟨e, _, he⟩ := hu
      simp [prC] at he
      rcases he with rfl | rfl <;> rfl) (by omega) hb
    refine ⟨A', n', c', w', h1, by rw [prs_append]; exact h2, h4, fun k hk => ?_⟩
    rcases h5 with h | h
    · left; rw [← h]; exact hk
    · right; rw [h] at hk; cases hk; exact Nat.le_refl _
theorem cutPr {w : World} {A : Option Addr} {c k : Nat} {l : List (Nat × Nat)} (h : Row w A (prs l)) (hA : A = none → c = 0) (hc : l.length ≤ c) : Row w (cutA A c k 2) (prs (l.drop k)) ∧ (cutA A c k 2 = none → c - k = 0) := by
  unfold cutA
  split
  · rename_i hck
    refine ⟨?_, fun _ => by omega⟩
    rw [List.drop_eq_nil_of_le (by omega)]
    intro j u hj; simp [prs] at hj
  · have := h.drop (k * 2)
    rw [prs_drop] at this
    refine ⟨this, fun e => ?_⟩
    cases A with
    | none => rw [hA rfl]; omega
    | some a => simp at e
theorem takePr {w : World} {A : Option Addr} {l : List (Nat × Nat)} (h : Row w A (prs l)) (k : Nat) : Row w A (prs (l.take k)) := by
  intro j u hj
  rw [← prs_take, List.getElem?_take] at hj
  split at hj
  · exact h j u hj
  · cases hj
section
variable {w w' : World} {base r N n c : Nat} {T : Nat → Prop} {A : Option Addr} {E : List (Nat × Nat)}
theorem GR.capz (h : GR w base r N T A n c E) : A = none → c = 0 := by
  obtain ⟨_, h2 | ⟨_, _, e, _⟩⟩ := h.own.cases
  · intro _; exact h2.2.2.1
  · intro e'; rw [e'] at e; cases e
/-- The row of edges is another one. -/
theorem GR.put {A' : Option Addr} {n' c' : Nat} {E' : List (Nat × Nat)} {W : World} (h : GR w base r N T A n c E) (hb : W.heap[r]? = some (.cells #[.int .i64 (N : Int), .slice A n c] 34 (0, 0))) (ho : OwnedK W base 35 2 A' n' c' (prs E')) (hk : Kp w W T) (hn : ∀ k, (Value.slice A' n' c').ownBlock = some k → T k ∨ w.heap.size ≤ k) :
    GR (W.setCell ⟨r, 1, none⟩ (.slice A' n' c')) base r N (extS T w (W.setCell ⟨r, 1, none⟩ (.slice A' n' c'))) A' n' c' E' ∧ Kp w (W.setCell ⟨r, 1, none⟩ (.slice A' n' c')) T := by
  have s1 := blk_set hb 1 (.slice A' n' c')
  have KS : Kp W (W.setCell ⟨r, 1, none⟩ (.slice A' n' c')) (fun q => q = r) := kset (Kp.refl W _) rfl
  have KF := hk.then KS (fun q _ e => by rw [e]; exact h.tr)
  have ho' := ho.kp KS (fun q hq e => by subst e; exact own_far ho hb (by decide) hq)
  refine ⟨⟨by simpa using s1, ho', .inl h.tr, fun q hq => ?_, fun q hq => ?_⟩, KF⟩
  · rcases hn q hq with e | e
    · exact .inl e
    · exact .inr ⟨e, ho'.block_lt q hq⟩
  · rcases hq with e | e
    · exact Nat.lt_of_lt_of_le (h.lt q e) KF.size
    · exact e.2
theorem gadd_calls (h : GR w base r N T A n c E) (hb : base ≤ w.heap.size) (u v : Int) (hl : E.length ≤ 2 ^ 29) (hN : N ≤ 2 ^ 40) : Calls P 30 #[.pointer (some ⟨r, 0, none⟩), .int .i64 u, .int .i64 v] w fun ev w' => ev = .returned (.bool (decide ((0 ≤ u ∧ u < N) ∧ (0 ≤ v ∧ v < N) ∧ u ≠ v ∧ pairE u.toNat v.toNat ∉ E))) ∧
    ∃ (A' : Option Addr) (n' c' : Nat), GR w' base r N (extS T w w') A' n' c' (if (0 ≤ u ∧ u < N) ∧ (0 ≤ v ∧ v < N) ∧ u ≠ v ∧ pairE u.toNat v.toNat ∉ E then E ++ [pairE u.toNat v.toNat] else E) ∧ Kp w w' T := by
  apply vc30; unfold VC30; try (conv => zeta)
  have no : ∀ W, w.grownBy W none → ¬ ((0 ≤ u ∧ u < N) ∧ (0 ≤ v ∧ v < N) ∧ u ≠ v ∧ pairE u.toNat v.toNat ∉ E) → Ending.returned (.bool false) = Ending.returned (.bool (decide ((0 ≤ u ∧ u < N) ∧ (0 ≤ v ∧ v < N) ∧ u ≠ v ∧ pairE u.toNat v.toNat ∉ E))) ∧
      ∃ (A' : Option Addr) (n' c' : Nat), GR W base r N (extS T w W) A' n' c' (if (0 ≤ u ∧ u < N) ∧ (0 ≤ v ∧ v < N) ∧ u ≠ v ∧ pairE u.toNat v.toNat ∉ E then E ++ [pairE u.toNat v.toNat] else E) ∧ Kp w W T := fun W gW hn => by
    have h' := h.kept gW
    refine ⟨by rw [decide_eq_false hn], A, n, c, by rw [if_neg hn]; exact ⟨h'.blk, h'.own, .inl h'.tr, fun q hq => .inl (h'.ta q hq), fun q hq => hq.elim (h'.lt q) (fun e => e.2)⟩, Kp.of_none gW⟩
  refine (there_calls h u).mono fun ev w1 hh => ?_
  obtain ⟨rfl, rfl⟩ := hh
  refine ⟨_, rfl, fun h1 => no _ (grown_refl _ _) (fun h' => (of_decide_eq_false h1) h'.1), fun h1 => (there_calls h v).mono fun ev w2 hh => ?_⟩
  obtain ⟨rfl, rfl⟩ := hh
  have hu : 0 ≤ u ∧ u < (N : Int) := by simpa using h1
  refine ⟨_, rfl, fun h2 => no _ (grown_refl _ _) (fun h' => (of_decide_eq_false h2) h'.2.1), fun h2 => ⟨fun he => no _ (grown_refl _ _) (fun h' => h'.2.2.1 he), fun hne => (ghas_calls h u v (by omega)).mono fun ev w3 hh => ?_⟩⟩
  obtain ⟨rfl, g3⟩ := hh
  have hv : 0 ≤ v ∧ v < (N : Int) := by simpa using h2
  refine ⟨_, rfl, fun h3 => no _ g3 (fun h' => h'.2.2.2 (of_decide_eq_true h3).2), fun h3 => ?_⟩
  have yes : (0 ≤ u ∧ u < (N : Int)) ∧ (0 ≤ v ∧ v < (N : Int)) ∧ u ≠ v ∧ pairE u.toNat v.toNat ∉ E := ⟨hu, hv, hne, fun h' => (of_decide_eq_false h3) ⟨⟨hu.1, hv.1⟩, h'⟩⟩
  have gd := grown_drew (grown_refl w3 none)
  have h3d := (h.kept g3).kept gd
  have g3d := grown_trans g3 gd
  obtain ⟨w4, hw4⟩ : ∃ w4, w4 = w3.drew := ⟨_, rfl⟩
  rw [← hw4] at gd h3d g3d ⊢
  have hn := h.len
  -- the edge as a row
  have row5 : ∀ W, w4.grownBy W none → GR W base r N T A n c E ∧ (W.alloc (.cells #[.int .i64 (min u v), .int .i64 (max u v)] 35)).cell? ⟨r, 1, none⟩ = some (.slice A n c) ∧ ∃ (A' : Option Addr) (n' c' : Nat) (W' : World), Sem.run P (Builtin.append_ #[32, 32] 32 #[.slice A n c, .slice (some ⟨W.heap.size, 0, none⟩) 1 1]) (W.alloc (.cells #[.int .i64 (min u v), .int .i64 (max u v)] 35)) = .ok (.slice A' n' c') W' ∧ (∃ uv_ : Value, W'.cell? ⟨r, 1, none⟩ = some uv_) ∧ W'.frozen? ⟨r, 1, none⟩ = false ∧
      GR (W'.setCell ⟨r, 1, none⟩ (.slice A' n' c')) base r N (extS T w2 (W'.setCell ⟨r, 1, none⟩ (.slice A' n' c'))) A' n' c' (E ++ [pairE u.toNat v.toNat]) ∧ Kp w2 (W'.setCell ⟨r, 1, none⟩ (.slice A' n' c')) T := by
    intro W gW
    have hW := h3d.kept gW
    have gA := World.grownBy_alloc W (.cells #[.int .i64 (min u v), .int .i64 (max u v)] 35) none
    have rA : Row (W.alloc (.cells #[.int .i64 (min u v), .int .i64 (max u v)] 35)) (some ⟨W.heap.size, 0, none⟩) (prs [pairE u.toNat v.toNat]) := by
      have := row_new W #[.int .i64 (min u v), .int .i64 (max u v)] 35
      have e : prs [pairE u.toNat v.toNat] = [.int .i64 (min u v), .int .i64 (max u v)] := by
        have := (pair_nat (e := pairE u.toNat v.toNat) (u := u) (v := v)).2 ⟨⟨hu.1, hv.1⟩, rfl⟩
        simp [prs, prC, this.1, this.2]
      rw [e]; exact this
    have hA := hW.kept gA
    have g0A := grown_trans (grown_trans g3d gW) gA
    obtain ⟨A', n', c', W', r1, r2, r3, r4⟩ := append_prs hA.own rA (m := 1) (d := 1) rfl (fun e => by cases e) (by omega) (Nat.le_trans hb g0A.size)
    have b1 : W'.heap[r]? = some (.cells #[.int .i64 (N : Int), .slice A n c] 34 (0, 0)) := by rw [r3.block _ (Array.getElem?_eq_some_iff.1 hA.blk).1 (fun e => own_far hA.own hA.blk (by decide) e.symm)]; exact hA.blk
    have K : Kp w2 W' T := (Kp.of_none g0A).step r3 (fun k hk => .inr (h.ta k hk))
    obtain ⟨q1, q2⟩ := h.put b1 r2 K (fun k hk => by
      rcases r4 k hk with e | e
      · exact .inl (h.ta k e)
      · exact .inr (Nat.le_trans g0A.size e))
    exact ⟨hW, blk_cell hA.blk 1, A', n', c', W', r1, ⟨_, blk_cell b1 1⟩, blk_free b1 1, q1, q2⟩
  have fin : ∀ W, GR W base r N (extS T w2 W) A n c E → True := fun _ _ => trivial
  refine ⟨⟨_, rfl, A, n, c, by rw [add_blk]; exact blk_cell h3d.blk 1, (pair_calls u v).mono fun ev w5 hh => ?_⟩, ⟨_, rfl, (pair_calls u v).mono fun ev w5 hh => ?_⟩, ⟨_, rfl, (pair_calls u v).mono fun ev w5 hh => ?_⟩⟩
  · obtain ⟨rfl, g5⟩ := hh
    obtain ⟨hW, _, A', n', c', W', r1, r2, r3, r4, r5⟩ := row5 w5 g5
    refine ⟨_, _, rfl, A', n', c', W', r1, _, rfl, by rw [add_blk]; exact r2, by rw [add_blk]; exact r3, by rw [decide_eq_true yes], A', n', c', ?_⟩
    rw [if_pos yes, add_blk]; exact ⟨r4, r5⟩
  · obtain ⟨rfl, g5⟩ := hh
    obtain ⟨hW, _, A', n', c', W', r1, r2, r3, r4, r5⟩ := row5 w5 g5
    refine ⟨_, _, rfl, A, n, c, by rw [add_blk]; exact blk_cell hW.blk 1, A', n', c', W', r1, _, rfl, by rw [add_blk]; exact r2, by rw [add_blk]; exact r3, by rw [decide_eq_true yes], A', n', c', ?_⟩
    rw [if_pos yes, add_blk]; exact ⟨r4, r5⟩
  · obtain ⟨rfl, g5⟩ := hh
    obtain ⟨hW, hc5, A', n', c', W', r1, r2, r3, r4, r5⟩ := row5 w5 g5
    refine ⟨_, _, rfl, A, n, c, by rw [add_blk]; exact hc5, A', n', c', W', r1, _, rfl, by rw [add_blk]; exact r2, by rw [add_blk]; exact r3, by rw [decide_eq_true yes], A', n', c', ?_⟩
    rw [if_pos yes, add_blk]; exact ⟨r4, r5⟩
theorem erase_at {E : List (Nat × Nat)} (hd : E.Nodup) {j : Nat} (hj : j < E.length) {e : Nat × Nat} (he : E[j] = e) : E.erase e = E.take j ++ E.drop (j + 1) := by
  have hi : E.idxOf e = j := by rw [← he, List.Nodup.idxOf_getElem hd]
  have hm : e ∈ E := by rw [← he]; exact List.getElem_mem hj
  rw [List.erase_eq_eraseIdx_of_idxOf hi, List.eraseIdx_eq_take_drop_succ]
theorem gdrop_calls (h : GR w base r N T A n c E) (hb : base ≤ w.heap.size) (hd : E.Nodup) (u v : Int) (hl : E.length ≤ 2 ^ 29) : Calls P 18 #[.pointer (some ⟨r, 0, none⟩), .int .i64 u, .int .i64 v] w fun ev w' => ev = .returned (.bool (decide ((0 ≤ u ∧ 0 ≤ v) ∧ pairE u.toNat v.toNat ∈ E))) ∧
    ∃ (A' : Option Addr) (n' c' : Nat), GR w' base r N (extS T w w') A' n' c' (if (0 ≤ u ∧ 0 ≤ v) ∧ pairE u.toNat v.toNat ∈ E then E.erase (pairE u.toNat v.toNat) else E) ∧ Kp w w' T := by
  apply vc18; unfold VC18; try (conv => zeta)
  simp only [InK]
  refine (gat_calls h u v (by omega)).mono fun ev w1 hh => ?_
  obtain ⟨i, rfl, hi, g1⟩ := hh
  have h1 := h.kept g1
  refine ⟨_, rfl, fun hlt => ?_, fun hge => ?_⟩
  · rcases hi with ⟨_, hno⟩ | ⟨j, rfl, _⟩
    · exact ⟨by rw [decide_eq_false hno], A, n, c, by rw [if_neg hno]; exact ⟨h1.blk, h1.own, .inl h1.tr, fun q hq => .inl (h1.ta q hq), fun q hq => hq.elim (h1.lt q) (fun e => e.2)⟩, Kp.of_none g1⟩
    · omega
  obtain ⟨j, rfl, h0, hj, he⟩ : ∃ j : Nat, i = j ∧ (0 ≤ u ∧ 0 ≤ v) ∧ ∃ h : j < E.length, E[j] = pairE u.toNat v.toNat := by
    rcases hi with ⟨rfl, _⟩ | h'
    · omega
    · exact h'
  have yes : (0 ≤ u ∧ 0 ≤ v) ∧ pairE u.toNat v.toNat ∈ E := ⟨h0, by rw [← he]; exact List.getElem_mem hj⟩
  have gd := grown_drew (grown_refl w1 none)
  have hd2 := h1.kept gd
  have g2 := grown_trans g1 gd
  obtain ⟨w2, hw2⟩ : ∃ w2, w2 = w1.drew := ⟨_, rfl⟩
  rw [← hw2] at gd hd2 g2 ⊢
  have hn := h.len
  have hnc := owned_leM h.own
  have tj : (j : Int).toNat = j := by omega
  have tj1 : ((j : Int) + 1).toNat = j + 1 := by omega
  rw [tj, tj1]
  obtain ⟨A3, n3, c3, w3, a1, a2, a3, a4⟩ := append_prs (xs := []) (OwnedK.nil w2 base 35 2) (takePr hd2.own.row j) (m := j) (d := c) (by rw [List.length_take]; omega) h.capz (by omega) (Nat.le_trans hb g2.size)
  rw [List.nil_append] at a2
  have g23 : w2.grownBy w3 none := a3
  have h3 := hd2.kept g23
  have hn3 : n3 = j := by have := a2.cases.1; rw [prs_length, List.length_take] at this; omega
  obtain ⟨k1, k2⟩ := cutPr (k := j + 1) h3.own.row h.capz (by omega)
  have g03 := grown_trans g2 g23
  obtain ⟨A4, n4, c4, w4, b1, b2, b3, b4⟩ := append_prs a2 k1 (m := n - (j + 1)) (d := c - (j + 1)) (by rw [List.length_drop]; omega) k2 (by omega) (Nat.le_trans hb g03.size)
  rw [← erase_at hd hj he] at b2
  have ha3ge : ∀ k, (Value.slice A3 n3 c3).ownBlock = some k → w2.heap.size ≤ k := fun k hk => by
    rcases a4 k hk with e | e
    · cases e
    · exact e
  have bb : w4.heap[r]? = some (.cells #[.int .i64 (N : Int), .slice A n c] 34 (0, 0)) := by rw [b3.block _ (Array.getElem?_eq_some_iff.1 h3.blk).1 (fun e => own_far a2 h3.blk (by decide) e.symm)]; exact h3.blk
  have K : Kp w w4 T := (Kp.of_none g03).step b3 (fun k hk => .inl (Nat.le_trans g2.size (ha3ge k hk)))
  obtain ⟨q1, q2⟩ := h.put bb b2 K (fun k hk => by
    rcases b4 k hk with e | e
    · exact .inr (Nat.le_trans g2.size (ha3ge k e))
    · exact .inr (Nat.le_trans g03.size e))
  have fin : Ending.returned (.bool true) = Ending.returned (.bool (decide ((0 ≤ u ∧ 0 ≤ v) ∧ pairE u.toNat v.toNat ∈ E))) ∧ ∃ (A' : Option Addr) (n' c' : Nat), GR (w4.setCell ⟨r, 1, none⟩ (.slice A4 n4 c4)) base r N (extS T w (w4.setCell ⟨r, 1, none⟩ (.slice A4 n4 c4))) A' n' c' (if (0 ≤ u ∧ 0 ≤ v) ∧ pairE u.toNat v.toNat ∈ E then E.erase (pairE u.toNat v.toNat) else E) ∧ Kp w (w4.setCell ⟨r, 1, none⟩ (.slice A4 n4 c4)) T := ⟨by rw [decide_eq_true yes], A4, n4, c4, by rw [if_pos yes]; exact q1, q2⟩
  refine ⟨⟨_, rfl, A, n, c, by rw [add_blk]; exact blk_cell hd2.blk 1, ⟨by omega, by omega⟩, A3, n3, c3, w3, a1, _, rfl, A, n, c, by rw [add_blk]; exact blk_cell h3.blk 1, by omega, ⟨by omega, by omega⟩, A4, n4, c4, w4, b1, _, rfl, by rw [add_blk]; exact ⟨_, blk_cell bb 1⟩, by rw [add_blk]; exact blk_free bb 1, by rw [add_blk]; exact fin⟩, ⟨_, rfl, A, n, c, by rw [add_blk]; exact blk_cell hd2.blk 1, ⟨by omega, by omega⟩, _, rfl, A, n, c, by rw [add_blk]; exact blk_cell hd2.blk 1, A3, n3, c3, w3, a1, by omega, ⟨by omega, by omega⟩, A4, n4, c4, w4, b1, _, rfl, by rw [add_blk]; exact ⟨_, blk_cell bb 1⟩, by rw [add_blk]; exact blk_free bb 1, by rw [add_blk]; exact fin⟩⟩
end
end Go.Proofs.Ytpfkpmapimonbaa

/-! archipelagoref21: Part, Connected, Link, Count: the walks, at a forest's edges. -/
namespace Go.Proofs.Ytpfkpmapimonbaa
open Go Go.V Go.RowKit
set_option linter.unusedVariables false
set_option linter.unusedSimpArgs false
set_option maxHeartbeats 4000000
set_option maxRecDepth 100000

abbrev boolsV (xs : List Bool) : List Value := xs.map Value.bool
theorem elemB1 : Elem P 44 4 (.bool false) 1 := ⟨(P.info? 4).getD default, by kernel_rfl, by kernel_rfl, by kernel_rfl, by kernel_rfl, by kernel_rfl, by kernel_rfl⟩
theorem run_neB21 (s t : Operand) (a b : Bool) (w : World) : Sem.run P (do eqGuard .neq 4 s t (.bool a) (.bool b); Go.binOp .neq 4 (.bool a) (.bool b) : Sem Value) w = .ok (.bool (!decide (a = b))) w := by
  cases a <;> cases b <;> rfl
section
variable {w w' : World} {base r N n c : Nat} {T : Nat → Prop} {A : Option Addr} {E : List (Nat × Nat)}
variable {L : List Nd} {M : List (Arc × Nat)} {free : List Nat} {σ : Nat → List Nat} {lab : Nat → It}
/-- A row of marks in a block of its own. -/
theorem own_cell {W : World} {b0 b m k : Nat} {xs : List Bool} (h : OwnedK W b0 4 1 (some ⟨b, 0, none⟩) m k (boolsV xs)) {j : Nat} (hj : j < xs.length) : W.cell? ⟨b, j, none⟩ = some (.bool xs[j]) := by
  obtain ⟨a, e1, e2⟩ := h.row j (.bool xs[j]) (by simp [hj])
  cases e1
  rw [add_blk] at e2; exact e2
/-- Is a vertex of another one's tree? -/
theorem partN_mem {v : Int} {u : Int} : v ∈ intsN (partN N σ u) ↔ (0 ≤ u ∧ u < N) ∧ (0 ≤ v ∧ v < N) ∧ v.toNat ∈ σ u.toNat := by
  unfold partN
  by_cases h : 0 ≤ u ∧ u < (N : Int)
  · rw [if_pos h, List.mem_map]
    constructor
    · rintro ⟨x, hx, rfl⟩
      have := mem_verts.1 hx
      exact ⟨h, by omega, this.2⟩
    · rintro ⟨_, h2, h3⟩
      exact ⟨v.toNat, mem_verts.2 ⟨by omega, h3⟩, by omega⟩
  · rw [if_neg h]; simp; intro h1 h2; omega
end
end Go.Proofs.Ytpfkpmapimonbaa

/-! tour.New: the walk; a forest's answers by its edges. -/
namespace Go.Proofs.Ytpfkpmapimonbaa
open Go Go.V Go.RowKit
set_option linter.unusedVariables false
set_option linter.unusedSimpArgs false
set_option maxHeartbeats 4000000
set_option maxRecDepth 100000

def sig0 (i : Nat) : Nat → List Nat := fun z => if z < i then [z] else []
theorem sig0_next (i : Nat) : nodeS (sig0 i) i = sig0 (i + 1) := by
  funext z
  unfold nodeS sig0
  by_cases e : z = i
  · subst e; simp
  · rw [if_neg e]
    by_cases h : z < i
    · rw [if_pos h, if_pos (by omega)]
    · rw [if_neg h, if_neg (by omega)]
theorem ArS.zero : ArS [] (sig0 0) := ⟨fun x hx => by simp at hx, fun x hx => by simp at hx, fun x _ => by simp [sig0]⟩
theorem TG.new {N : Nat} {L : List Nd} (hl : L.length = N) (hs : ArS L (sig0 N)) : TG N L (sig0 N) [] [] It.v [] := by
  refine ⟨hs, ⟨by omega, fun _ _ => rfl, fun u v k hk => ?_, fun x hx => ?_, fun x hx k hk => ?_, by simp, fun k hk => by simp at hk⟩, ⟨by simp, fun e he => by simp at he, fun x y => ?_⟩, rfl, by simp, fun p hp => by simp at hp, ?_⟩
  · simp [arcOf, getK] at hk
  · refine ⟨x, ?_⟩
    unfold sig0; rw [if_pos hx]; exact Et.single x
  · unfold sig0 at hk; rw [if_pos hx] at hk; simp at hk; left; omega
  · simp [arcOf, getK]
  · unfold cntS
    rw [List.filter_eq_self.2]
    · simp
    · intro x hx
      simp only [decide_eq_true_eq]
      intro y hy hyn
      unfold sig0 at hy
      rw [if_pos (by simpa using hx)] at hy
      simp at hy; omega
def nOf (n : Int) : Nat := (min (max n 0) 65536).toNat
theorem fnew_calls {w : World} {base : Nat} (hb : base ≤ w.heap.size) (n sd : Int) : Calls P 13 #[.int .i64 n, .int .u64 sd] w fun ev w' => ∃ f g : Nat, ev = .returned (.pointer (some ⟨f, 0, none⟩)) ∧ FG w' base f g (nOf n) (fun q => w.heap.size ≤ q ∧ q < w'.heap.size) (nOf n) (sig0 (nOf n)) [] ∧ w.grownBy w' none := by
  apply vc13; unfold VC13; try (conv => zeta)
  simp only [InK, mnE, mxE]
  refine (new_calls21 sd hb).mono fun ev w1 hh => ?_
  obtain ⟨s', rfl, ha, g1, _⟩ := hh
  have hN : (min (max n 0) 65536 : Int) = (nOf n : Int) := by unfold nOf; omega
  have hNb : nOf n ≤ 65536 := by unfold nOf; omega
  rw [hN]
  refine ⟨_, rfl, ?_⟩
  have hm : MapA (w1.alloc (.map #[] 0)) w1.heap.size [] := MapAt.made w1
  have g2 := World.grownBy_alloc w1 (.map #[] 0) none
  obtain ⟨w2, hw2⟩ : ∃ w2, w2 = w1.alloc (.map #[] 0) := ⟨_, rfl⟩
  rw [← hw2] at hm g2 ⊢
  have g3 := World.grownBy_alloc w2 (.cells #[.pointer (some ⟨w.heap.size, 0, none⟩), .int .i64 (nOf n : Int), .map (some w1.heap.size), .slice none 0 0] 60) none
  have b3 := heap_alloc_new w2 (.cells #[.pointer (some ⟨w.heap.size, 0, none⟩), .int .i64 (nOf n : Int), .map (some w1.heap.size), .slice none 0 0] 60)
  obtain ⟨w3, hw3⟩ : ∃ w3, w3 = w2.alloc (.cells #[.pointer (some ⟨w.heap.size, 0, none⟩), .int .i64 (nOf n : Int), .map (some w1.heap.size), .slice none 0 0] 60) := ⟨_, rfl⟩
  rw [← hw3] at g3 b3 ⊢
  have g03 := grown_trans g1 (grown_trans g2 g3)
  have fm0 : FoM w3 base w2.heap.size w.heap.size w1.heap.size none 0 0 none 0 0 (nOf n) [] s' [] [] := ⟨b3, ha.kept (grown_trans g2 g3), hm.kept g3, OwnedK.nil _ _ _ _⟩
  refine ⟨_, rfl, _, by rw [add_blk]; exact blk_cell b3 1, ?_⟩
  refine ⟨fun m i W => ∃ (p : Nat) (A : Option Addr) (na ca : Nat) (sx : Int) (L : List Nd), i = p ∧ p ≤ nOf n ∧ m = nOf n - p ∧ FoM W base w2.heap.size w.heap.size w1.heap.size A na ca none 0 0 (nOf n) L sx [] [] ∧ L.length = p ∧ ArS L (sig0 p) ∧ w.grownBy W none ∧ (∀ q, (Value.slice A na ca).ownBlock = some q → w.heap.size ≤ q), ⟨_, 0, none, 0, 0, s', [], rfl, by omega, rfl, fm0, rfl, ArS.zero, g03, fun q hq => by cases hq⟩, ?_⟩
  rintro m i W ⟨p, A, na, ca, sx, L, rfl, hp, rfl, hF, hLl, hs, gW, hown⟩
  refine ⟨fun hlt => ?_, fun hge => ?_⟩
  · refine ⟨_, rfl, _, blk_cell hF.blk 0, (node_calls21 hF.ar (Nat.le_trans hb gW.size) (by omega)).mono fun ev w4 hh => ?_⟩
    obtain ⟨rfl, A', n', c', s2, r, a1, a2, K1⟩ := hh
    refine ⟨_, rfl, by omega, nOf n - (p + 1), by omega, p + 1, A', n', c', s2, L ++ [⟨-1, -1, -1, 1, r⟩], by omega, by omega, rfl, ⟨?_, a1, hF.mp.kp K1 (fun e => ?_), OwnedK.nil _ _ _ _⟩, by simp [hLl], ?_, ?_, fun q hq => ?_⟩
    · rw [K1.block _ (Array.getElem?_eq_some_iff.1 hF.blk).1 (fun e => ?_)]
      · exact hF.blk
      · rcases e with e | e
        · have := hF.blk; rw [e, hF.ar.blk] at this; cases this
        · exact own_far hF.ar.own hF.blk (by decide) e.symm
    · rcases e with e | e
      · exact map_ne hF.mp hF.ar.blk e
      · obtain ⟨cur, h'⟩ := hF.ar.own.block_type _ e.symm
        exact map_ne hF.mp h' rfl
    · have := hs.node (r := r)
      rw [hLl, sig0_next] at this; exact this
    · exact ((Kp.of_none (S := fun q => w.heap.size ≤ q) gW).then K1 (fun q hq e => e.elim (fun e => by omega) (fun e => by have := hown q e.symm; omega))).grown (fun q hq e => by omega)
    · rcases a2 q hq with e | e
      · exact hown q e
      · exact Nat.le_trans gW.size e
  · have hpe : p = nOf n := by omega
    subst hpe
    refine ⟨w2.heap.size, w.heap.size, rfl, ⟨L, [], [], It.v, by omega, ⟨w1.heap.size, A, na, ca, none, 0, 0, sx, hF, ⟨⟨?_, ?_⟩, ⟨Nat.le_refl _, ?_⟩, ⟨g1.size, ?_⟩, fun q hq => ⟨hown q hq, hF.ar.own.block_lt q hq⟩, fun q hq => by cases hq⟩, fun q hq => hq.2⟩, TG.new hLl hs⟩, gW⟩
    · exact Nat.le_trans g1.size g2.size
    · exact (Array.getElem?_eq_some_iff.1 hF.blk).1
    · exact (Array.getElem?_eq_some_iff.1 hF.ar.blk).1
    · exact hF.mp.lt
section
variable {N : Nat} {L : List Nd} {σ : Nat → List Nat} {M : List ((Int × Int) × Nat)} {free : List Nat} {lab : Nat → It} {E : List (Nat × Nat)}
theorem TG.self (h : TG N L σ M free lab E) {x : Nat} (hx : x < N) : x ∈ σ x := h.ars.self (by have := h.le; omega)
theorem TG.same_iff (h : TG N L σ M free lab E) {x y : Nat} (hy : y < N) : σ x = σ y ↔ y ∈ σ x := ⟨fun e => by rw [e]; exact h.self hy, fun e => (h.ars.eq e).symm⟩
/-- The ends of an edge are of one tree. -/
theorem TG.step (h : TG N L σ M free lab E) {a b u : Nat} (he : (a, b) ∈ E) : a ∈ σ u ↔ b ∈ σ u := h.tour.ends h.ars h.edge (e := (a, b)) he
/-- What is reached, and is closed, is the tree. -/
theorem TG.comp (h : TG N L σ M free lab E) {u : Nat} (hu : u < N) {S : Nat → Prop} (hS : S u) (hsub : ∀ x, x < N → S x → x ∈ σ u) (hcl : ∀ a b, (a, b) ∈ E → (S a ↔ S b)) {x : Nat} (hx : x < N) : x ∈ σ u ↔ S x :=
  (h.tour.marks h.ars h.edge hu (S := S) hS hsub (fun e he => hcl e.1 e.2 he) x hx).symm
/-- How many vertices a tree has. -/
theorem TG.size (h : TG N L σ M free lab E) {u : Nat} (hu : u < N) : ((σ u).length + 2) / 3 = (verts N σ u).length := by
  have := h.tour.size h.ars hu
  omega
end
end Go.Proofs.Ytpfkpmapimonbaa

/-! A forest in use: its calls; archipelagolaw22.known, TourMany: the walks. -/
namespace Go.Proofs.Ytpfkpmapimonbaa
open Go Go.V Go.RowKit
set_option linter.unusedVariables false
set_option linter.unusedSimpArgs false
set_option maxHeartbeats 4000000
set_option maxRecDepth 100000

def inN (N : Nat) (u : Int) : Prop := 0 ≤ u ∧ u < (N : Int)
instance (N : Nat) (u : Int) : Decidable (inN N u) := inferInstanceAs (Decidable (_ ∧ _))
section
variable {w0 w w' : World} {f g N len : Nat} {σ : Nat → List Nat} {E : List (Nat × Nat)}
end
end Go.Proofs.Ytpfkpmapimonbaa

/-! archipelagolaw22.TourMany: the walk. -/
namespace Go.Proofs.Ytpfkpmapimonbaa
open Go Go.V Go.RowKit
set_option linter.unusedVariables false
set_option linter.unusedSimpArgs false
set_option maxHeartbeats 4000000
set_option maxRecDepth 100000

end Go.Proofs.Ytpfkpmapimonbaa

/-! archipelagolaw22.TourLong: the walk. -/
namespace Go.Proofs.Ytpfkpmapimonbaa
open Go Go.V Go.RowKit
set_option linter.unusedVariables false
set_option linter.unusedSimpArgs false
set_option maxHeartbeats 4000000
set_option maxRecDepth 100000

end Go.Proofs.Ytpfkpmapimonbaa

/-! archipelagolaw22.TourStars: the walk. -/
namespace Go.Proofs.Ytpfkpmapimonbaa
open Go Go.V Go.RowKit
set_option linter.unusedVariables false
set_option linter.unusedSimpArgs false
set_option maxHeartbeats 4000000
set_option maxRecDepth 100000

section
variable {w0 w w' : World} {f g N len : Nat} {σ : Nat → List Nat} {E : List (Nat × Nat)} {Q : Nat → Prop}
end
end Go.Proofs.Ytpfkpmapimonbaa

/-! archipelagolaw22.TourPlays: the walk. -/
namespace Go.Proofs.Ytpfkpmapimonbaa
open Go Go.V Go.RowKit
set_option linter.unusedVariables false
set_option linter.unusedSimpArgs false
set_option maxHeartbeats 4000000
set_option maxRecDepth 100000

/-- An act of a story: what, two numbers, a raw one. -/
structure ActV where
  (wh u v raw : Int)
def actC (a : ActV) : List Value := [.int .u8 a.wh, .int .u8 a.u, .int .u8 a.v, .int .i64 a.raw]
def acts (l : List ActV) : List Value := l.flatMap actC
def okAct (a : ActV) : Prop := (0 ≤ a.wh ∧ a.wh ≤ 255) ∧ (0 ≤ a.u ∧ a.u ≤ 255) ∧ (0 ≤ a.v ∧ a.v ≤ 255) ∧ okI a.raw
theorem acts_get : ∀ (l : List ActV) (x : Nat) (hx : x < l.length) (j : Nat), j < 4 → (acts l)[x * 4 + j]? = (actC l[x])[j]?
  | a :: l, 0, hx, j, hj => by
    show (actC a ++ acts l)[0 * 4 + j]? = _
    rw [Nat.zero_mul, Nat.zero_add, List.getElem?_append_left (by show j < 4; exact hj)]; rfl
  | a :: l, x + 1, hx, j, hj => by
    show (actC a ++ acts l)[(x + 1) * 4 + j]? = _
    rw [List.getElem?_append_right (by show 4 ≤ _; omega)]
    have := acts_get l x (by simpa using hx) j hj
    rw [show (x + 1) * 4 + j - (actC a).length = x * 4 + j by show _ - 4 = _; omega, this]; rfl
theorem act_at {w : World} {A : Option Addr} {l : List ActV} (h : Row w A (acts l)) {j : Nat} (hj : j < l.length) : ∃ a, A = some a ∧ w.cell? (a.add (j * 4)) = some (.int .u8 l[j].wh) ∧ w.cell? (Addr.add (a.add (j * 4)) 1) = some (.int .u8 l[j].u) ∧ w.cell? (Addr.add (a.add (j * 4)) 2) = some (.int .u8 l[j].v) ∧ w.cell? (Addr.add (a.add (j * 4)) 3) = some (.int .i64 l[j].raw) := by
  obtain ⟨a, e0, f0⟩ := h (j * 4 + 0) (.int .u8 l[j].wh) (by rw [acts_get l j hj 0 (by omega)]; rfl)
  obtain ⟨a1, e1, f1⟩ := h (j * 4 + 1) (.int .u8 l[j].u) (by rw [acts_get l j hj 1 (by omega)]; rfl)
  obtain ⟨a2, e2, f2⟩ := h (j * 4 + 2) (.int .u8 l[j].v) (by rw [acts_get l j hj 2 (by omega)]; rfl)
  obtain ⟨a3, e3, f3⟩ := h (j * 4 + 3) (.int .i64 l[j].raw) (by rw [acts_get l j hj 3 (by omega)]; rfl)
  rw [e0] at e1 e2 e3
  cases e1; cases e2; cases e3
  exact ⟨a, e0, f0, by rw [add_add]; exact f1, by rw [add_add]; exact f2, by rw [add_add]; exact f3⟩
section
variable {w0 W W' : World} {f g r N len : Nat} {σ : Nat → List Nat} {E : List (Nat × Nat)}
end
end Go.Proofs.Ytpfkpmapimonbaa
