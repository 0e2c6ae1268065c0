/- Own texts, packed: J16, J17, J18, J19. -/
import Derived.Test.YtpfkpmapimonbaaGHCg
import Derived.Test.YtpfkpmapimonbaaGHAg
import Derived.Test.YtpfkpmapimonbaaGXg
import Derived.Test.YtpfkpmapimonbaaGHXg
import Derived.Sort.Grow

/-! hdt.Graph in use; New, has, Has, Connected, Size, Count, Degree: the walks. -/
namespace Go.Proofs.Ytpfkpmapimonbaa
open Go Go.V Go.RowKit
set_option linter.unusedVariables false
set_option linter.unusedSimpArgs false
set_option maxHeartbeats 8000000
set_option maxRecDepth 100000

theorem elemI0 : Elem P 37 3 (.int .i64 0) 8 := ⟨(P.info? 3).getD default, by kernel_rfl, by kernel_rfl, by kernel_rfl, by kernel_rfl, by kernel_rfl, by kernel_rfl⟩
/-- A graph of edges F, behind c changes; its blocks are of U. -/
def HS (w : World) (base g N c : Nat) (U : Nat → Prop) (F : Eds) : Prop :=
  (∃ T lv M deg, MS w base g N (N + 2 * c) U T lv M deg 0 0 0 ∧ (∀ e, e ∈ F ↔ ∃ s, getK M (kI e) = some s) ∧ (∀ v, v < N → deg[v]? = some ((degE F (v : Int) : Nat) : Int)) ∧ 0 < lv.length ∧ lv.length ≤ c + 1) ∧ F.Nodup
/-- What is asked of the sizes. -/
def Sm (N c : Nat) : Prop := N ≤ 1000 ∧ c ≤ 1000
section
variable {w w' : World} {base g N len c : Nat} {U : Nat → Prop} {T : Tp} {lv : List LV} {M : EMap} {deg : List Int} {F : Eds}
theorem HS.rg (h : HS w base g N c U F) : RgE N F := fun e he => by
  obtain ⟨⟨T, lv, M, deg, h1, h2, _⟩, _⟩ := h
  obtain ⟨s, hs⟩ := (h2 e).1 he
  exact h1.inv.edge hs
theorem HS.kp {S : Nat → Prop} (h : HS w base g N c U F) (hk : Kp w w' S) (hd : ∀ q, U q → ¬ S q) : HS w' base g N c U F := by
  obtain ⟨⟨T, lv, M, deg, h1, r⟩, hn⟩ := h
  exact ⟨⟨T, lv, M, deg, { h1 with hg := h1.hg.kp hk hd }, r⟩, hn⟩
theorem HS.kept (h : HS w base g N c U F) (hg : w.grownBy w' none) : HS w' base g N c U F := h.kp (S := fun _ => False) (Kp.of_none hg) (fun _ _ e => e)
theorem HS.lt (h : HS w base g N c U F) : ∀ q, U q → base ≤ q ∧ q < w.heap.size := by
  obtain ⟨⟨T, lv, M, deg, h1, r⟩, hn⟩ := h
  exact h1.hg.lt
theorem HS.wide {U' : Nat → Prop} (h : HS w base g N c U F) (hU : ∀ q, U q → U' q) (hl : ∀ q, U' q → base ≤ q ∧ q < w.heap.size) : HS w base g N c U' F := by
  obtain ⟨⟨T, lv, M, deg, h1, r⟩, hn⟩ := h
  exact ⟨⟨T, lv, M, deg, { h1 with hg := h1.hg.wide hU hl }, r⟩, hn⟩
theorem HS.base_le (h : HS w base g N c U F) : base ≤ w.heap.size := by
  obtain ⟨⟨T, lv, M, deg, h1, r⟩, hn⟩ := h
  have := h1.hg.lt _ (h1.hg.inT _ (.inl rfl)); omega
/-- The beginning that Add, Drop and Has share: is there such an edge? -/
theorem first_look (h : HG w base g N len U T lv M deg) {u v : Int} (hu : okI u) (hv : okI v) {J : Bool → World → Prop} (hJ : ∀ W, w.grownBy W none → J ((getK M (pk u v)).isSome) W) :
    ∃ C : World → Prop, C w.drew ∧ ((∃ a : Addr, some (⟨g, 0, none⟩ : Addr) = some a ∧ ∃ x : Option Nat, (∀ wq, C wq → wq.cell? (a.add 2) = some (.map x)) ∧ Calls P 61 #[.int .i64 u, .int .i64 v] w.drew fun ev w1 => ∃ x1 x2 : Int, ev = .returned (.agg #[.int .i64 x1, .int .i64 x2]) ∧ (C w1 ∧ ∃ (x3 : Int) (x4 x5 : Bool), (∀ wq, C wq → Sem.run P (Instr.lookup 70 (.map x) (.agg #[.int .i64 x1, .int .i64 x2]) true) wq = .ok (.tuple #[.agg #[.int .i64 x3, .bool x4], .bool x5]) wq) ∧ (C (w1.alloc (.cells #[.int .i64 0, .bool false] 77)) ∧ ((∃ uv : Value, (w1.alloc (.cells #[.int .i64 0, .bool false] 77)).cell? ⟨w1.heap.size, 0, none⟩ = some uv) ∧ (w1.alloc (.cells #[.int .i64 0, .bool false] 77)).frozen? ⟨w1.heap.size, 0, none⟩ = false ∧ ((∃ uv : Value, ((w1.alloc (.cells #[.int .i64 0, .bool false] 77)).setCell ⟨w1.heap.size, 0, none⟩ (.int .i64 x3)).cell? ⟨w1.heap.size, 1, none⟩ = some uv) ∧ ((w1.alloc (.cells #[.int .i64 0, .bool false] 77)).setCell ⟨w1.heap.size, 0, none⟩ (.int .i64 x3)).frozen? ⟨w1.heap.size, 1, none⟩ = false ∧
      (C (((w1.alloc (.cells #[.int .i64 0, .bool false] 77)).setCell ⟨w1.heap.size, 0, none⟩ (.int .i64 x3)).setCell ⟨w1.heap.size, 1, none⟩ (.bool x4)) ∧ J x5 (((w1.alloc (.cells #[.int .i64 0, .bool false] 77)).setCell ⟨w1.heap.size, 0, none⟩ (.int .i64 x3)).setCell ⟨w1.heap.size, 1, none⟩ (.bool x4)))))))) ∧
     (∃ a : Addr, some (⟨g, 0, none⟩ : Addr) = some a ∧ ∃ x : Option Nat, (∀ wq, C wq → wq.cell? (a.add 2) = some (.map x)) ∧ (C (w.drew.alloc (.cells #[.int .i64 0, .bool false] 77)) ∧ Calls P 61 #[.int .i64 u, .int .i64 v] (w.drew.alloc (.cells #[.int .i64 0, .bool false] 77)) fun ev w1 => ∃ x1 x2 : Int, ev = .returned (.agg #[.int .i64 x1, .int .i64 x2]) ∧ (C w1 ∧ ∃ (x3 : Int) (x4 x5 : Bool), (∀ wq, C wq → Sem.run P (Instr.lookup 70 (.map x) (.agg #[.int .i64 x1, .int .i64 x2]) true) wq = .ok (.tuple #[.agg #[.int .i64 x3, .bool x4], .bool x5]) wq) ∧ ((∃ uv : Value, w1.cell? ⟨w.drew.heap.size, 0, none⟩ = some uv) ∧ w1.frozen? ⟨w.drew.heap.size, 0, none⟩ = false ∧ ((∃ uv : Value, (w1.setCell ⟨w.drew.heap.size, 0, none⟩ (.int .i64 x3)).cell? ⟨w.drew.heap.size, 1, none⟩ = some uv) ∧ (w1.setCell ⟨w.drew.heap.size, 0, none⟩ (.int .i64 x3)).frozen? ⟨w.drew.heap.size, 1, none⟩ = false ∧
      (C ((w1.setCell ⟨w.drew.heap.size, 0, none⟩ (.int .i64 x3)).setCell ⟨w.drew.heap.size, 1, none⟩ (.bool x4)) ∧ J x5 ((w1.setCell ⟨w.drew.heap.size, 0, none⟩ (.int .i64 x3)).setCell ⟨w.drew.heap.size, 1, none⟩ (.bool x4))))))))) := by
  have gd := grown_drew (grown_refl w none)
  obtain ⟨w2, hw2⟩ : ∃ w2, w2 = w.drew := ⟨_, rfl⟩
  rw [← hw2] at gd ⊢
  have hok : okArc (pk u v) := by unfold okArc pk okI at *; constructor <;> simp only <;> omega
  have hcell : ∀ wq, w2.grownBy wq none → wq.cell? (Addr.add ⟨g, 0, none⟩ 2) = some (.map (some T.me)) := fun wq hq => by rw [add_blk]; exact blk_cell (h.kept (grown_trans gd hq)).blk 2
  have hlook : ∀ wq, w2.grownBy wq none → Sem.run P (Instr.lookup 70 (.map (some T.me)) (.agg #[.int .i64 (min u v), .int .i64 (max u v)]) true) wq = .ok (.tuple #[.agg #[.int .i64 ((getK M (pk u v)).getD (0, false)).1, .bool ((getK M (pk u v)).getD (0, false)).2], .bool (getK M (pk u v)).isSome]) wq := fun wq hq => by
    have := (h.kept (grown_trans gd hq)).look hok true
    simp only [if_pos] at this
    exact this
  refine ⟨fun W => w2.grownBy W none, grown_refl _ _, ⟨_, rfl, _, hcell, (of_calls u v).mono fun ev w3 hh => ?_⟩, ⟨_, rfl, _, hcell, ?_⟩⟩
  · obtain ⟨rfl, g3⟩ := hh
    have gA := World.grownBy_alloc w3 (.cells #[.int .i64 0, .bool false] 77) none
    have bA := heap_alloc_new w3 (.cells #[.int .i64 0, .bool false] 77)
    have q1 := blk_set bA 0 (.int .i64 ((getK M (pk u v)).getD (0, false)).1)
    have gS : w3.grownBy (((w3.alloc (.cells #[.int .i64 0, .bool false] 77)).setCell ⟨w3.heap.size, 0, none⟩ (.int .i64 ((getK M (pk u v)).getD (0, false)).1)).setCell ⟨w3.heap.size, 1, none⟩ (.bool ((getK M (pk u v)).getD (0, false)).2)) none := (kset (kset (Kp.of_none (S := fun q => w3.heap.size ≤ q) gA) (Nat.le_refl _)) (Nat.le_refl _)).grown (fun q hq e => by omega)
    exact ⟨_, _, rfl, g3, _, _, _, hlook, grown_trans g3 gA, ⟨_, blk_cell bA 0⟩, blk_free bA 0, ⟨_, blk_cell q1 1⟩, blk_free q1 1, grown_trans g3 gS, hJ _ (grown_trans gd (grown_trans g3 gS))⟩
  · have gA := World.grownBy_alloc w2 (.cells #[.int .i64 0, .bool false] 77) none
    have bA := heap_alloc_new w2 (.cells #[.int .i64 0, .bool false] 77)
    refine ⟨gA, (of_calls u v).mono fun ev w3 hh => ?_⟩
    obtain ⟨rfl, g3⟩ := hh
    have b3 := blk_keep bA g3
    have q1 := blk_set b3 0 (.int .i64 ((getK M (pk u v)).getD (0, false)).1)
    have lt2 := gA.size
    have gS : w2.grownBy ((w3.setCell ⟨w2.heap.size, 0, none⟩ (.int .i64 ((getK M (pk u v)).getD (0, false)).1)).setCell ⟨w2.heap.size, 1, none⟩ (.bool ((getK M (pk u v)).getD (0, false)).2)) none := (kset (kset (Kp.of_none (S := fun q => w2.heap.size ≤ q) (grown_trans gA g3)) (Nat.le_refl _)) (Nat.le_refl _)).grown (fun q hq e => by omega)
    exact ⟨_, _, rfl, grown_trans gA g3, _, _, _, hlook, ⟨_, blk_cell b3 0⟩, blk_free b3 0, ⟨_, blk_cell q1 1⟩, blk_free q1 1, gS, hJ _ (grown_trans gd gS)⟩
theorem hhas0_calls (h : HG w base g N len U T lv M deg) (u : Int) : Calls P 62 #[.pointer (some ⟨g, 0, none⟩), .int .i64 u] w fun ev w' => ev = .returned (.bool (decide (0 ≤ u ∧ u < (N : Int)))) ∧ w' = w := by
  apply vc62; unfold VC62; try (conv => zeta)
  refine ⟨fun h0 => ⟨_, rfl, _, blk_cell h.blk 0, ?_, rfl⟩, fun h0 => ⟨?_, rfl⟩⟩
  · congr 2
    exact decide_eq_decide.2 ⟨fun h' => ⟨h0, h'⟩, fun h' => h'.2⟩
  · rw [decide_eq_false (by omega)]
theorem mem_key (h2 : ∀ e, e ∈ F ↔ ∃ s, getK M (kI e) = some s) {a b j : Nat} (h : MS w base g N len U T lv M deg a b j) {u v : Int} : (getK M (pk u v)).isSome = true ↔ (0 ≤ u ∧ 0 ≤ v) ∧ pairE u.toNat v.toNat ∈ F := by
  rw [Option.isSome_iff_exists]
  constructor
  · rintro ⟨s, hs⟩
    obtain ⟨c, d, rfl, rfl, _, _, _, h3⟩ := h.inv.nat hs
    refine ⟨⟨by omega, by omega⟩, (h2 _).2 ⟨s, ?_⟩⟩
    have e1 : ((c : Int)).toNat = c := by omega
    have e2 : ((d : Int)).toNat = d := by omega
    rw [e1, e2, ← h3]; exact hs
  · rintro ⟨⟨h3, h4⟩, h5⟩
    obtain ⟨s, hs⟩ := (h2 _).1 h5
    refine ⟨s, ?_⟩
    have : pk u v = kI (pairE u.toNat v.toNat) := by rw [← pk_nat]; congr 1 <;> omega
    rw [this]; exact hs
theorem hhas_calls (h : HS w base g N c U F) {u v : Int} (hu : okI u) (hv : okI v) : Calls P 33 #[.pointer (some ⟨g, 0, none⟩), .int .i64 u, .int .i64 v] w fun ev w' => ev = .returned (.bool (decide ((0 ≤ u ∧ 0 ≤ v) ∧ pairE u.toNat v.toNat ∈ F))) ∧ w.grownBy w' none := by
  obtain ⟨⟨T, lv, M, deg, h1, h2, _⟩, _⟩ := h
  apply vc33; unfold VC33; try (conv => zeta)
  refine ⟨fun b W => b = (getK M (pk u v)).isSome ∧ w.grownBy W none, first_look (J := fun b W => b = (getK M (pk u v)).isSome ∧ w.grownBy W none) h1.hg hu hv (fun W hW => ⟨rfl, hW⟩), ?_⟩
  rintro b W ⟨rfl, gW⟩
  refine ⟨?_, gW⟩
  congr 2
  rw [Bool.eq_iff_iff, decide_eq_true_iff]
  exact mem_key h2 h1
theorem lat0 (h : HG w base g N len U T lv M deg) (hl : 0 < lv.length) (hl2 : lv.length ≤ 2 ^ 20) (hN : N ≤ 65536) (hlen : N ≤ len) : ∃ l, lv[0]? = some l ∧ LvAt w base N len l ∧ l.E = EL lv 0 ∧ Calls P 60 #[.pointer (some ⟨g, 0, none⟩), .int .i64 0] w fun ev w' => ev = .returned (.pointer (some ⟨l.b, 0, none⟩)) ∧ w' = w := by
  have hs : lv[0]? = some lv[0] := by simp [hl]
  have hbl := h.lt _ (h.inT _ (.inl rfl))
  exact ⟨lv[0], hs, h.lev _ (List.getElem_mem hl), (EL_some hs).symm, lat_old h (by omega) hs hl2 hN hlen⟩
theorem hconn_calls (h : HS w base g N c U F) (hs : Sm N c) (u v : Int) : Calls P 32 #[.pointer (some ⟨g, 0, none⟩), .int .i64 u, .int .i64 v] w fun ev w' => ∃ r : Bool, ev = .returned (.bool r) ∧ (r = true ↔ inN N u ∧ inN N v ∧ Cn F u.toNat v.toNat) ∧ w' = w := by
  obtain ⟨⟨T, lv, M, deg, h1, h2, h3, h4, h5⟩, _⟩ := h
  obtain ⟨s1, s2⟩ := hs
  apply vc32; unfold VC32; try (conv => zeta)
  obtain ⟨l, hl, hL, hE, hc⟩ := lat0 h1.hg h4 (by omega) (by omega) (by omega)
  refine hc.mono fun ev w1 hh => ?_
  obtain ⟨rfl, rfl⟩ := hh
  refine ⟨_, rfl, _, rfl, _, blk_cell hL.blk 0, (xconn_calls hL.fg u v).mono fun ev w2 hh => ?_⟩
  obtain ⟨r, rfl, hr, rfl⟩ := hh
  exact ⟨r, rfl, r, rfl, by rw [hr, hE, h1.inv.conn h2], rfl⟩
theorem hsize_calls (h : HS w base g N c U F) (hs : Sm N c) (u : Int) : Calls P 35 #[.pointer (some ⟨g, 0, none⟩), .int .i64 u] w fun ev w' => ev = .returned (.int .i64 (if inN N u then ((partC N F u.toNat).length : Int) else 0)) ∧ w' = w := by
  obtain ⟨⟨T, lv, M, deg, h1, h2, h3, h4, h5⟩, _⟩ := h
  obtain ⟨s1, s2⟩ := hs
  apply vc35; unfold VC35; try (conv => zeta)
  obtain ⟨l, hl, hL, hE, hc⟩ := lat0 h1.hg h4 (by omega) (by omega) (by omega)
  have hsm := hL.fg.small
  refine hc.mono fun ev w1 hh => ?_
  obtain ⟨rfl, rfl⟩ := hh
  refine ⟨_, rfl, _, rfl, _, blk_cell hL.blk 0, (xsize_calls hL.fg (by omega) u).mono fun ev w2 hh => ?_⟩
  obtain ⟨rfl, rfl⟩ := hh
  refine ⟨_, rfl, ?_, rfl⟩
  by_cases hc : inN N u
  · rw [if_pos hc, if_pos hc, hE, part_congr (F := F) (fun x y _ _ => h1.inv.conn h2) (by obtain ⟨a, b⟩ := hc; omega)]
  · rw [if_neg hc, if_neg hc]
theorem hcount_calls (h : HS w base g N c U F) (hs : Sm N c) : Calls P 38 #[.pointer (some ⟨g, 0, none⟩)] w fun ev w' => ev = .returned (.int .i64 (cntC N F : Int)) ∧ w.grownBy w' none := by
  obtain ⟨⟨T, lv, M, deg, h1, h2, h3, h4, h5⟩, _⟩ := h
  obtain ⟨s1, s2⟩ := hs
  apply vc38; unfold VC38; try (conv => zeta)
  obtain ⟨l, hl, hL, hE, hc⟩ := lat0 h1.hg h4 (by omega) (by omega) (by omega)
  have hsm := hL.fg.small
  refine hc.mono fun ev w1 hh => ?_
  obtain ⟨rfl, rfl⟩ := hh
  refine ⟨_, rfl, _, rfl, _, blk_cell hL.blk 0, (xcount_calls hL.fg (by omega)).mono fun ev w2 hh => ?_⟩
  obtain ⟨rfl, g2⟩ := hh
  refine ⟨_, rfl, ?_, g2⟩
  rw [hE, cnt_congr (F := F) fun x y _ _ => h1.inv.conn h2]
theorem hdegree_calls (h : HS w base g N c U F) (u : Int) : Calls P 36 #[.pointer (some ⟨g, 0, none⟩), .int .i64 u] w fun ev w' => ev = .returned (.int .i64 (degE F u : Int)) ∧ w' = w := by
  have hrg := h.rg
  obtain ⟨⟨T, lv, M, deg, h1, h2, h3, h4, h5⟩, _⟩ := h
  apply vc36; unfold VC36; try (conv => zeta)
  refine (hhas0_calls h1.hg u).mono fun ev w1 hh => ?_
  obtain ⟨rfl, rfl⟩ := hh
  refine ⟨_, rfl, fun hno => ⟨?_, rfl⟩, fun hyes => ?_⟩
  · have hno := of_decide_eq_false hno
    have : degE F u = 0 := by
      unfold degE; rw [List.filter_eq_nil_iff.2]; rfl
      intro e he
      have := hrg e he
      simp; omega
    rw [this]; rfl
  · have hu : 0 ≤ u ∧ u < (N : Int) := by simpa using hyes
    have hdn := h1.hg.dnE
    have hdl := h1.hg.dl
    have hd := h3 u.toNat (by omega)
    rw [show ((u.toNat : Nat) : Int) = u by omega] at hd
    obtain ⟨a, e1, e2⟩ := h1.hg.dgr.row u.toNat (.int .i64 (degE F u : Int)) (by rw [List.getElem?_map, hd]; rfl)
    exact ⟨_, rfl, _, _, _, by rw [add_blk]; exact blk_cell h1.hg.blk 4, a, e1, by omega, by omega, _, e2, rfl, rfl⟩
end
end Go.Proofs.Ytpfkpmapimonbaa

/-! hdt.Graph: New and Add, walked. -/
namespace Go.Proofs.Ytpfkpmapimonbaa
open Go Go.V Go.RowKit
set_option linter.unusedVariables false
set_option linter.unusedSimpArgs false
set_option maxHeartbeats 8000000
set_option maxRecDepth 100000

theorem prs_count (n k : Nat) : ((List.range n).flatMap fun a => (List.range k).map fun b => (a, b)).length = n * k := by
  induction n with
  | zero => simp
  | succ n ih => rw [List.range_succ, List.flatMap_append, List.length_append, ih]; simp; rw [Nat.succ_mul]
theorem eds_small {N : Nat} {F : Eds} (hn : F.Nodup) (hr : RgE N F) : F.length ≤ N * N := by
  rw [← prs_count N N]
  refine nd_len hn fun e he => ?_
  have := hr e he
  simp only [List.mem_flatMap, List.mem_range, List.mem_map]
  exact ⟨e.1, by omega, e.2, by omega, rfl⟩
theorem degE_le (F : Eds) (u : Int) : degE F u ≤ F.length := List.length_filter_le _ _
theorem degE_add (F : Eds) (e : Nat × Nat) (u : Int) : degE (F ++ [e]) u = degE F u + if (e.1 : Int) = u ∨ (e.2 : Int) = u then 1 else 0 := by
  unfold degE
  rw [List.filter_append, List.length_append]
  congr 1
  by_cases h : (e.1 : Int) = u ∨ (e.2 : Int) = u
  · rw [if_pos h, List.filter_cons_of_pos (by simpa using h)]; rfl
  · rw [if_neg h, List.filter_cons_of_neg (by simpa using h)]; rfl
theorem degE_erase {F : Eds} {e : Nat × Nat} (he : e ∈ F) (u : Int) : degE (F.erase e) u + (if (e.1 : Int) = u ∨ (e.2 : Int) = u then 1 else 0) = degE F u := by
  have hp := (List.perm_cons_erase he).filter (fun e => decide ((e.1 : Int) = u ∨ (e.2 : Int) = u))
  have h1 : degE F u = degE (e :: F.erase e) u := hp.length_eq
  rw [h1]
  unfold degE
  by_cases h : (e.1 : Int) = u ∨ (e.2 : Int) = u
  · rw [if_pos h, List.filter_cons_of_pos (by simpa using h)]; rfl
  · rw [if_neg h, List.filter_cons_of_neg (by simpa using h)]; rfl
section
variable {w w' : World} {base g N len c : Nat} {U : Nat → Prop} {T : Tp} {lv : List LV} {M : EMap} {deg : List Int} {F : Eds}
/-- A degree is set. -/
theorem HG.deg_put (h : HG w base g N len U T lv M deg) (hb : base ≤ w.heap.size) {k : Nat} (hk : k < N) (x : Int) : ∃ a : Addr, T.DA = some a ∧ w.cell? (a.add k) = some (.int .i64 (deg[k]?.getD 0)) ∧ (∃ uv_ : Value, w.cell? (a.add k) = some uv_) ∧ w.frozen? (a.add k) = false ∧ HG (w.setCell (a.add k) (.int .i64 x)) base g N len (extS U w (w.setCell (a.add k) (.int .i64 x))) T lv M (deg.set k x) ∧ Kp w (w.setCell (a.add k) (.int .i64 x)) U := by
  have hl := h.dl
  obtain ⟨b, e1, e2, _, e3, e4, e5, e6⟩ := own_put h.dgr (k := k) (by simp; omega) (.int .i64 x)
  have hi : (i64s deg).set k (.int .i64 x) = i64s (deg.set k x) := by unfold i64s; rw [List.map_set]
  rw [hi] at e5
  have ho : (Value.slice T.DA T.dn T.dc).ownBlock = some b := by rw [e1]; rfl
  have e7 : Kp w (w.setCell ⟨b, k, none⟩ (.int .i64 x)) (fun q => (Value.slice T.DA T.dn T.dc).ownBlock = some q) := e6.mono fun q _ e => by rw [ho, e]
  obtain ⟨a, f1, f2⟩ := h.dgr.row k (.int .i64 (deg[k]?.getD 0)) (by rw [List.getElem?_map, List.getElem?_eq_getElem (by omega)]; rfl)
  rw [e1] at f1; cases f1
  refine ⟨_, e1, f2, ?_⟩
  rw [add_blk]
  exact ⟨e3, e4, h.degs hb e7 e5, e7.mono fun q _ e => h.inT q (.inr (.inr (.inr e)))⟩
theorem MS.more {a b j len' : Nat} (h : MS w base g N len U T lv M deg a b j) (hl : len ≤ len') : MS w base g N len' U T lv M deg a b j := { h with hg := h.hg.more hl }
theorem HS.next (h : HS w base g N c U F) : HS w base g N (c + 1) U F := by
  obtain ⟨⟨T, lv, M, deg, h1, h2, h3, h4, h5⟩, hn⟩ := h
  exact ⟨⟨T, lv, M, deg, h1.more (by omega), h2, h3, h4, by omega⟩, hn⟩
theorem HS.ext {W : World} (h : HS w base g N c U F) (hg : w.grownBy W none) : HS W base g N (c + 1) (extS U w W) F :=
  ((h.kept hg).wide (fun q hq => .inl hq) (extS_lt h.base_le h.lt hg.size)).next
theorem hnew_calls {w : World} {base : Nat} (hb : base ≤ w.heap.size) (n sd : Int) : Calls P 28 #[.int .i64 n, .int .u64 sd] w fun ev w' => ∃ g : Nat, ev = .returned (.pointer (some ⟨g, 0, none⟩)) ∧ HS w' base g (nOf n) 0 (fun q => w.heap.size ≤ q ∧ q < w'.heap.size) [] ∧ w.grownBy w' none := by
  apply vc28; unfold VC28; try (conv => zeta)
  simp only [mnE, mxE]
  have hN : (min (max n 0) 65536 : Int) = (nOf n : Int) := by unfold nOf; omega
  have hNb : nOf n ≤ 65536 := by unfold nOf; omega
  rw [hN]
  obtain ⟨N, hNe⟩ : ∃ N, N = nOf n := ⟨_, rfl⟩
  rw [← hNe] at hNb ⊢
  have m1 : MapAt arcV okArc stV (w.alloc (.map #[] 0)) w.heap.size ([] : EMap) := MapAt.made w
  have g1 := World.grownBy_alloc w (.map #[] 0) none
  have s1 := sz_alloc w (.map #[] 0)
  obtain ⟨w1, hw1⟩ : ∃ w1, w1 = w.alloc (.map #[] 0) := ⟨_, rfl⟩
  rw [← hw1] at m1 g1 s1 ⊢
  obtain ⟨w2, r2, o2, g2⟩ := run_made (P := P) (w := w1) elemI0 (by omega) (m := N) (by omega)
  obtain ⟨cur, p1, p2, t, p3⟩ := o2
  have d2 : OwnedK w2 base 3 1 (some ⟨w1.heap.size, 0, none⟩) N N (i64s (List.replicate N 0)) := by
    refine OwnedK.of_block (by omega) p1 (Nat.le_refl _) (by simp only [maxLen]; omega) (by omega) (by simp) ?_
    rw [p3, List.take_left' (by simp)]
    simp
  refine ⟨_, _, _, w2, r2, ?_⟩
  have s2 := g2.size
  have m2 := m1.kept g2
  have lt2 : w1.heap.size < w2.heap.size := (Array.getElem?_eq_some_iff.1 p1).1
  obtain ⟨o, ho⟩ : ∃ o : Obj, o = .cells #[.int .i64 (N : Int), .int .u64 sd, .map (some w.heap.size), .slice none 0 0, .slice (some ⟨w1.heap.size, 0, none⟩) N N] 73 := ⟨_, rfl⟩
  rw [← ho]
  have g3 := World.grownBy_alloc w2 o none
  have s3 := sz_alloc w2 o
  have b3 := heap_alloc_new w2 o
  obtain ⟨w3, hw3⟩ : ∃ w3, w3 = w2.alloc o := ⟨_, rfl⟩
  rw [← hw3] at g3 s3 b3 ⊢
  have m3 := m2.kept g3
  have d3 : OwnedK w3 base 3 1 (some ⟨w1.heap.size, 0, none⟩) N N (i64s (List.replicate N 0)) := d2.kp (S := fun _ => False) (Kp.of_none g3) (fun _ _ e => e)
  have hg : HG w3 base w2.heap.size N N (fun q => w.heap.size ≤ q ∧ q < w3.heap.size) ⟨w.heap.size, none, 0, 0, some ⟨w1.heap.size, 0, none⟩, N, N, sd⟩ [] [] (List.replicate N 0) := by
    refine ⟨by rw [b3, ho], m3, OwnedK.nil _ _ _ _, d3, by simp, fun l hl => (by simp at hl), List.Pairwise.nil, fun l hl => (by simp at hl), fun q hq => ?_, fun l hl => (by simp at hl), fun q hq => ⟨Nat.le_trans hb hq.1, hq.2⟩⟩
    rcases hq with e | e | e | e
    · subst e; omega
    · subst e; simp only; omega
    · cases e
    · have e' : w1.heap.size = q := Option.some.inj e
      omega
  have h0 := lat_calls hg (by omega) (i := 0) (by simp) (by simp) hNb (Nat.le_refl _)
  refine h0.mono fun ev w4 hh => ?_
  obtain ⟨l, rfl, hh⟩ := hh
  rcases hh with ⟨e, _⟩ | ⟨_, e1, e2, e3, T', e4, e5⟩
  · simp at e
  · have s4 := e5.size
    refine ⟨_, rfl, _, rfl, ⟨⟨T', [l], [], List.replicate N 0, ⟨?_, ?_, ?_, fun p s hp => (by simp [getK] at hp), ⟨fun p s hp => (by simp [getK] at hp), fun k e => ?_, fun ℓ e he => (by simp [getK] at he), fun k hk => absurd hk (Nat.not_lt_zero _), fun k => ?_⟩⟩, fun e => by simp [getK], fun v hv => ?_, by simp, by simp⟩, List.nodup_nil⟩, ?_⟩
    · rw [Nat.mul_zero, Nat.add_zero]
      exact e4.wide (fun q hq => hq.elim (fun e => ⟨e.1, by omega⟩) (fun e => ⟨by omega, e.2⟩)) (fun q hq => ⟨by omega, hq.2⟩)
    · intro k x y
      have := TL_push (lv := []) e2 k
      rw [List.nil_append] at this
      rw [this]; simp [TL, getK]
    · intro k x y
      have := OL_push (lv := []) e3 k
      rw [List.nil_append] at this
      rw [this]; simp [OL, getK]
    · have := EL_push (lv := []) e1 k
      rw [List.nil_append] at this
      rw [this]; simp [EL, getK]
    · have := EL_push (lv := []) e1 k
      rw [List.nil_append] at this
      rw [this]
      have h' : FrE N l.E := (e4.lev l (by simp)).fg.fr
      rw [e1] at h'; exact h'
    · rw [List.getElem?_replicate, if_pos hv]; rfl
    · refine ((Kp.of_none (S := fun q => w.heap.size ≤ q) (grown_trans g1 (grown_trans g2 g3))).then e5 fun q hq e => ?_).grown fun q hq e => by omega
      have := hg.inT q e; omega
theorem hadd_calls (h : HS w base g N c U F) (hs : Sm N c) {u v : Int} (hu : okI u) (hv : okI v) : Calls P 29 #[.pointer (some ⟨g, 0, none⟩), .int .i64 u, .int .i64 v] w fun ev w' => ev = .returned (.bool (decide ((0 ≤ u ∧ u < N) ∧ (0 ≤ v ∧ v < N) ∧ u ≠ v ∧ pairE u.toNat v.toNat ∉ F))) ∧
    HS w' base g N (c + 1) (extS U w w') (if (0 ≤ u ∧ u < N) ∧ (0 ≤ v ∧ v < N) ∧ u ≠ v ∧ pairE u.toNat v.toNat ∉ F then F ++ [pairE u.toNat v.toNat] else F) ∧ Kp w w' U := by
  have no : ∀ W, w.grownBy W none → ¬ ((0 ≤ u ∧ u < N) ∧ (0 ≤ v ∧ v < N) ∧ u ≠ v ∧ pairE u.toNat v.toNat ∉ F) → Ending.returned (.bool false) = .returned (.bool (decide ((0 ≤ u ∧ u < (N : Int)) ∧ (0 ≤ v ∧ v < (N : Int)) ∧ u ≠ v ∧ pairE u.toNat v.toNat ∉ F))) ∧ HS W base g N (c + 1) (extS U w W) (if (0 ≤ u ∧ u < N) ∧ (0 ≤ v ∧ v < N) ∧ u ≠ v ∧ pairE u.toNat v.toNat ∉ F then F ++ [pairE u.toNat v.toNat] else F) ∧ Kp w W U := fun W hW hno => by
    rw [decide_eq_false hno, if_neg hno]
    exact ⟨rfl, h.ext hW, Kp.of_none hW⟩
  obtain ⟨s1, s2⟩ := hs
  have hb := h.base_le
  obtain ⟨⟨T, lv, M, deg, h1, h2, h3, h4, h5⟩, hnd⟩ := id h
  apply vc29; unfold VC29; try (conv => zeta)
  refine ⟨fun b W => b = (getK M (pk u v)).isSome ∧ w.grownBy W none, first_look (J := fun b W => b = (getK M (pk u v)).isSome ∧ w.grownBy W none) h1.hg hu hv (fun W hW => ⟨rfl, hW⟩), ?_⟩
  rintro b W ⟨hbk, gW⟩
  refine ⟨fun e => no W gW fun hc => ?_, fun e => ?_⟩
  · rw [hbk] at e
    exact hc.2.2.2 ((mem_key h2 h1).1 e).2
  rw [hbk] at e
  clear hbk
  have hW := h1.kept gW
  refine (hhas0_calls hW.hg u).mono fun ev w4 hh => ?_
  obtain ⟨rfl, rfl⟩ := hh
  refine ⟨_, rfl, fun hf => no _ gW fun hc => of_decide_eq_false hf hc.1, fun hf => ?_⟩
  refine (hhas0_calls hW.hg v).mono fun ev w5 hh => ?_
  obtain ⟨rfl, rfl⟩ := hh
  refine ⟨_, rfl, fun hf => no _ gW fun hc => of_decide_eq_false hf hc.2.1, fun hf2 => ⟨fun he => no _ gW fun hc => hc.2.2.1 he, fun hne => ?_⟩⟩
  have hu2 : 0 ≤ u ∧ u < (N : Int) := by simpa using hf
  have hv2 : 0 ≤ v ∧ v < (N : Int) := by simpa using hf2
  obtain ⟨a, rfl⟩ : ∃ a : Nat, u = a := ⟨u.toNat, by omega⟩
  obtain ⟨b, rfl⟩ : ∃ b : Nat, v = b := ⟨v.toNat, by omega⟩
  have ta : ((a : Int)).toNat = a := by omega
  have tb : ((b : Int)).toNat = b := by omega
  have hab : a ≠ b := by omega
  have hnm : pairE a b ∉ F := fun hm => by
    have := (mem_key h2 h1 (u := (a : Int)) (v := (b : Int))).2 ⟨by omega, by rw [ta, tb]; exact hm⟩
    rw [this] at e; cases e
  have hnone : getK M (pk (a : Int) (b : Int)) = none := by
    cases hq : getK M (pk (a : Int) (b : Int)) with
    | none => rfl
    | some s => rw [hq] at e; cases e
  have hyes : (0 ≤ (a : Int) ∧ (a : Int) < N) ∧ (0 ≤ (b : Int) ∧ (b : Int) < N) ∧ (a : Int) ≠ b ∧ pairE ((a : Int)).toNat ((b : Int)).toNat ∉ F := ⟨hu2, hv2, hne, by rw [ta, tb]; exact hnm⟩
  rw [decide_eq_true hyes, if_pos hyes, ta, tb]
  clear no hf hf2 e hyes
  refine (of_calls (a : Int) (b : Int)).mono fun ev w6 hh => ?_
  obtain ⟨rfl, g6⟩ := hh
  have h6 := hW.kept g6
  have g06 := grown_trans gW g6
  have sz6 := g06.size
  obtain ⟨l, hl, hL, hE, hc⟩ := lat0 h6.hg h4 (by omega) (by omega) (by omega)
  have hsm := hL.fg.small
  refine ⟨_, _, rfl, hc.mono fun ev w7 hh => ?_⟩
  obtain ⟨rfl, rfl⟩ := hh
  refine ⟨_, rfl, _, rfl, _, blk_cell hL.blk 0, (xlink_calls hL.fg (by omega) (by omega) (a : Int) (b : Int)).mono fun ev w8 hh => ?_⟩
  obtain ⟨r, rfl, hr, f8, K8⟩ := hh
  rw [ta, tb] at hr f8
  have hr' : r = true ↔ ¬ Cn (EL lv 0) a b := by
    rw [hr, hE]; exact ⟨fun h => h.2.2, fun h => ⟨hu2, hv2, h⟩⟩
  -- the forest
  have st0 : StG w7 base g N (N + 2 * (c + 1)) U deg lv 0 l w7 U T lv M l := ⟨h6.hg.more (by omega), fun q hq => .inl hq, h6.tr, h6.ot, h6.lev, Kp.refl _ _, hl, SameL.refl _, Nat.le_refl _, by omega⟩
  obtain ⟨E', hE'⟩ : ∃ E', E' = (if r = true then l.E ++ [pairE a b] else l.E) := ⟨_, rfl⟩
  rw [← hE'] at f8
  have f8' : FGx w8 base l.f l.g N (extS l.S w7 w8) (N + 2 * (c + 1) + 2 * E'.length) E' := f8.more (by
    rw [hE']; split
    · simp; omega
    · omega)
  obtain ⟨lv1, l1, st1, a1, a2, a3, a4, a5, a6, a7⟩ := st0.forest hl K8 f8'
  -- the edge
  have hokp := okArc_pk (c := a) (d := b) (N := N) (by omega) (by omega) (by omega)
  have hbase8 := st1.base_le
  refine ⟨_, rfl, (keep_calls st1.hg hbase8 hokp (ℓ := 0) (Nat.zero_le _) r (by omega) (by omega) (by omega)).mono fun ev w9 hh => ?_⟩
  obtain ⟨rfl, hk9⟩ := hh
  obtain ⟨T2, lv2, l2, lk, st2, b1, b2, b3, b4, b5, b6, b7, b8, b9⟩ := st1.keep (ℓ := 0) (by omega) hnone hk9
  have hbase9 := st2.base_le
  have hdn := st2.hg.dnE
  have hdl := st2.hg.dl
  refine ⟨rfl, _, rfl, _, _, _, by rw [add_blk]; exact blk_cell st2.hg.blk 4, ?_⟩
  have da := h3 a (by omega)
  have db := h3 b (by omega)
  have hFl := eds_small hnd h.rg
  have hFl2 : F.length ≤ 1000 * 1000 := Nat.le_trans hFl (Nat.mul_le_mul s1 s1)
  have dla := degE_le F (a : Int)
  have dlb := degE_le F (b : Int)
  obtain ⟨A, e1, e2, e3, e4, e5, e6⟩ := st2.hg.deg_put hbase9 (k := a) (by omega) (degE F (a : Int) + 1 : Int)
  rw [da] at e2
  refine ⟨A, e1, by omega, by omega, (degE F (a : Int) : Int), e2, by simp only [InK]; omega, A, e1, by omega, by omega, e3, e4, ?_⟩
  obtain ⟨W3, hW3⟩ : ∃ W3, W3 = w9.setCell (A.add a) (.int .i64 ((degE F (a : Int) : Int) + 1)) := ⟨_, rfl⟩
  rw [← hW3] at e5 e6 ⊢
  have se6 := e6.size
  refine ⟨_, rfl, _, _, _, by rw [add_blk]; exact blk_cell e5.blk 4, ?_⟩
  obtain ⟨A2, c1, c2, c3, c4, c5, c6⟩ := e5.deg_put (by omega) (k := b) (by omega) (degE F (b : Int) + 1 : Int)
  rw [List.getElem?_set_ne hab, db] at c2
  refine ⟨A2, c1, by omega, by omega, (degE F (b : Int) : Int), c2, by simp only [InK]; omega, A2, c1, by omega, by omega, c3, c4, rfl, ?_⟩
  obtain ⟨W4, hW4⟩ : ∃ W4, W4 = W3.setCell (A2.add b) (.int .i64 ((degE F (b : Int) : Int) + 1)) := ⟨_, rfl⟩
  rw [← hW4] at c5 c6 ⊢
  have sc6 := c6.size
  have st2s := st2.kp.size
  have hVlt := st2.hg.lt
  have K94 : Kp w W4 U := by
    refine (Kp.of_none g06).then ?_ (fun q _ e => e) (S' := U)
    refine (st2.kp.then e6 fun q hq e => ?_).then c6 fun q hq e => ?_
    · exact (st2.vu q e).elim id fun e => by omega
    · rcases e with e | e
      · exact (st2.vu q e).elim id fun e => by omega
      · omega
  refine ⟨⟨⟨T2, lv2, updK M (pk (a : Int) (b : Int)) ((0 : Nat), r), _, ⟨c5.wide (fun q hq => ?_) (extS_lt hb h1.hg.lt K94.size), st2.tr, st2.ot, st2.lev, ?_⟩, fun e => ?_, fun x hx => ?_, by omega, by omega⟩, ?_⟩, K94⟩
  · rcases hq with (hq | hq) | hq
    · rcases st2.vu q hq with e | e
      · exact .inl e
      · exact .inr ⟨by omega, by have := hVlt q hq; omega⟩
    · exact .inr ⟨by omega, by omega⟩
    · exact .inr ⟨by omega, hq.2⟩
  · have hp1 : (pairE a b).1 < (pairE a b).2 := by unfold pairE; simp only; omega
    have hp2 : (pairE a b).2 < N := by unfold pairE; simp only; omega
    have key := h1.inv.come (e := pairE a b) (by rw [← pk_nat]; exact hnone) hp1 hp2 r (by rw [hr', Cn.pair])
    rw [getK_updF, pk_nat]
    have hEL : EL lv2 = fun k => if k = 0 ∧ r = true then EL lv k ++ [pairE a b] else EL lv k := by
      funext k
      rw [b1, a1]
      by_cases ek : k = 0
      · subst ek
        rw [if_pos rfl, hE', hE]
        by_cases er : r = true
        · rw [if_pos er, if_pos ⟨rfl, er⟩]
        · rw [if_neg er, if_neg (fun h => er h.2)]
      · rw [if_neg ek, if_neg (fun h => ek h.1)]
    rw [hEL]; exact key
  · rw [getK_updF, pk_nat, List.mem_append, h2]
    by_cases ee : e = pairE a b
    · subst ee
      rw [updF_same]
      simp
    · rw [updF_ne _ _ (fun h => ee (kI_inj h))]
      simp [ee]
  · rw [degE_add]
    have hxl : x < deg.length := by have := h1.hg.dl; omega
    have dx := h3 x hx
    have hpe : (((pairE a b).1 : Int) = x ∨ ((pairE a b).2 : Int) = x) ↔ (x = a ∨ x = b) := by unfold pairE; simp only; omega
    rw [List.getElem?_set, List.getElem?_set]
    by_cases xb : b = x
    · subst xb
      rw [if_pos rfl, if_pos (by simpa using hxl), if_pos (hpe.2 (.inr rfl))]; simp
    · rw [if_neg xb]
      by_cases xa : a = x
      · subst xa
        rw [if_pos rfl, if_pos hxl, if_pos (hpe.2 (.inl rfl))]; simp
      · rw [if_neg xa, if_neg (fun h => by have := hpe.1 h; omega), dx]; rfl
  · rw [List.nodup_append]
    refine ⟨hnd, by simp, fun x hx y hy => ?_⟩
    simp only [List.mem_singleton] at hy
    subst hy
    exact fun e => hnm (e ▸ hx)
end
end Go.Proofs.Ytpfkpmapimonbaa

/-! hdt.Graph.Drop: the walk. -/
namespace Go.Proofs.Ytpfkpmapimonbaa
open Go Go.V Go.RowKit
set_option linter.unusedVariables false
set_option linter.unusedSimpArgs false
set_option maxHeartbeats 8000000
set_option maxRecDepth 100000

section
variable {w w' W W' : World} {base g N len c : Nat} {U V : Nat → Prop} {T : Tp} {lv : List LV} {M : EMap} {deg : List Int} {F : Eds}
theorem HG.forest (h : HG W base g N len V T lv M deg) (hb : base ≤ W.heap.size) {k : Nat} {lk : LV} (hk : lv[k]? = some lk) {E' : Eds} (K : Kp W W' lk.S) (hF : FGx W' base lk.f lk.g N (extS lk.S W W') (len + 2 * E'.length) E') :
    ∃ lv', HG W' base g N len (extS V W W') T lv' M deg ∧ (∀ j, EL lv' j = if j = k then E' else EL lv j) ∧ (∀ j, TL lv' j = TL lv j) ∧ (∀ j, OL lv' j = OL lv j) ∧ Oth W W' lv lv' k ∧ lv'.length = lv.length ∧ Kp W W' V := by
  have hkl := (List.getElem?_eq_some_iff.1 hk).1
  have hel : lv[k] = lk := (List.getElem?_eq_some_iff.1 hk).2
  have hml := List.mem_of_getElem? hk
  have L' := (h.lev lk hml).forest K hF
  have fp : ∀ q, LV.Fp { lk with S := extS lk.S W W', E := E' } q → extS (lv[k]).Fp W W' q := fun q hq => by
    rw [hel]
    rcases hq with hq | hq | hq | hq
    · exact .inl (.inl hq)
    · exact hq.imp (fun e => .inr (.inl e)) id
    · exact .inl (.inr (.inr (.inl hq)))
    · exact .inl (.inr (.inr (.inr hq)))
  have hS : ∀ q, lk.S q → (lv[k]).Fp q := fun q hq => by rw [hel]; exact .inr (.inl hq)
  have h1 := h.lvl hb hkl K hS L' (by rw [hel]) fp
  have h2 := h.oth hkl K hS { lk with S := extS lk.S W W', E := E' }
  refine ⟨_, h1, fun j => EL_set hkl j, fun j => ?_, fun j => ?_, h2, by simp, K.mono fun q _ hq => h.inL lk hml q (.inr (.inl hq))⟩
  · rw [TL_set hkl]
    by_cases e : j = k
    · subst e; rw [if_pos rfl, TL_some hk]
    · rw [if_neg e]
  · rw [OL_set hkl]
    by_cases e : j = k
    · subst e; rw [if_pos rfl, OL_some hk]
    · rw [if_neg e]
/-- While a tree's edge is cut out of the levels: those below k are done. -/
structure CutI (W4 : World) (base g N len : Nat) (U : Nat → Prop) (T : Tp) (lv0 : List LV) (M : EMap) (deg : List Int) (e : Nat × Nat) (k : Nat) (W : World) (V : Nat → Prop) (lv : List LV) : Prop where
  hg : HG W base g N (len + 2) V T lv M deg
  old : ∀ (j : Nat) l, lv[j]? = some l → k ≤ j → FGx W base l.f l.g N l.S (len + 2 * l.E.length) l.E
  el : ∀ j, EL lv j = if j < k then (EL lv0 j).erase e else EL lv0 j
  tl : ∀ j, TL lv j = TL lv0 j
  ol : ∀ j, OL lv j = OL lv0 j
  ll : lv.length = lv0.length
  vu : ∀ q, V q → U q ∨ W4.heap.size ≤ q
  kp : Kp W4 W U
theorem CutI.step {W4 : World} {lv0 : List LV} {e : Nat × Nat} {k : Nat} (h : CutI W4 base g N len U T lv0 M deg e k W V lv) {l : LV} (hl : lv[k]? = some l) (he : e ∈ l.E) (K : Kp W W' l.S) (hF : FGx W' base l.f l.g N (extS l.S W W') (len + 2 * l.E.length) (l.E.erase e)) :
    ∃ lv', CutI W4 base g N len U T lv0 M deg e (k + 1) W' (extS V W W') lv' := by
  have hb : base ≤ W.heap.size := by have := h.hg.lt _ (h.hg.inT _ (.inl rfl)); omega
  have hlen : (l.E.erase e).length + 1 = l.E.length := by rw [List.length_erase_of_mem he]; have := List.length_pos_of_mem he; omega
  obtain ⟨lv', a1, a2, a3, a4, a5, a6, a7⟩ := h.hg.forest hb hl K (E' := l.E.erase e) (hF.more (by omega))
  have hel : EL lv0 k = l.E := by have := h.el k; rw [EL_some hl, if_neg (Nat.lt_irrefl _)] at this; exact this.symm
  refine ⟨lv', a1, fun j m hm hj => ?_, fun j => ?_, fun j => (a3 j).trans (h.tl j), fun j => (a4 j).trans (h.ol j), a6.trans h.ll, fun q hq => hq.elim (h.vu q) (fun e => .inr (Nat.le_trans h.kp.size e.1)), h.kp.then a7 (fun q hq e => (h.vu q e).elim id (fun e => by omega))⟩
  · have hjl : j < lv.length := by have := (List.getElem?_eq_some_iff.1 hm).1; omega
    obtain ⟨m0, hm0⟩ : ∃ m0, lv[j]? = some m0 := ⟨_, List.getElem?_eq_getElem hjl⟩
    obtain ⟨b1, b2⟩ := a5 j m0 hm0 (by omega)
    rw [b1] at hm; cases hm
    have hlk : l ∈ lv := List.mem_of_getElem? hl
    have hf := h.old j m hm0 (by omega)
    refine hf.kp K fun q hq hS => ?_
    have hd : j ≠ k := by omega
    have hkl := (List.getElem?_eq_some_iff.1 hl).1
    have e1 : lv[j] = m := (List.getElem?_eq_some_iff.1 hm0).2
    have e2 : lv[k] = l := (List.getElem?_eq_some_iff.1 hl).2
    have h' := List.pairwise_iff_getElem.1 h.hg.dis k j hkl hjl (by omega) q
    rw [e1, e2] at h'
    exact h' (.inr (.inl hS)) (.inr (.inl hq))
  · rw [a2, h.el]
    by_cases ej : j = k
    · subst ej; rw [if_pos rfl, if_pos (by omega), hel]
    · rw [if_neg ej]
      by_cases e2 : j < k
      · rw [if_pos e2, if_pos (by omega)]
      · rw [if_neg e2, if_neg (by omega)]
theorem hdrop_calls (h : HS w base g N c U F) (hs : Sm N c) {u v : Int} (hu : okI u) (hv : okI v) : Calls P 31 #[.pointer (some ⟨g, 0, none⟩), .int .i64 u, .int .i64 v] w fun ev w' => ev = .returned (.bool (decide ((0 ≤ u ∧ 0 ≤ v) ∧ pairE u.toNat v.toNat ∈ F))) ∧
    HS w' base g N (c + 1) (extS U w w') (if (0 ≤ u ∧ 0 ≤ v) ∧ pairE u.toNat v.toNat ∈ F then F.erase (pairE u.toNat v.toNat) else F) ∧ Kp w w' U := by
  have no : ∀ W, w.grownBy W none → ¬ ((0 ≤ u ∧ 0 ≤ v) ∧ pairE u.toNat v.toNat ∈ F) → Ending.returned (.bool false) = .returned (.bool (decide ((0 ≤ u ∧ 0 ≤ v) ∧ pairE u.toNat v.toNat ∈ F))) ∧ HS W base g N (c + 1) (extS U w W) (if (0 ≤ u ∧ 0 ≤ v) ∧ pairE u.toNat v.toNat ∈ F then F.erase (pairE u.toNat v.toNat) else F) ∧ Kp w W U := fun W hW hno => by
    rw [decide_eq_false hno, if_neg hno]
    exact ⟨rfl, h.ext hW, Kp.of_none hW⟩
  obtain ⟨s1, s2⟩ := hs
  have hb := h.base_le
  obtain ⟨⟨T, lv, M, deg, h1, h2, h3, h4, h5⟩, hnd⟩ := id h
  apply vc31; unfold VC31; try (conv => zeta)
  refine ⟨fun b W => b = (getK M (pk u v)).isSome ∧ w.grownBy W none, first_look (J := fun b W => b = (getK M (pk u v)).isSome ∧ w.grownBy W none) h1.hg hu hv (fun W hW => ⟨rfl, hW⟩), ?_⟩
  rintro b W ⟨hbk, gW⟩
  refine ⟨fun e => no W gW fun hc => ?_, fun e => ?_⟩
  · rw [hbk, (mem_key h2 h1).2 hc] at e; cases e
  have hsome : (getK M (pk u v)).isSome = true := by rw [← hbk]; cases b <;> simp_all
  clear hbk e
  have hyes := (mem_key h2 h1).1 hsome
  obtain ⟨s, hs⟩ := Option.isSome_iff_exists.1 hsome
  obtain ⟨a, b, rfl, rfl, ha, hb', hab, hpk⟩ := h1.inv.nat hs
  have ta : ((a : Int)).toNat = a := by omega
  have tb : ((b : Int)).toNat = b := by omega
  rw [decide_eq_true hyes, if_pos hyes, ta, tb]
  rw [ta, tb] at hyes
  obtain ⟨e, he⟩ : ∃ e, e = pairE a b := ⟨_, rfl⟩
  rw [← he] at hyes hpk ⊢
  have hmem : e ∈ F := hyes.2
  clear no hyes hsome
  obtain ⟨ℓ, hsl, hℓ⟩ := h1.lev _ _ hs
  obtain ⟨s, t⟩ := s
  simp only at hsl
  subst hsl
  have hW := h1.kept gW
  have hdn := h1.hg.dnE
  have hdl := h1.hg.dl
  have hbW := gW.size
  have hpe : ∀ x : Nat, ((e.1 : Int) = x ∨ (e.2 : Int) = x) ↔ (x = a ∨ x = b) := fun x => by rw [he]; unfold pairE; simp only; omega
  have dea := degE_erase hmem (a : Int)
  have deb := degE_erase hmem (b : Int)
  rw [if_pos ((hpe a).2 (.inl rfl))] at dea
  rw [if_pos ((hpe b).2 (.inr rfl))] at deb
  have da := h3 a ha
  have db := h3 b hb'
  have hFl := eds_small hnd h.rg
  have hFl2 : F.length ≤ 1000 * 1000 := Nat.le_trans hFl (Nat.mul_le_mul s1 s1)
  have dla := degE_le F (a : Int)
  have dlb := degE_le F (b : Int)
  refine ⟨_, rfl, _, _, _, by rw [add_blk]; exact blk_cell hW.hg.blk 4, ?_⟩
  obtain ⟨A, e1, e2, e3, e4, e5, e6⟩ := hW.hg.deg_put (by omega) (k := a) ha (degE F (a : Int) - 1 : Int)
  rw [da] at e2
  refine ⟨A, e1, by omega, by omega, (degE F (a : Int) : Int), e2, by simp only [InK]; omega, A, e1, by omega, by omega, e3, e4, ?_⟩
  obtain ⟨W3, hW3⟩ : ∃ W3, W3 = W.setCell (A.add a) (.int .i64 ((degE F (a : Int) : Int) - 1)) := ⟨_, rfl⟩
  rw [← hW3] at e5 e6 ⊢
  have se6 := e6.size
  refine ⟨_, rfl, _, _, _, by rw [add_blk]; exact blk_cell e5.blk 4, ?_⟩
  obtain ⟨A2, c1, c2, c3, c4, c5, c6⟩ := e5.deg_put (by omega) (k := b) hb' (degE F (b : Int) - 1 : Int)
  rw [List.getElem?_set_ne hab, db] at c2
  refine ⟨A2, c1, by omega, by omega, (degE F (b : Int) : Int), c2, by simp only [InK]; omega, A2, c1, by omega, by omega, c3, c4, ?_⟩
  obtain ⟨W4, hW4⟩ : ∃ W4, W4 = W3.setCell (A2.add b) (.int .i64 ((degE F (b : Int) : Int) - 1)) := ⟨_, rfl⟩
  rw [← hW4] at c5 c6 ⊢
  have sc6 := c6.size
  have KW4 : Kp w W4 U := (Kp.of_none gW).then (e6.then c6 fun q hq e => e.elim id (fun e => by omega)) (fun q _ e => e) (S' := U)
  have hdeg' : ∀ x, x < N → ((deg.set a ((degE F (a : Int) : Int) - 1)).set b ((degE F (b : Int) : Int) - 1))[x]? = some ((degE (F.erase e) (x : Int) : Nat) : Int) := fun x hx => by
    have hxl : x < deg.length := by omega
    have dx := h3 x hx
    have dex := degE_erase hmem (x : Int)
    rw [List.getElem?_set, List.getElem?_set]
    by_cases xb : b = x
    · subst xb
      rw [if_pos rfl, if_pos (by simpa using hxl)]; congr 1; omega
    · rw [if_neg xb]
      by_cases xa : a = x
      · subst xa
        rw [if_pos rfl, if_pos hxl]; congr 1; omega
      · rw [if_neg (fun h => by have := (hpe x).1 h; omega)] at dex
        rw [if_neg xa, dx, ← dex]; rfl
  obtain ⟨deg', hdd⟩ : ∃ deg', deg' = (deg.set a ((degE F (a : Int) : Int) - 1)).set b ((degE F (b : Int) : Int) - 1) := ⟨_, rfl⟩
  rw [← hdd] at c5 hdeg'
  have hg4 : HG W4 base g N (N + 2 * c) (extS U w W4) T lv M deg' := c5.wide (fun q hq => by
    rcases hq with (hq | hq) | hq
    · exact .inl hq
    · exact .inr ⟨by omega, by omega⟩
    · exact .inr ⟨by omega, hq.2⟩) (extS_lt hb h1.hg.lt KW4.size)
  clear e1 e2 e3 e4 e5 e6 c1 c2 c3 c4 c5 c6 hW4 hW3 da db dea deb dla dlb hdd se6 sc6
  have s04 := KW4.size
  -- the lot is lost
  refine (of_calls (a : Int) (b : Int)).mono fun ev w5 hh => ?_
  obtain ⟨rfl, g5⟩ := hh
  have sg5 := g5.size
  have hg5 := hg4.kept g5
  have K05 : Kp w w5 U := KW4.then (Kp.of_none (S := fun _ => False) g5) (fun _ _ e => e.elim)
  have hokp := okArc_pk (c := a) (d := b) (N := N) ha hb' (by omega)
  obtain ⟨l0, hl0⟩ : ∃ l0, lv[ℓ]? = some l0 := ⟨_, List.getElem?_eq_getElem hℓ⟩
  refine ⟨_, _, rfl, (lose_calls hg5 (by omega) hokp hs hℓ (by omega) (by omega) (by omega)).mono fun ev w6 hh => ?_⟩
  obtain ⟨rfl, hlo⟩ := hh
  obtain ⟨U4, hU4⟩ : ∃ U4, U4 = extS U w W4 := ⟨_, rfl⟩
  rw [← hU4] at hg4 hg5 hlo
  have st0 : StG w5 base g N (N + 2 * c) U4 deg' lv ℓ l0 w5 U4 T lv M l0 := ⟨hg5, fun q hq => .inl hq, h1.tr, h1.ot, h1.lev, Kp.refl _ _, hl0, SameL.refl _, Nat.le_refl _, by omega⟩
  obtain ⟨lv1, l1, st1, a1, a2, a3, a4, a5, a6, a7, a8⟩ := st0.lose hs hlo
  have sz6 := a7.size
  have gA := World.grownBy_alloc w6 (.cells #[.int .i64 0, .bool false] 77) none
  have bA := heap_alloc_new w6 (.cells #[.int .i64 0, .bool false] 77)
  have q1 := blk_set bA 0 (.int .i64 (ℓ : Int))
  have q2 := blk_set q1 1 (.bool t)
  have gS : w6.grownBy (((w6.alloc (.cells #[.int .i64 0, .bool false] 77)).setCell ⟨w6.heap.size, 0, none⟩ (.int .i64 (ℓ : Int))).setCell ⟨w6.heap.size, 1, none⟩ (.bool t)) none := (kset (kset (Kp.of_none (S := fun q => w6.heap.size ≤ q) gA) (Nat.le_refl _)) (Nat.le_refl _)).grown (fun q hq e => by omega)
  refine ⟨_, _, rfl, ⟨_, blk_cell bA 0⟩, blk_free bA 0, ⟨_, blk_cell q1 1⟩, blk_free q1 1, t, by rw [blk_cell q2 1]; rfl, ?_⟩
  obtain ⟨w7, hw7⟩ : ∃ w7, w7 = ((w6.alloc (.cells #[.int .i64 0, .bool false] 77)).setCell ⟨w6.heap.size, 0, none⟩ (.int .i64 (ℓ : Int))).setCell ⟨w6.heap.size, 1, none⟩ (.bool t) := ⟨_, rfl⟩
  rw [← hw7] at gS q2 ⊢
  have sz7 := gS.size
  have b7 : w6.heap.size < w7.heap.size := (Array.getElem?_eq_some_iff.1 q2).1
  have cell0 : w7.cell? ⟨w6.heap.size, 0, none⟩ = some (.int .i64 (ℓ : Int)) := by rw [blk_cell q2 0]; rfl
  have st7 := st1.kept gS
  have hF' : ∀ M' : EMap, (∀ q, (getK M' q).isSome = (getK (delK M (pk (a : Int) (b : Int))) q).isSome) → ∀ e', e' ∈ F.erase e ↔ ∃ s, getK M' (kI e') = some s := fun M' hM' e' => by
    rw [← Option.isSome_iff_exists, hM', getK_delF, hpk, hnd.mem_erase_iff, h2]
    by_cases ee : e' = e
    · subst ee; rw [updF_same]; simp
    · rw [updF_ne _ _ (fun h => ee (kI_inj h)), Option.isSome_iff_exists]
      exact ⟨fun h => h.2, fun h => ⟨ee, h⟩⟩
  have hndE := hnd.erase e
  have Vlt := st7.hg.lt
  refine ⟨fun ht => ?_, fun ht => ?_⟩
  · -- of no tree
    subst ht
    have K07 : Kp w w7 U := K05.then st7.kp fun q hq e => by
      rw [hU4] at e; exact e.elim id (fun e => by omega)
    refine ⟨rfl, ⟨⟨T, lv1, delK M (pk (a : Int) (b : Int)), deg', ⟨(st7.hg.more (by omega)).wide (fun q hq => ?_) (extS_lt hb h1.hg.lt K07.size), st7.tr, st7.ot, st7.lev, ?_⟩, hF' _ (fun _ => rfl), hdeg', by omega, by omega⟩, hndE⟩, K07⟩
    · rcases st7.vu q hq with e | e
      · rw [hU4] at e; exact e.imp id (fun e => ⟨e.1, by omega⟩)
      · exact .inr ⟨by omega, Vlt q hq |>.2⟩
    · rw [getK_delF, hpk, show EL lv1 = EL lv from funext a1]
      rw [hpk] at hs
      exact h1.inv.gone hs
  · have ht' : t = true := by cases t <;> simp_all
    subst ht'
    have hinE : ∀ k, k ≤ ℓ → e ∈ EL lv k := fun k hk => by
      rw [hpk] at hs
      exact (h1.inv.lv_tree hs).2 hk
    have hend : ∀ k, (EL lv k).Nodup := fun k => by
      unfold EL
      split
      · next l hl => exact (h1.hg.lev l (List.mem_of_getElem? hl)).fg.nodup
      · exact List.nodup_nil
    refine ⟨(ℓ : Int), cell0, by simp only [InK]; omega, ?_⟩
    have cut0 : CutI w5 base g N (N + 2 * c) U4 T lv1 (delK M (pk (a : Int) (b : Int))) deg' e 0 w7 (extS U4 w5 w6) lv1 := ⟨st7.hg.more (by omega), fun j l hl _ => (st7.hg.lev l (List.mem_of_getElem? hl)).fg, fun j => by rw [if_neg (Nat.not_lt_zero _)], fun j => rfl, fun j => rfl, rfl, st7.vu, st7.kp⟩
    have hU4l : ∀ q, U4 q → q < w5.heap.size := fun q hq => by have := (hg4.lt q hq).2; omega
    have hnV : ¬ extS U4 w5 w6 w6.heap.size := fun e => e.elim (fun e => by have := hU4l _ e; omega) (fun e => by omega)
    have fin : ∀ (W : World) (V : Nat → Prop) (T' : Tp) (lv' : List LV) (M' : EMap), MS W base g N (N + 2 * (c + 1)) V T' lv' M' deg' a b 0 → (∀ q, V q → U4 q ∨ w5.heap.size ≤ q) → Kp w5 W U4 → 0 < lv'.length → lv'.length ≤ lv.length + 1 → (∀ q, (getK M' q).isSome = (getK (delK M (pk (a : Int) (b : Int))) q).isSome) → HS W base g N (c + 1) (extS U w W) (F.erase e) ∧ Kp w W U := by
      intro W V T' lv' M' hm hvu hk hl0 hl1 hiss
      have K0 : Kp w W U := K05.then hk fun q hq e => by
        rw [hU4] at e; exact e.elim id (fun e => by omega)
      have hlt := hm.hg.lt
      refine ⟨⟨⟨T', lv', M', deg', ⟨hm.hg.wide (fun q hq => ?_) (extS_lt hb h1.hg.lt K0.size), hm.tr, hm.ot, hm.lev, hm.inv.zero 0 0⟩, hF' _ hiss, hdeg', hl0, by omega⟩, hndE⟩, K0⟩
      have hq2 := (hlt q hq).2
      rcases hvu q hq with e | e
      · rw [hU4] at e; exact e.imp id (fun e => ⟨e.1, by omega⟩)
      · exact .inr ⟨by omega, hq2⟩
    refine ⟨fun m i W => ∃ (k : Nat) (V : Nat → Prop) (lvx : List LV), i = (k : Int) ∧ k ≤ ℓ + 1 ∧ m = ℓ + 1 - k ∧ CutI w5 base g N (N + 2 * c) U4 T lv1 (delK M (pk (a : Int) (b : Int))) deg' e k W V lvx ∧ ¬ V w6.heap.size ∧ W.cell? ⟨w6.heap.size, 0, none⟩ = some (.int .i64 (ℓ : Int)) ∧ w6.heap.size < W.heap.size, ⟨_, 0, _, _, rfl, by omega, rfl, cut0, hnV, cell0, b7⟩, ?_⟩
    rintro m i W ⟨k, V, lvx, rfl, hk, rfl, hC, hnV, hcell, hsz⟩
    refine ⟨fun hlt => ?_, fun hge => ?_⟩
    · have hkl : k < lvx.length := by have := hC.ll; omega
      obtain ⟨l, hl⟩ : ∃ l, lvx[k]? = some l := ⟨_, List.getElem?_eq_getElem hkl⟩
      have hbW : base ≤ W.heap.size := by have := hC.kp.size; omega
      have hll := hC.ll
      have hL := hC.hg.lev l (List.mem_of_getElem? hl)
      refine (lat_old hC.hg hbW hl (by omega) (by omega) (by omega)).mono fun ev w8 hh => ?_
      obtain ⟨rfl, rfl⟩ := hh
      have hf := hC.old k l hl (Nat.le_refl _)
      have hsm := hf.small
      have hel : e ∈ l.E := by
        have := hC.el k
        rw [EL_some hl, if_neg (Nat.lt_irrefl _), a1] at this
        rw [this]; exact hinE k (by omega)
      refine ⟨_, rfl, _, rfl, _, blk_cell hL.blk 0, (xcut_calls hf hbW (by omega) (okI_nat (N := N) ha (by omega)) (okI_nat (N := N) hb' (by omega))).mono fun ev w9 hh => ?_⟩
      obtain ⟨r, rfl, f9, K9⟩ := hh
      rw [ta, tb, ← he, if_pos ⟨⟨by omega, by omega⟩, hel⟩] at f9
      obtain ⟨lv', hC'⟩ := hC.step hl hel K9 f9
      have s9 := K9.size
      refine ⟨r, rfl, by simp only [InK]; omega, ℓ + 1 - (k + 1), by omega, k + 1, _, lv', by omega, by omega, rfl, hC', fun hq => hq.elim hnV (fun e => by omega), ?_, by omega⟩
      rw [← hcell]
      unfold World.cell?
      rw [K9.block _ hsz fun hS => hnV (hC.hg.inL l (List.mem_of_getElem? hl) _ (.inr (.inl hS)))]
    · have hke : k = ℓ + 1 := by omega
      subst hke
      refine ⟨_, hcell, ?_⟩
      have hms : MS W base g N (N + 2 * (c + 1)) V T lvx (delK M (pk (a : Int) (b : Int))) deg' a b (ℓ + 1) := by
        refine ⟨hC.hg.more (by omega), ?_, ?_, ?_, ?_⟩
        · rw [show TL lvx = TL lv1 from funext hC.tl]; exact st7.tr
        · rw [show OL lvx = OL lv1 from funext hC.ol]; exact st7.ot
        · rw [hC.ll]; exact st7.lev
        · have hE : EL lvx = fun k => if k ≤ ℓ then (EL lv k).erase e else EL lv k := by
            funext k
            rw [hC.el, a1]
            by_cases hk : k ≤ ℓ
            · rw [if_pos (by omega), if_pos hk]
            · rw [if_neg (by omega), if_neg hk]
          rw [hE, getK_delF, hpk]
          rw [hpk] at hs
          have hcut := h1.inv.cut hs hend
          by_cases hlt : a < b
          · have e1 : e.1 = a := by rw [he]; unfold pairE; simp only; omega
            have e2 : e.2 = b := by rw [he]; unfold pairE; simp only; omega
            rw [e1, e2] at hcut; exact hcut
          · have e1 : e.1 = b := by rw [he]; unfold pairE; simp only; omega
            have e2 : e.2 = a := by rw [he]; unfold pairE; simp only; omega
            rw [e1, e2] at hcut; exact hcut.symm
      have hll := hC.ll
      refine ⟨fun m i W => ∃ (p : Nat) (V : Nat → Prop) (T' : Tp) (lv' : List LV) (M' : EMap), i = (p : Int) - 1 ∧ p ≤ ℓ + 1 ∧ p = m ∧ MS W base g N (N + 2 * (c + 1)) V T' lv' M' deg' a b p ∧ (∀ q, V q → U4 q ∨ w5.heap.size ≤ q) ∧ Kp w5 W U4 ∧ p ≤ lv'.length ∧ 0 < lv'.length ∧ lv'.length ≤ lv.length + 1 ∧ ∀ q, (getK M' q).isSome = (getK (delK M (pk (a : Int) (b : Int))) q).isSome, ⟨_, ℓ + 1, V, T, lvx, _, by omega, by omega, rfl, hms, hC.vu, hC.kp, by omega, by omega, by omega, fun _ => rfl⟩, ?_⟩
      clear hms hC hcell hsz hnV cut0
      rintro m i W ⟨p, V, T', lv', M', rfl, hp, rfl, hms, hvu, hkp, hpl, hl0, hl1, hiss⟩
      have hsW := hkp.size
      refine ⟨fun hge => ?_, fun hno => ?_⟩
      · obtain ⟨p, rfl⟩ : ∃ p', p = p' + 1 := ⟨p - 1, by omega⟩
        rw [show (((p + 1 : Nat) : Int) - 1) = (p : Int) by omega]
        refine (mend_calls hms (by omega) (by omega) ha hb' ⟨by omega, by omega, by omega, by omega⟩).mono fun ev w9 hh => ?_
        obtain ⟨r, rfl, T2, lv2, M2, m1, m2, m3, m4, m5⟩ := hh
        have hvu2 : ∀ q, extS V W w9 q → U4 q ∨ w5.heap.size ≤ q := fun q hq => hq.elim (hvu q) (fun e => .inr (by omega))
        have hkp2 : Kp w5 w9 U4 := hkp.then m2 (fun q hq e => (hvu q e).elim id (fun e => by omega))
        refine ⟨r, rfl, fun hr => ?_, fun hr => ?_⟩
        · rw [if_neg (by rw [hr]; simp)] at m1
          exact ⟨by simp only [InK]; omega, p, by omega, p, _, T2, lv2, M2, rfl, by omega, rfl, m1, hvu2, hkp2, by omega, by omega, by omega, fun q => (m5 q).trans (hiss q)⟩
        · have hr' : r = true := by cases r <;> simp_all
          rw [if_pos hr'] at m1
          exact ⟨rfl, fin w9 _ T2 lv2 M2 m1 hvu2 hkp2 (by omega) (by omega) (fun q => (m5 q).trans (hiss q))⟩
      · have hp0 : p = 0 := by omega
        subst hp0
        exact ⟨rfl, fin W _ T' lv' M' hms hvu hkp hl0 hl1 hiss⟩
end
end Go.Proofs.Ytpfkpmapimonbaa

/-! cmp.Or, cmp.Compare; the closure of hdt.Graph.Tree: the walks. -/
namespace Go.Proofs.Ytpfkpmapimonbaa
open Go Go.V Go.RowKit
set_option linter.unusedVariables false
set_option linter.unusedSimpArgs false
set_option maxHeartbeats 8000000
set_option maxRecDepth 100000

/-- A world that has grown, and has drawn. -/
def Gq (w w' : World) : Prop := w.grownBy w' none ∧ w.drawn ≤ w'.drawn
theorem Gq.refl (w : World) : Gq w w := ⟨grown_refl _ _, Nat.le_refl _⟩
theorem Gq.trans {w w' w'' : World} (h : Gq w w') (h' : Gq w' w'') : Gq w w'' := ⟨grown_trans h.1 h'.1, Nat.le_trans h.2 h'.2⟩
theorem Gq.alloc (w : World) (o : Obj) : Gq w (w.alloc o) := ⟨World.grownBy_alloc w o none, Nat.le_refl _⟩
theorem Gq.drew (w : World) : Gq w w.drew := ⟨grown_drew (grown_refl _ _), Nat.le_succ _⟩
theorem Gq.grow {w w' : World} (h : Gq w w') : ∃ q os, w' = Sort.grow (w.drewN q) os := by
  obtain ⟨⟨h1, h2, h3, h4, h5⟩, h6⟩ := h
  refine ⟨w'.drawn - w.drawn, w'.heap.extract w.heap.size w'.heap.size, ?_⟩
  have hh : w'.heap = w.heap ++ w'.heap.extract w.heap.size w'.heap.size := by
    apply Array.ext (by simp; omega)
    intro i hi1 hi2
    by_cases hi : i < w.heap.size
    · have := h5 i hi (by simp)
      rw [Array.getElem_append_left hi]
      rw [Array.getElem?_eq_getElem hi1, Array.getElem?_eq_getElem hi] at this
      exact Option.some.inj this
    · rw [Array.getElem_append_right (by omega)]
      simp only [Array.getElem_extract]
      congr 1; omega
  have hd : w'.drawn = w.drawn + (w'.drawn - w.drawn) := by omega
  obtain ⟨a, b, c, d, e⟩ := w'
  simp only at h1 h2 h3 hh hd
  unfold Sort.grow World.drewN
  rw [h1, h2, h3]
  simp only [World.mk.injEq, and_true]
  exact ⟨hh, trivial, hd⟩
def cmpZ (x y : Int) : Int := if x < y then -1 else if x > y then 1 else 0
def orZ (x y : Int) : Int := if x ≠ 0 then x else y
theorem isNaNZ_calls {x : Int} {w : World} {R : Ending → World → Prop} (h : R (.returned (.bool false)) w) : Calls P 83 #[.int .i64 x] w R := by
  apply vc83; unfold VC83; simpa using h
theorem compareZ_calls {x y : Int} {w : World} : Calls P 70 #[.int .i64 x, .int .i64 y] w fun ev w' => ev = .returned (.int .i64 (cmpZ x y)) ∧ w' = w := by
  apply vc70; unfold VC70; try (conv => zeta)
  refine isNaNZ_calls ⟨false, rfl, isNaNZ_calls ⟨false, rfl, by simp, fun _ => ⟨by simp, fun _ => ⟨fun h => ⟨?_, rfl⟩, fun h => ⟨fun h' => ⟨?_, rfl⟩, fun h' => ⟨?_, rfl⟩⟩⟩⟩⟩⟩ <;> unfold cmpZ
  · rw [if_pos h]
  · rw [if_neg h, if_pos h']
  · rw [if_neg h, if_neg h']
theorem orZ_calls {w : World} {A : Option Addr} {c : Nat} {x y : Int} (hr : Row w A [.int .i64 x, .int .i64 y]) : Calls P 69 #[.slice A 2 c] w fun ev w' => ev = .returned (.int .i64 (orZ x y)) ∧ w' = w := by
  apply vc69; unfold VC69; try (conv => zeta)
  simp only [InK]
  refine ⟨fun m i w' => ∃ p : Nat, i = (p : Int) ∧ p ≤ 2 ∧ m = 2 - p ∧ w' = w ∧ (0 < p → x = 0) ∧ (1 < p → y = 0), ⟨_, 0, rfl, by omega, rfl, rfl, by omega, by omega⟩, ?_⟩
  rintro m i w1 ⟨p, rfl, hp, rfl, rfl, h0, h1⟩
  have tp : (p : Int).toNat = p := by omega
  rw [tp]
  refine ⟨fun hlt => ?_, fun hge => ?_⟩
  · match p, hp, hlt with
    | 0, _, _ =>
      obtain ⟨a, e1, e2⟩ := hr 0 (.int .i64 x) rfl
      refine ⟨a, e1, by omega, by omega, _, e2, fun hx => ⟨by unfold orZ; rw [if_pos hx], rfl⟩, fun hx => ⟨by omega, _, ?_, 1, rfl, by omega, rfl, rfl, fun _ => by omega, by omega⟩⟩
      omega
    | 1, _, _ =>
      obtain ⟨a, e1, e2⟩ := hr 1 (.int .i64 y) rfl
      refine ⟨a, e1, by omega, by omega, _, e2, fun hx => ⟨by unfold orZ; rw [if_neg (by have := h0 (by omega); omega)], rfl⟩, fun hx => ⟨by omega, _, ?_, 2, rfl, by omega, rfl, rfl, fun _ => h0 (by omega), fun _ => by omega⟩⟩
      omega
    | 2, _, h => omega
  · have : p = 2 := by omega
    subst this
    refine ⟨?_, rfl⟩
    have := h0 (by omega); have := h1 (by omega)
    unfold orZ
    rw [if_neg (by omega)]; congr 2; omega
def cmpP (a b : Nat × Nat) : Int := orZ (cmpZ a.1 b.1) (cmpZ a.2 b.2)
theorem tree1_calls (a b : Nat × Nat) (w : World) : Calls P 68 #[.agg #[.int .i64 (a.1 : Int), .int .i64 (a.2 : Int)], .agg #[.int .i64 (b.1 : Int), .int .i64 (b.2 : Int)]] w fun ev w' => ev = .returned (.int .i64 (cmpP a b)) ∧ ∃ q os, w' = Sort.grow (w.drewN q) os := by
  apply vc68; unfold VC68; try (conv => zeta)
  have gA := Gq.alloc w (.cells #[.int .i64 (a.1 : Int), .int .i64 (a.2 : Int)] 35)
  have bA := heap_alloc_new w (.cells #[.int .i64 (a.1 : Int), .int .i64 (a.2 : Int)] 35)
  obtain ⟨w1, hw1⟩ : ∃ w1, w1 = w.alloc (.cells #[.int .i64 (a.1 : Int), .int .i64 (a.2 : Int)] 35) := ⟨_, rfl⟩
  rw [← hw1] at gA bA ⊢
  have gB := Gq.alloc w1 (.cells #[.int .i64 (b.1 : Int), .int .i64 (b.2 : Int)] 35)
  have bB := heap_alloc_new w1 (.cells #[.int .i64 (b.1 : Int), .int .i64 (b.2 : Int)] 35)
  obtain ⟨w2, hw2⟩ : ∃ w2, w2 = w1.alloc (.cells #[.int .i64 (b.1 : Int), .int .i64 (b.2 : Int)] 35) := ⟨_, rfl⟩
  rw [← hw2] at gB bB ⊢
  have gC := Gq.drew w2
  have bA2 := blk_keep (blk_keep bA gB.1) gC.1
  have bB2 := blk_keep bB gC.1
  obtain ⟨w3, hw3⟩ : ∃ w3, w3 = w2.drew := ⟨_, rfl⟩
  rw [← hw3] at gC bA2 bB2 ⊢
  refine ⟨fun W => Gq w3 W, Gq.refl _, ⟨by omega, by omega⟩, _, blk_cell bA2 0, ⟨by omega, by omega⟩, _, blk_cell bB2 0, compareZ_calls.mono fun ev w4 hh => ?_⟩
  obtain ⟨rfl, rfl⟩ := hh
  refine ⟨_, rfl, Gq.refl _, ⟨by omega, by omega⟩, _, fun W hW => blk_cell (blk_keep bA2 hW.1) 1, ⟨by omega, by omega⟩, _, fun W hW => blk_cell (blk_keep bB2 hW.1) 1, compareZ_calls.mono fun ev w5 hh => ?_⟩
  obtain ⟨rfl, rfl⟩ := hh
  have gD := Gq.alloc w5 (.cells #[.int .i64 (cmpZ a.1 b.1), .int .i64 (cmpZ a.2 b.2)] 3)
  have rD : Row (w5.alloc (.cells #[.int .i64 (cmpZ a.1 b.1), .int .i64 (cmpZ a.2 b.2)] 3)) (some ⟨w5.heap.size, 0, none⟩) [.int .i64 (cmpZ a.1 b.1), .int .i64 (cmpZ a.2 b.2)] := row_new w5 #[.int .i64 (cmpZ a.1 b.1), .int .i64 (cmpZ a.2 b.2)] 3
  refine ⟨_, rfl, Gq.refl _, gD, (orZ_calls rD).mono fun ev w6 hh => ?_⟩
  obtain ⟨rfl, rfl⟩ := hh
  exact ⟨_, rfl, gD, rfl, (gA.trans (gB.trans (gC.trans gD))).grow⟩
theorem cmpP_lt (a b : Nat × Nat) : cmpP a b < 0 ↔ a.1 < b.1 ∨ (a.1 = b.1 ∧ a.2 < b.2) := by
  unfold cmpP orZ cmpZ
  repeat' split
  all_goals omega
end Go.Proofs.Ytpfkpmapimonbaa
