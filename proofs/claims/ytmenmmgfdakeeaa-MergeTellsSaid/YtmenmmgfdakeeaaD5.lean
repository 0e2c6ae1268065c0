/- archipelagolaw5.counts: what it makes; bools unlike; what the laws share. -/
import Derived.Test.YtmenmmgfdakeeaaD4
namespace Go.Proofs.Ytmenmmgfdakeeaa
open Go Go.V Go.RowKit
set_option linter.unusedVariables false
set_option linter.unusedSimpArgs false
set_option maxHeartbeats 2000000
set_option maxRecDepth 100000

theorem append_int {w : World} {base : Nat} {A : Option Addr} {n c : Nat} {xs : List Int} {x : Int} (ho : Owned w base 3 A n c (ints xs)) (hn : n ≤ 2 ^ 30) (hb : base ≤ w.heap.size) :
    ∃ (A' : Option Addr) (n' c' : Nat) (w' : World), Sem.run P (Builtin.append_ #[22, 22] 22 #[.slice A n c, .slice (some ⟨w.heap.size, 0, none⟩) 1 1]) (w.alloc (.cells #[.int .i64 x] 3)) = .ok (.slice A' n' c') w' ∧
      Owned w' base 3 A' n' c' (ints (xs ++ [x])) ∧ w.grownBy w' (Value.slice A n c).ownBlock := by
  have g := World.grownBy_alloc w (.cells #[.int .i64 x] 3) none
  have b : (w.alloc (.cells #[.int .i64 x] 3)).cell? ⟨w.heap.size, 0, none⟩ = some (.int .i64 x) := by simp
  obtain ⟨A', n', c', w', h1, h2, h3⟩ := (ho.kept g).append1 (ty := 22) elemInt (by omega) (cc := 1) b rfl (by omega) (Nat.le_trans hb g.size)
  exact ⟨A', n', c', w', h1, by simpa [ints] using h2, grown_trans (grown_none g) h3⟩

abbrev u16s (xs : List Int) : List Value := xs.map (Value.int .u16)

def cnt5 (x : Int) : List Int := [x, x % 3, (x % 2) * 1000, 2 ^ (x % 40).toNat, x * x]
def cnt (k x : Int) : Int := (cnt5 x).getD ((k + x % 7) % 5).toNat 0
def countsL (k : Int) (l : List Int) : List Int := l.map (cnt k)

theorem pow_bound {t : Nat} (h : t ≤ 39) : (0 : Int) < 2 ^ t ∧ (2 : Int) ^ t ≤ 2 ^ 39 := by
  have := Nat.pow_le_pow_right (n := 2) (by omega) h
  obtain ⟨q, hq⟩ : ∃ q : Nat, q = 2 ^ t := ⟨_, rfl⟩
  have e1 : (2 : Int) ^ t = (q : Int) := by rw [hq]; simp
  have := Nat.two_pow_pos t
  rw [e1]; omega

theorem cnt5_bound {x : Int} (h : 0 ≤ x ∧ x ≤ 65535) : ∀ v ∈ cnt5 x, 0 ≤ v ∧ v ≤ 2 ^ 39 := by
  intro v hv
  have h1 := pow_bound (t := (x % 40).toNat) (by omega)
  have h2 : 0 ≤ x * x := Int.mul_nonneg h.1 h.1
  have h3 : x * x ≤ 65535 * 65535 := Int.mul_le_mul h.2 h.2 h.1 (by omega)
  simp only [cnt5, List.mem_cons, List.not_mem_nil, or_false] at hv
  rcases hv with e | e | e | e | e <;> subst e <;> omega

theorem cnt_bound {k x : Int} (h : 0 ≤ x ∧ x ≤ 65535) : 0 ≤ cnt k x ∧ cnt k x ≤ 2 ^ 39 := by
  have ht : ((k + x % 7) % 5).toNat < (cnt5 x).length := by simp [cnt5]; omega
  have : cnt k x = (cnt5 x)[((k + x % 7) % 5).toNat] := by simp [cnt, List.getD_eq_getElem?_getD, ht]
  rw [this]
  exact cnt5_bound h _ (List.getElem_mem ht)

theorem counts_bound {k : Int} {l : List Int} (h : ∀ x ∈ l, 0 ≤ x ∧ x ≤ 65535) : ∀ v ∈ countsL k l, 0 ≤ v ∧ v ≤ 2 ^ 39 := by
  intro v hv
  obtain ⟨x, hx, rfl⟩ := List.mem_map.1 hv
  exact cnt_bound (h x hx)

theorem counts_calls {w : World} {A : Option Addr} {n c : Nat} {l : List Int} {k : Int} (hrow : Row w A (u16s l)) (hn : n = l.length) (hb : ∀ x ∈ l, 0 ≤ x ∧ x ≤ 65535) (hk : 0 ≤ k ∧ k ≤ 255) (hbig : n ≤ 2 ^ 20) :
    Calls P 22 #[.slice A n c, .int .u8 k] w fun ev w' => ∃ (A' : Option Addr) (n' c' : Nat), ev = .returned (.slice A' n' c') ∧ Owned w' w.heap.size 3 A' n' c' (ints (countsL k l)) ∧ w.grownBy w' none := by
  apply vc22; unfold VC22
  simp only [InK]
  refine ⟨fun ms A' n' c' i w' => ∃ j : Nat, i = (j : Int) ∧ j ≤ l.length ∧ ms = l.length - j ∧ Owned w' w.heap.size 3 A' n' c' (ints (countsL k (l.take j))) ∧ w.grownBy w' none, ⟨_, 0, rfl, by omega, rfl, World.ownsRow_nil _ _ _ _, grown_refl _ _⟩, ?_⟩
  rintro ms A' n' c' i w' ⟨j, rfl, hj, rfl, ho, hg⟩
  have hn' : n' = j := by rw [ho.cases.1]; simp [ints, countsL]; omega
  refine ⟨fun hlt => ?_, fun hge => ?_⟩
  · have l1 : j < l.length := by omega
    obtain ⟨a, ha, _⟩ := hrow j (.int .u16 l[j]) (by simp [l1])
    have hrd : ∀ w2 : World, w.grownBy w2 none → w2.cell? (a.add (j : Int).toNat) = some (.int .u16 l[j]) := by
      intro w2 h
      obtain ⟨b', e1, e2⟩ := (hrow.kept_none h) j (.int .u16 l[j]) (by simp [l1])
      rw [ha] at e1; cases e1; exact e2
    have hx := hb l[j] (List.getElem_mem l1)
    have htake : countsL k (l.take (j + 1)) = countsL k (l.take j) ++ [cnt k l[j]] := by
      rw [List.take_succ_eq_append_getElem l1]; simp only [countsL, List.map_append, List.map_cons, List.map_nil]
    have hcnt : cnt k l[j] = (cnt5 l[j]).getD ((k + l[j] % 7) % 5).toNat 0 := rfl
    have hq := grown_drew hg
    have hrun : ∀ (x : Int), ∃ (A2 : Option Addr) (n2 c2 : Nat) (w2 : World), Sem.run P (Builtin.append_ #[22, 22] 22 #[.slice A' n' c', .slice (some ⟨((w'.drew).alloc (.cells #[.int .i64 l[j], .int .i64 (l[j] % 3), .int .i64 (l[j] % 2 * 1000), .int .i64 (2 ^ (l[j] % 40).toNat), .int .i64 (l[j] * l[j])] 3)).heap.size, 0, none⟩) 1 1])
        (((w'.drew).alloc (.cells #[.int .i64 l[j], .int .i64 (l[j] % 3), .int .i64 (l[j] % 2 * 1000), .int .i64 (2 ^ (l[j] % 40).toNat), .int .i64 (l[j] * l[j])] 3)).alloc (.cells #[.int .i64 x] 3)) = .ok (.slice A2 n2 c2) w2 ∧
        Owned w2 w.heap.size 3 A2 n2 c2 (ints (countsL k (l.take j) ++ [x])) ∧ w.grownBy w2 none := by
      intro x
      have g1 := grown_alloc hq (.cells #[.int .i64 l[j], .int .i64 (l[j] % 3), .int .i64 (l[j] % 2 * 1000), .int .i64 (2 ^ (l[j] % 40).toNat), .int .i64 (l[j] * l[j])] 3)
      have o1 := (ho.kept (grown_drew (grown_refl w' none))).kept (World.grownBy_alloc w'.drew (.cells #[.int .i64 l[j], .int .i64 (l[j] % 3), .int .i64 (l[j] % 2 * 1000), .int .i64 (2 ^ (l[j] % 40).toNat), .int .i64 (l[j] * l[j])] 3) none)
      obtain ⟨A2, n2, c2, w2, e1, e2, e3⟩ := append_int (x := x) o1 (by omega) g1.size
      exact ⟨A2, n2, c2, w2, e1, e2, grown_own g1 e3 o1.block_ge⟩
    have h1 := pow_bound (t := (l[j] % 40).toNat) (by omega)
    have h2 : 0 ≤ l[j] * l[j] := Int.mul_nonneg hx.1 hx.1
    have h3 : l[j] * l[j] ≤ 65535 * 65535 := Int.mul_le_mul hx.2 hx.2 hx.1 (by omega)
    have hmin : min (l[j] % 40).toNat 64 = (l[j] % 40).toNat := by omega
    have hcell : ∀ t : Nat, t < 5 → ((w'.drew).alloc (.cells #[.int .i64 l[j], .int .i64 (l[j] % 3), .int .i64 (l[j] % 2 * 1000), .int .i64 (2 ^ (l[j] % 40).toNat), .int .i64 (l[j] * l[j])] 3)).cell? ((⟨w'.drew.heap.size, 0, none⟩ : Addr).add t) = some (.int .i64 ((cnt5 l[j]).getD t 0)) := by
      intro t ht
      obtain ⟨b, e1, e2⟩ := row_alloc w'.drew #[.int .i64 l[j], .int .i64 (l[j] % 3), .int .i64 (l[j] % 2 * 1000), .int .i64 (2 ^ (l[j] % 40).toNat), .int .i64 (l[j] * l[j])] 3 t (.int .i64 ((cnt5 l[j]).getD t 0)) (by
        rcases t with _ | _ | _ | _ | _ | t <;> first | rfl | omega)
      cases e1
      exact e2
    generalize hz : (2 : Int) ^ (l[j] % 40).toNat = z at *
    generalize hzz : l[j] * l[j] = zz at *
    refine ⟨fun w2 => w.grownBy w2 none, hq, a, ha, by omega, by omega, l[j], hrd _ hq, by omega, a, ha, by omega, by omega, l[j], hrd _ hq, by omega, by omega, a, ha, by omega, by omega, l[j], hrd _ hq, by omega, by omega, by omega,
      a, ha, by omega, by omega, l[j], hrd _ hq, by omega, ?_⟩
    rw [hmin, Int.one_mul, hz]
    refine ⟨by omega, a, ha, by omega, by omega, l[j], hrd _ hq, by omega, a, ha, by omega, by omega, l[j], hrd _ hq, by omega, ?_⟩
    rw [hzz]
    refine ⟨by omega, grown_alloc hq _, by omega, a, ha, by omega, by omega, l[j], hrd, by omega, by omega, by omega, by omega, _, rfl, by omega, by omega, _, hcell _ (by omega), grown_alloc (grown_alloc hq _) _, ?_⟩
    obtain ⟨A2, n2, c2, w2, e1, e2, e3⟩ := hrun ((cnt5 l[j]).getD ((k + l[j] % 7) % 5).toNat 0)
    exact ⟨A2, n2, c2, w2, e1, e3, by omega, l.length - (j + 1), by omega, j + 1, by omega, by omega, rfl, by rw [htake, hcnt]; exact e2, e3⟩
  · have : j = l.length := by omega
    subst this
    rw [List.take_length] at ho
    exact ⟨A', n', c', rfl, ho, hg⟩

theorem run_neq (s t : Operand) (a b : Bool) (w : World) : Sem.run P (do eqGuard .neq 4 s t (.bool a) (.bool b); Go.binOp .neq 4 (.bool a) (.bool b) : Sem Value) w = .ok (.bool (a != b)) w := by
  cases a <;> cases b <;> kernel_rfl
end Go.Proofs.Ytmenmmgfdakeeaa
