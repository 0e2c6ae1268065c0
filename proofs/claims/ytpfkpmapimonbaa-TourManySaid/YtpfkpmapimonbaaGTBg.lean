/- Own texts, packed: Z10, Z11, Z12, Z13, Z14, Z15, Z16, Z17. -/
import Derived.Test.YtpfkpmapimonbaaGTAg
import Derived.Test.YtpfkpmapimonbaaGTXg
import Derived.Test.YtpfkpmapimonbaaGCg
import Derived.Laws.Small

/-! treap: size, set, root, free, join, split: the walks. -/
namespace Go.Proofs.Ytpfkpmapimonbaa
open Go Go.V Go.RowKit
set_option linter.unusedVariables false
set_option linter.unusedSimpArgs false
set_option maxHeartbeats 4000000
set_option maxRecDepth 100000

section
variable {w w' : World} {base g b n c : Nat} {L : List Nd} {seed : Int}
theorem AB.drew (h : AB w base g b n c L seed) : AB w.drew base g b n c L seed := h.kept (grown_drew (grown_refl w none))
theorem AB.sl (h : AB w base g b n c L seed) : w.cell? ⟨g, 0, none⟩ = some (.slice (some ⟨b, 0, none⟩) n c) := blk_cell h.1 0
def szAt (L : List Nd) (x s : Int) : Prop := (x = -1 ∧ s = 0) ∨ ∃ (k : Nat) (nd : Nd), x = k ∧ L[k]? = some nd ∧ nd.size = s
theorem Rep.szAt {t : Tr} (h : Rep L t) : szAt L t.idx ((t.ord.length : Nat) : Int) := by
  cases t with
  | nil => exact .inl ⟨rfl, rfl⟩
  | nd l x r =>
    obtain ⟨nd, h1, h2⟩ := h.size (x := x) rfl
    exact .inr ⟨x, nd, rfl, h1, h2⟩
theorem size_calls (h : AB w base g b n c L seed) {x s : Int} (hx : szAt L x s) : Calls P 75 #[.pointer (some ⟨g, 0, none⟩), .int .i64 x] w fun ev w' => ev = .returned (.int .i64 s) ∧ w' = w := by
  apply vc75; unfold VC75; try (conv => zeta)
  have hl := h.len
  rcases hx with ⟨rfl, rfl⟩ | ⟨k, nd, rfl, h1, h2⟩
  · exact ⟨fun _ => ⟨rfl, rfl⟩, fun h => absurd rfl h⟩
  · obtain ⟨hk, e⟩ := List.getElem?_eq_some_iff.1 h1
    refine ⟨fun h => by omega, fun _ => ⟨_, rfl, _, _, _, h.sl, _, rfl, by omega, by omega, s, ?_, rfl, rfl⟩⟩
    rw [show (k : Int).toNat = k by omega, add_add, add_blk, h.cell hk (by omega), e, ← h2]; rfl
/-- A node's parent written. -/
theorem AB.up (h : AB w base g b n c L seed) {y p : Int} (hy : 0 ≤ y) (hl : y < L.length) :
    (∃ uv_ : Value, w.cell? ⟨b, y.toNat * 5, none⟩ = some uv_) ∧ w.frozen? ⟨b, y.toNat * 5, none⟩ = false ∧ AB (w.setCell ⟨b, y.toNat * 5, none⟩ (.int .i64 p)) base g b n c (upTo L y p) seed ∧ Kp w (w.setCell ⟨b, y.toNat * 5, none⟩ (.int .i64 p)) (fun q => q = b) := by
  have hk : y.toNat < L.length := by omega
  have := h.put hk (j := 0) (by omega) (u := .int .i64 p) (e := { L[y.toNat] with up := p }) rfl
  have e : upTo L y p = L.set y.toNat { L[y.toNat] with up := p } := by unfold upTo; rw [if_neg (by omega), updN_set hk]
  rw [e]
  exact this
theorem set_calls (h : AB w base g b n c L seed) {x : Nat} (hx : x < L.length) {l r sl sr : Int} (hl : szAt L l sl) (hr : szAt L r sr) (bl : 0 ≤ sl ∧ sl ≤ 2 ^ 40) (br : 0 ≤ sr ∧ sr ≤ 2 ^ 40) :
    Calls P 84 #[.pointer (some ⟨g, 0, none⟩), .int .i64 x, .int .i64 l, .int .i64 r] w fun ev w' => ev = .returned (.int .i64 x) ∧ AB w' base g b n c (setL L x l r (sl + 1 + sr)) seed ∧ Kp w w' (fun q => q = b) := by
  apply vc84; unfold VC84; try (conv => zeta)
  simp only [InK]
  have hln := h.len
  have tx : (x : Int).toNat = x := by omega
  have vl : ∀ {y s : Int}, szAt L y s → y ≠ -1 → 0 ≤ y ∧ y < L.length := by
    rintro y s (⟨rfl, _⟩ | ⟨k, nd, rfl, h1, _⟩) hne
    · exact absurd rfl hne
    · have := (List.getElem?_eq_some_iff.1 h1).1; omega
  rw [tx]
  refine ⟨_, rfl, _, _, _, h.sl, _, rfl, by omega, by omega, (size_calls h hl).mono fun ev w1 hh => ?_⟩
  obtain ⟨rfl, rfl⟩ := hh
  refine ⟨sl, rfl, ⟨by omega, by omega⟩, (size_calls h hr).mono fun ev w2 hh => ?_⟩
  obtain ⟨rfl, rfl⟩ := hh
  simp only [add_add, add_blk]
  obtain ⟨p1, p2, p3, p4⟩ := h.put hx (j := 1) (by omega) (u := .int .i64 l) (e := { L[x] with left := l }) rfl
  have hx1 : x < (L.set x { L[x] with left := l }).length := by simpa using hx
  obtain ⟨q1, q2, q3, q4⟩ := p3.put hx1 (j := 2) (by omega) (u := .int .i64 r) (e := { L[x] with left := l, right := r }) (by simp [ndC])
  have hx2 : x < ((L.set x { L[x] with left := l }).set x { L[x] with left := l, right := r }).length := by simpa using hx
  obtain ⟨r1, r2, r3, r4⟩ := q3.put hx2 (j := 3) (by omega) (u := .int .i64 (sl + 1 + sr)) (e := { L[x] with left := l, right := r, size := sl + 1 + sr }) (by simp [ndC])
  rw [List.set_set, List.set_set, ← updN_set hx (fun n => { n with left := l, right := r, size := sl + 1 + sr })] at r3
  refine ⟨sr, rfl, ⟨by omega, by omega⟩, _, rfl, by rw [add_off]; exact p1, by rw [add_off]; exact p2, _, rfl, ?_⟩
  simp only [add_off]
  refine ⟨q1, q2, _, rfl, ?_⟩
  simp only [add_off]
  refine ⟨r1, r2, ?_⟩
  obtain ⟨L1, hL1⟩ : ∃ L1, L1 = updN L x (fun n => { n with left := l, right := r, size := sl + 1 + sr }) := ⟨_, rfl⟩
  have hl1 : L1.length = L.length := by rw [hL1]; exact updN_length _ _ _
  have hset : setL L x l r (sl + 1 + sr) = upTo (upTo L1 l x) r x := by rw [hL1]; rfl
  rw [hset]
  rw [← hL1] at r3
  have K3 : Kp w2 (((w2.setCell ⟨b, x * 5 + 1, none⟩ (.int .i64 l)).setCell ⟨b, x * 5 + 2, none⟩ (.int .i64 r)).setCell ⟨b, x * 5 + 3, none⟩ (.int .i64 (sl + 1 + sr))) (fun q => q = b) := (p4.then q4 (fun _ _ e => e)).then r4 (fun _ _ e => e)
  refine ⟨fun m i W => Kp w2 W (fun q => q = b) ∧ ((i = 0 ∧ m = 2 ∧ AB W base g b n c L1 seed) ∨ (i = 1 ∧ m = 1 ∧ AB W base g b n c (upTo L1 l x) seed) ∨ (i = 2 ∧ m = 0 ∧ AB W base g b n c (upTo (upTo L1 l x) r x) seed)), ⟨_, K3, .inl ⟨rfl, rfl, r3⟩⟩, ?_⟩
  rintro m i W ⟨KW, hW⟩
  refine ⟨fun h2 => ⟨by omega, fun h0 => ?_, fun h1 => ?_, trivial⟩, fun h2 => ?_⟩
  · subst h0
    have hA : AB W base g b n c L1 seed := by
      rcases hW with ⟨_, _, h⟩ | ⟨h, _⟩ | ⟨h, _⟩
      · exact h
      · omega
      · omega
    have hm : m = 2 := by
      rcases hW with ⟨_, h, _⟩ | ⟨h, _⟩ | ⟨h, _⟩ <;> omega
    refine ⟨fun hne => ?_, fun hne => ⟨by omega, 1, by omega, KW, .inr (.inl ⟨by omega, rfl, ?_⟩)⟩⟩
    · obtain ⟨v1, v2⟩ := vl hl hne
      obtain ⟨u1, u2, u3, u4⟩ := hA.up (p := x) v1 (by omega)
      refine ⟨_, rfl, _, _, _, hA.sl, _, rfl, by omega, by omega, ?_⟩
      simp only [add_blk]
      exact ⟨u1, u2, by omega, 1, by omega, KW.then u4 (fun _ _ e => e), .inr (.inl ⟨by omega, rfl, u3⟩)⟩
    · have : l = -1 := by omega
      unfold upTo; rw [if_pos this]; exact hA
  · subst h1
    have hA : AB W base g b n c (upTo L1 l x) seed := by
      rcases hW with ⟨h, _⟩ | ⟨_, _, h⟩ | ⟨h, _⟩
      · omega
      · exact h
      · omega
    have hm : m = 1 := by
      rcases hW with ⟨h, _⟩ | ⟨_, h, _⟩ | ⟨h, _⟩ <;> omega
    refine ⟨fun hne => ?_, fun hne => ⟨by omega, 0, by omega, KW, .inr (.inr ⟨by omega, rfl, ?_⟩)⟩⟩
    · obtain ⟨v1, v2⟩ := vl hr hne
      obtain ⟨u1, u2, u3, u4⟩ := hA.up (p := x) v1 (by rw [upTo_length]; omega)
      refine ⟨_, rfl, _, _, _, hA.sl, _, rfl, by omega, by omega, ?_⟩
      simp only [add_blk]
      exact ⟨u1, u2, by omega, 0, by omega, KW.then u4 (fun _ _ e => e), .inr (.inr ⟨by omega, rfl, u3⟩)⟩
    · have : r = -1 := by omega
      rw [show upTo (upTo L1 l x) r x = upTo L1 l x from if_pos this]; exact hA
  · rcases hW with ⟨h, _⟩ | ⟨h, _⟩ | ⟨_, _, h⟩
    · omega
    · omega
    · exact ⟨by trivial, h, KW⟩
theorem root_calls (h : AB w base g b n c L seed) {t : Tr} (ht : Rep L t) (hu : UpP L t (-1)) {x : Nat} (hx : x ∈ t.ord) :
    Calls P 72 #[.pointer (some ⟨g, 0, none⟩), .int .i64 x] w fun ev w' => ev = .returned (.int .i64 t.idx) ∧ w' = w := by
  apply vc72; unfold VC72; try (conv => zeta)
  have hln := h.len
  obtain ⟨l0, r0, s0⟩ := Sub.of_mem hx
  refine ⟨fun m i W => W = w ∧ ∃ (l r : Tr) (k : Nat), i = k ∧ Sub (.nd l k r) t ∧ m = t.ord.length - (Tr.nd l k r).ord.length, ⟨_, rfl, l0, r0, x, rfl, s0, rfl⟩, ?_⟩
  rintro m i W ⟨rfl, l, r, k, rfl, hs, rfl⟩
  have hk := (hs.rep ht).lt k (by simp [Tr.ord])
  have tk : (k : Int).toNat = k := by omega
  have cell : W.cell? ⟨b, k * 5, none⟩ = some (.int .i64 L[k].up) := by have := h.cell hk (j := 0) (by omega); exact this
  rw [tk]
  refine ⟨_, rfl, _, _, _, h.sl, _, rfl, by omega, by omega, L[k].up, by rw [add_blk]; exact cell, fun hne => ?_, fun hne => ?_⟩
  · refine ⟨_, rfl, _, _, _, h.sl, _, rfl, by omega, by omega, L[k].up, by rw [add_blk]; exact cell, ?_⟩
    rcases hs.above ht hu with ⟨_, hup⟩ | ⟨l', r', y, hs', hup, hc⟩
    · obtain ⟨nd, e1, e2⟩ := hup k rfl
      rw [List.getElem?_eq_getElem hk] at e1; cases e1
      exact absurd e2 hne
    · obtain ⟨nd, e1, e2⟩ := hup k rfl
      rw [List.getElem?_eq_getElem hk] at e1; cases e1
      have h1 := Tr.up_lt (l := l') (r := r') (y := y) hc
      have h2 := hs'.sub.length_le
      exact ⟨t.ord.length - (Tr.nd l' y r').ord.length, by omega, rfl, l', r', y, e2, hs', rfl⟩
  · rcases hs.above ht hu with ⟨e, _⟩ | ⟨l', r', y, hs', hup, hc⟩
    · exact ⟨by rw [← e]; rfl, rfl⟩
    · obtain ⟨nd, e1, e2⟩ := hup k rfl
      rw [List.getElem?_eq_getElem hk] at e1; cases e1
      omega
/-- Nodes made roots, one by one. -/
def freeL (L : List Nd) (l : List Int) : List Nd := l.foldl (fun L y => upTo L y (-1)) L
theorem freeL_length (L : List Nd) : ∀ (l : List Int), (freeL L l).length = L.length := by
  intro l
  induction l generalizing L with
  | nil => rfl
  | cons y l ih => show (freeL (upTo L y (-1)) l).length = _; rw [ih, upTo_length]
theorem free_calls (h : AB w base g b n c L seed) {A : Option Addr} {m k : Nat} {l : List Int} (hr : Row w A (l.map (Value.int .i64))) (hm : m = l.length) (hA : ∀ a, A = some a → a.block ≠ b) (hl : ∀ y ∈ l, y = -1 ∨ 0 ≤ y ∧ y < L.length) (hb : m ≤ 2 ^ 20) :
    Calls P 73 #[.pointer (some ⟨g, 0, none⟩), .slice A m k] w fun ev w' => ev = .returned (.tuple #[]) ∧ AB w' base g b n c (freeL L l) seed ∧ Kp w w' (fun q => q = b) := by
  apply vc73; unfold VC73; try (conv => zeta)
  simp only [InK]
  have hln := h.len
  refine ⟨fun q i W => ∃ p : Nat, i = p ∧ p ≤ l.length ∧ q = l.length - p ∧ AB W base g b n c (freeL L (l.take p)) seed ∧ Kp w W (fun q => q = b), ⟨_, 0, rfl, by omega, rfl, by simpa [freeL] using h, Kp.refl _ _⟩, ?_⟩
  rintro q i W ⟨p, rfl, hp, rfl, hW, KW⟩
  have tp : (p : Int).toNat = p := by omega
  rw [tp]
  refine ⟨fun hlt => ?_, fun hge => ?_⟩
  · have lp : p < l.length := by omega
    obtain ⟨a, e1, e2⟩ := (hr.kp KW (fun a ha _ => hA a ha)) p (.int .i64 l[p]) (by simp [lp])
    have hy := hl _ (List.getElem_mem lp)
    have hnext : freeL L (l.take (p + 1)) = upTo (freeL L (l.take p)) l[p] (-1) := by
      unfold freeL
      rw [List.take_add_one, List.getElem?_eq_getElem lp, Option.toList_some, List.foldl_append]; rfl
    refine ⟨a, e1, by omega, by omega, l[p], e2, fun hne => ?_, fun hne => ⟨by omega, l.length - (p + 1), by omega, p + 1, by omega, by omega, rfl, ?_, KW⟩⟩
    · obtain ⟨u1, u2, u3, u4⟩ := hW.up (y := l[p]) (p := -1) (by omega) (by rw [freeL_length]; omega)
      refine ⟨_, rfl, _, _, _, hW.sl, _, rfl, by omega, by omega, ?_⟩
      simp only [add_blk]
      exact ⟨u1, u2, by omega, l.length - (p + 1), by omega, p + 1, by omega, by omega, rfl, by rw [hnext]; exact u3, KW.then u4 (fun _ _ e => e)⟩
    · rw [hnext, show upTo (freeL L (l.take p)) l[p] (-1) = freeL L (l.take p) from if_pos (by omega)]; exact hW
  · have : p = l.length := by omega
    subst this
    rw [List.take_length] at hW
    exact ⟨by trivial, hW, KW⟩
end
end Go.Proofs.Ytpfkpmapimonbaa

/-! treap: join, split: the walks. -/
namespace Go.Proofs.Ytpfkpmapimonbaa
open Go Go.V Go.RowKit
set_option linter.unusedVariables false
set_option linter.unusedSimpArgs false
set_option maxHeartbeats 4000000
set_option maxRecDepth 100000

theorem nodup3 {l r q : List Nat} {x : Nat} (h : ((l ++ x :: r) ++ q).Nodup) : l.Nodup ∧ (r ++ q).Nodup ∧ x ∉ l ∧ x ∉ r ++ q ∧ ∀ k ∈ l, k ∉ r ++ q := by
  rw [List.append_assoc, List.nodup_append, List.cons_append, List.nodup_cons] at h
  exact ⟨h.1, h.2.1.2, fun hx => h.2.2 x hx x (by simp) rfl, h.2.1.1, fun k hk hk' => h.2.2 k hk k (List.mem_cons_of_mem _ hk') rfl⟩
theorem nodup3' {l r q : List Nat} {x : Nat} (h : (q ++ (l ++ x :: r)).Nodup) : r.Nodup ∧ (q ++ l).Nodup ∧ x ∉ r ∧ x ∉ q ++ l ∧ ∀ k ∈ r, k ∉ q ++ l := by
  rw [← List.append_assoc, List.nodup_append, List.nodup_cons] at h
  exact ⟨h.2.1.2, h.1, h.2.1.1, fun hx => h.2.2 x hx x (by simp) rfl, fun k hk hk' => h.2.2 k hk' k (by simp [hk]) rfl⟩
section
variable {base g b n c : Nat} {seed : Int}
theorem join_calls : ∀ (m : Nat) {w : World} {L : List Nd} {s t : Tr}, s.ord.length + t.ord.length ≤ m → m ≤ 2 ^ 30 → AB w base g b n c L seed → Rep L s → Rep L t → (s.ord ++ t.ord).Nodup →
    Calls P 74 #[.pointer (some ⟨g, 0, none⟩), .int .i64 s.idx, .int .i64 t.idx] w fun ev w' => ∃ (u : Tr) (L' : List Nd), ev = .returned (.int .i64 u.idx) ∧ AB w' base g b n c L' seed ∧ Rep L' u ∧ u.ord = s.ord ++ t.ord ∧ L'.length = L.length ∧ (∀ k, k ∉ s.ord → k ∉ t.ord → L'[k]? = L[k]?) ∧ Kp w w' (fun q => q = b) := by
  intro m
  induction m using Nat.strongRecOn with
  | _ m ih =>
  intro w L s t hm hb h hs ht hd
  apply vc74; unfold VC74; try (conv => zeta)
  have hln := h.len
  refine ⟨fun e => ⟨t, L, rfl, h, ht, by rw [Tr.idx_nil e]; rfl, rfl, fun _ _ _ => rfl, Kp.refl _ _⟩, fun hs1 => ⟨fun e => ⟨s, L, rfl, h, hs, by rw [Tr.idx_nil e]; simp [Tr.ord], rfl, fun _ _ _ => rfl, Kp.refl _ _⟩, fun ht1 => ?_⟩⟩
  obtain ⟨l, x, r, rfl⟩ : ∃ l x r, s = .nd l x r := by
    cases s with
    | nil => exact absurd rfl hs1
    | nd l x r => exact ⟨l, x, r, rfl⟩
  obtain ⟨l2, y, r2, rfl⟩ : ∃ l2 y r2, t = .nd l2 y r2 := by
    cases t with
    | nil => exact absurd rfl ht1
    | nd l x r => exact ⟨l, x, r, rfl⟩
  have hx := hs.lt x (by simp [Tr.ord])
  have hy := ht.lt y (by simp [Tr.ord])
  have tx : (x : Int).toNat = x := by omega
  have ty : (y : Int).toNat = y := by omega
  have h1 := h.drew
  have h2 := h1.drew
  have ox : (Tr.nd l x r).ord = l.ord ++ x :: r.ord := rfl
  have oy : (Tr.nd l2 y r2).ord = l2.ord ++ y :: r2.ord := rfl
  simp only [Tr.idx, tx, ty]
  simp only [ox, oy, List.length_append, List.length_cons] at hm
  refine ⟨_, rfl, _, _, _, h1.sl, _, rfl, by omega, by omega, L[x].rank, by rw [add_blk, add_off, h1.cell hx (by omega)]; rfl, _, rfl, _, _, _, h1.sl, _, rfl, by omega, by omega, L[y].rank, by rw [add_blk, add_off, h1.cell hy (by omega)]; rfl, fun hge => ?_, fun hlt => ?_⟩
  · obtain ⟨dl, drt, xl, xrt, lrt⟩ := nodup3 (l := l.ord) (x := x) (r := r.ord) (q := (Tr.nd l2 y r2).ord) hd
    obtain ⟨nd, e0, eL, eR, _⟩ := hs.node
    obtain ⟨_, e0'⟩ := List.getElem?_eq_some_iff.1 e0
    have hl := hs.2.2.2.1
    have hr := hs.2.2.2.2
    refine ⟨fun W => W.heap[g]? = some (.cells #[.slice (some ⟨b, 0, none⟩) n c, .int .u64 seed] 95 (0, 0)) ∧ W.cell? ⟨b, x * 5 + 1, none⟩ = some (.int .i64 l.idx), ⟨h2.1, by rw [h2.cell hx (by omega), e0', ← eL]; rfl⟩, _, rfl, _, _, _, fun W hW => blk_cell hW.1 0, _, rfl, by omega, by omega, l.idx, fun W hW => by rw [add_blk, add_off]; exact hW.2, _, rfl, _, _, _, h2.sl, _, rfl, by omega, by omega, r.idx, by rw [add_blk, add_off, h2.cell hx (by omega), e0', ← eR]; rfl, ?_⟩
    refine (ih (r.ord.length + (l2.ord.length + (r2.ord.length + 1))) (by omega) (s := r) (t := .nd l2 y r2) (by simp [Tr.ord]) (by omega) h2 hr ht drt).mono fun ev w1 hh => ?_
    obtain ⟨u, L1, rfl, a1, a2, a3, a4, a5, K1⟩ := hh
    have ux : x ∉ u.ord := by rw [a3]; exact xrt
    have keepX : L1[x]? = L[x]? := a5 x (fun h' => xrt (by simp [h'])) (fun h' => xrt (by simp [h']))
    have hx1 : x < L1.length := by rw [a4]; exact hx
    have eL1 : L1[x] = nd := by
      have := keepX; rw [e0, List.getElem?_eq_getElem hx1] at this; exact Option.some.inj this
    have hl1 : Rep L1 l := hl.same dl fun k hk => a5 k (fun h' => lrt k hk (by simp [h'])) (fun h' => lrt k hk (by simp [h']))
    have hdu : (Tr.nd l x u).ord.Nodup := by
      show (l.ord ++ x :: u.ord).Nodup
      rw [List.nodup_append, List.nodup_cons, a3]
      exact ⟨dl, ⟨xrt, drt⟩, fun p hp q hq e => by
        subst e
        rcases List.mem_cons.1 hq with h' | h'
        · subst h'; exact xl hp
        · exact lrt p hp h'⟩
    have bl : l.ord.length ≤ 2 ^ 30 := by omega
    have bu : u.ord.length ≤ 2 ^ 30 := by rw [a3]; simp [Tr.ord]; omega
    refine ⟨_, rfl, ⟨a1.1, by rw [a1.cell hx1 (by omega), eL1, ← eL]; rfl⟩, (set_calls a1 hx1 hl1.szAt a2.szAt (by omega) (by omega)).mono fun ev w2 hh => ?_⟩
    obtain ⟨rfl, c1, K2⟩ := hh
    have hset := setL_rep hx1 hl1 a2 hdu
    rw [show ((l.ord.length + 1 + u.ord.length : Nat) : Int) = (l.ord.length : Int) + 1 + (u.ord.length : Int) by omega] at hset
    obtain ⟨nd2, f0, fL, _, _⟩ := hset.node
    obtain ⟨hx2, f0'⟩ := List.getElem?_eq_some_iff.1 f0
    refine ⟨_, rfl, ⟨c1.1, by rw [c1.cell hx2 (by omega), f0', ← fL]; rfl⟩, .nd l x u, _, rfl, c1, hset, by simp [Tr.ord, a3], by rw [setL_length, a4], fun k k1 k2 => ?_, ?_⟩
    · simp only [ox, List.mem_append, List.mem_cons, not_or] at k1
      have ku : k ∉ u.ord := by rw [a3]; simp only [List.mem_append, not_or]; exact ⟨k1.2.2, k2⟩
      rw [setL_far k1.2.1 k1.1 ku, a5 k k1.2.2 k2]
    · exact (K1.drewL.drewL).then K2 (fun _ _ e => e)
  · obtain ⟨dr, dsl, yr, ysl, rsl⟩ := nodup3' (l := l2.ord) (x := y) (r := r2.ord) (q := (Tr.nd l x r).ord) hd
    obtain ⟨nd, e0, eL, eR, _⟩ := ht.node
    obtain ⟨_, e0'⟩ := List.getElem?_eq_some_iff.1 e0
    have hl := ht.2.2.2.1
    have hr := ht.2.2.2.2
    refine ⟨fun W => W.heap[g]? = some (.cells #[.slice (some ⟨b, 0, none⟩) n c, .int .u64 seed] 95 (0, 0)) ∧ W.cell? ⟨b, y * 5 + 2, none⟩ = some (.int .i64 r2.idx), ⟨h2.1, by rw [h2.cell hy (by omega), e0', ← eR]; rfl⟩, _, rfl, _, _, _, h2.sl, _, rfl, by omega, by omega, l2.idx, by rw [add_blk, add_off, h2.cell hy (by omega), e0', ← eL]; rfl, ?_⟩
    refine (ih (l.ord.length + (r.ord.length + 1) + l2.ord.length) (by omega) (s := .nd l x r) (t := l2) (by simp [Tr.ord]) (by omega) h2 hs hl dsl).mono fun ev w1 hh => ?_
    obtain ⟨u, L1, rfl, a1, a2, a3, a4, a5, K1⟩ := hh
    have uy : y ∉ u.ord := by rw [a3]; exact ysl
    have keepY : L1[y]? = L[y]? := a5 y (fun h' => ysl (by simp [h'])) (fun h' => ysl (by simp [h']))
    have hy1 : y < L1.length := by rw [a4]; exact hy
    have eL1 : L1[y] = nd := by
      have := keepY; rw [e0, List.getElem?_eq_getElem hy1] at this; exact Option.some.inj this
    have hr1 : Rep L1 r2 := hr.same dr fun k hk => a5 k (fun h' => rsl k hk (by simp [h'])) (fun h' => rsl k hk (by simp [h']))
    have hdu : (Tr.nd u y r2).ord.Nodup := by
      show (u.ord ++ y :: r2.ord).Nodup
      rw [List.nodup_append, List.nodup_cons, a3]
      exact ⟨dsl, ⟨yr, dr⟩, fun p hp q hq e => by
        subst e
        rcases List.mem_cons.1 hq with h' | h'
        · subst h'; exact ysl hp
        · exact rsl p h' hp⟩
    have bl : r2.ord.length ≤ 2 ^ 30 := by omega
    have bu : u.ord.length ≤ 2 ^ 30 := by rw [a3]; simp [Tr.ord]; omega
    have cR : ∀ (W : World) (LL : List Nd), AB W base g b n c LL seed → (hyy : y < LL.length) → LL[y].right = r2.idx → W.cell? ⟨b, y * 5 + 2, none⟩ = some (.int .i64 r2.idx) := fun W LL hW hyy e => by rw [hW.cell hyy (by omega), ← e]; rfl
    refine ⟨_, rfl, ⟨a1.1, cR _ _ a1 hy1 (by rw [eL1]; exact eR)⟩, _, rfl, _, _, _, fun W hW => blk_cell hW.1 0, _, rfl, by omega, by omega, r2.idx, fun W hW => by rw [add_blk, add_off]; exact hW.2, (set_calls a1 hy1 a2.szAt hr1.szAt (by omega) (by omega)).mono fun ev w2 hh => ?_⟩
    obtain ⟨rfl, c1, K2⟩ := hh
    have hset := setL_rep hy1 a2 hr1 hdu
    rw [show ((u.ord.length + 1 + r2.ord.length : Nat) : Int) = (u.ord.length : Int) + 1 + (r2.ord.length : Int) by omega] at hset
    obtain ⟨nd2, f0, _, fR, _⟩ := hset.node
    obtain ⟨hy2, f0'⟩ := List.getElem?_eq_some_iff.1 f0
    refine ⟨_, rfl, ⟨c1.1, cR _ _ c1 hy2 (by rw [f0']; exact fR)⟩, .nd u y r2, _, rfl, c1, hset, by simp [Tr.ord, a3], by rw [setL_length, a4], fun k k1 k2 => ?_, ?_⟩
    · simp only [oy, List.mem_append, List.mem_cons, not_or] at k2
      have ku : k ∉ u.ord := by rw [a3]; simp only [List.mem_append, not_or]; exact ⟨k1, k2.1⟩
      rw [setL_far k2.2.1 ku k2.2.2, a5 k k1 k2.1]
    · exact (K1.drewL.drewL).then K2 (fun _ _ e => e)
theorem split_calls : ∀ (m : Nat) {w : World} {L : List Nd} {t : Tr} {i : Nat}, t.ord.length ≤ m → m ≤ 2 ^ 30 → i ≤ 2 ^ 30 → AB w base g b n c L seed → Rep L t → t.ord.Nodup →
    Calls P 76 #[.pointer (some ⟨g, 0, none⟩), .int .i64 t.idx, .int .i64 i] w fun ev w' => ∃ (u v : Tr) (L' : List Nd), ev = .returned (.tuple #[.int .i64 u.idx, .int .i64 v.idx]) ∧ AB w' base g b n c L' seed ∧ Rep L' u ∧ Rep L' v ∧ u.ord = t.ord.take i ∧ v.ord = t.ord.drop i ∧ L'.length = L.length ∧ (∀ k, k ∉ t.ord → L'[k]? = L[k]?) ∧ Kp w w' (fun q => q = b) := by
  intro m
  induction m using Nat.strongRecOn with
  | _ m ih =>
  intro w L t i hm hb hi h ht hd
  apply vc76; unfold VC76; try (conv => zeta)
  simp only [InK]
  have hln := h.len
  refine ⟨fun e => ⟨.nil, .nil, L, rfl, h, trivial, trivial, by rw [Tr.idx_nil e]; simp [Tr.ord], by rw [Tr.idx_nil e]; simp [Tr.ord], rfl, fun _ _ => rfl, Kp.refl _ _⟩, fun ht1 => ?_⟩
  obtain ⟨l, x, r, rfl⟩ : ∃ l x r, t = .nd l x r := by
    cases t with
    | nil => exact absurd rfl ht1
    | nd l x r => exact ⟨l, x, r, rfl⟩
  have hx := ht.lt x (by simp [Tr.ord])
  have tx : (x : Int).toNat = x := by omega
  have h1 := h.drew
  have ox : (Tr.nd l x r).ord = l.ord ++ x :: r.ord := rfl
  simp only [Tr.idx, tx]
  simp only [ox, List.length_append, List.length_cons] at hm
  obtain ⟨nd, e0, eL, eR, _⟩ := ht.node
  obtain ⟨_, e0'⟩ := List.getElem?_eq_some_iff.1 e0
  have hl := ht.2.2.2.1
  have hr := ht.2.2.2.2
  have hd' := hd
  rw [ox, List.nodup_append, List.nodup_cons] at hd'
  obtain ⟨dl, ⟨xr, dr⟩, dlr⟩ := hd'
  have xl : x ∉ l.ord := fun h' => dlr x h' x (by simp) rfl
  have lr : ∀ k ∈ l.ord, k ∉ r.ord := fun k hk hk' => dlr k hk k (by simp [hk']) rfl
  refine ⟨_, rfl, _, _, _, h1.sl, _, rfl, by omega, by omega, l.idx, by rw [add_blk, add_off, h1.cell hx (by omega), e0', ← eL]; rfl, _, rfl, _, _, _, h1.sl, _, rfl, by omega, by omega, r.idx, by rw [add_blk, add_off, h1.cell hx (by omega), e0', ← eR]; rfl, (size_calls h1 hl.szAt).mono fun ev w1 hh => ?_⟩
  obtain ⟨rfl, rfl⟩ := hh
  refine ⟨_, rfl, fun hgt => ⟨by omega, by omega, ?_⟩, fun hle => ?_⟩
  · rw [show (i : Int) - (l.ord.length : Int) - 1 = ((i - l.ord.length - 1 : Nat) : Int) by omega]
    refine (ih r.ord.length (by omega) (t := r) (Nat.le_refl _) (by omega) (by omega) h1 hr dr).mono fun ev w2 hh => ?_
    obtain ⟨u, v, L1, rfl, a1, a2, a2', a3, a3', a4, a5, K1⟩ := hh
    have sub : ∀ k ∈ u.ord, k ∈ r.ord := fun k hk => by rw [a3] at hk; exact List.mem_of_mem_take hk
    have subv : ∀ k ∈ v.ord, k ∈ r.ord := fun k hk => by rw [a3'] at hk; exact List.mem_of_mem_drop hk
    have hx1 : x < L1.length := by rw [a4]; exact hx
    have hl1 : Rep L1 l := hl.same dl fun k hk => a5 k (lr k hk)
    have hdu : (Tr.nd l x u).ord.Nodup := by
      show (l.ord ++ x :: u.ord).Nodup
      rw [List.nodup_append, List.nodup_cons]
      refine ⟨dl, ⟨fun h' => xr (sub x h'), by rw [a3]; exact dr.sublist (List.take_sublist _ _)⟩, fun p hp q hq e => ?_⟩
      subst e
      rcases List.mem_cons.1 hq with h' | h'
      · subst h'; exact xl hp
      · exact lr p hp (sub p h')
    have bl : l.ord.length ≤ 2 ^ 30 := by omega
    have bu : u.ord.length ≤ 2 ^ 30 := by rw [a3, List.length_take]; omega
    refine ⟨_, _, rfl, (set_calls a1 hx1 hl1.szAt a2.szAt (by omega) (by omega)).mono fun ev w3 hh => ?_⟩
    obtain ⟨rfl, c1, K2⟩ := hh
    have hset := setL_rep hx1 hl1 a2 hdu
    rw [show ((l.ord.length + 1 + u.ord.length : Nat) : Int) = (l.ord.length : Int) + 1 + (u.ord.length : Int) by omega] at hset
    have dis : ∀ k ∈ v.ord, k ∉ u.ord := fun k hk hk' => by
      rw [a3] at hk'; rw [a3'] at hk
      have := dr
      rw [← List.take_append_drop (i - l.ord.length - 1) r.ord, List.nodup_append] at this
      exact this.2.2 k hk' k hk rfl
    refine ⟨_, rfl, .nd l x u, v, _, rfl, c1, hset, ?_, ?_, ?_, by rw [setL_length, a4], fun k hk => ?_, ?_⟩
    · exact a2'.same (by rw [a3']; exact dr.sublist (List.drop_sublist _ _)) fun k hk => setL_far (fun e => xr (by rw [← e]; exact subv k hk)) (fun h' => lr k h' (subv k hk)) (dis k hk)
    · show l.ord ++ x :: u.ord = (l.ord ++ x :: r.ord).take i
      rw [List.take_append, a3, List.take_of_length_le (l := l.ord) (i := i) (by omega), show i - l.ord.length = (i - l.ord.length - 1) + 1 by omega, List.take_succ_cons, Nat.add_sub_cancel]
    · show v.ord = (l.ord ++ x :: r.ord).drop i
      rw [List.drop_append, a3', List.drop_of_length_le (l := l.ord) (i := i) (by omega), show i - l.ord.length = (i - l.ord.length - 1) + 1 by omega, List.drop_succ_cons]; rfl
    · rw [ox] at hk
      simp only [List.mem_append, List.mem_cons, not_or] at hk
      rw [setL_far hk.2.1 hk.1 (fun h' => hk.2.2 (sub k h')), a5 k hk.2.2]
    · exact K1.drewL.then K2 (fun _ _ e => e)
  · refine (ih l.ord.length (by omega) (t := l) (i := i) (Nat.le_refl _) (by omega) (by omega) h1 hl dl).mono fun ev w2 hh => ?_
    obtain ⟨u, v, L1, rfl, a1, a2, a2', a3, a3', a4, a5, K1⟩ := hh
    have sub : ∀ k ∈ u.ord, k ∈ l.ord := fun k hk => by rw [a3] at hk; exact List.mem_of_mem_take hk
    have subv : ∀ k ∈ v.ord, k ∈ l.ord := fun k hk => by rw [a3'] at hk; exact List.mem_of_mem_drop hk
    have hx1 : x < L1.length := by rw [a4]; exact hx
    have hr1 : Rep L1 r := hr.same dr fun k hk => a5 k (fun h' => lr k h' hk)
    have hdu : (Tr.nd v x r).ord.Nodup := by
      show (v.ord ++ x :: r.ord).Nodup
      rw [List.nodup_append, List.nodup_cons]
      refine ⟨by rw [a3']; exact dl.sublist (List.drop_sublist _ _), ⟨xr, dr⟩, fun p hp q hq e => ?_⟩
      subst e
      rcases List.mem_cons.1 hq with h' | h'
      · subst h'; exact xl (subv p hp)
      · exact lr p (subv p hp) h'
    have bl : r.ord.length ≤ 2 ^ 30 := by omega
    have bu : v.ord.length ≤ 2 ^ 30 := by rw [a3', List.length_drop]; omega
    refine ⟨_, _, rfl, (set_calls a1 hx1 a2'.szAt hr1.szAt (by omega) (by omega)).mono fun ev w3 hh => ?_⟩
    obtain ⟨rfl, c1, K2⟩ := hh
    have hset := setL_rep hx1 a2' hr1 hdu
    rw [show ((v.ord.length + 1 + r.ord.length : Nat) : Int) = (v.ord.length : Int) + 1 + (r.ord.length : Int) by omega] at hset
    have dis : ∀ k ∈ u.ord, k ∉ v.ord := fun k hk hk' => by
      rw [a3] at hk; rw [a3'] at hk'
      have := dl
      rw [← List.take_append_drop i l.ord, List.nodup_append] at this
      exact this.2.2 k hk k hk' rfl
    refine ⟨_, rfl, u, .nd v x r, _, rfl, c1, ?_, hset, ?_, ?_, by rw [setL_length, a4], fun k hk => ?_, ?_⟩
    · exact a2.same (by rw [a3]; exact dl.sublist (List.take_sublist _ _)) fun k hk => setL_far (fun e => xl (by rw [← e]; exact sub k hk)) (dis k hk) (fun h' => lr k (sub k hk) h')
    · show u.ord = (l.ord ++ x :: r.ord).take i
      rw [List.take_append, a3, show i - l.ord.length = 0 by omega]; simp
    · show v.ord ++ x :: r.ord = (l.ord ++ x :: r.ord).drop i
      rw [List.drop_append, a3', show i - l.ord.length = 0 by omega]; simp
    · rw [ox] at hk
      simp only [List.mem_append, List.mem_cons, not_or] at hk
      rw [setL_far hk.2.1 (fun h' => hk.1 (subv k h')) hk.2.2, a5 k hk.1]
    · exact K1.drewL.then K2 (fun _ _ e => e)
end
end Go.Proofs.Ytpfkpmapimonbaa

/-! treap: has, Same, Len, Index, At, Join, Cut: the walks, by sequences. -/
namespace Go.Proofs.Ytpfkpmapimonbaa
open Go Go.V Go.RowKit
set_option linter.unusedVariables false
set_option linter.unusedSimpArgs false
set_option maxHeartbeats 4000000
set_option maxRecDepth 100000

/-- An arena in memory, empty or not. -/
structure AR (w : World) (base g : Nat) (A : Option Addr) (n c : Nat) (L : List Nd) (seed : Int) : Prop where
  blk : w.heap[g]? = some (.cells #[.slice A n c, .int .u64 seed] 95 (0, 0))
  own : OwnedK w base 98 5 A n c (nds L)
  ge : base ≤ g
section
variable {w w' : World} {base g n c : Nat} {A : Option Addr} {L : List Nd} {seed : Int} {σ : Nat → List Nat}
theorem AR.len (h : AR w base g A n c L seed) : n = L.length := by have := h.own.cases.1; rw [nds_length] at this; omega
theorem AR.kept (h : AR w base g A n c L seed) (hg : w.grownBy w' none) : AR w' base g A n c L seed := ⟨by rw [hg.block _ (Array.getElem?_eq_some_iff.1 h.blk).1 (by simp)]; exact h.blk, h.own.kept hg, h.ge⟩
theorem AR.kp {S : Nat → Prop} (h : AR w base g A n c L seed) (hk : Kp w w' S) (h1 : ¬ S g) (h2 : ∀ k, (Value.slice A n c).ownBlock = some k → ¬ S k) : AR w' base g A n c L seed :=
  ⟨by rw [hk.block _ (Array.getElem?_eq_some_iff.1 h.blk).1 h1]; exact h.blk, h.own.kp hk h2, h.ge⟩
theorem AR.ab (h : AR w base g A n c L seed) {x : Nat} (hx : x < L.length) : ∃ b, A = some ⟨b, 0, none⟩ ∧ AB w base g b n c L seed := by
  have hl := h.len
  obtain ⟨_, h2 | ⟨g', cur, rfl, _⟩⟩ := h.own.cases
  · omega
  · exact ⟨g', rfl, h.blk, h.own, h.ge⟩
theorem AB.ar {b : Nat} (h : AB w base g b n c L seed) : AR w base g (some ⟨b, 0, none⟩) n c L seed := ⟨h.1, h.2.1, h.2.2⟩
theorem has_calls21 (h : AR w base g A n c L seed) (x : Int) : Calls P 71 #[.pointer (some ⟨g, 0, none⟩), .int .i64 x] w fun ev w' => ev = .returned (.bool (decide (0 ≤ x ∧ x < (L.length : Int)))) ∧ w' = w := by
  apply vc71; unfold VC71; try (conv => zeta)
  have hl := h.len
  refine ⟨fun h0 => ⟨_, rfl, _, _, _, blk_cell h.blk 0, ?_, rfl⟩, fun h0 => ⟨?_, rfl⟩⟩
  · congr 2
    rw [hl]
    exact decide_eq_decide.2 ⟨fun h' => ⟨h0, h'⟩, fun h' => h'.2⟩
  · rw [decide_eq_false (by omega)]
theorem has_yes (h : AR w base g A n c L seed) {x : Nat} (hx : x < L.length) : Calls P 71 #[.pointer (some ⟨g, 0, none⟩), .int .i64 x] w fun ev w' => ev = .returned (.bool true) ∧ w' = w :=
  (has_calls21 h x).mono fun ev w' hh => by obtain ⟨rfl, rfl⟩ := hh; exact ⟨by rw [decide_eq_true (by omega)], rfl⟩
theorem Tr.same_idx {s t : Tr} {x : Nat} (h : s.idx = t.idx) (hx : x ∈ s.ord) : ∃ k, k ∈ s.ord ∧ k ∈ t.ord := by
  cases s with
  | nil => simp [Tr.ord] at hx
  | nd l y r => exact ⟨y, by simp [Tr.ord], Tr.idx_mem (t := t) (by rw [← h]; rfl)⟩
/-- Two nodes' roots. -/
theorem roots_calls (h : AR w base g A n c L seed) (hs : ArS L σ) {x y : Nat} (hx : x < L.length) (hy : y < L.length) : ∃ s t : Tr, Rep L s ∧ Rep L t ∧ UpP L s (-1) ∧ UpP L t (-1) ∧ s.ord = σ x ∧ t.ord = σ y ∧ (s.idx = t.idx ↔ σ x = σ y) ∧
    (∀ W, AR W base g A n c L seed → Calls P 72 #[.pointer (some ⟨g, 0, none⟩), .int .i64 x] W fun ev w' => ev = .returned (.int .i64 s.idx) ∧ w' = W) ∧
    (∀ W, AR W base g A n c L seed → Calls P 72 #[.pointer (some ⟨g, 0, none⟩), .int .i64 y] W fun ev w' => ev = .returned (.int .i64 t.idx) ∧ w' = W) := by
  obtain ⟨s, s1, s2, s3, s4, s5⟩ := hs.tree x hx
  have rc : ∀ (t : Tr) (z : Nat), Rep L t → UpP L t (-1) → z ∈ t.ord → ∀ W, AR W base g A n c L seed → Calls P 72 #[.pointer (some ⟨g, 0, none⟩), .int .i64 z] W fun ev w' => ev = .returned (.int .i64 t.idx) ∧ w' = W := by
    intro t z h1 h2 h3 W hW
    obtain ⟨b, rfl, hB⟩ := hW.ab (h1.lt z h3)
    exact root_calls hB h1 h2 h3
  by_cases e : σ x = σ y
  · have hys : y ∈ s.ord := by rw [s3, e]; exact hs.self hy
    exact ⟨s, s, s1, s1, s2, s2, s3, by rw [s3, e], ⟨fun _ => e, fun _ => rfl⟩, rc s x s1 s2 (by rw [s3]; exact s5), rc s y s1 s2 hys⟩
  · obtain ⟨t, t1, t2, t3, t4, t5⟩ := hs.tree y hy
    refine ⟨s, t, s1, t1, s2, t2, s3, t3, ⟨fun hi => ?_, fun hi => absurd hi e⟩, rc s x s1 s2 (by rw [s3]; exact s5), rc t y t1 t2 (by rw [t3]; exact t5)⟩
    obtain ⟨k, k1, k2⟩ := Tr.same_idx hi (by rw [s3]; exact s5)
    rw [s3] at k1; rw [t3] at k2
    exact hs.meet k1 k2
theorem same_calls (h : AR w base g A n c L seed) (hs : ArS L σ) {x y : Nat} (hx : x < L.length) (hy : y < L.length) : Calls P 45 #[.pointer (some ⟨g, 0, none⟩), .int .i64 x, .int .i64 y] w fun ev w' => ev = .returned (.bool (decide (σ x = σ y))) ∧ w' = w := by
  apply vc45; unfold VC45; try (conv => zeta)
  obtain ⟨s, t, _, _, _, _, _, _, hi, rx, ry⟩ := roots_calls h hs hx hy
  refine (has_yes h hx).mono fun ev w1 hh => ?_
  obtain ⟨rfl, rfl⟩ := hh
  refine ⟨true, rfl, fun _ => (has_yes h hy).mono fun ev w2 hh => ?_, fun h => by cases h⟩
  obtain ⟨rfl, rfl⟩ := hh
  refine ⟨true, rfl, fun _ => (rx _ h).mono fun ev w3 hh => ?_, fun h => by cases h⟩
  obtain ⟨rfl, rfl⟩ := hh
  refine ⟨_, rfl, (ry _ h).mono fun ev w4 hh => ?_⟩
  obtain ⟨rfl, rfl⟩ := hh
  exact ⟨_, rfl, by rw [decide_eq_decide.2 hi], rfl⟩
theorem len_calls21 (h : AR w base g A n c L seed) (hs : ArS L σ) {x : Nat} (hx : x < L.length) : Calls P 54 #[.pointer (some ⟨g, 0, none⟩), .int .i64 x] w fun ev w' => ev = .returned (.int .i64 ((σ x).length : Int)) ∧ w' = w := by
  apply vc54; unfold VC54; try (conv => zeta)
  obtain ⟨s, t, s1, _, _, _, s3, _, hi, rx, ry⟩ := roots_calls h hs hx hx
  refine (has_yes h hx).mono fun ev w1 hh => ?_
  obtain ⟨rfl, rfl⟩ := hh
  refine ⟨true, rfl, fun h => (by cases h), fun _ => (rx _ h).mono fun ev w2 hh => ?_⟩
  obtain ⟨rfl, rfl⟩ := hh
  obtain ⟨b, rfl, hB⟩ := h.ab hx
  refine ⟨_, rfl, (size_calls hB s1.szAt).mono fun ev w3 hh => ?_⟩
  obtain ⟨rfl, rfl⟩ := hh
  exact ⟨_, rfl, by rw [s3], rfl⟩
theorem join_calls21 (h : AR w base g A n c L seed) (hs : ArS L σ) (hL : L.length ≤ 2 ^ 20) {x y : Nat} (hx : x < L.length) (hy : y < L.length) : Calls P 47 #[.pointer (some ⟨g, 0, none⟩), .int .i64 x, .int .i64 y] w fun ev w' => ev = .returned (.bool (decide (σ x ≠ σ y))) ∧ ∃ L', L'.length = L.length ∧ AR w' base g A n c L' seed ∧ ArS L' (if σ x = σ y then σ else joinS σ x y) ∧ Kp w w' (fun q => some q = (Value.slice A n c).ownBlock) := by
  apply vc47; unfold VC47; try (conv => zeta)
  obtain ⟨s, t, s1, t1, s2, t2, s3, t3, hi, rx, ry⟩ := roots_calls h hs hx hy
  refine (has_yes h hx).mono fun ev w1 hh => ?_
  obtain ⟨rfl, rfl⟩ := hh
  refine ⟨true, rfl, fun h => (by cases h), fun _ => (has_yes h hy).mono fun ev w2 hh => ?_⟩
  obtain ⟨rfl, rfl⟩ := hh
  refine ⟨true, rfl, fun h => (by cases h), fun _ => (rx _ h).mono fun ev w3 hh => ?_⟩
  obtain ⟨rfl, rfl⟩ := hh
  refine ⟨_, rfl, (ry _ h).mono fun ev w4 hh => ?_⟩
  obtain ⟨rfl, rfl⟩ := hh
  refine ⟨_, rfl, fun e => ?_, fun ne => (rx _ h).mono fun ev w5 hh => ?_⟩
  · have := hi.1 e
    exact ⟨by rw [decide_eq_false (fun h' => h' this)], L, rfl, h, by rw [if_pos this]; exact hs, Kp.refl _ _⟩
  obtain ⟨rfl, rfl⟩ := hh
  have hne : σ x ≠ σ y := fun e => ne (hi.2 e)
  refine ⟨_, rfl, (ry _ h).mono fun ev w6 hh => ?_⟩
  obtain ⟨rfl, rfl⟩ := hh
  obtain ⟨b, rfl, hB⟩ := h.ab hx
  have hd : (s.ord ++ t.ord).Nodup := by
    rw [s3, t3, List.nodup_append]
    exact ⟨hs.nodup x, hs.nodup y, fun a ha d hd e => by subst e; exact hs.apart hy hne a ha hd⟩
  have lx : (σ x).length ≤ L.length := by
    have h0 : ∀ l : List Nat, l.Nodup → (∀ a ∈ l, a < L.length) → l.length ≤ L.length := fun l hl ha => by
      have := len_sub (m := List.range L.length) hl (fun a h' => by simp [ha a h']); simpa using this
    exact h0 _ (hs.nodup x) fun a ha => (hs.lt ha).1
  have ly : (σ y).length ≤ L.length := by
    have := len_sub (m := List.range L.length) (hs.nodup y) (fun a h' => by simp [(hs.lt h').1]); simpa using this
  refine ⟨_, rfl, (join_calls (2 ^ 21) (s := s) (t := t) (by rw [s3, t3]; omega) (by omega) hB s1 t1 hd).mono fun ev w7 hh => ?_⟩
  obtain ⟨u, L1, rfl, a1, a2, a3, a4, a5, K1⟩ := hh
  refine ⟨_, rfl, ?_⟩
  have gA := World.grownBy_alloc w7 (.cells #[.int .i64 u.idx] 3) none
  have rA : Row (w7.alloc (.cells #[.int .i64 u.idx] 3)) (some ⟨w7.heap.size, 0, none⟩) ([u.idx].map (Value.int .i64)) := row_new w7 #[.int .i64 u.idx] 3
  have hu1 : u.idx = -1 ∨ 0 ≤ u.idx ∧ u.idx < (L1.length : Int) := by
    by_cases e : u.idx = -1
    · exact .inl e
    · right
      have := u.idx_ge
      have h' := a2.lt u.idx.toNat (Tr.idx_mem (t := u) (by omega))
      omega
  have hbl : b < w7.heap.size := by obtain ⟨_, cur, h1⟩ := a1.ge; exact (Array.getElem?_eq_some_iff.1 h1).1
  refine (free_calls (a1.kept gA) (m := 1) rA rfl (fun a e => by cases e; show w7.heap.size ≠ b; omega) (fun y hy => by simp at hy; rw [hy]; exact hu1) (by omega)).mono fun ev w8 hh => ?_
  obtain ⟨rfl, f1, K2⟩ := hh
  have hf : freeL L1 [u.idx] = upTo L1 u.idx (-1) := rfl
  rw [hf] at f1
  refine ⟨rfl, by rw [decide_eq_true hne], _, by rw [upTo_length, a4], f1.ar, ?_, ?_⟩
  · rw [if_neg hne]
    refine hs.join hx hy hne (upTo_rep u.idx_ge a2 (by rw [a3]; exact hd) (.inl rfl)) (upTo_up a2) (by rw [a3, s3, t3]) (by rw [upTo_length, a4]) fun k k1 k2 => ?_
    rw [upTo_get _ _ _ u.idx_ge, if_neg (fun e => ?_), a5 k (by rw [s3]; exact k1) (by rw [t3]; exact k2)]
    have := Tr.idx_mem (t := u) e.symm
    rw [a3, s3, t3, List.mem_append] at this
    exact this.elim k1 k2
  · exact ((K1.mono (fun k _ e => by show some k = some b; rw [e])).step gA (fun k hk => by cases hk)).then K2 (fun q _ e => by show some q = some b; rw [e])
end
end Go.Proofs.Ytpfkpmapimonbaa

/-! treap: Index, At, Cut: the walks, by sequences. -/
namespace Go.Proofs.Ytpfkpmapimonbaa
open Go Go.V Go.RowKit
set_option linter.unusedVariables false
set_option linter.unusedSimpArgs false
set_option maxHeartbeats 4000000
set_option maxRecDepth 100000

section
variable {w w' : World} {base g n c : Nat} {A : Option Addr} {L : List Nd} {seed : Int} {σ : Nat → List Nat}
theorem has_no (h : AR w base g A n c L seed) {x : Int} (hx : x < 0) : Calls P 71 #[.pointer (some ⟨g, 0, none⟩), .int .i64 x] w fun ev w' => ev = .returned (.bool false) ∧ w' = w :=
  (has_calls21 h x).mono fun ev w' hh => by obtain ⟨rfl, rfl⟩ := hh; exact ⟨by rw [decide_eq_false (by omega)], rfl⟩
theorem index_none (h : AR w base g A n c L seed) {x : Int} (hx : x < 0) : Calls P 49 #[.pointer (some ⟨g, 0, none⟩), .int .i64 x] w fun ev w' => ev = .returned (.int .i64 (-1)) ∧ w.grownBy w' none := by
  apply vc49; unfold VC49; try (conv => zeta)
  refine (has_no h hx).mono fun ev w1 hh => ?_
  obtain ⟨rfl, rfl⟩ := hh
  exact ⟨false, rfl, fun _ => ⟨rfl, grown_refl _ _⟩, fun h => absurd rfl h⟩
theorem ArS.short (hs : ArS L σ) (x : Nat) : (σ x).length ≤ L.length := by
  have := len_sub (m := List.range L.length) (hs.nodup x) (fun a h' => by simp [(hs.lt h').1]); simpa using this
theorem index_calls (h : AR w base g A n c L seed) (hs : ArS L σ) (hL : L.length ≤ 2 ^ 20) {x : Nat} (hx : x < L.length) {p q : List Nat} (hpq : σ x = p ++ x :: q) : Calls P 49 #[.pointer (some ⟨g, 0, none⟩), .int .i64 x] w fun ev w' => ev = .returned (.int .i64 (p.length : Int)) ∧ w.grownBy w' none := by
  apply vc49; unfold VC49; try (conv => zeta)
  simp only [InK]
  have hln := h.len
  refine (has_yes h hx).mono fun ev w1 hh => ?_
  obtain ⟨rfl, rfl⟩ := hh
  obtain ⟨b, rfl, hB⟩ := h.ab hx
  obtain ⟨t, ht, hu, ho, hd, hm⟩ := hs.tree x hx
  have hlen : t.ord.length ≤ 2 ^ 20 := by rw [ho]; have := hs.short x; omega
  obtain ⟨l0, r0, s0⟩ := Sub.of_mem (t := t) (by rw [ho]; exact hm)
  have tx : (x : Int).toNat = x := by omega
  obtain ⟨nd, e0, eL, eR, _⟩ := (s0.rep ht).node
  obtain ⟨_, e0'⟩ := List.getElem?_eq_some_iff.1 e0
  rw [tx]
  refine ⟨true, rfl, fun h => (by cases h), fun _ => ⟨_, rfl, _, _, _, hB.sl, _, rfl, by omega, by omega, l0.idx, by rw [add_blk, add_off, hB.cell hx (by omega), e0', ← eL]; rfl, (size_calls hB (s0.rep ht).2.2.2.1.szAt).mono fun ev w2 hh => ?_⟩⟩
  obtain ⟨rfl, rfl⟩ := hh
  refine ⟨_, rfl, _, rfl, _, _, _, hB.sl, _, rfl, by omega, by omega, nd.up, by rw [add_blk, ← Nat.add_zero (x * 5), hB.cell hx (by omega), e0']; rfl, ?_⟩
  refine ⟨fun m i k up W => w2.grownBy W none ∧ ∃ (l r : Tr) (y kk : Nat), i = y ∧ k = kk ∧ Sub (.nd l y r) t ∧ (Tr.nd l y r).ord[kk]? = some x ∧ (∃ nd, L[y]? = some nd ∧ nd.up = up) ∧ m = t.ord.length - (Tr.nd l y r).ord.length, ⟨_, grown_refl _ _, l0, r0, x, l0.ord.length, rfl, rfl, s0, Tr.at_mid, ⟨nd, e0, rfl⟩, rfl⟩, ?_⟩
  rintro m i k up W ⟨gW, l, r, y, kk, rfl, rfl, hsub, hat, ⟨nd', f0, rfl⟩, rfl⟩
  have hW := hB.kept gW
  have hkk : kk < t.ord.length := Nat.lt_of_lt_of_le (List.getElem?_eq_some_iff.1 hat).1 hsub.sub.length_le
  refine ⟨fun hne => ?_, fun hne => ?_⟩
  · rcases hsub.above ht hu with ⟨_, hup⟩ | ⟨l', r', z, hs', hup, hc⟩
    · obtain ⟨nd2, q1, q2⟩ := hup y rfl
      rw [f0] at q1; cases q1
      exact absurd q2 hne
    · obtain ⟨nd2, q1, q2⟩ := hup y rfl
      rw [f0] at q1; cases q1
      have hz := (hs'.rep ht).lt z (by simp [Tr.ord])
      obtain ⟨ndz, z0, zL, zR, _⟩ := (hs'.rep ht).node
      obtain ⟨_, z0'⟩ := List.getElem?_eq_some_iff.1 z0
      have hdz := hs'.nodup (by rw [ho]; exact hd)
      have h1 := Tr.up_lt (l := l') (r := r') (y := z) hc
      have h2 := hs'.sub.length_le
      have hord : (Tr.nd l' z r').ord.length = l'.ord.length + (r'.ord.length + 1) := by simp [Tr.ord]
      rw [q2]
      have tz : (z : Int).toNat = z := by omega
      rw [tz]
      refine ⟨_, rfl, _, _, _, hW.sl, _, rfl, by omega, by omega, r'.idx, by rw [add_blk, add_off, hW.cell hz (by omega), z0', ← zR]; rfl, fun he => ?_, fun he => ?_⟩
      · -- a right child
        have hr : Tr.nd l y r = r' := by
          rcases hc with e | e
          · have hi : l'.idx = (y : Int) := by rw [← e]; rfl
            exact absurd he (Tr.ne_child hdz hi)
          · exact e
        have hat2 : (Tr.nd l' z r').ord[l'.ord.length + 1 + kk]? = some x := Tr.at_right (by rw [← hr]; exact hat)
        refine ⟨_, rfl, _, _, _, hW.sl, _, rfl, by omega, by omega, l'.idx, by rw [add_blk, add_off, hW.cell hz (by omega), z0', ← zL]; rfl, (size_calls hW (hs'.rep ht).2.2.2.1.szAt).mono fun ev w3 hh => ?_⟩
        obtain ⟨rfl, rfl⟩ := hh
        have hWd := hW.drew
        refine ⟨_, rfl, ⟨by omega, by omega⟩, ⟨by omega, by omega⟩, _, rfl, _, _, _, hWd.sl, _, rfl, by omega, by omega, ndz.up, by rw [add_blk, ← Nat.add_zero (z * 5), hWd.cell hz (by omega), z0']; rfl, t.ord.length - (Tr.nd l' z r').ord.length, by omega, grown_drew gW, l', r', z, l'.ord.length + 1 + kk, rfl, by omega, hs', hat2, ⟨ndz, z0, rfl⟩, rfl⟩
      · -- a left child
        have hr : Tr.nd l y r = l' := by
          rcases hc with e | e
          · exact e
          · exact absurd (by rw [← e]; rfl) he
        have hat2 : (Tr.nd l' z r').ord[kk]? = some x := Tr.at_left (by rw [← hr]; exact hat)
        have hWd := hW.drew
        refine ⟨_, rfl, _, _, _, hWd.sl, _, rfl, by omega, by omega, ndz.up, by rw [add_blk, ← Nat.add_zero (z * 5), hWd.cell hz (by omega), z0']; rfl, t.ord.length - (Tr.nd l' z r').ord.length, by omega, grown_drew gW, l', r', z, kk, rfl, rfl, hs', hat2, ⟨ndz, z0, rfl⟩, rfl⟩
  · have htop : Tr.nd l y r = t := by
      rcases hsub.above ht hu with ⟨e, _⟩ | ⟨l', r', z, hs', hup, hc⟩
      · exact e
      · obtain ⟨nd2, q1, q2⟩ := hup y rfl
        rw [f0] at q1; cases q1
        omega
    rw [htop, ho] at hat
    have h1 := idxOf_at hd hat
    have h2 : (σ x)[p.length]? = some x := by rw [hpq, List.getElem?_append_right (Nat.le_refl _)]; simp
    have h3 := idxOf_at hd h2
    refine ⟨by rw [← h1, h3], gW⟩
theorem at_calls (h : AR w base g A n c L seed) (hs : ArS L σ) (hL : L.length ≤ 2 ^ 20) {x i : Nat} (hx : x < L.length) : Calls P 50 #[.pointer (some ⟨g, 0, none⟩), .int .i64 x, .int .i64 i] w fun ev w' => ev = .returned (.int .i64 (match (σ x)[i]? with | some y => (y : Int) | none => -1)) ∧ w' = w := by
  apply vc50; unfold VC50; try (conv => zeta)
  simp only [InK]
  have hln := h.len
  refine ⟨fun h0 => by omega, fun _ => (len_calls21 h hs hx).mono fun ev w1 hh => ?_⟩
  obtain ⟨rfl, rfl⟩ := hh
  refine ⟨_, rfl, fun hge => ?_, fun hlt => ?_⟩
  · rw [List.getElem?_eq_none (by omega)]; exact ⟨rfl, rfl⟩
  obtain ⟨s, t, s1, _, s2, _, s3, _, hi, rx, ry⟩ := roots_calls h hs hx hx
  refine (rx _ h).mono fun ev w2 hh => ?_
  obtain ⟨rfl, rfl⟩ := hh
  obtain ⟨b, rfl, hB⟩ := h.ab hx
  have hlen : s.ord.length ≤ 2 ^ 20 := by rw [s3]; have := hs.short x; omega
  have hil : i < s.ord.length := by rw [s3]; omega
  refine ⟨_, rfl, fun m k j W => W = w2 ∧ ∃ (u : Tr) (jj : Nat), k = u.idx ∧ j = jj ∧ Sub u s ∧ jj < u.ord.length ∧ u.ord[jj]? = (σ x)[i]? ∧ m = u.ord.length, ⟨_, rfl, s, i, rfl, rfl, .refl _, hil, by rw [s3], rfl⟩, ?_⟩
  rintro m k j W ⟨rfl, u, jj, rfl, rfl, hsub, hjj, hat, rfl⟩
  obtain ⟨l, y, r, rfl⟩ : ∃ l y r, u = .nd l y r := by
    cases u with
    | nil => simp [Tr.ord] at hjj
    | nd l y r => exact ⟨l, y, r, rfl⟩
  have hy := (hsub.rep s1).lt y (by simp [Tr.ord])
  obtain ⟨nd, e0, eL, eR, _⟩ := (hsub.rep s1).node
  obtain ⟨_, e0'⟩ := List.getElem?_eq_some_iff.1 e0
  have ty : (y : Int).toNat = y := by omega
  have hord : (Tr.nd l y r).ord = l.ord ++ y :: r.ord := rfl
  have hordl : (Tr.nd l y r).ord.length = l.ord.length + (r.ord.length + 1) := by simp [Tr.ord]
  have hul := hsub.sub.length_le
  simp only [Tr.idx, ty]
  refine ⟨_, rfl, _, _, _, hB.sl, _, rfl, by omega, by omega, l.idx, by rw [add_blk, add_off, hB.cell hy (by omega), e0', ← eL]; rfl, (size_calls hB (hsub.rep s1).2.2.2.1.szAt).mono fun ev w3 hh => ?_⟩
  obtain ⟨rfl, rfl⟩ := hh
  refine ⟨_, rfl, fun he => ?_, fun hne => ⟨fun hlt2 => ?_, fun hge2 => ?_⟩⟩
  · have : jj = l.ord.length := by omega
    rw [this, Tr.at_mid] at hat
    rw [← hat]; exact ⟨rfl, rfl⟩
  · refine ⟨_, rfl, _, _, _, hB.sl, _, rfl, by omega, by omega, l.idx, by rw [add_blk, add_off, hB.cell hy (by omega), e0', ← eL]; rfl, l.ord.length, by omega, rfl, l, jj, rfl, rfl, .left hsub, by omega, ?_, rfl⟩
    rw [← hat, hord, List.getElem?_append_left (by omega)]
  · refine ⟨_, rfl, _, _, _, hB.sl, _, rfl, by omega, by omega, r.idx, by rw [add_blk, add_off, hB.cell hy (by omega), e0', ← eR]; rfl, by omega, by omega, r.ord.length, by omega, rfl, r, jj - l.ord.length - 1, rfl, by omega, .right hsub, by omega, ?_, rfl⟩
    rw [← hat, hord, List.getElem?_append_right (by omega), show jj - l.ord.length = (jj - l.ord.length - 1) + 1 by omega, List.getElem?_cons_succ, Nat.add_sub_cancel]
theorem cut_none (h : AR w base g A n c L seed) {x : Int} (hx : x < 0) : Calls P 51 #[.pointer (some ⟨g, 0, none⟩), .int .i64 x] w fun ev w' => ev = .returned (.bool false) ∧ w.grownBy w' none := by
  apply vc51; unfold VC51; try (conv => zeta)
  refine (index_none h hx).mono fun ev w1 hh => ?_
  obtain ⟨rfl, g1⟩ := hh
  exact ⟨_, rfl, fun _ => ⟨rfl, g1⟩, fun h => by omega⟩
theorem cut_calls21 (h : AR w base g A n c L seed) (hs : ArS L σ) (hL : L.length ≤ 2 ^ 20) {x : Nat} (hx : x < L.length) {p q : List Nat} (hpq : σ x = p ++ x :: q) : Calls P 51 #[.pointer (some ⟨g, 0, none⟩), .int .i64 x] w fun ev w' => ev = .returned (.bool (decide (p ≠ []))) ∧ ∃ L', L'.length = L.length ∧ AR w' base g A n c L' seed ∧ ArS L' (if p = [] then σ else cutS σ p (x :: q)) ∧ Kp w w' (fun q => some q = (Value.slice A n c).ownBlock) := by
  apply vc51; unfold VC51; try (conv => zeta)
  refine (index_calls h hs hL hx hpq).mono fun ev w1 hh => ?_
  obtain ⟨rfl, g1⟩ := hh
  have h1 := h.kept g1
  refine ⟨_, rfl, fun h0 => ?_, fun h0 => ?_⟩
  · have : p = [] := List.eq_nil_of_length_eq_zero (by omega)
    exact ⟨by rw [decide_eq_false (fun h' => h' this)], L, rfl, h1, by rw [if_pos this]; exact hs, Kp.of_none g1⟩
  have hp : p ≠ [] := fun e => h0 (by rw [e]; simp)
  obtain ⟨s, t, s1, _, s2, _, s3, _, hi, rx, ry⟩ := roots_calls h1 hs hx hx
  refine (rx _ h1).mono fun ev w2 hh => ?_
  obtain ⟨rfl, rfl⟩ := hh
  obtain ⟨b, rfl, hB⟩ := h1.ab hx
  have hd : s.ord.Nodup := by rw [s3]; exact hs.nodup x
  have hsl := hs.short x
  have hpl : p.length ≤ 2 ^ 20 := by rw [hpq] at hsl; simp at hsl; omega
  refine ⟨_, rfl, (split_calls (2 ^ 20) (t := s) (i := p.length) (by rw [s3]; omega) (by omega) (by omega) hB s1 hd).mono fun ev w3 hh => ?_⟩
  obtain ⟨u, v, L1, rfl, a1, a2, a2', a3, a3', a4, a5, K1⟩ := hh
  rw [s3, hpq, List.take_left' rfl] at a3
  rw [s3, hpq, List.drop_left' rfl] at a3'
  refine ⟨_, _, rfl, ?_⟩
  have gA := World.grownBy_alloc w3 (.cells #[.int .i64 u.idx, .int .i64 v.idx] 3) none
  have rA : Row (w3.alloc (.cells #[.int .i64 u.idx, .int .i64 v.idx] 3)) (some ⟨w3.heap.size, 0, none⟩) ([u.idx, v.idx].map (Value.int .i64)) := row_new w3 #[.int .i64 u.idx, .int .i64 v.idx] 3
  have ok : ∀ z : Tr, Rep L1 z → z.idx = -1 ∨ 0 ≤ z.idx ∧ z.idx < (L1.length : Int) := by
    intro z hz
    by_cases e : z.idx = -1
    · exact .inl e
    · right
      have := z.idx_ge
      have h' := hz.lt z.idx.toNat (Tr.idx_mem (t := z) (by omega))
      omega
  have hbl : b < w3.heap.size := by obtain ⟨_, cur, h1⟩ := a1.ge; exact (Array.getElem?_eq_some_iff.1 h1).1
  refine (free_calls (a1.kept gA) (m := 2) rA rfl (fun a e => by cases e; show w3.heap.size ≠ b; omega) (fun y hy => by
    simp at hy
    rcases hy with rfl | rfl
    · exact ok u a2
    · exact ok v a2') (by omega)).mono fun ev w4 hh => ?_
  obtain ⟨rfl, f1, K2⟩ := hh
  have hf : freeL L1 [u.idx, v.idx] = upTo (upTo L1 u.idx (-1)) v.idx (-1) := rfl
  rw [hf] at f1
  have hdp := hs.nodup x
  rw [hpq, List.nodup_append] at hdp
  have dis : ∀ k ∈ u.ord, k ∉ v.ord := fun k h1 h2 => by rw [a3] at h1; rw [a3'] at h2; exact hdp.2.2 k h1 k h2 rfl
  have ud : u.ord.Nodup := by rw [a3]; exact hdp.1
  have vd : v.ord.Nodup := by rw [a3']; exact hdp.2.1
  have uv : ∀ k ∈ u.ord, (k : Int) ≠ v.idx := fun k hk e => dis k hk (Tr.idx_mem e.symm)
  have vu : ∀ k ∈ v.ord, (k : Int) ≠ u.idx := fun k hk e => dis k (Tr.idx_mem e.symm) hk
  have ru := upTo_rep (p := -1) u.idx_ge a2 ud (.inl rfl)
  have rv := upTo_rep (p := -1) u.idx_ge a2' vd (.inr vu)
  refine ⟨rfl, by rw [decide_eq_true hp], _, by rw [upTo_length, upTo_length, a4], f1.ar, ?_, ?_⟩
  · rw [if_neg hp]
    refine hs.cut hx hpq (upTo_rep v.idx_ge ru ud (.inr uv)) ((upTo_up a2).frame fun k hk n hn => ⟨n, by rw [upTo_get _ _ _ v.idx_ge, if_neg (uv k (Tr.idx_mem hk)), hn], rfl⟩) a3 (upTo_rep v.idx_ge rv vd (.inl rfl)) (upTo_up rv) a3' (by rw [upTo_length, upTo_length, a4]) fun k hk => ?_
    have hku : k ∉ u.ord := fun h' => hk (by rw [hpq, ← a3, ← a3']; simp [h'])
    have hkv : k ∉ v.ord := fun h' => hk (by rw [hpq, ← a3, ← a3']; simp [h'])
    rw [upTo_get _ _ _ v.idx_ge, if_neg (fun e => hkv (Tr.idx_mem e.symm)), upTo_get _ _ _ u.idx_ge, if_neg (fun e => hku (Tr.idx_mem e.symm)), a5 k (by rw [s3]; exact hk)]
  · exact (((Kp.of_none g1).then K1 (fun k _ e => by show some k = some b; rw [e])).step gA (fun k hk => by cases hk)).then K2 (fun q _ e => by show some q = some b; rw [e])
end
end Go.Proofs.Ytpfkpmapimonbaa

/-! treap: walk, List, New, Node: the walks. -/
namespace Go.Proofs.Ytpfkpmapimonbaa
open Go Go.V Go.RowKit
set_option linter.unusedVariables false
set_option linter.unusedSimpArgs false
set_option maxHeartbeats 4000000
set_option maxRecDepth 100000

abbrev i64s (xs : List Int) : List Value := xs.map (Value.int .i64)
theorem elemI : ElemK P 37 3 1 8 := ⟨(P.info? 3).getD default, .int .i64 0, by kernel_rfl, by kernel_rfl, by kernel_rfl, by kernel_rfl, by kernel_rfl, by kernel_rfl, by omega⟩
theorem append_i {w : World} {base : Nat} {A : Option Addr} {n c : Nat} {xs : List Int} {x : Int} {a : Addr} (ho : OwnedK w base 3 1 A n c (i64s xs)) (ha : w.cell? a = some (.int .i64 x)) (hn : n ≤ 2 ^ 39) (hb : base ≤ w.heap.size) :
    ∃ (A' : Option Addr) (n' c' : Nat) (w' : World), Sem.run P (Builtin.append_ #[37, 37] 37 #[.slice A n c, .slice (some a) 1 1]) w = .ok (.slice A' n' c') w' ∧
      OwnedK w' base 3 1 A' n' c' (i64s (xs ++ [x])) ∧ w.grownBy w' (Value.slice A n c).ownBlock ∧ n' = n + 1 ∧ (∀ k, (Value.slice A' n' c').ownBlock = some k → (Value.slice A n c).ownBlock = some k ∨ w.heap.size ≤ k) := by
  obtain ⟨A', n', c', w', h1, h2, h3, h4, h5⟩ := ho.appends (ty := 37) elemI (by omega) (a := a) (m := 1) (cc := 1) (us := i64s [x]) rfl (fun j u hj => by
    have hj0 : j = 0 := by have := (List.getElem?_eq_some_iff.1 hj).1; simpa using this
    subst hj0
    simp at hj
    rw [addr0, ha, ← hj]) (fun u hu => by simp at hu; rw [hu]; rfl) (by omega) hb
  refine ⟨A', n', c', w', h1, by simpa using h2, h4, h3, fun k hk => ?_⟩
  rcases h5 with h | h
  · left; rw [← h]; exact hk
  · right; rw [h] at hk; cases hk; exact Nat.le_refl _
theorem own_ne {W : World} {base b' s s' n n' c c' : Nat} {e t : TypeId} {A B : Option Addr} {xs ys : List Value} (h : OwnedK W base e s A n c xs) (h' : OwnedK W b' t s' B n' c' ys) (ne : e ≠ t) : ∀ k, (Value.slice A n c).ownBlock = some k → (Value.slice B n' c').ownBlock ≠ some k := fun k hk hk' => by
  obtain ⟨cur, h1⟩ := h'.block_type k hk'
  exact own_far h h1 ne hk
section
variable {base g b n c : Nat} {L : List Nd} {seed : Int}
theorem AB.own_kp {w w' : World} {bo m k : Nat} {A : Option Addr} {xs : List Int} (h : AB w base g b n c L seed) (ho : OwnedK w bo 3 1 A m k (i64s xs)) (hk : Kp w w' (fun q => some q = (Value.slice A m k).ownBlock)) : AB w' base g b n c L seed :=
  h.kp hk (fun e => own_far ho h.1 (by decide) e.symm) (fun e => own_ne ho h.2.1 (by decide) b e.symm rfl)
theorem walk_calls : ∀ (t : Tr) {w : World} {bo m k : Nat} {A : Option Addr} {xs : List Int}, AB w base g b n c L seed → Rep L t → OwnedK w bo 3 1 A m k (i64s xs) → bo ≤ w.heap.size → m + t.ord.length ≤ 2 ^ 30 →
    Calls P 78 #[.pointer (some ⟨g, 0, none⟩), .int .i64 t.idx, .slice A m k] w fun ev w' => ∃ (A' : Option Addr) (m' k' : Nat), ev = .returned (.slice A' m' k') ∧ OwnedK w' bo 3 1 A' m' k' (i64s (xs ++ intsN t.ord)) ∧ Kp w w' (fun q => some q = (Value.slice A m k).ownBlock) ∧ (∀ q, (Value.slice A' m' k').ownBlock = some q → (Value.slice A m k).ownBlock = some q ∨ w.heap.size ≤ q)
  | .nil, w, bo, m, k, A, xs, hB, ht, ho, hbo, hb => by
    apply vc78; unfold VC78; try (conv => zeta)
    exact ⟨fun _ => ⟨A, m, k, rfl, by simpa [Tr.ord] using ho, Kp.refl _ _, fun q h => .inl h⟩, fun h => absurd rfl h⟩
  | .nd l x r, w, bo, m, k, A, xs, hB, ht, ho, hbo, hb => by
    apply vc78; unfold VC78; try (conv => zeta)
    have hln := hB.len
    have hx := ht.lt x (by simp [Tr.ord])
    have tx : (x : Int).toNat = x := by omega
    obtain ⟨nd, e0, eL, eR, _⟩ := ht.node
    obtain ⟨_, e0'⟩ := List.getElem?_eq_some_iff.1 e0
    have hlen : (Tr.nd l x r).ord.length = l.ord.length + (r.ord.length + 1) := by simp [Tr.ord]
    have hm : m = xs.length := by have := ho.cases.1; simp at this; omega
    have hord : intsN (Tr.nd l x r).ord = intsN l.ord ++ ((x : Int) :: intsN r.ord) := by simp [Tr.ord]
    simp only [Tr.idx, tx]
    have hBd := hB.drew
    have hod := ho.kept (grown_drew (grown_refl w none))
    have cl : ∀ W, AB W base g b n c L seed → W.cell? ⟨g, 0, none⟩ = some (.slice (some ⟨b, 0, none⟩) n c) ∧ W.cell? (Addr.add (Addr.add ⟨b, 0, none⟩ (x * 5)) 2) = some (.int .i64 r.idx) ∧ W.cell? (Addr.add (Addr.add ⟨b, 0, none⟩ (x * 5)) 1) = some (.int .i64 l.idx) := fun W hW => ⟨hW.sl, by rw [add_blk, add_off, hW.cell hx (by omega), e0', ← eR]; rfl, by rw [add_blk, add_off, hW.cell hx (by omega), e0', ← eL]; rfl⟩
    -- behind the left tree: the node, the right tree
    have rest : ∀ (W0 W : World) (a : Addr) (A1 : Option Addr) (m1 k1 : Nat), AB W base g b n c L seed → OwnedK W bo 3 1 A1 m1 k1 (i64s (xs ++ intsN l.ord)) → bo ≤ W.heap.size → W.cell? a = some (.int .i64 x) → Kp W0 W (fun q => some q = (Value.slice A m k).ownBlock) → (∀ q, (Value.slice A1 m1 k1).ownBlock = some q → (Value.slice A m k).ownBlock = some q ∨ W0.heap.size ≤ q) →
        ∃ (A2 : Option Addr) (m2 k2 : Nat) (W2 : World), Sem.run P (Builtin.append_ #[37, 37] 37 #[.slice A1 m1 k1, .slice (some a) 1 1]) W = .ok (.slice A2 m2 k2) W2 ∧ AB W2 base g b n c L seed ∧ Calls P 78 #[.pointer (some ⟨g, 0, none⟩), .int .i64 r.idx, .slice A2 m2 k2] W2 fun ev w' => ∃ (A' : Option Addr) (m' k' : Nat), ev = .returned (.slice A' m' k') ∧ AB w' base g b n c L seed ∧ OwnedK w' bo 3 1 A' m' k' (i64s (xs ++ intsN (Tr.nd l x r).ord)) ∧ Kp W0 w' (fun q => some q = (Value.slice A m k).ownBlock) ∧ (∀ q, (Value.slice A' m' k').ownBlock = some q → (Value.slice A m k).ownBlock = some q ∨ W0.heap.size ≤ q) := by
      intro W0 W a A1 m1 k1 hW oW hboW ha K0 hown
      have hm1 : m1 = xs.length + l.ord.length := by have := oW.cases.1; simp at this; omega
      obtain ⟨A2, m2, k2, W2, r1, r2, r3, r4, r5⟩ := append_i (a := a) oW ha (by omega) hboW
      have hW2 := hW.own_kp oW (Kp.of_grown r3)
      have K2 : Kp W0 W2 (fun q => some q = (Value.slice A m k).ownBlock) := K0.step r3 (fun q hq => by
        rcases hown q hq with h | h
        · exact .inr h.symm
        · exact .inl h)
      have own2 : ∀ q, (Value.slice A2 m2 k2).ownBlock = some q → (Value.slice A m k).ownBlock = some q ∨ W0.heap.size ≤ q := fun q hq => by
        rcases r5 q hq with h | h
        · exact hown q h
        · right; have := K0.size; omega
      refine ⟨A2, m2, k2, W2, r1, hW2, (walk_calls r hW2 ht.2.2.2.2 r2 (Nat.le_trans hboW r3.size) (by omega)).mono fun ev W3 hh => ?_⟩
      obtain ⟨A3, m3, k3, rfl, s1, s2, s3⟩ := hh
      refine ⟨A3, m3, k3, rfl, hW2.own_kp r2 s2, by rw [hord]; simpa using s1, K2.then s2 (fun q hq e => ?_), fun q hq => ?_⟩
      · rcases own2 q e.symm with h | h
        · exact h.symm
        · omega
      · rcases s3 q hq with h | h
        · exact own2 q h
        · right; have := K2.size; omega
    refine ⟨fun h => by omega, fun _ => ⟨fun W => AB W base g b n c L seed, hBd, ?_, ?_⟩⟩
    · refine ⟨_, rfl, _, _, _, fun W hW => (cl W hW).1, _, rfl, by omega, by omega, r.idx, fun W hW => (cl W hW).2.1, _, rfl, _, _, _, fun W hW => (cl W hW).1, _, rfl, by omega, by omega, l.idx, fun W hW => (cl W hW).2.2, ?_⟩
      refine (walk_calls l hBd ht.2.2.2.1 hod hbo (by omega)).mono fun ev w1 hh => ?_
      obtain ⟨A1, m1, k1, rfl, a1, K1, own1⟩ := hh
      have hB1 := hBd.own_kp hod K1
      have gA := World.grownBy_alloc w1 (.cells #[.int .i64 x] 3) none
      have bA : (w1.alloc (.cells #[.int .i64 x] 3)).heap[w1.heap.size]? = some (.cells #[.int .i64 x] 3 (0, 0)) := heap_alloc_new w1 _
      obtain ⟨A2, m2, k2, W2, r1, r2, r3⟩ := rest w (w1.alloc (.cells #[.int .i64 x] 3)) ⟨w1.heap.size, 0, none⟩ A1 m1 k1 (hB1.kept gA) (a1.kept gA) (Nat.le_trans (Nat.le_trans hbo K1.size) gA.size) (blk_cell bA 0) (K1.drewL.step gA (fun q hq => by cases hq)) own1
      refine ⟨_, _, _, rfl, hB1, hB1.kept gA, _, _, _, W2, r1, r2, r3.mono fun ev W3 hh => ?_⟩
      obtain ⟨A3, m3, k3, rfl, s1, s2, s3, s4⟩ := hh
      exact ⟨_, _, _, rfl, s1, _, _, _, rfl, s2, s3, s4⟩
    · refine ⟨_, rfl, _, _, _, fun W hW => (cl W hW).1, _, rfl, by omega, by omega, r.idx, fun W hW => (cl W hW).2.1, _, rfl, _, _, _, fun W hW => (cl W hW).1, _, rfl, by omega, by omega, l.idx, fun W hW => (cl W hW).2.2, ?_⟩
      have gA := World.grownBy_alloc w.drew (.cells #[.int .i64 x] 3) none
      have bA : (w.drew.alloc (.cells #[.int .i64 x] 3)).heap[w.drew.heap.size]? = some (.cells #[.int .i64 x] 3 (0, 0)) := heap_alloc_new w.drew _
      have hBA := hBd.kept gA
      have hoA := hod.kept gA
      refine ⟨hBA, (walk_calls l hBA ht.2.2.2.1 hoA (Nat.le_trans hbo gA.size) (by omega)).mono fun ev w1 hh => ?_⟩
      obtain ⟨A1, m1, k1, rfl, a1, K1, own1⟩ := hh
      have hB1 := hBA.own_kp hoA K1
      have hA1 : w1.cell? ⟨w.drew.heap.size, 0, none⟩ = some (.int .i64 x) := by
        have lt0 := (Array.getElem?_eq_some_iff.1 bA).1
        rw [blk_cell (show w1.heap[w.drew.heap.size]? = _ by rw [K1.block _ lt0 (fun e => by have := hod.block_lt _ e.symm; omega)]; exact bA) 0]; rfl
      obtain ⟨A2, m2, k2, W2, r1, r2, r3⟩ := rest w w1 ⟨w.drew.heap.size, 0, none⟩ A1 m1 k1 hB1 a1 (Nat.le_trans (Nat.le_trans hbo gA.size) K1.size) hA1 (((Kp.of_none gA).then K1 (fun q _ e => e)).drewL) (fun q hq => by
        rcases own1 q hq with h | h
        · exact .inl h
        · right; have := gA.size; exact Nat.le_trans this h)
      refine ⟨_, _, _, rfl, hB1, _, _, _, W2, r1, r2, r3.mono fun ev W3 hh => ?_⟩
      obtain ⟨A3, m3, k3, rfl, s1, s2, s3, s4⟩ := hh
      exact ⟨_, _, _, rfl, s1, _, _, _, rfl, s2, s3, s4⟩
end
section
variable {w w' : World} {base g n c : Nat} {A : Option Addr} {L : List Nd} {seed : Int} {σ : Nat → List Nat}
/-- A node's sequence as a new row. -/
theorem list_calls (h : AR w base g A n c L seed) (hs : ArS L σ) (hL : L.length ≤ 2 ^ 20) {x : Nat} (hx : x < L.length) : Calls P 57 #[.pointer (some ⟨g, 0, none⟩), .int .i64 x] w fun ev w' => ∃ (A' : Option Addr) (m' k' : Nat), ev = .returned (.slice A' m' k') ∧ OwnedK w' w.heap.size 3 1 A' m' k' (i64s (intsN (σ x))) ∧ w.grownBy w' none := by
  apply vc57; unfold VC57; try (conv => zeta)
  refine (has_yes h hx).mono fun ev w1 hh => ?_
  obtain ⟨rfl, rfl⟩ := hh
  obtain ⟨s, t, s1, _, s2, _, s3, _, hi, rx, ry⟩ := roots_calls h hs hx hx
  refine ⟨true, rfl, fun h => (by cases h), fun _ => (rx _ h).mono fun ev w2 hh => ?_⟩
  obtain ⟨rfl, rfl⟩ := hh
  obtain ⟨b, rfl, hB⟩ := h.ab hx
  have hsl := hs.short x
  refine ⟨_, rfl, (walk_calls s (xs := []) hB s1 (OwnedK.nil w2 w2.heap.size 3 1) (Nat.le_refl _) (by rw [s3]; omega)).mono fun ev w3 hh => ?_⟩
  obtain ⟨A', m', k', rfl, a1, K1, _⟩ := hh
  rw [s3] at a1
  exact ⟨_, _, _, rfl, _, _, _, rfl, by simpa using a1, K1.grown (fun k hk e => by cases e)⟩
theorem new_calls21 (sd : Int) {base : Nat} (hb : base ≤ w.heap.size) : Calls P 42 #[.int .u64 sd] w fun ev w' => ∃ s', ev = .returned (.pointer (some ⟨w.heap.size, 0, none⟩)) ∧ AR w' base w.heap.size none 0 0 [] s' ∧ w.grownBy w' none ∧ w'.heap.size = w.heap.size + 1 := by
  apply vc42; unfold VC42; try (conv => zeta)
  exact ⟨_, rfl, ⟨heap_alloc_new w _, OwnedK.nil _ _ _ _, hb⟩, World.grownBy_alloc w _ none, Array.size_push _⟩
theorem elemNode : ElemK P 93 98 5 (P.bytesOf 98) := ⟨(P.info? 98).getD default, ((P.info? 98).getD default).zero.getD undef, by kernel_rfl, by kernel_rfl, by kernel_rfl, by kernel_rfl, by kernel_rfl, by kernel_rfl, by decide⟩
theorem bytesNode : P.bytesOf 98 ≤ 64 := of_decide_eq_true (by kernel_rfl)
theorem node_calls21 (h : AR w base g A n c L seed) (hb : base ≤ w.heap.size) (hL : L.length < 2 ^ 20) : Calls P 43 #[.pointer (some ⟨g, 0, none⟩)] w fun ev w' => ev = .returned (.int .i64 (L.length : Int)) ∧ ∃ (A' : Option Addr) (n' c' : Nat) (seed' r : Int), AR w' base g A' n' c' (L ++ [⟨-1, -1, -1, 1, r⟩]) seed' ∧ (∀ k, (Value.slice A' n' c').ownBlock = some k → (Value.slice A n c).ownBlock = some k ∨ w.heap.size ≤ k) ∧ Kp w w' (fun q => q = g ∨ some q = (Value.slice A n c).ownBlock) := by
  apply vc43; unfold VC43; try (conv => zeta)
  simp only [InK]
  have hln := h.len
  -- the state of chance written
  have step : ∀ (W : World) (s s' : Int), AR W base g A n c L s → Kp w W (fun q => q = g ∨ some q = (Value.slice A n c).ownBlock) → W.cell? ⟨g, 1, none⟩ = some (.int .u64 s) ∧ (∃ uv_ : Value, W.cell? ⟨g, 1, none⟩ = some uv_) ∧ W.frozen? ⟨g, 1, none⟩ = false ∧ AR (W.setCell ⟨g, 1, none⟩ (.int .u64 s')).drew base g A n c L s' ∧ Kp w (W.setCell ⟨g, 1, none⟩ (.int .u64 s')).drew (fun q => q = g ∨ some q = (Value.slice A n c).ownBlock) := by
    intro W s s' hW KW
    have b1 := blk_set hW.blk 1 (.int .u64 s')
    refine ⟨blk_cell hW.blk 1, ⟨_, blk_cell hW.blk 1⟩, blk_free hW.blk 1, ?_, (kset KW (.inl rfl)).drew⟩
    have : AR (W.setCell ⟨g, 1, none⟩ (.int .u64 s')) base g A n c L s' := ⟨by simpa using b1, hW.own.kp (kset (Kp.refl W (fun q => q = g)) rfl) (fun k hk e => by subst e; exact own_far hW.own hW.blk (by decide) hk), hW.ge⟩
    exact this.kept (grown_drew (grown_refl _ none))
  have h1 := h.kept (grown_drew (grown_refl w none))
  have K1 : Kp w w.drew (fun q => q = g ∨ some q = (Value.slice A n c).ownBlock) := Kp.of_none (grown_drew (grown_refl w none))
  refine ⟨_, rfl, _, _, _, blk_cell h.blk 0, fun h' => by omega, fun _ => ?_⟩
  refine ⟨_, rfl, _, (step _ _ 0 h1 K1).1, _, rfl, _, (step _ _ 0 h1 K1).1, by omega, _, rfl, (step _ _ 0 h1 K1).2.1, (step _ _ 0 h1 K1).2.2.1, ?_⟩
  obtain ⟨_, _, _, h2, K2⟩ := step _ _ (bop .xor .u64 seed (IntKind.wrap .u64 (seed * 2 ^ 13))) h1 K1
  obtain ⟨s2, hs2⟩ : ∃ s2, s2 = bop .xor .u64 seed (IntKind.wrap .u64 (seed * 2 ^ 13)) := ⟨_, rfl⟩
  simp only [add_blk]
  rw [← hs2] at h2 K2 ⊢
  obtain ⟨w2, hw2⟩ : ∃ w2, w2 = (w.drew.setCell ⟨g, 1, none⟩ (.int .u64 s2)).drew := ⟨_, rfl⟩
  rw [← hw2] at h2 K2 ⊢
  refine ⟨_, rfl, _, (step _ _ 0 h2 K2).1, _, rfl, _, (step _ _ 0 h2 K2).1, by omega, _, rfl, (step _ _ 0 h2 K2).2.1, (step _ _ 0 h2 K2).2.2.1, ?_⟩
  obtain ⟨_, _, _, h3, K3⟩ := step _ _ (bop .xor .u64 s2 (s2 / 2 ^ 7)) h2 K2
  obtain ⟨s3, hs3⟩ : ∃ s3, s3 = bop .xor .u64 s2 (s2 / 2 ^ 7) := ⟨_, rfl⟩
  simp only [add_blk]
  rw [← hs3] at h3 K3 ⊢
  obtain ⟨w3, hw3⟩ : ∃ w3, w3 = (w2.setCell ⟨g, 1, none⟩ (.int .u64 s3)).drew := ⟨_, rfl⟩
  rw [← hw3] at h3 K3 ⊢
  refine ⟨_, rfl, _, (step _ _ 0 h3 K3).1, _, rfl, _, (step _ _ 0 h3 K3).1, by omega, _, rfl, (step _ _ 0 h3 K3).2.1, (step _ _ 0 h3 K3).2.2.1, ?_⟩
  obtain ⟨_, _, _, h4, K4⟩ := step _ _ (bop .xor .u64 s3 (IntKind.wrap .u64 (s3 * 2 ^ 17))) h3 K3
  obtain ⟨s4, hs4⟩ : ∃ s4, s4 = bop .xor .u64 s3 (IntKind.wrap .u64 (s3 * 2 ^ 17)) := ⟨_, rfl⟩
  simp only [add_blk]
  rw [← hs4] at h4 K4 ⊢
  obtain ⟨w4, hw4⟩ : ∃ w4, w4 = (w3.setCell ⟨g, 1, none⟩ (.int .u64 s4)).drew := ⟨_, rfl⟩
  rw [← hw4] at h4 K4 ⊢
  have gA := World.grownBy_alloc w4 (.cells #[.int .i64 (-1), .int .i64 (-1), .int .i64 (-1), .int .i64 1, .int .u64 s4] 98) none
  have rA : Row (w4.alloc (.cells #[.int .i64 (-1), .int .i64 (-1), .int .i64 (-1), .int .i64 1, .int .u64 s4] 98)) (some ⟨w4.heap.size, 0, none⟩) (nds [⟨-1, -1, -1, 1, s4⟩]) := row_new w4 #[.int .i64 (-1), .int .i64 (-1), .int .i64 (-1), .int .i64 1, .int .u64 s4] 98
  obtain ⟨w5, hw5⟩ : ∃ w5, w5 = w4.alloc (.cells #[.int .i64 (-1), .int .i64 (-1), .int .i64 (-1), .int .i64 1, .int .u64 s4] 98) := ⟨_, rfl⟩
  rw [← hw5] at gA rA
  have h5 := h4.kept gA
  have K5 := K4.step gA (fun k hk => by cases hk)
  obtain ⟨A', n', c', w6, r1, r2, r3, r4, r5⟩ := h5.own.appends (ty := 93) elemNode bytesNode (a := ⟨w4.heap.size, 0, none⟩) (m := 1) (cc := 1) (us := nds [⟨-1, -1, -1, 1, s4⟩]) rfl (fun j u hj => by obtain ⟨a, q1, q2⟩ := rA j u hj; cases q1; exact q2) (fun u hu => by
    simp [nds, ndC] at hu
    rcases hu with rfl | rfl | rfl <;> rfl) (by omega) (Nat.le_trans hb K5.size)
  have b6 : w6.heap[g]? = some (.cells #[.slice A n c, .int .u64 s4] 95 (0, 0)) := by
    rw [r4.block _ (Array.getElem?_eq_some_iff.1 h5.blk).1 (fun e => own_far h5.own h5.blk (by decide) e.symm)]; exact h5.blk
  have b7 := blk_set b6 0 (.slice A' n' c')
  have K6 : Kp w w6 (fun q => q = g ∨ some q = (Value.slice A n c).ownBlock) := K5.step r4 (fun k hk => .inr (.inr hk.symm))
  rw [← nds_append] at r2
  have hfin : AR (w6.setCell ⟨g, 0, none⟩ (.slice A' n' c')) base g A' n' c' (L ++ [⟨-1, -1, -1, 1, s4⟩]) s4 := ⟨by simpa using b7, r2.kp (kset (Kp.refl w6 (fun q => q = g)) rfl) (fun k hk e => by subst e; exact own_far r2 b6 (by decide) hk), h.ge⟩
  have hn' := hfin.len
  have own' : ∀ k, (Value.slice A' n' c').ownBlock = some k → (Value.slice A n c).ownBlock = some k ∨ w.heap.size ≤ k := fun k hk => by
    rcases r5 with e | e
    · left; rw [← e]; exact hk
    · right; rw [e] at hk; cases hk; exact K5.size
  simp only [List.length_append, List.length_singleton] at hn'
  refine ⟨⟨_, rfl, _, _, _, blk_cell h4.blk 0, _, rfl, s4, blk_cell h4.blk 1, A', n', c', w6, by rw [← hw5]; exact r1, _, rfl, ⟨_, blk_cell b6 0⟩, blk_free b6 0, _, rfl, _, _, _, blk_cell b7 0, by omega, ?_⟩, ⟨_, rfl, _, rfl, s4, blk_cell h4.blk 1, A, n, c, by rw [← hw5]; exact blk_cell h5.blk 0, A', n', c', w6, by rw [← hw5]; exact r1, _, rfl, ⟨_, blk_cell b6 0⟩, blk_free b6 0, _, rfl, _, _, _, blk_cell b7 0, by omega, ?_⟩⟩
  · exact ⟨by rw [hn']; congr 2; omega, A', n', c', s4, s4, hfin, own', kset K6 (.inl rfl)⟩
  · exact ⟨by rw [hn']; congr 2; omega, A', n', c', s4, s4, hfin, own', kset K6 (.inl rfl)⟩
end
end Go.Proofs.Ytpfkpmapimonbaa

/-! tour: a forest in memory; has, Connected, Size, Count, node, first, alone: the walks. -/
namespace Go.Proofs.Ytpfkpmapimonbaa
open Go Go.V Go.RowKit
set_option linter.unusedVariables false
set_option linter.unusedSimpArgs false
set_option maxHeartbeats 4000000
set_option maxRecDepth 100000

abbrev Arc := Int × Int
def okI (x : Int) : Prop := -9223372036854775808 ≤ x ∧ x ≤ 9223372036854775807
def okArc (a : Arc) : Prop := okI a.1 ∧ okI a.2
def arcV (a : Arc) : Value := .agg #[.int .i64 a.1, .int .i64 a.2]
theorem wf_of_i64 {x : Int} (h : okI x) : (Lit.int .i64 x).wf = true := by
  have h1 : IntKind.i64.min = -9223372036854775808 := rfl
  have h2 : IntKind.i64.max = 9223372036854775807 := rfl
  obtain ⟨a, b⟩ := h
  simp only [Lit.wf, Bool.and_eq_true, decide_eq_true_eq]
  omega
theorem keyOf_arc {a b : Int} (wa : (Lit.int .i64 a).wf = true) (wb : (Lit.int .i64 b).wf = true) : ∃ l, keyOf P 65 (.agg #[.int .i64 a, .int .i64 b]) = some l := by
  have hsz : ∃ m, P.types.size = m + 1 := ⟨P.types.size - 1, by kernel_rfl⟩
  have hu := Try.underlying65
  have h32 := Try.underlying3
  have c1 : P.cellsOf 65 = 2 := by kernel_rfl
  have c2 : P.cellsOf 3 = 1 := by kernel_rfl
  have hk : P.keyType 65 = true := by kernel_rfl
  obtain ⟨m, hm⟩ := hsz
  unfold keyOf
  simp only [P] at *
  simp only [hu]
  rw [if_pos (by simp [hk, Value.formed, hu, c1]), hm]
  unfold Program.keyLits
  simp only [hu, Value.cells]
  rw [if_pos (by rw [c1]; exact ⟨rfl, by simp⟩)]
  simp only [List.mapM_cons, List.mapM_nil]
  simp [c2, Program.keyLits, h32, wa, wb]
theorem keyA : KeyT P 65 arcV okArc where
  law := Maps.Keyed.of_law (deep_law (m := 3) (by omega) (by kernel_rfl) (by kernel_rfl) (by kernel_rfl))
  key := fun x hx => keyOf_arc (wf_of_i64 hx.1) (wf_of_i64 hx.2)
  inj := by
    rintro ⟨a, b⟩ ⟨c, d⟩ h
    simp [arcV] at h
    simp [h]
abbrev natV (k : Nat) : Value := .int .i64 (k : Int)
abbrev MapA (w : World) (b : Nat) (M : List (Arc × Nat)) : Prop := MapAt arcV okArc natV w b M
theorem zero_int (w : World) : (zeroValue 3).run P w = .ok (.int .i64 0) w := by
  have h : ((P.info? 3).getD default).zero = some (.int .i64 0) := by kernel_rfl
  have h2 : (P.info? 3).isSome = true := by kernel_rfl
  cases hq : P.info? 3 with
  | none => rw [hq] at h2; cases h2
  | some i => rw [hq] at h; simp at h; simp [zeroValue, typeInfo, hq, h]
theorem lenA {w : World} {b : Nat} {M : List (Arc × Nat)} (h : MapA w b M) : Sem.run P (Builtin.len_ #[58] 3 #[.map (some b)]) w = .ok (.int .i64 (M.length : Int)) w := by
  obtain ⟨es, clock, hb, hL, _⟩ := h
  have hsz : es.size = M.length := by have := congrArg List.length hL; simpa using this
  rw [run_len_map w 58 3 b es clock (by kernel_rfl) hb, hsz]
  rfl
structure FoM (w : World) (base f g mb : Nat) (A : Option Addr) (n c : Nat) (B : Option Addr) (m k : Nat) (N : Nat) (L : List Nd) (seed : Int) (M : List (Arc × Nat)) (free : List Nat) : Prop where
  blk : w.heap[f]? = some (.cells #[.pointer (some ⟨g, 0, none⟩), .int .i64 (N : Int), .map (some mb), .slice B m k] 60 (0, 0))
  ar : AR w base g A n c L seed
  mp : MapA w mb M
  fr : OwnedK w base 3 1 B m k (i64s (intsN free))
/-- A forest in memory, whose blocks are of S. -/
def FO (w : World) (base f g N : Nat) (S : Nat → Prop) (L : List Nd) (M : List (Arc × Nat)) (free : List Nat) : Prop :=
  ∃ (mb : Nat) (A : Option Addr) (n c : Nat) (B : Option Addr) (m k : Nat) (seed : Int), FoM w base f g mb A n c B m k N L seed M free ∧ (S f ∧ S g ∧ S mb ∧ (∀ q, (Value.slice A n c).ownBlock = some q → S q) ∧ ∀ q, (Value.slice B m k).ownBlock = some q → S q) ∧ ∀ q, S q → q < w.heap.size
/-- The blocks of S, and those that were laid since. -/
def extS (S : Nat → Prop) (w w' : World) : Nat → Prop := fun q => S q ∨ (w.heap.size ≤ q ∧ q < w'.heap.size)
section
variable {w w' : World} {base f g N : Nat} {S : Nat → Prop} {L : List Nd} {M : List (Arc × Nat)} {free : List Nat} {σ : Nat → List Nat}
theorem map_ne {w : World} {b q : Nat} {M : List (Arc × Nat)} {cs : Array Value} {t : TypeId} {fr : Nat × Nat} (h : MapA w b M) (h' : w.heap[q]? = some (.cells cs t fr)) : b ≠ q := by
  obtain ⟨es, clock, hb, _⟩ := h
  intro e; rw [e, h'] at hb; cases hb
theorem FO.kp {T : Nat → Prop} (h : FO w base f g N S L M free) (hk : Kp w w' T) (hd : ∀ q, S q → ¬ T q) : FO w' base f g N S L M free := by
  obtain ⟨mb, A, n, c, B, m, k, seed, hM, ⟨s1, s2, s3, s4, s5⟩, hS⟩ := h
  refine ⟨mb, A, n, c, B, m, k, seed, ⟨?_, hM.ar.kp hk (hd g s2) (fun q hq => hd q (s4 q hq)), hM.mp.kp hk (hd mb s3), hM.fr.kp hk (fun q hq => hd q (s5 q hq))⟩, ⟨s1, s2, s3, s4, s5⟩, fun q hq => Nat.lt_of_lt_of_le (hS q hq) hk.size⟩
  rw [hk.block _ (Array.getElem?_eq_some_iff.1 hM.blk).1 (hd f s1)]; exact hM.blk
theorem FO.kept (h : FO w base f g N S L M free) (hg : w.grownBy w' none) : FO w' base f g N S L M free := h.kp (T := fun _ => False) (Kp.of_none hg) (fun _ _ e => e)
theorem FO.ext (h : FO w' base f g N S L M free) : FO w' base f g N (extS S w w') L M free := by
  obtain ⟨mb, A, n, c, B, m, k, seed, hM, ⟨s1, s2, s3, s4, s5⟩, hS⟩ := h
  exact ⟨mb, A, n, c, B, m, k, seed, hM, ⟨.inl s1, .inl s2, .inl s3, fun q hq => .inl (s4 q hq), fun q hq => .inl (s5 q hq)⟩, fun q hq => hq.elim (hS q) (fun h => h.2)⟩
theorem FO.widen {T : Nat → Prop} (h : FO w base f g N S L M free) (hT : ∀ q, S q → T q) (hlt : ∀ q, T q → q < w.heap.size) : FO w base f g N T L M free := by
  obtain ⟨mb, A, n, c, B, m, k, seed, hM, ⟨s1, s2, s3, s4, s5⟩, hS⟩ := h
  exact ⟨mb, A, n, c, B, m, k, seed, hM, ⟨hT _ s1, hT _ s2, hT _ s3, fun q hq => hT _ (s4 q hq), fun q hq => hT _ (s5 q hq)⟩, hlt⟩
/-- The cells of a forest. -/
theorem FO.open (h : FO w base f g N S L M free) : ∃ (mb : Nat) (A : Option Addr) (n c : Nat) (B : Option Addr) (m k : Nat) (seed : Int), FoM w base f g mb A n c B m k N L seed M free ∧ (S f ∧ S g ∧ S mb ∧ (∀ q, (Value.slice A n c).ownBlock = some q → S q) ∧ ∀ q, (Value.slice B m k).ownBlock = some q → S q) ∧ (∀ q, S q → q < w.heap.size) ∧
    w.cell? ⟨f, 0, none⟩ = some (.pointer (some ⟨g, 0, none⟩)) ∧ w.cell? ⟨f, 1, none⟩ = some (.int .i64 (N : Int)) ∧ w.cell? ⟨f, 2, none⟩ = some (.map (some mb)) ∧ w.cell? ⟨f, 3, none⟩ = some (.slice B m k) := by
  obtain ⟨mb, A, n, c, B, m, k, seed, hM, s, hS⟩ := h
  exact ⟨mb, A, n, c, B, m, k, seed, hM, s, hS, blk_cell hM.blk 0, blk_cell hM.blk 1, blk_cell hM.blk 2, blk_cell hM.blk 3⟩
theorem fhas_calls (h : FO w base f g N S L M free) (x : Int) : Calls P 44 #[.pointer (some ⟨f, 0, none⟩), .int .i64 x] w fun ev w' => ev = .returned (.bool (decide (0 ≤ x ∧ x < (N : Int)))) ∧ w' = w := by
  apply vc44; unfold VC44; try (conv => zeta)
  obtain ⟨mb, A, n, c, B, m, k, seed, hM, s, hS, c0, c1, c2, c3⟩ := h.open
  refine ⟨fun h0 => ⟨_, rfl, _, by rw [add_blk]; exact c1, ?_, rfl⟩, fun h0 => ⟨?_, rfl⟩⟩
  · congr 2
    exact decide_eq_decide.2 ⟨fun h' => ⟨h0, h'⟩, fun h' => h'.2⟩
  · rw [decide_eq_false (by omega)]
/-- An arena's step is a forest's step. -/
theorem FO.step {mb : Nat} {A : Option Addr} {n c : Nat} {B : Option Addr} {m k : Nat} {seed : Int} {L' : List Nd} (hM : FoM w base f g mb A n c B m k N L seed M free) (hs : S f ∧ S g ∧ S mb ∧ (∀ q, (Value.slice A n c).ownBlock = some q → S q) ∧ ∀ q, (Value.slice B m k).ownBlock = some q → S q) (hS : ∀ q, S q → q < w.heap.size)
    (ha : AR w' base g A n c L' seed) (hk : Kp w w' (fun q => some q = (Value.slice A n c).ownBlock)) : FoM w' base f g mb A n c B m k N L' seed M free ∧ (∀ q, S q → q < w'.heap.size) ∧ Kp w w' S := by
  refine ⟨⟨?_, ha, hM.mp.kp hk (fun e => ?_), hM.fr.kp hk (fun q hq e => own_ne hM.fr hM.ar.own (by decide) q hq e.symm)⟩, fun q hq => Nat.lt_of_lt_of_le (hS q hq) hk.size, hk.mono (fun q _ e => hs.2.2.2.1 q e.symm)⟩
  · rw [hk.block _ (Array.getElem?_eq_some_iff.1 hM.blk).1 (fun e => own_far hM.ar.own hM.blk (by decide) e.symm)]; exact hM.blk
  · obtain ⟨cur, h'⟩ := hM.ar.own.block_type mb e.symm
    exact map_ne hM.mp h' rfl
theorem connected_calls (h : FO w base f g N S L M free) (hs : ArS L σ) (hN : N ≤ L.length) (u v : Int) : Calls P 19 #[.pointer (some ⟨f, 0, none⟩), .int .i64 u, .int .i64 v] w fun ev w' => ev = .returned (.bool (decide ((0 ≤ u ∧ u < N) ∧ (0 ≤ v ∧ v < N) ∧ σ u.toNat = σ v.toNat))) ∧ w' = w := by
  apply vc19; unfold VC19; try (conv => zeta)
  refine (fhas_calls h u).mono fun ev w1 hh => ?_
  obtain ⟨rfl, rfl⟩ := hh
  refine ⟨_, rfl, fun h1 => (fhas_calls h v).mono fun ev w2 hh => ?_, fun h1 => ⟨?_, rfl⟩⟩
  · obtain ⟨rfl, rfl⟩ := hh
    have h1' := of_decide_eq_true h1
    refine ⟨_, rfl, fun h2 => ?_, fun h2 => ⟨?_, rfl⟩⟩
    · have h2' := of_decide_eq_true h2
      obtain ⟨mb, A, n, c, B, m, k, seed, hM, s, hS, c0, c1, c2, c3⟩ := h.open
      refine ⟨_, rfl, _, c0, ?_⟩
      have := same_calls hM.ar hs (x := u.toNat) (y := v.toNat) (by omega) (by omega)
      rw [show ((u.toNat : Nat) : Int) = u by omega, show ((v.toNat : Nat) : Int) = v by omega] at this
      refine this.mono fun ev w3 hh => ?_
      obtain ⟨rfl, rfl⟩ := hh
      refine ⟨_, rfl, ?_, rfl⟩
      congr 2
      exact decide_eq_decide.2 ⟨fun h' => ⟨h1', h2', h'⟩, fun h' => h'.2.2⟩
    · rw [decide_eq_false (fun h' => (of_decide_eq_false h2) h'.2.1)]
  · rw [decide_eq_false (fun h' => (of_decide_eq_false h1) h'.1)]
theorem fsize_calls (h : FO w base f g N S L M free) (hs : ArS L σ) (hN : N ≤ L.length) (hL : L.length ≤ 2 ^ 20) (u : Int) : Calls P 21 #[.pointer (some ⟨f, 0, none⟩), .int .i64 u] w fun ev w' => ev = .returned (.int .i64 (if 0 ≤ u ∧ u < N then ((((σ u.toNat).length + 2) / 3 : Nat) : Int) else 0)) ∧ w' = w := by
  apply vc21; unfold VC21; try (conv => zeta)
  simp only [InK]
  refine (fhas_calls h u).mono fun ev w1 hh => ?_
  obtain ⟨rfl, rfl⟩ := hh
  refine ⟨_, rfl, fun h1 => ⟨by rw [if_neg (of_decide_eq_false h1)], rfl⟩, fun h1 => ?_⟩
  have h1' : 0 ≤ u ∧ u < (N : Int) := by simpa using h1
  obtain ⟨mb, A, n, c, B, m, k, seed, hM, s, hS, c0, c1, c2, c3⟩ := h.open
  have := len_calls21 hM.ar hs (x := u.toNat) (by omega)
  rw [show ((u.toNat : Nat) : Int) = u by omega] at this
  refine ⟨_, rfl, _, c0, this.mono fun ev w2 hh => ?_⟩
  obtain ⟨rfl, rfl⟩ := hh
  have hsl := hs.short u.toNat
  refine ⟨_, rfl, by omega, by omega, ⟨by omega, by omega, by omega, by omega⟩, ?_, rfl⟩
  rw [if_pos h1']
  congr 2
  omega
theorem count_calls (h : FO w base f g N S L M free) (hM : M.length ≤ 2 ^ 30) (hN : N ≤ 2 ^ 30) : Calls P 25 #[.pointer (some ⟨f, 0, none⟩)] w fun ev w' => ev = .returned (.int .i64 ((N : Int) - ((M.length / 2 : Nat) : Int))) ∧ w.grownBy w' none := by
  apply vc25; unfold VC25; try (conv => zeta)
  simp only [InK]
  have gd := grown_drew (grown_refl w none)
  obtain ⟨mb, A, n, c, B, m, k, seed, hF, s, hS, c0, c1, c2, c3⟩ := (h.kept gd).open
  refine ⟨_, rfl, _, by rw [add_blk]; exact c1, _, rfl, _, by rw [add_blk]; exact c2, _, lenA hF.mp, ⟨by omega, by omega, by omega, by omega⟩, ⟨by omega, by omega⟩, ?_, gd⟩
  congr 2
end
end Go.Proofs.Ytpfkpmapimonbaa

/-! tour: node, first, alone: the walks. -/
namespace Go.Proofs.Ytpfkpmapimonbaa
open Go Go.V Go.RowKit
set_option linter.unusedVariables false
set_option linter.unusedSimpArgs false
set_option maxHeartbeats 4000000
set_option maxRecDepth 100000

theorem own_take {w : World} {base s n c i : Nat} {e : TypeId} {A : Option Addr} {xs : List Value} (h : OwnedK w base e s A n c xs) (hi : i ≤ n) : OwnedK w base e s A i c (xs.take (i * s)) ∧ (Value.slice A i c).ownBlock = (Value.slice A n c).ownBlock := by
  obtain ⟨h1, h2 | ⟨b, cur, rfl, h3, h4, h5, h6, h7, h8⟩⟩ := h.cases
  · obtain ⟨rfl, rfl, rfl, rfl⟩ := h2
    have : i = 0 := by omega
    subst this
    exact ⟨by simpa using OwnedK.nil w base e s, rfl⟩
  · refine ⟨OwnedK.of_block h3 h6 (by omega) h4 h7 ?_ ?_, by simp [Value.ownBlock]⟩
    · rw [List.length_take, h1]; have := Nat.mul_le_mul_right s hi; omega
    · rw [← h8, List.take_take]; congr 1; have := Nat.mul_le_mul_right s hi; omega
section
variable {w w' : World} {base f g N : Nat} {S : Nat → Prop} {L : List Nd} {M : List (Arc × Nat)} {free : List Nat} {σ : Nat → List Nat}
theorem fnode_calls (h : FO w base f g N S L M free) (hb : base ≤ w.heap.size) {a : Arc} (ha : okArc a) (hL : L.length < 2 ^ 20) (hfl : free.length ≤ 2 ^ 30) :
    Calls P 48 #[.pointer (some ⟨f, 0, none⟩), .agg #[.int .i64 a.1, .int .i64 a.2]] w fun ev w' => ∃ (k : Nat) (L' : List Nd) (free' : List Nat), ev = .returned (.int .i64 (k : Int)) ∧ FO w' base f g N (extS S w w') L' (updK M a k) free' ∧ Kp w w' S ∧ ((free = free' ++ [k] ∧ L' = L) ∨ (free = [] ∧ free' = [] ∧ k = L.length ∧ ∃ r, L' = L ++ [⟨-1, -1, -1, 1, r⟩])) := by
  apply vc48; unfold VC48; try (conv => zeta)
  simp only [InK]
  have g1 := World.grownBy_alloc w (.cells #[.int .i64 a.1, .int .i64 a.2] 65) none
  have b1 : (w.alloc (.cells #[.int .i64 a.1, .int .i64 a.2] 65)).heap[w.heap.size]? = some (.cells #[.int .i64 a.1, .int .i64 a.2] 65 (0, 0)) := heap_alloc_new w _
  obtain ⟨w1, hw_w1⟩ : ∃ w1, w1 = w.alloc (.cells #[.int .i64 a.1, .int .i64 a.2] 65) := ⟨_, rfl⟩
  rw [← hw_w1] at g1 b1 ⊢
  have hf1 := h.kept g1
  have gd := grown_drew (grown_refl w1 none)
  have hf2 := hf1.kept gd
  have b2 := blk_keep b1 gd
  have g2 := grown_trans g1 gd
  obtain ⟨w2, hw2⟩ : ∃ w2, w2 = w1.drew := ⟨_, rfl⟩
  rw [← hw2] at gd hf2 b2 g2 ⊢
  obtain ⟨mb, A, n, c, B, m, k, seed, hM, hs, hS, c0, c1, c2, c3⟩ := hf1.open
  have hM2 : FoM w2 base f g mb A n c B m k N L seed M free := ⟨blk_keep hM.blk gd, hM.ar.kept gd, hM.mp.kept gd, hM.fr.kept gd⟩
  have hm : m = free.length := by have := hM.fr.cases.1; simp at this; omega
  have hmk := owned_leM hM.fr
  have lw1 : w.heap.size < w1.heap.size := (Array.getElem?_eq_some_iff.1 b1).1
  have sfar : ∀ q, S q → q ≠ w.heap.size := fun q hq e => by
    obtain ⟨_, _, _, _, _, _, _, _, _, _, hS0⟩ := h
    have := hS0 q hq; omega
  -- the map written
  have put : ∀ (W : World) (Bx : Option Addr) (mx : Nat) (Ax : Option Addr) (nx cx : Nat) (sx : Int) (Lx : List Nd) (frx : List Nat) (x : Nat), FoM W base f g mb Ax nx cx Bx mx k N Lx sx M frx → W.heap[w.heap.size]? = some (.cells #[.int .i64 a.1, .int .i64 a.2] 65 (0, 0)) →
      W.cell? ⟨f, 2, none⟩ = some (.map (some mb)) ∧ W.cell? ⟨w.heap.size, 0, none⟩ = some (.int .i64 a.1) ∧ W.cell? ⟨w.heap.size, 1, none⟩ = some (.int .i64 a.2) ∧ ∃ W', Sem.run P (Instr.mapUpdate 58 (.map (some mb)) (.agg #[.int .i64 a.1, .int .i64 a.2]) (.int .i64 (x : Int))) W = .ok () W' ∧ FoM W' base f g mb Ax nx cx Bx mx k N Lx sx (updK M a x) frx ∧ W.grownBy W' (some mb) := by
    intro W Bx mx Ax nx cx sx Lx frx x hW hbl
    obtain ⟨W', r1, r2, r3⟩ := MapAt.update keyA (mt := 58) (et := 3) Try.underlying58 hW.mp ha x
    have K := Kp.of_grown r3
    refine ⟨blk_cell hW.blk 2, blk_cell hbl 0, blk_cell hbl 1, W', r1, ⟨?_, hW.ar.kp K (fun e => ?_) (fun q hq e => ?_), r2, hW.fr.kp K (fun q hq e => ?_)⟩, r3⟩
    · rw [r3.block _ (Array.getElem?_eq_some_iff.1 hW.blk).1 (fun e => by cases e; exact map_ne hW.mp hW.blk rfl)]; exact hW.blk
    · cases e; exact map_ne hW.mp hW.ar.blk rfl
    · cases e
      obtain ⟨cur, h'⟩ := hW.ar.own.block_type _ hq
      exact map_ne hW.mp h' rfl
    · cases e
      obtain ⟨cur, h'⟩ := hW.fr.block_type _ hq
      exact map_ne hW.mp h' rfl
  refine ⟨_, rfl, _, _, _, by rw [add_blk]; exact c3, by omega, fun hge => ?_, fun hlt => ?_⟩
  · obtain ⟨fr', x, rfl⟩ : ∃ fr' x, free = fr' ++ [x] := ⟨free.dropLast, free.getLast (by intro e; subst e; simp at hm; omega), (List.dropLast_concat_getLast _).symm⟩
    simp only [List.length_append, List.length_singleton] at hm
    have tm : ((m : Int) - 1).toNat = fr'.length := by omega
    rw [tm]
    obtain ⟨aB, e1, e2⟩ := hM2.fr.row fr'.length (.int .i64 (x : Int)) (by simp)
    subst e1
    obtain ⟨t1, t2⟩ := own_take hM2.fr (i := fr'.length) (by omega)
    have tk : (i64s (intsN (fr' ++ [x]))).take (fr'.length * 1) = i64s (intsN fr') := by simp
    rw [tk] at t1
    have s3 := blk_set hM2.blk 3 (.slice (some aB) fr'.length k)
    have KS : Kp w2 (w2.setCell ⟨f, 3, none⟩ (.slice (some aB) fr'.length k)) (fun q => q = f) := kset (Kp.refl w2 _) rfl
    have hM3 : FoM (w2.setCell ⟨f, 3, none⟩ (.slice (some aB) fr'.length k)) base f g mb A n c (some aB) fr'.length k N L seed M fr' := ⟨by simpa using s3, hM2.ar.kp KS (fun e => by subst e; have := hM2.blk; rw [hM2.ar.blk] at this; cases this) (fun q hq e => by subst e; exact own_far hM2.ar.own hM2.blk (by decide) hq), hM2.mp.kp KS (fun e => map_ne hM2.mp hM2.blk e), t1.kp KS (fun q hq e => by subst e; exact own_far t1 hM2.blk (by decide) hq)⟩
    have gd3 := grown_drew (grown_refl (w2.setCell ⟨f, 3, none⟩ (.slice (some aB) fr'.length k)) none)
    obtain ⟨w4, hw4⟩ : ∃ w4, w4 = (w2.setCell ⟨f, 3, none⟩ (.slice (some aB) fr'.length k)).drew := ⟨_, rfl⟩
    rw [← hw4] at gd3
    have hM4 : FoM w4 base f g mb A n c (some aB) fr'.length k N L seed M fr' := ⟨blk_keep hM3.blk gd3, hM3.ar.kept gd3, hM3.mp.kept gd3, hM3.fr.kept gd3⟩
    have b4 : w4.heap[w.heap.size]? = some (.cells #[.int .i64 a.1, .int .i64 a.2] 65 (0, 0)) := blk_keep (blk_far b2 (p := ⟨f, 3, none⟩) (show f ≠ w.heap.size from sfar f hs.1) _) gd3
    obtain ⟨p1, p2, p3, W', p4, p5, p6⟩ := put w4 (some aB) fr'.length A n c seed L fr' x hM4 b4
    have KF : Kp w W' S := (((Kp.of_none (S := S) g2).then KS (fun q _ e => by rw [e]; exact hs.1)).step gd3 (fun q hq => by cases hq)).step p6 (fun q hq => by cases hq; exact .inr hs.2.2.1)
    refine ⟨_, rfl, _, _, _, by rw [add_blk]; exact blk_cell hM2.blk 3, _, rfl, by omega, by omega, (x : Int), e2, _, rfl, _, _, _, by rw [add_blk]; exact blk_cell hM2.blk 3, ⟨by omega, by omega⟩, _, rfl, ⟨_, by rw [add_blk]; exact blk_cell hM2.blk 3⟩, by rw [add_blk]; exact blk_free hM2.blk 3, _, rfl, ?_⟩
    simp only [add_blk]
    rw [← hw4]
    refine ⟨_, p1, _, p2, _, p3, W', p4, x, L, fr', rfl, ?_, KF, .inl ⟨rfl, rfl⟩⟩
    have : FO W' base f g N S L (updK M a x) fr' := ⟨mb, A, n, c, some aB, fr'.length, k, seed, p5, ⟨hs.1, hs.2.1, hs.2.2.1, hs.2.2.2.1, fun q hq => hs.2.2.2.2 q (by rw [← t2]; exact hq)⟩, fun q hq => by
      obtain ⟨_, _, _, _, _, _, _, _, _, _, hS0⟩ := h
      exact Nat.lt_of_lt_of_le (hS0 q hq) KF.size⟩
    exact this.ext
  · have hfr : free = [] := List.eq_nil_of_length_eq_zero (by omega)
    subst hfr
    refine ⟨_, rfl, _, blk_cell hM.blk 0, (node_calls21 hM.ar (Nat.le_trans hb g1.size) hL).mono fun ev w3 hh => ?_⟩
    obtain ⟨rfl, A', n', c', seed', r, a1, a2, K3⟩ := hh
    have gd3 := grown_drew (grown_refl w3 none)
    obtain ⟨w4, hw4⟩ : ∃ w4, w4 = w3.drew := ⟨_, rfl⟩
    rw [← hw4] at gd3 ⊢
    have K4 := K3.step gd3 (fun q hq => by cases hq)
    have hM4 : FoM w4 base f g mb A' n' c' B m k N (L ++ [⟨-1, -1, -1, 1, r⟩]) seed' M [] := by
      refine ⟨?_, a1.kept gd3, hM.mp.kp K4 (fun e => ?_), hM.fr.kp K4 (fun q hq e => ?_)⟩
      · rw [K4.block _ (Array.getElem?_eq_some_iff.1 hM.blk).1 (fun e => ?_)]
        · exact hM.blk
        · rcases e with e | e
          · have := hM.blk; rw [e, hM.ar.blk] at this; cases this
          · exact own_far hM.ar.own hM.blk (by decide) e.symm
      · rcases e with e | e
        · rw [e] at hM; exact map_ne hM.mp hM.ar.blk rfl
        · obtain ⟨cur, h'⟩ := hM.ar.own.block_type mb e.symm
          exact map_ne hM.mp h' rfl
      · rcases e with e | e
        · subst e; exact own_far hM.fr hM.ar.blk (by decide) hq
        · exact own_ne hM.fr hM.ar.own (by decide) q hq e.symm
    have b4 : w4.heap[w.heap.size]? = some (.cells #[.int .i64 a.1, .int .i64 a.2] 65 (0, 0)) := by
      rw [K4.block _ (Array.getElem?_eq_some_iff.1 b1).1 (fun e => ?_)]
      · exact b1
      · rcases e with e | e
        · exact sfar g hs.2.1 e.symm
        · exact sfar _ (hs.2.2.2.1 _ e.symm) rfl
    obtain ⟨p1, p2, p3, W', p4, p5, p6⟩ := put w4 B m A' n' c' seed' (L ++ [⟨-1, -1, -1, 1, r⟩]) [] L.length hM4 b4
    have KF : Kp w W' S := ((Kp.of_none (S := S) g1).then K4 (fun q _ e => e.elim (fun e => by rw [e]; exact hs.2.1) (fun e => hs.2.2.2.1 q e.symm))).step p6 (fun q hq => by cases hq; exact .inr hs.2.2.1)
    refine ⟨_, rfl, _, rfl, _, by rw [add_blk]; exact p1, _, p2, _, p3, W', p4, L.length, L ++ [⟨-1, -1, -1, 1, r⟩], [], rfl, ?_, KF, .inr ⟨rfl, rfl, rfl, r, rfl⟩⟩
    refine ⟨mb, A', n', c', B, m, k, seed', p5, ⟨.inl hs.1, .inl hs.2.1, .inl hs.2.2.1, fun q hq => ?_, fun q hq => .inl (hs.2.2.2.2 q hq)⟩, fun q hq => ?_⟩
    · rcases a2 q hq with e | e
      · exact .inl (hs.2.2.2.1 q e)
      · exact .inr ⟨Nat.le_trans g1.size e, p5.ar.own.block_lt q hq⟩
    · rcases hq with hq | hq
      · obtain ⟨_, _, _, _, _, _, _, _, _, _, hS0⟩ := h
        exact Nat.lt_of_lt_of_le (hS0 q hq) KF.size
      · exact hq.2
theorem first_calls (h : FO w base f g N S L M free) (hs : ArS L σ) (hL : L.length ≤ 2 ^ 20) {x : Nat} (hx : x < L.length) {p q : List Nat} (hpq : σ x = p ++ x :: q) :
    Calls P 46 #[.pointer (some ⟨f, 0, none⟩), .int .i64 x] w fun ev w' => ev = .returned (.tuple #[]) ∧ ∃ L', L'.length = L.length ∧ FO w' base f g N S L' M free ∧ ArS L' (replS σ (x :: q ++ p)) ∧ Kp w w' S := by
  apply vc46; unfold VC46; try (conv => zeta)
  obtain ⟨mb, A, n, c, B, m, k, seed, hM, hS1, hS, c0, c1, c2, c3⟩ := h.open
  refine ⟨_, rfl, _, c0, (at_calls hM.ar hs hL (x := x) (i := 0) hx).mono fun ev w1 hh => ?_⟩
  obtain ⟨rfl, rfl⟩ := hh
  refine ⟨_, rfl, _, rfl, _, c0, (cut_calls21 hM.ar hs hL hx hpq).mono fun ev w2 hh => ?_⟩
  obtain ⟨rfl, L1, hl1, a1, a2, K1⟩ := hh
  obtain ⟨hM2, hS2, K2⟩ := FO.step hM hS1 hS a1 K1
  by_cases hp : p = []
  · subst hp
    rw [if_pos rfl] at a2
    refine ⟨_, rfl, fun h => (by simp at h), fun _ => ⟨rfl, L1, hl1, ⟨mb, A, n, c, B, m, k, seed, hM2, hS1, hS2⟩, ?_, K2⟩⟩
    have : replS σ (x :: q ++ []) = σ := by
      have := hs.repl x; rw [hpq] at this; simpa using this.symm
    rw [this]; exact a2
  · obtain ⟨y, p', rfl⟩ : ∃ y p', p = y :: p' := by
      cases p with
      | nil => exact absurd rfl hp
      | cons y p' => exact ⟨y, p', rfl⟩
    rw [if_neg hp] at a2
    have hd := hs.nodup x
    rw [hpq, List.nodup_append] at hd
    have xp : x ∉ y :: p' := fun h' => hd.2.2 x h' x (by simp) rfl
    have yq : y ∉ x :: q := fun h' => hd.2.2 y (by simp) y h' rfl
    have hy : y < L1.length := by rw [hl1]; exact (hs.lt (show y ∈ σ x by rw [hpq]; simp)).1
    have e1 : cutS σ (y :: p') (x :: q) x = x :: q := by unfold cutS; rw [if_neg xp, if_pos (by simp)]
    have e2 : cutS σ (y :: p') (x :: q) y = y :: p' := by unfold cutS; rw [if_pos (by simp)]
    have ne : cutS σ (y :: p') (x :: q) x ≠ cutS σ (y :: p') (x :: q) y := by
      rw [e1, e2]; intro e; exact xp (by rw [← e]; simp)
    have hat : (σ x)[0]? = some y := by rw [hpq]; rfl
    refine ⟨_, rfl, fun _ => ⟨_, rfl, _, blk_cell hM2.blk 0, ?_⟩, fun h => (by simp at h)⟩
    rw [hat]
    refine (join_calls21 a1 a2 (by omega) (x := x) (y := y) (by omega) hy).mono fun ev w3 hh => ?_
    obtain ⟨rfl, L2, hl2, d1, d2, K3⟩ := hh
    obtain ⟨hM3, hS3, K4⟩ := FO.step hM2 hS1 hS2 d1 K3
    rw [if_neg ne, turn_fun (by simp) xp (by simp)] at d2
    exact ⟨_, rfl, rfl, L2, by omega, ⟨mb, A, n, c, B, m, k, seed, hM3, hS1, hS3⟩, d2, K2.then K4 (fun _ _ e => e)⟩
theorem alone_calls (h : FO w base f g N S L M free) (hs : ArS L σ) (hL : L.length ≤ 2 ^ 20) {x : Nat} (hx : x < L.length) {q : List Nat} (hpq : σ x = x :: q) :
    Calls P 52 #[.pointer (some ⟨f, 0, none⟩), .int .i64 x] w fun ev w' => ev = .returned (.int .i64 (match q.head? with | some y => (y : Int) | none => -1)) ∧ ∃ L', L'.length = L.length ∧ FO w' base f g N S L' M free ∧ ArS L' (if q = [] then σ else cutS σ [x] q) ∧ Kp w w' S := by
  apply vc52; unfold VC52; try (conv => zeta)
  obtain ⟨mb, A, n, c, B, m, k, seed, hM, hS1, hS, c0, c1, c2, c3⟩ := h.open
  refine ⟨_, rfl, _, c0, (at_calls hM.ar hs hL (x := x) (i := 1) hx).mono fun ev w1 hh => ?_⟩
  obtain ⟨rfl, rfl⟩ := hh
  have hat : (σ x)[1]? = q.head? := by rw [hpq]; cases q <;> rfl
  rw [hat]
  refine ⟨_, rfl, _, rfl, _, c0, ?_⟩
  cases q with
  | nil =>
    refine (cut_none hM.ar (x := -1) (by omega)).mono fun ev w2 hh => ?_
    obtain ⟨rfl, g2⟩ := hh
    exact ⟨_, rfl, rfl, L, rfl, h.kept g2, by simpa using hs, Kp.of_none g2⟩
  | cons y q =>
    have hyx : y ∈ σ x := by rw [hpq]; simp
    have hy := (hs.lt hyx).1
    have hpy : σ y = [x] ++ y :: q := by rw [hs.eq hyx, hpq]; rfl
    refine (cut_calls21 hM.ar hs hL hy hpy).mono fun ev w2 hh => ?_
    obtain ⟨rfl, L1, hl1, a1, a2, K1⟩ := hh
    obtain ⟨hM2, hS2, K2⟩ := FO.step hM hS1 hS a1 K1
    rw [if_neg (by simp)] at a2
    exact ⟨_, rfl, rfl, L1, hl1, ⟨mb, A, n, c, B, m, k, seed, hM2, hS1, hS2⟩, by simpa using a2, K2⟩
end
end Go.Proofs.Ytpfkpmapimonbaa

/-! A forest's whole state: sequences, arcs, edges, how many trees; turned, linked, cut. -/
namespace Go.Proofs.Ytpfkpmapimonbaa
open Go Go.V Go.RowKit
set_option linter.unusedVariables false
set_option linter.unusedSimpArgs false
set_option maxHeartbeats 4000000

def arcOf (M : List ((Int × Int) × Nat)) (a b : Nat) : Option Nat := getK M ((a : Int), (b : Int))
structure TG (N : Nat) (L : List Nd) (σ : Nat → List Nat) (M : List ((Int × Int) × Nat)) (free : List Nat) (lab : Nat → It) (E : List (Nat × Nat)) : Prop where
  ars : ArS L σ
  tour : TourS N L.length σ (arcOf M) free lab
  edge : EdgeS N (arcOf M) E
  mlen : M.length = 2 * E.length
  mnod : (M.map Prod.fst).Nodup
  mnat : ∀ p ∈ M, 0 ≤ p.1.1 ∧ 0 ≤ p.1.2
  cnt : cntS N σ + E.length = N
theorem cntS_congr {n : Nat} {σ τ : Nat → List Nat} (h : ∀ x y, x < n → y < n → (y ∈ τ x ↔ y ∈ σ x)) : cntS n τ = cntS n σ := by
  unfold cntS
  congr 1
  refine List.filter_congr fun x hx => decide_eq_decide.2 ⟨fun h' y hy hyn => h' y ((h x y (by simpa using hx) hyn).2 hy) hyn, fun h' y hy hyn => h' y ((h x y (by simpa using hx) hyn).1 hy) hyn⟩
theorem pairE_eq {x y u v : Nat} : pairE x y = pairE u v ↔ (x = u ∧ y = v) ∨ (x = v ∧ y = u) := by
  unfold pairE
  simp only [Prod.mk.injEq]
  constructor
  · rintro ⟨h1, h2⟩
    rcases Nat.le_total x y with a | a <;> rcases Nat.le_total u v with b | b
    · rw [Nat.min_eq_left a, Nat.min_eq_left b] at h1; rw [Nat.max_eq_right a, Nat.max_eq_right b] at h2; omega
    · rw [Nat.min_eq_left a, Nat.min_eq_right b] at h1; rw [Nat.max_eq_right a, Nat.max_eq_left b] at h2; omega
    · rw [Nat.min_eq_right a, Nat.min_eq_left b] at h1; rw [Nat.max_eq_left a, Nat.max_eq_right b] at h2; omega
    · rw [Nat.min_eq_right a, Nat.min_eq_right b] at h1; rw [Nat.max_eq_left a, Nat.max_eq_left b] at h2; omega
  · rintro (⟨rfl, rfl⟩ | ⟨rfl, rfl⟩)
    · exact ⟨rfl, rfl⟩
    · rw [Nat.min_comm, Nat.max_comm]; exact ⟨rfl, rfl⟩
section
variable {N : Nat} {L L' : List Nd} {σ : Nat → List Nat} {M : List ((Int × Int) × Nat)} {free : List Nat} {lab : Nat → It} {E : List (Nat × Nat)}
theorem TG.le (h : TG N L σ M free lab E) : N ≤ L.length := h.tour.nle
theorem TG.free_len (h : TG N L σ M free lab E) : free.length ≤ L.length := by
  have := len_sub (m := List.range L.length) h.tour.fre.1 fun a ha => by simp [(h.tour.fre.2 a ha).2.1]
  simpa using this
theorem TG.turn (h : TG N L σ M free lab E) {u : Nat} (hu : u < N) {p q : List Nat} (hpq : σ u = p ++ q) (hl : L'.length = L.length) (hs : ArS L' (replS σ (q ++ p))) : TG N L' (replS σ (q ++ p)) M free lab E := by
  have ht := h.tour.turn h.ars hu hpq
  refine ⟨hs, by rw [hl]; exact ht, h.edge, h.mlen, h.mnod, h.mnat, ?_⟩
  rw [cntS_congr (σ := σ)]
  · exact h.cnt
  · intro x y _ _
    unfold replS
    split
    · rename_i hx
      have : x ∈ σ u := by rw [hpq]; simpa [or_comm] using hx
      rw [h.ars.eq this, hpq]; simp [or_comm]
    · rfl
theorem arcOf_upd {k : Nat} {u v : Nat} : arcOf (updK M ((u : Int), (v : Int)) k) = arcAdd (arcOf M) u v k := by
  funext a b
  unfold arcOf arcAdd
  rw [getK_upd]
  by_cases e : a = u ∧ b = v
  · obtain ⟨rfl, rfl⟩ := e; simp
  · rw [if_neg e, if_neg]
    intro e'
    simp only [Prod.mk.injEq] at e'
    exact e ⟨by omega, by omega⟩
theorem arcOf_del {u v : Nat} : arcOf (delK M ((u : Int), (v : Int))) = arcDel (arcOf M) u v := by
  funext a b
  unfold arcOf arcDel
  rw [getK_del]
  by_cases e : a = u ∧ b = v
  · obtain ⟨rfl, rfl⟩ := e; simp
  · rw [if_neg e, if_neg]
    intro e'
    simp only [Prod.mk.injEq] at e'
    exact e ⟨by omega, by omega⟩
/-- A node of its own sequence is in no other one. -/
theorem ArS.alone_not (hs : ArS L σ) {k : Nat} (hk : σ k = [k] ∨ L.length ≤ k) : ∀ z, z ≠ k → k ∉ σ z := fun z hz hm => by
  rcases hk with e | e
  · have h1 := hs.symm hm
    rw [e] at h1
    simp at h1; exact hz h1
  · have := hs.lt hm; omega
theorem TG.link (h : TG N L σ M free lab E) {u v k1 k2 : Nat} {s t free' : List Nat} (hu : u < N) (hv : v < N) (hsu : σ u = u :: s) (hsv : σ v = v :: t) (ne : σ u ≠ σ v)
    (h12 : k1 ≠ k2) (hk1 : N ≤ k1 ∧ k1 < L'.length) (hk2 : N ≤ k2 ∧ k2 < L'.length) (hl : L.length ≤ L'.length) (f1 : ∀ z, z ≠ k1 → k1 ∉ σ z) (f2 : ∀ z, z ≠ k2 → k2 ∉ σ z)
    (hf : free'.Nodup ∧ ∀ k ∈ free', k ∈ free ∧ k ≠ k1 ∧ k ≠ k2) (hs : ArS L' (replS (nodeS (nodeS σ k1) k2) (σ u ++ [k1] ++ σ v ++ [k2]))) :
    TG N L' (replS (nodeS (nodeS σ k1) k2) (σ u ++ [k1] ++ σ v ++ [k2])) (updK (updK M ((u : Int), (v : Int)) k1) ((v : Int), (u : Int)) k2) free' (labSet (labSet lab k1 (.a u v)) k2 (.a v u)) (E ++ [pairE u v]) := by
  have huv : u ≠ v := fun e => ne (by rw [e])
  have no1 : arcOf M u v = none := by
    cases e : arcOf M u v with
    | none => rfl
    | some k => exact absurd (h.tour.both h.ars e).2.2.symm ne
  have no2 : arcOf M v u = none := by
    cases e : arcOf M v u with
    | none => rfl
    | some k => exact absurd (h.tour.both h.ars e).2.2 ne
  have hE : pairE u v ∉ E := fun h' => by
    obtain ⟨k, hk⟩ := (h.edge.iff u v).2 h'
    rw [no1] at hk; cases hk
  have ht := h.tour.link h.ars hu hv hsu hsv ne h12 hk1 hk2 hl f1 f2 hf
  have uA : u ∈ σ u := by rw [hsu]; simp
  have vA : v ∈ σ v := by rw [hsv]; simp
  have e1 : updK M ((u : Int), (v : Int)) k1 = M ++ [(((u : Int), (v : Int)), k1)] := updK_none no1
  have no2' : getK (updK M ((u : Int), (v : Int)) k1) ((v : Int), (u : Int)) = none := by
    rw [getK_upd, if_neg (by simp only [Prod.mk.injEq]; omega)]; exact no2
  have e2 : updK (updK M ((u : Int), (v : Int)) k1) ((v : Int), (u : Int)) k2 = M ++ [(((u : Int), (v : Int)), k1)] ++ [(((v : Int), (u : Int)), k2)] := by rw [updK_none no2', e1]
  refine ⟨hs, ?_, ⟨?_, ?_, ?_⟩, ?_, updK_nodup (updK_nodup h.mnod _ _) _ _, ?_, ?_⟩
  · rw [arcOf_upd, arcOf_upd]; exact ht
  · rw [List.nodup_append]
    exact ⟨h.edge.nodup, by simp, fun a ha b hb e => by simp at hb; subst hb; subst e; exact hE ha⟩
  · intro e he
    rcases List.mem_append.1 he with he | he
    · exact h.edge.ok e he
    · simp at he; subst he
      unfold pairE; simp only; omega
  · intro x y
    rw [arcOf_upd, arcOf_upd, List.mem_append, List.mem_singleton, pairE_eq]
    unfold arcAdd
    by_cases c1 : x = v ∧ y = u
    · simp [c1]
    · by_cases c2 : x = u ∧ y = v
      · rw [if_neg c1, if_pos c2]; simp [c2]
      · rw [if_neg c1, if_neg c2, h.edge.iff]; simp [c1, c2]
  · rw [e2]; simp [h.mlen]; omega
  · rw [e2]
    intro p hp
    simp only [List.mem_append, List.mem_singleton] at hp
    rcases hp with (hp | rfl) | rfl
    · exact h.mnat p hp
    · simp
    · simp
  · have hc := cnt_merge (n := N) (σ := σ) (τ := replS (nodeS (nodeS σ k1) k2) (σ u ++ [k1] ++ σ v ++ [k2])) (u := u) (v := v) (fun x hx => h.ars.self (by have := h.le; omega)) (fun x y hy => h.ars.eq hy) hu hv (fun h' => ne (h.ars.eq h').symm) fun x y hx hy => by
      have xk1 : x ≠ k1 := by omega
      have xk2 : x ≠ k2 := by omega
      have yk1 : y ≠ k1 := by omega
      have yk2 : y ≠ k2 := by omega
      unfold replS
      by_cases hm : x ∈ σ u ++ [k1] ++ σ v ++ [k2]
      · rw [if_pos hm]
        have hm' : x ∈ σ u ∨ x ∈ σ v := by simpa [xk1, xk2] using hm
        have : y ∈ σ u ++ [k1] ++ σ v ++ [k2] ↔ y ∈ σ u ∨ y ∈ σ v := by simp [yk1, yk2]
        rw [this]
        constructor
        · intro h'; exact .inr ⟨hm', h'⟩
        · rintro (h' | ⟨_, h'⟩)
          · rcases hm' with h2 | h2
            · left; rw [← h.ars.eq h2]; exact h'
            · right; rw [← h.ars.eq h2]; exact h'
          · exact h'
      · rw [if_neg hm]
        have hm' : ¬ (x ∈ σ u ∨ x ∈ σ v) := fun h' => hm (by rcases h' with h' | h' <;> simp [h'])
        unfold nodeS
        rw [if_neg xk2, if_neg xk1]
        constructor
        · intro h'; exact .inl h'
        · rintro (h' | ⟨h', _⟩)
          · exact h'
          · exact absurd h' hm'
    have := h.cnt
    simp only [List.length_append, List.length_singleton]; omega
theorem delK_len {k : Int × Int} {j : Nat} (hn : (M.map Prod.fst).Nodup) (h : getK M k = some j) : (delK M k).length + 1 = M.length := by
  have hm := (getK_mem hn).1 h
  obtain ⟨i, hi, e⟩ := List.mem_iff_getElem.1 hm
  rw [delK_at hn (j := i) (k := k) (u := j) (by rw [List.getElem?_eq_getElem hi, e]), List.length_eraseIdx, if_pos hi]
  omega
theorem TG.cut (h : TG N L σ M free lab E) {u v x y a b : Nat} {p X q : List Nat} (hu : u < N) (hsp : σ u = p ++ a :: (X ++ b :: q)) (ha : arcOf M x y = some a) (hb : arcOf M y x = some b) (hxy : (x = u ∧ y = v) ∨ (x = v ∧ y = u)) (hl : L'.length = L.length) (hs : ArS L' (fcut σ p a X b q)) :
    TG N L' (fcut σ p a X b q) (delK (delK M ((u : Int), (v : Int))) ((v : Int), (u : Int))) (free ++ [a, b]) lab (E.erase (pairE u v)) := by
  obtain ⟨ht, ⟨z1, z1n, z1X⟩, ⟨z2, z2n, z2P⟩⟩ := h.tour.cut h.ars hu hsp ha hb
  have hxy' : pairE x y = pairE u v := pairE_eq.2 hxy
  have hEm : pairE u v ∈ E := by rw [← hxy']; exact (h.edge.iff x y).1 ⟨a, ha⟩
  have hne : u ≠ v := fun e => by
    have := (h.edge.ok _ hEm).1
    unfold pairE at this; simp [e] at this
  obtain ⟨k1, hk1⟩ : ∃ k, getK M ((u : Int), (v : Int)) = some k := (h.edge.iff u v).2 hEm
  obtain ⟨k2, hk2⟩ : ∃ k, getK M ((v : Int), (u : Int)) = some k := (h.edge.iff v u).2 (by rw [pairE_comm]; exact hEm)
  have hk2' : getK (delK M ((u : Int), (v : Int))) ((v : Int), (u : Int)) = some k2 := by
    rw [getK_del, if_neg (by simp only [Prod.mk.injEq]; omega)]; exact hk2
  have hd2 : arcDel (arcDel (arcOf M) u v) v u = arcDel (arcDel (arcOf M) x y) y x := by
    funext c d
    unfold arcDel
    rcases hxy with ⟨rfl, rfl⟩ | ⟨rfl, rfl⟩
    · rfl
    · by_cases c1 : c = y ∧ d = x <;> by_cases c2 : c = x ∧ d = y <;> simp [c1, c2]
  refine ⟨hs, ?_, ⟨h.edge.nodup.erase _, fun e he => h.edge.ok e (List.mem_of_mem_erase he), fun c d => ?_⟩, ?_, delK_nodup (delK_nodup h.mnod _) _, fun p hp => ?_, ?_⟩
  · rw [hl, arcOf_del, arcOf_del, hd2]; exact ht
  · rw [arcOf_del, arcOf_del, List.Nodup.mem_erase_iff h.edge.nodup, ← h.edge.iff]
    unfold arcDel
    by_cases c1 : c = v ∧ d = u
    · have : pairE c d = pairE u v := pairE_eq.2 (.inr c1)
      simp [c1, this, pairE_comm v u]
    · by_cases c2 : c = u ∧ d = v
      · simp [c2]
      · have : pairE c d ≠ pairE u v := fun e => by
          rcases pairE_eq.1 e with e | e
          · exact c2 e
          · exact c1 e
        simp [c1, c2, this]
  · have e1 := delK_len h.mnod hk1
    have e2 := delK_len (delK_nodup h.mnod _) hk2'
    have e3 := h.mlen
    rw [List.length_erase_of_mem hEm]
    have : 0 < E.length := List.length_pos_of_mem hEm
    omega
  · exact h.mnat p (List.mem_filter.1 (List.mem_filter.1 hp).1).1
  · -- one tree more
    have hd := h.ars.nodup u
    rw [hsp] at hd
    have mS : ∀ z, z ∈ σ u ↔ z ∈ p ++ q ∨ z ∈ X ∨ z = a ∨ z = b := fun z => by rw [hsp]; simp only [List.mem_append, List.mem_cons]; exact ⟨fun h' => (by rcases h' with h' | h' | h' | h' | h' <;> simp [h']), fun h' => (by rcases h' with (h' | h') | h' | h' | h' <;> simp [h'])⟩
    have aN : N ≤ a := (h.tour.arcs _ _ _ ha).1
    have bN : N ≤ b := (h.tour.arcs _ _ _ hb).1
    have dis : ∀ z, z ∈ p ++ q → z ∉ X := fun z h1 h2 => by
      rw [List.nodup_append, List.nodup_cons, List.nodup_append] at hd
      rcases List.mem_append.1 h1 with h1 | h1
      · exact hd.2.2 z h1 z (by simp [h2]) rfl
      · exact hd.2.1.2.2.2 z h2 z (by simp [h1]) rfl
    have onP : ∀ z, z ∈ p ++ q → fcut σ p a X b q z = p ++ q := fun z hz => by unfold fcut; rw [if_pos hz]
    have onX : ∀ z, z ∈ X → fcut σ p a X b q z = X := fun z hz => by unfold fcut; rw [if_neg (fun h' => dis z h' hz), if_pos hz]
    have onO : ∀ z, z ∉ σ u → fcut σ p a X b q z = σ z := fun z hz => by
      rw [mS] at hz
      simp only [not_or] at hz
      unfold fcut
      rw [if_neg hz.1, if_neg hz.2.1, if_neg hz.2.2.1, if_neg hz.2.2.2]
    have hc := cnt_merge (n := N) (σ := fcut σ p a X b q) (τ := σ) (u := z1) (v := z2) (fun x hx => hs.self (by have := h.le; omega)) (fun x y hy => hs.eq hy) z1n z2n (by rw [onX z1 z1X]; exact dis z2 z2P) fun x' y' hx' hy' => by
      rw [onX z1 z1X, onP z2 z2P]
      have xa : x' ≠ a := by omega
      have xb : x' ≠ b := by omega
      have ya : y' ≠ a := by omega
      have yb : y' ≠ b := by omega
      by_cases hm : x' ∈ σ u
      · rw [h.ars.eq hm, mS]
        have hm' := (mS x').1 hm
        simp only [xa, xb, ya, yb, or_false] at hm' ⊢
        constructor
        · intro h'; exact .inr ⟨hm'.symm, h'.symm⟩
        · rintro (h' | ⟨_, h'⟩)
          · rcases hm' with h2 | h2
            · rw [onP x' h2] at h'; exact .inl h'
            · rw [onX x' h2] at h'; exact .inr h'
          · exact h'.symm
      · rw [onO x' hm]
        constructor
        · intro h'; exact .inl h'
        · rintro (h' | ⟨h', _⟩)
          · exact h'
          · exact absurd ((mS x').2 (by rcases h' with h' | h' <;> simp only [h', true_or, or_true])) hm
    have := h.cnt
    rw [List.length_erase_of_mem hEm]
    have : 0 < E.length := List.length_pos_of_mem hEm
    omega
end
end Go.Proofs.Ytpfkpmapimonbaa
