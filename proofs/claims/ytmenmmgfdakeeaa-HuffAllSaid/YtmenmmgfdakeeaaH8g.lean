/- archipelagoref5's lengths: the walk. -/
import Derived.Test.YtmenmmgfdakeeaaH7g
namespace Go.Proofs.Ytmenmmgfdakeeaa
open Go Go.V Go.RowKit
set_option linter.unusedVariables false
set_option linter.unusedSimpArgs false
set_option maxHeartbeats 4000000
set_option maxRecDepth 100000

abbrev noLens : Value := .tuple #[.slice none 0 0, .int .i64 0, .bool false]
theorem rlens_calls {w : World} {A : Option Addr} {n c : Nat} {l : List Int} (hr : Row w A (u8s l)) (hn : n = l.length) (hc : n ≤ c) (hb : BytesB l) (hl : l.length ≤ 2 ^ 40) :
    Calls P 104 #[.slice A n c] w fun ev w' => w.grownBy w' none ∧ ((ev = .returned noLens ∧ ∀ ls tail, ¬ HdOk l ls tail) ∨
      ∃ (A' : Option Addr) (c' : Nat) (out : List Int) (p : Nat), ev = .returned (.tuple #[.slice A' 256 c', .int .i64 (p : Int), .bool true]) ∧ Owned w' w.heap.size 3 A' 256 c' (ints out) ∧ out.length = 256 ∧ p ≤ l.length ∧ ∀ ls tail, HdOk l ls tail → out = ls ∧ l.drop p = tail) := by
  apply vc104; unfold VC104
  simp only [InK]
  refine (rvtake_calls (most := 256) hr hn hb (by omega)).mono fun ev w1 hh => ?_
  obtain ⟨rfl, g1⟩ := hh
  have ht := takeV_is (most := 256) (b := l) (fun x hx => (hb x hx).1)
  have htk : ∀ ls tail, HdOk l ls tail → takeV 256 l = ((posN ls : Int), (putV (posN ls)).length, 0) := by
    rintro ls tail ⟨hls, hr, he⟩
    have hpn := posN_le ls
    have := takeV_put (most := 256) (n := posN ls) (by omega) (by omega) (headR ls 0 0 ++ tail)
    rw [← he] at this
    exact this
  obtain ⟨N, k0, e0, hv⟩ : ∃ v k e, takeV 256 l = (v, k, e) := ⟨_, _, _, rfl⟩
  rw [hv] at ht htk ⊢
  simp only at ht ⊢
  refine ⟨N, (k0 : Int), e0, rfl, fun he => ⟨g1, .inl ⟨by trivial, fun ls tail hd => ?_⟩⟩, fun he => ?_⟩
  · have := congrArg (fun t => t.2.2) (htk ls tail hd)
    exact he this
  have he : e0 = 0 := by omega
  obtain ⟨w2, hr2, hown, g2⟩ := run_made (P := P) (w := w1) elemInt (by omega) (m := 256) (by omega)
  have g02 := grown_trans g1 g2
  refine ⟨_, _, _, w2, hr2, ?_⟩
  refine ⟨fun m at_ s i w3 => ∃ (p k j : Nat) (out : List Int), at_ = (p : Int) ∧ s = (k : Int) - 1 ∧ i = (j : Int) ∧ p ≤ l.length ∧ k ≤ 256 ∧ m = N.toNat - j ∧ (j : Int) ≤ N ∧ Own w3 w1.heap.size 3 256 (ints out) ∧ out.length = 256 ∧ w2.grownBy w3 (some w1.heap.size) ∧ ∀ ls tail, HdOk l ls tail → out = upto ls k ∧ N - j = (posN (ls.drop k) : Int) ∧ l.drop p = headR (ls.drop k) k k ++ tail,
    ⟨_, k0, 0, 0, List.replicate 256 0, rfl, by omega, by omega, by omega, by omega, rfl, by omega, by simpa [ints] using hown, by simp, grown_refl _ _, ?_⟩, ?_⟩
  · intro ls tail hd
    have h1 := htk ls tail hd
    have e1 : N = (posN ls : Int) := congrArg Prod.fst h1
    have e2 : k0 = (putV (posN ls)).length := congrArg (fun t => t.2.1) h1
    refine ⟨(upto_zero ls).symm, by simp; omega, ?_⟩
    rw [e2, hd.2.2]; simp
  rintro m at_ s i w3 ⟨p, k, j, out, rfl, rfl, rfl, hp, hk, rfl, hjN, ho, hol, hg, hc3⟩
  have hA : ∀ a, A = some a → l = [] ∨ a.block < w.heap.size := fun a ha => by
    by_cases e : l = []
    · exact .inl e
    · obtain ⟨q, q1, q2⟩ := hr.blk (by simpa using e)
      rw [ha] at q1; cases q1; exact .inr q2
  have hgf : w.grownBy w3 none := grown_own g02 hg (fun k hk => by cases hk; exact g1.size)
  have tp : (p : Int).toNat = p := by omega
  refine ⟨fun hlt => ?_, fun hge => ?_⟩
  · rw [tp]
    have r3 : Row w3 A (u8s l) := hr.kept_none hgf
    have hbd : BytesB (l.drop p) := fun x hx => hb x (List.mem_of_mem_drop hx)
    refine ⟨⟨by omega, by omega⟩, ?_⟩
    refine (rvtake_calls (most := 255) (cut8 (c := c) (k := p) r3 (by omega)) (by simp; omega) hbd (by omega)).mono fun ev w4 hh => ?_
    obtain ⟨rfl, g4⟩ := hh
    have ht4 := takeV_is (most := 255) (b := l.drop p) (fun x hx => (hbd x hx).1)
    obtain ⟨v, q, e, hv4⟩ : ∃ v q e, takeV 255 (l.drop p) = (v, q, e) := ⟨_, _, _, rfl⟩
    have hc4 : ∀ ls tail, HdOk l ls tail → ∃ (x : Int) (i : Nat), v = (i : Int) ∧ e = 0 ∧ k + i < 256 ∧ 0 ≤ x ∧ x ≤ 15 ∧ l.drop (p + q) = putV x.toNat ++ (headR (ls.drop (k + i + 1)) (k + i + 1) (k + i + 1) ++ tail) ∧ out.set (k + i) x = upto ls (k + i + 1) ∧ N - j - 1 = (posN (ls.drop (k + i + 1)) : Int) := by
      intro ls tail hd
      obtain ⟨c1, c2, c3⟩ := hc3 ls tail hd
      obtain ⟨i, x, r1, s1, s2, s3, s4, s5, s6, s7⟩ := HdOk.step hd.1 hd.2.1 hk c2 (by omega) c3
      have htk := takeV_put (most := 255) (n := i) (by omega) (by omega) r1
      rw [← s4, hv4] at htk
      have e1 : v = (i : Int) := congrArg Prod.fst htk
      have e2 : q = (putV i).length := congrArg (fun t => t.2.1) htk
      have e3 : e = 0 := congrArg (fun t => t.2.2) htk
      refine ⟨x, i, e1, e3, s1, s2, s3, ?_, by rw [c1]; exact s6, s7⟩
      rw [← List.drop_drop, s4, e2, List.drop_left, s5]
    rw [hv4] at ht4 ⊢
    simp only [List.length_drop] at ht4 ⊢
    have gf4 := grown_trans hgf g4
    refine ⟨v, (q : Int), e, rfl, fun he => ⟨gf4, .inl ⟨by trivial, fun ls tail hd => ?_⟩⟩, fun he => ?_⟩
    · obtain ⟨x, i, a1, a2, _⟩ := hc4 ls tail hd
      exact he a2
    have he : e = 0 := by omega
    have tpq : ((p : Int) + (q : Int)).toNat = p + q := by omega
    rw [tpq]
    refine ⟨by omega, ⟨by omega, by omega⟩, ?_⟩
    have hbd2 : BytesB (l.drop (p + q)) := fun x hx => hb x (List.mem_of_mem_drop hx)
    refine (rvtake_calls (most := 15) (cut8 (c := c) (k := p + q) (r3.kept_none g4) (by omega)) (by simp; omega) hbd2 (by omega)).mono fun ev w5 hh => ?_
    obtain ⟨rfl, g5⟩ := hh
    have ht5 := takeV_is (most := 15) (b := l.drop (p + q)) (fun x hx => (hbd2 x hx).1)
    obtain ⟨v5, q5, e5, hv5⟩ : ∃ v' q' e', takeV 15 (l.drop (p + q)) = (v', q', e') := ⟨_, _, _, rfl⟩
    have hc5 : ∀ ls tail, HdOk l ls tail → ∃ (i : Nat), v = (i : Int) ∧ e5 = 0 ∧ k + i < 256 ∧ l.drop (p + q + q5) = headR (ls.drop (k + i + 1)) (k + i + 1) (k + i + 1) ++ tail ∧ out.set (k + i) v5 = upto ls (k + i + 1) ∧ N - j - 1 = (posN (ls.drop (k + i + 1)) : Int) := by
      intro ls tail hd
      obtain ⟨x, i, a1, a2, a3, a4, a5, a6, a7, a8⟩ := hc4 ls tail hd
      have htk := takeV_put (most := 15) (n := x.toNat) (by omega) (by omega) (headR (ls.drop (k + i + 1)) (k + i + 1) (k + i + 1) ++ tail)
      rw [← a6, hv5] at htk
      have e1 : v5 = ((x.toNat : Nat) : Int) := congrArg Prod.fst htk
      have e2 : q5 = (putV x.toNat).length := congrArg (fun t => t.2.1) htk
      have e3 : e5 = 0 := congrArg (fun t => t.2.2) htk
      refine ⟨i, a1, e3, a3, ?_, ?_, a8⟩
      · rw [← List.drop_drop, a6, e2, List.drop_left]
      · rw [show v5 = x by omega]; exact a7
    rw [hv5] at ht5 ⊢
    simp only [List.length_drop] at ht5 ⊢
    have gf5 := grown_trans gf4 g5
    refine ⟨v5, (q5 : Int), e5, rfl, by omega, by omega, by omega, fun he => ⟨gf5, .inl ⟨by trivial, fun ls tail hd => ?_⟩⟩, fun he5 => ⟨fun hbig => ⟨gf5, .inl ⟨by trivial, fun ls tail hd => ?_⟩⟩, fun hsm => ?_⟩⟩
    · obtain ⟨i, a1, a2, _⟩ := hc5 ls tail hd
      exact he a2
    · obtain ⟨i, a1, a2, a3, _⟩ := hc5 ls tail hd
      omega
    have he5 : e5 = 0 := by omega
    have tv : ((k : Int) - 1 + (v + 1)).toNat = k + v.toNat := by omega
    have ho5 : Own w5 w1.heap.size 3 256 (ints out) := (ho.kept_none g4).kept_none g5
    have hcell := ho5.cell (j := k + v.toNat) (u := .int .i64 (out.getD (k + v.toNat) 0)) (ints_at (by omega))
    have hset := ho5.set (j := k + v.toNat) (by rw [List.length_map]; omega) (.int .i64 v5)
    rw [ints_set] at hset
    refine ⟨by omega, by omega, _, rfl, by omega, by omega, ⟨_, by rw [tv]; exact hcell⟩, ho5.notFrozen (add_block _ _), by omega, N.toNat - (j + 1), by omega, ?_⟩
    rw [tv]
    refine ⟨p + q + q5, k + v.toNat + 1, j + 1, out.set (k + v.toNat) v5, by omega, by omega, by omega, by omega, by omega, rfl, by omega, hset, by simp; omega, grown_set (grown_trans (grown_trans hg (grown_none g4)) (grown_none g5)) (add_block _ _) _, ?_⟩
    intro ls tail hd
    obtain ⟨i, a1, a2, a3, a4, a5, a6⟩ := hc5 ls tail hd
    have ti : v.toNat = i := by omega
    rw [ti]
    exact ⟨a5, by omega, a4⟩
  · have h5 := ho.ownsRow (base := w.heap.size) g1.size (by simp only [maxLen]; omega)
    have hl5 : (ints out).length = 256 := by rw [List.length_map, hol]
    rw [hl5] at h5
    refine ⟨hgf, .inr ⟨_, _, out, p, rfl, h5, hol, hp, fun ls tail hd => ?_⟩⟩
    obtain ⟨c1, c2, c3⟩ := hc3 ls tail hd
    have hp0 : posN (ls.drop k) = 0 := by omega
    obtain ⟨h1, h2⟩ := head_end (ls.drop k) k k hp0
    rw [h1, List.nil_append] at c3
    exact ⟨by rw [c1]; exact upto_end hd.1 (fun v hv => (hd.2.1 v hv).1) hk h2, c3⟩
end Go.Proofs.Ytmenmmgfdakeeaa
