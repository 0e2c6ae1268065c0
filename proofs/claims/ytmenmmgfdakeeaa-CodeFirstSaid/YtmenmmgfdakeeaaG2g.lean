/- archipelagolaw6.CodeFirst: the walk. -/
import Derived.Test.YtmenmmgfdakeeaaG1g
namespace Go.V

/-- The first symbol of all, and the last one. -/
theorem ord_first {ls : List Int} {f : Nat} (hf : f < ls.length ∧ 0 < ln ls f) (h : ∀ t, t < ls.length → 0 < ln ls t → ln ls f < ln ls t ∨ (ln ls f = ln ls t ∧ f ≤ t)) : ∃ B, ordL ls = f :: B := by
  cases e : ordL ls with
  | nil => have := ordL_mem.2 hf; rw [e] at this; simp at this
  | cons s B =>
    by_cases hs : s = f
    · subst hs; exact ⟨B, rfl⟩
    · have hsm := ordL_mem.1 (show s ∈ ordL ls by rw [e]; simp)
      obtain ⟨A, B', he, hB⟩ := ord_before hf hsm (by have := h s hsm.1 hsm.2; omega)
      have hn := ordL_nodup ls
      rw [e] at he
      rw [e, he] at hn
      cases A with
      | nil => simp at he; exact absurd he.1 hs
      | cons a A =>
        simp at he
        rw [← he.1] at hn
        have := (List.nodup_cons.1 hn).1
        exact absurd (by simp [hB]) this
theorem ord_last {ls : List Int} {l : Nat} (hl : l < ls.length ∧ 0 < ln ls l) (h : ∀ t, t < ls.length → 0 < ln ls t → ln ls t < ln ls l ∨ (ln ls t = ln ls l ∧ t ≤ l)) : ∃ A, ordL ls = A ++ [l] := by
  rcases List.eq_nil_or_concat (ordL ls) with e | ⟨A, s, e⟩
  · have := ordL_mem.2 hl; rw [e] at this; simp at this
  · rw [List.concat_eq_append] at e
    by_cases hs : s = l
    · subst hs; exact ⟨A, e⟩
    · have hsm := ordL_mem.1 (show s ∈ ordL ls by rw [e]; simp)
      obtain ⟨A', B', he, hB⟩ := ord_before hsm hl (by have := h s hsm.1 hsm.2; omega)
      have hn := ordL_nodup ls
      rw [e] at he
      rw [e, he] at hn
      rcases List.eq_nil_or_concat B' with rfl | ⟨B'', u, rfl⟩
      · simp at hB
      · rw [List.concat_eq_append, ← List.cons_append, ← List.append_assoc] at he
        obtain ⟨_, h2⟩ := List.append_inj' he rfl
        have : s = u := by simpa using h2
        subst this
        have := (List.nodup_append.1 hn).2.1
        have := (List.nodup_cons.1 this).1
        exact absurd (by simp) this
end Go.V
namespace Go.Proofs.Ytmenmmgfdakeeaa
open Go Go.V Go.RowKit
set_option linter.unusedVariables false
set_option linter.unusedSimpArgs false
set_option maxHeartbeats 4000000
set_option maxRecDepth 100000

theorem walkFirst {w : World} {A : Option Addr} {n c : Nat} {l : List Int} (hrow : Row w A (u16s l)) (hn : n = l.length) (hb : ∀ x ∈ l, 0 ≤ x ∧ x ≤ 65535) :
    Calls P 8 #[.slice A n c] w fun ev w' => ev = .returned (.bool true) ∧ w.grownBy w' none := by
  apply vc8; unfold VC8
  refine known6_calls.mono fun ev w1 hh => ?_
  obtain ⟨rfl, g1⟩ := hh
  refine ⟨true, rfl, fun h => absurd h (by simp), fun _ => ⟨fun _ => ⟨rfl, g1⟩, fun h60 => ?_⟩⟩
  refine (lengths6_calls (hrow.kept_none g1) hn hb (by omega) (by omega) (by omega)).mono fun ev w2 hh => ?_
  obtain ⟨A2, n2, c2, rfl, o2, g2⟩ := hh
  have hll := lens6_length (l := l) (by omega) 0 1
  generalize hx : lens6 l 0 1 = ls at *
  have hn2 : n2 = ls.length := by rw [o2.cases.1]; simp [ints]
  refine ⟨_, _, _, rfl, ?_⟩
  have g12 := grown_trans g1 g2
  refine (codes_calls o2.row hn2 (by omega)).mono fun ev w3 hh => ?_
  obtain ⟨A3, n3, c3, rfl, o3, g3⟩ := hh
  refine ⟨_, _, _, rfl, ?_⟩
  have g13 := grown_trans g12 g3
  have r3 := o2.row.kept_none g3
  have hn3 : n3 = (codesL ls).length := by rw [o3.cases.1]; simp [ints]
  refine (right_calls r3 hn2 (by omega)).mono fun ev w4 hh => ?_
  obtain ⟨rfl, g4⟩ := hh
  have g14 := grown_trans g13 g4
  refine ⟨_, rfl, fun hf => ⟨?_, g14⟩, fun ht => ?_⟩
  · have : codesL ls = [] := by unfold codesL; rw [hf]; rfl
    rw [this] at hn3
    simp [hn3]
  have hR : rightL ls = true := by simpa using ht
  have hcl := codesL_length hR
  obtain ⟨h256, hrng, hone⟩ := right_is hR
  refine ⟨fun h => absurd (by omega) h, fun _ => ?_⟩
  have rL : ∀ w', w4.grownBy w' none → Row w' A2 (ints ls) := fun w' h => (r3.kept_none g4).kept_none h
  have rC : ∀ w', w4.grownBy w' none → Row w' A3 (ints (codesL ls)) := fun w' h => (o3.row.kept_none g4).kept_none h
  have rdL : ∀ w', w4.grownBy w' none → ∀ t : Nat, t < ls.length → ∃ a, A2 = some a ∧ w'.cell? (a.add t) = some (.int .i64 (ln ls t)) := by
    intro w' h t ht
    obtain ⟨a, e1, e2⟩ := rL w' h t (.int .i64 ls[t]) (by simp [ints, ht])
    rw [show ls[t] = ln ls t from (ln_mem ht).symm] at e2
    exact ⟨a, e1, e2⟩
  have rdC : ∀ w', w4.grownBy w' none → ∀ t : Nat, t < ls.length → ∃ a, A3 = some a ∧ w'.cell? (a.add t) = some (.int .i64 (cd ls t)) := by
    intro w' h t ht
    exact rC w' h t (.int .i64 (cd ls t)) (by simp [ints, cd, hcl, ht, List.getD_eq_getElem?_getD])
  simp only [InK]
  refine ⟨fun m first last n' s w5 => ∃ k : Nat, s = (k : Int) ∧ k ≤ ls.length ∧ m = ls.length - k ∧ n' = (((List.range k).filter fun t => decide (0 < ln ls t)).length : Int) ∧
      ((first = -1 ∧ last = -1 ∧ (∀ t, t < k → ¬ 0 < ln ls t)) ∨ ∃ f q : Nat, first = (f : Int) ∧ last = (q : Int) ∧ f < k ∧ q < k ∧ 0 < ln ls f ∧ 0 < ln ls q ∧ (∀ t, t < k → 0 < ln ls t → ln ls f < ln ls t ∨ (ln ls f = ln ls t ∧ f ≤ t)) ∧ (∀ t, t < k → 0 < ln ls t → ln ls t < ln ls q ∨ (ln ls t = ln ls q ∧ t ≤ q))) ∧ w4.grownBy w5 none,
    ⟨_, 0, rfl, by omega, rfl, by simp, .inl ⟨rfl, rfl, by intro t h; omega⟩, grown_refl _ _⟩, ?_⟩
  rintro m first last n' s w5 ⟨k, rfl, hk, rfl, rfl, hfl, hg5⟩
  have tk : (k : Int).toNat = k := by omega
  have hfk : ((List.range k).filter fun t => decide (0 < ln ls t)).length ≤ k := by
    have := List.length_filter_le (fun t => decide (0 < ln ls t)) (List.range k)
    simpa using this
  have gd := grown_drew hg5
  refine ⟨fun hlt => ?_, fun hge => ?_⟩
  · have l1 : k < ls.length := by omega
    rw [tk]
    obtain ⟨a, ha1, ha2⟩ := rdL w5 hg5 k l1
    obtain ⟨b, hb1, hb2⟩ := rdC w5 hg5 k l1
    have hrk := hrng k
    refine ⟨a, ha1, by omega, by omega, _, ha2, fun hz => ⟨b, hb1, by omega, by omega, _, hb2, fun h => absurd (cd_zero hR (by omega)) h, fun _ => ?_⟩, fun hnz => ?_⟩
    · refine ⟨by omega, ls.length - (k + 1), by omega, k + 1, by omega, by omega, rfl, ?_, ?_, hg5⟩
      · rw [List.range_succ, List.filter_append]; simp [hz]
      · rcases hfl with ⟨h1, h2, h3⟩ | ⟨f, q, h1, h2, h3, h4, h5, h6, h7, h8⟩
        · refine .inl ⟨h1, h2, fun t ht => ?_⟩
          by_cases e : t = k
          · subst e; omega
          · exact h3 t (by omega)
        · refine .inr ⟨f, q, h1, h2, by omega, by omega, h5, h6, fun t ht h0 => ?_, fun t ht h0 => ?_⟩
          · by_cases e : t = k
            · subst e; omega
            · exact h7 t (by omega) h0
          · by_cases e : t = k
            · subst e; omega
            · exact h8 t (by omega) h0
    · have hp : 0 < ln ls k := by omega
      refine ⟨by omega, fun f1 w6 => w6 = w5.drew ∧ ∃ f : Nat, f1 = (f : Int) ∧ f < k + 1 ∧ 0 < ln ls f ∧ (∀ t, t < k + 1 → 0 < ln ls t → ln ls f < ln ls t ∨ (ln ls f = ln ls t ∧ f ≤ t)), ?_, ?_⟩
      · refine ⟨fun b w6 => w6 = w5.drew ∧ (b = true → (first < 0 ∨ ∃ f : Nat, first = (f : Int) ∧ ln ls k < ln ls f)) ∧ (b = false → ∃ f : Nat, first = (f : Int) ∧ ¬ ln ls k < ln ls f), ⟨fun h => ⟨rfl, fun _ => .inl h, fun h => (by cases h)⟩, fun h => ?_⟩, ?_⟩
        · rcases hfl with ⟨h1, _⟩ | ⟨f, q, h1, h2, h3, h4, h5, h6, h7, h8⟩
          · omega
          · subst h1
            have tf : (f : Int).toNat = f := by omega
            rw [tf]
            obtain ⟨a2, e1, e2⟩ := rdL _ gd k l1
            obtain ⟨a3, e3, e4⟩ := rdL _ gd f (by omega)
            refine ⟨a2, e1, by omega, by omega, _, e2, a3, e3, by omega, by omega, _, e4, rfl, fun h => .inr ⟨f, rfl, by simpa using h⟩, fun h => ⟨f, rfl, by simpa using h⟩⟩
        · rintro b w6 ⟨rfl, hb1', hb2'⟩
          refine ⟨fun h => ⟨rfl, k, rfl, by omega, hp, fun t ht h0 => ?_⟩, fun h => ⟨rfl, ?_⟩⟩
          · rcases hfl with ⟨h1, h2, h3⟩ | ⟨f, q, h1, h2, h3, h4, h5, h6, h7, h8⟩
            · by_cases e : t = k
              · subst e; omega
              · exact absurd h0 (h3 t (by omega))
            · rcases hb1' h with h9 | ⟨f', h9, h10⟩
              · omega
              · have : f' = f := by omega
                subst this
                by_cases e : t = k
                · subst e; omega
                · have := h7 t (by omega) h0; omega
          · obtain ⟨f', h9, h10⟩ := hb2' h
            rcases hfl with ⟨h1, h2, h3⟩ | ⟨f, q, h1, h2, h3, h4, h5, h6, h7, h8⟩
            · omega
            · have : f' = f := by omega
              subst this
              refine ⟨f', h1, by omega, h5, fun t ht h0 => ?_⟩
              by_cases e : t = k
              · subst e; omega
              · exact h7 t (by omega) h0
      · rintro f1 w6 ⟨rfl, f, rfl, hf1, hf2, hf3⟩
        have gdd := grown_drew gd
        refine ⟨fun l1' w7 => w7 = w5.drew.drew ∧ ∃ q : Nat, l1' = (q : Int) ∧ q < k + 1 ∧ 0 < ln ls q ∧ (∀ t, t < k + 1 → 0 < ln ls t → ln ls t < ln ls q ∨ (ln ls t = ln ls q ∧ t ≤ q)), ?_, ?_⟩
        · refine ⟨fun b w6 => w6 = w5.drew.drew ∧ (b = true → (last < 0 ∨ ∃ q : Nat, last = (q : Int) ∧ ln ls k ≥ ln ls q)) ∧ (b = false → ∃ q : Nat, last = (q : Int) ∧ ¬ ln ls k ≥ ln ls q), ⟨fun h => ⟨rfl, fun _ => .inl h, fun h => (by cases h)⟩, fun h => ?_⟩, ?_⟩
          · rcases hfl with ⟨_, h1, _⟩ | ⟨f, q, h1, h2, h3, h4, h5, h6, h7, h8⟩
            · omega
            · subst h2
              have tf : (q : Int).toNat = q := by omega
              rw [tf]
              obtain ⟨a2, e1, e2⟩ := rdL _ gdd k l1
              obtain ⟨a3, e3, e4⟩ := rdL _ gdd q (by omega)
              refine ⟨a2, e1, by omega, by omega, _, e2, a3, e3, by omega, by omega, _, e4, rfl, fun h => .inr ⟨q, rfl, by simpa using h⟩, fun h => ⟨q, rfl, by simpa using h⟩⟩
          · rintro b w6 ⟨rfl, hb1', hb2'⟩
            refine ⟨fun h => ⟨rfl, k, rfl, by omega, hp, fun t ht h0 => ?_⟩, fun h => ⟨rfl, ?_⟩⟩
            · rcases hfl with ⟨h1, h2, h3⟩ | ⟨f, q, h1, h2, h3, h4, h5, h6, h7, h8⟩
              · by_cases e : t = k
                · subst e; omega
                · exact absurd h0 (h3 t (by omega))
              · rcases hb1' h with h9 | ⟨q', h9, h10⟩
                · omega
                · have : q' = q := by omega
                  subst this
                  by_cases e : t = k
                  · subst e; omega
                  · have := h8 t (by omega) h0; omega
            · obtain ⟨q', h9, h10⟩ := hb2' h
              rcases hfl with ⟨h1, h2, h3⟩ | ⟨f, q, h1, h2, h3, h4, h5, h6, h7, h8⟩
              · omega
              · have : q' = q := by omega
                subst this
                refine ⟨q', h2, by omega, h6, fun t ht h0 => ?_⟩
                by_cases e : t = k
                · subst e; omega
                · exact h8 t (by omega) h0
        · rintro l1' w7 ⟨rfl, q, rfl, hq1, hq2, hq3⟩
          refine ⟨by omega, ls.length - (k + 1), by omega, k + 1, by omega, by omega, rfl, ?_, .inr ⟨f, q, rfl, rfl, hf1, hq1, hf2, hq2, hf3, hq3⟩, gdd⟩
          rw [List.range_succ, List.filter_append]; simp [hp]
  · have hk' : k = ls.length := by omega
    subst hk'
    have hpl : ((List.range ls.length).filter fun t => decide (0 < ln ls t)) = posL ls := rfl
    rw [hpl] at *
    have hop : 0 < (posL ls).length := by
      have h1 := List.length_pos_iff.2 (posL_pos hR)
      rw [(ordL_perm ls).length_eq] at h1
      exact h1
    have hg := grown_trans g14 gd
    rcases hfl with ⟨_, _, h3⟩ | ⟨f, q, rfl, rfl, h3, h4, h5, h6, h7, h8⟩
    · exfalso
      cases e : posL ls with
      | nil => rw [e] at hop; simp at hop
      | cons s _ =>
        have := posL_mem.1 (show s ∈ posL ls by rw [e]; simp)
        exact h3 s this.1 this.2
    have tf : (f : Int).toNat = f := by omega
    have tq : (q : Int).toNat = q := by omega
    obtain ⟨B, hB⟩ := ord_first ⟨h3, h5⟩ h7
    obtain ⟨A', hA'⟩ := ord_last ⟨h4, h6⟩ h8
    have hc0 := cd_first hR hB
    refine ⟨fun _ => ?_, fun h => absurd (by omega) h⟩
    rw [tf, tq]
    obtain ⟨b, hb1, hb2⟩ := rdC _ gd f h3
    refine ⟨b, hb1, by omega, by omega, _, hb2, fun _ => ⟨fun _ => ⟨by trivial, hg⟩, fun hn1 => ?_⟩, fun h => absurd hc0 h⟩
    obtain ⟨b2, hb3, hb4⟩ := rdC _ gd q h4
    obtain ⟨a2, ha3, ha4⟩ := rdL _ gd q h4
    have hkr : kraftL ls = 32768 := by
      rcases hone with h | h
      · exact absurd h.1 (by omega)
      · exact h
    have hcl2 := cd_last hR hA' hkr
    have hrq := hrng q
    have hmin : min (ln ls q).toNat 64 = (ln ls q).toNat := by omega
    have hp15 : (2 : Int) ^ (ln ls q).toNat ≤ 2 ^ 15 ∧ 0 < (2 : Int) ^ (ln ls q).toNat := by
      have e1 : ((2 ^ (ln ls q).toNat : Nat) : Int) = 2 ^ (ln ls q).toNat := by simp
      have := Nat.pow_le_pow_right (n := 2) (by omega) (show (ln ls q).toNat ≤ 15 by omega)
      have := Nat.two_pow_pos (ln ls q).toNat
      omega
    refine ⟨b2, hb3, by omega, by omega, _, hb4, a2, ha3, by omega, by omega, _, ha4, ?_⟩
    rw [hmin, Int.one_mul]
    refine ⟨by omega, by omega, ?_, hg⟩
    have : cd ls q = 2 ^ (ln ls q).toNat - 1 := by omega
    simp [this]
end Go.Proofs.Ytmenmmgfdakeeaa
