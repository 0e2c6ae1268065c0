/- archipelagolaw6.CodeFree: the walk. -/
import Derived.Test.YtmenmmgfdakeeaaG1g
namespace Go.Proofs.Ytmenmmgfdakeeaa
open Go Go.V Go.RowKit
set_option linter.unusedVariables false
set_option linter.unusedSimpArgs false
set_option maxHeartbeats 4000000
set_option maxRecDepth 100000

theorem run_eql (s t : Operand) (a b : Bool) (w : World) : Sem.run P (do eqGuard .eql 4 s t (.bool a) (.bool b); Go.binOp .eql 4 (.bool a) (.bool b) : Sem Value) w = .ok (.bool (a == b)) w := by
  cases a <;> cases b <;> kernel_rfl

theorem walkFree {w : World} {A : Option Addr} {n c : Nat} {l : List Int} {i j : Int} (hrow : Row w A (u16s l)) (hn : n = l.length) (hb : ∀ x ∈ l, 0 ≤ x ∧ x ≤ 65535) (hi : 0 ≤ i ∧ i ≤ 255) (hj : 0 ≤ j ∧ j ≤ 255) :
    Calls P 6 #[.slice A n c, .int .u8 i, .int .u8 j] w fun ev w' => ev = .returned (.bool true) ∧ w.grownBy w' none := by
  apply vc6; unfold VC6
  refine known6_calls.mono fun ev w1 hh => ?_
  obtain ⟨rfl, g1⟩ := hh
  refine ⟨true, rfl, fun h => absurd h (by simp), fun _ => ⟨fun _ => ⟨rfl, g1⟩, fun h60 => ⟨fun _ => ⟨rfl, g1⟩, fun h0 => ?_⟩⟩⟩
  refine (lengths6_calls (hrow.kept_none g1) hn hb (by omega) (by omega) (by omega)).mono fun ev w2 hh => ?_
  obtain ⟨A2, n2, c2, rfl, o2, g2⟩ := hh
  have hll := lens6_length (l := l) (by omega) 0 1
  generalize hx : lens6 l 0 1 = ls at *
  have hn2 : n2 = ls.length := by rw [o2.cases.1]; simp [ints]
  refine ⟨_, _, _, rfl, ?_⟩
  have g12 := grown_trans g1 g2
  refine (right_calls o2.row hn2 (by omega)).mono fun ev w3 hh => ?_
  obtain ⟨rfl, g3⟩ := hh
  have g13 := grown_trans g12 g3
  have r3 := o2.row.kept_none g3
  refine ⟨_, rfl, fun hf => ?_, fun ht => ?_⟩
  · refine (refRight_calls r3 hn2).mono fun ev w4 hh => ?_
    obtain ⟨rfl, g4⟩ := hh
    rw [hf]
    exact ⟨_, rfl, rfl, grown_trans g13 g4⟩
  have hR : rightL ls = true := by simpa using ht
  have hcl := codesL_length hR
  obtain ⟨h256, hrng, hone⟩ := right_is hR
  refine (codes_calls r3 hn2 (by omega)).mono fun ev w5 hh => ?_
  obtain ⟨A3, n3, c3, rfl, o3, g5⟩ := hh
  have hn3 : n3 = (codesL ls).length := by rw [o3.cases.1]; simp [ints]
  refine ⟨_, _, _, rfl, fun h => absurd (by omega) h, fun _ => ?_⟩
  have g15 := grown_trans g13 g5
  have rL : ∀ w', w5.grownBy w' none → Row w' A2 (ints ls) := fun w' h => (r3.kept_none g5).kept_none h
  have rdL : ∀ w', w5.grownBy w' none → ∀ t : Nat, t < ls.length → ∃ a, A2 = some a ∧ w'.cell? (a.add t) = some (.int .i64 (ln ls t)) := by
    intro w' h t ht
    obtain ⟨a, e1, e2⟩ := rL w' h t (.int .i64 ls[t]) (by simp [ints, ht])
    rw [show ls[t] = ln ls t from (ln_mem ht).symm] at e2
    exact ⟨a, e1, e2⟩
  have rdC : ∀ w', w5.grownBy w' none → ∀ t : Nat, t < ls.length → ∃ a, A3 = some a ∧ w'.cell? (a.add t) = some (.int .i64 (cd ls t)) := by
    intro w' h t ht
    exact (o3.row.kept_none h) t (.int .i64 (cd ls t)) (by simp [ints, cd, hcl, ht, List.getD_eq_getElem?_getD])
  have hlen : 0 < ls.length := by omega
  obtain ⟨p, hp⟩ : ∃ p : Nat, i % (n2 : Int) = (p : Int) := ⟨(i % (n2 : Int)).toNat, by have := Int.emod_nonneg i (show (n2 : Int) ≠ 0 by omega); omega⟩
  obtain ⟨q, hq⟩ : ∃ q : Nat, j % (n2 : Int) = (q : Int) := ⟨(j % (n2 : Int)).toNat, by have := Int.emod_nonneg j (show (n2 : Int) ≠ 0 by omega); omega⟩
  have hpl : p < ls.length := by have := Int.emod_lt_of_pos i (show (0 : Int) < (n2 : Int) by omega); omega
  have hql : q < ls.length := by have := Int.emod_lt_of_pos j (show (0 : Int) < (n2 : Int) by omega); omega
  have tp : (p : Int).toNat = p := by omega
  have tq : (q : Int).toNat = q := by omega
  rw [hp, hq, tp, tq]
  have gd := grown_drew (grown_refl w5 none)
  have gdd := grown_drew gd
  obtain ⟨a, ha1, ha2⟩ := rdL _ gd p hpl
  obtain ⟨b, hb1, hb2⟩ := rdL _ gd q hql
  have fin : w.grownBy w5.drew none := grown_trans g15 gd
  simp only [InK]
  refine ⟨by omega, by omega, by omega, by omega, a, ha1, by omega, by omega, _, ha2, fun _ => ⟨by trivial, fin⟩, fun hpz => ⟨b, hb1, by omega, by omega, _, hb2, fun _ => ⟨by trivial, fin⟩, fun hqz => ⟨fun _ => ⟨by trivial, fin⟩, fun hne => ?_⟩⟩⟩
  have hrp := hrng p
  have hrq := hrng q
  refine ⟨fun a b w7 => w7 = w5.drew.drew ∧ ∃ s t : Nat, a = (s : Int) ∧ b = (t : Int) ∧ s ≠ t ∧ s < ls.length ∧ t < ls.length ∧ 0 < ln ls s ∧ 0 < ln ls t ∧ ln ls s ≤ ln ls t, ?_, ?_⟩
  · obtain ⟨a3, e1, e2⟩ := rdL _ gdd p hpl
    obtain ⟨a4, e3, e4⟩ := rdL _ gdd q hql
    refine ⟨fun b w7 => w7 = w5.drew.drew ∧ (b = true ↔ ln ls p > ln ls q), ⟨a3, e1, by omega, by omega, _, e2, a4, e3, by omega, by omega, _, e4, rfl, by simp⟩, ?_⟩
    rintro bb w7 ⟨rfl, hbb⟩
    refine ⟨fun h => ⟨rfl, q, p, rfl, rfl, by omega, hql, hpl, by omega, by omega, by have := hbb.1 h; omega⟩, fun h => ⟨rfl, p, q, rfl, rfl, by omega, hpl, hql, by omega, by omega, ?_⟩⟩
    have : ¬ ln ls p > ln ls q := fun e => by rw [hbb.2 e] at h; cases h
    omega
  · rintro a' b' w7 ⟨rfl, s, t, rfl, rfl, hst, hsl, htl, hs0, ht0, hle⟩
    have gddd := grown_drew gdd
    have fin3 : w.grownBy w5.drew.drew.drew none := grown_trans g15 gddd
    have ts : (s : Int).toNat = s := by omega
    have tt : (t : Int).toNat = t := by omega
    rw [ts, tt]
    obtain ⟨cs, hcs1, hcs2⟩ := rdC _ gddd s hsl
    obtain ⟨ct, hct1, hct2⟩ := rdC _ gddd t htl
    obtain ⟨xs, hxs1, hxs2⟩ := rdL _ gddd s hsl
    obtain ⟨xt, hxt1, hxt2⟩ := rdL _ gddd t htl
    have hrs := hrng s
    have hrt := hrng t
    have c0 := cd_nonneg hR s
    have clt := cd_lt hR ⟨htl, ht0⟩
    have m1 : min (ln ls t).toNat 64 = (ln ls t).toNat := by omega
    have m2 : min (ln ls t - ln ls s).toNat 64 = (ln ls t - ln ls s).toNat := by omega
    have hp15 : (2 : Int) ^ (ln ls t).toNat ≤ 2 ^ 15 ∧ 0 < (2 : Int) ^ (ln ls t).toNat := by
      have e1 : ((2 ^ (ln ls t).toNat : Nat) : Int) = 2 ^ (ln ls t).toNat := by simp
      have := Nat.pow_le_pow_right (n := 2) (by omega) (show (ln ls t).toNat ≤ 15 by omega)
      have := Nat.two_pow_pos (ln ls t).toNat
      omega
    refine ⟨cs, hcs1, by omega, by omega, _, hcs2, fun _ => ⟨ct, hct1, by omega, by omega, _, hct2, xt, hxt1, by omega, by omega, _, hxt2, ?_⟩, fun h => absurd c0 h⟩
    rw [m1, Int.one_mul]
    refine ⟨by omega, fun _ => ⟨ct, hct1, by omega, by omega, _, hct2, xt, hxt1, by omega, by omega, _, hxt2, xs, hxs1, by omega, by omega, _, hxs2, by omega, by omega, cs, hcs1, by omega, by omega, _, hcs2, ?_⟩, fun h => absurd (by omega) h⟩
    rw [m2]
    have key : (ln ls s < ln ls t ∨ (ln ls s = ln ls t ∧ s < t)) ∧ cd ls s + 1 ≤ cd ls t / 2 ^ (ln ls t - ln ls s).toNat ∨ ln ls s = ln ls t ∧ t < s ∧ cd ls t / 2 ^ (ln ls t - ln ls s).toNat < cd ls s := by
      by_cases h : ln ls s < ln ls t ∨ (ln ls s = ln ls t ∧ s < t)
      · exact .inl ⟨h, cd_free hR ⟨hsl, hs0⟩ ⟨htl, ht0⟩ h⟩
      · right
        have e1 : ln ls s = ln ls t := by omega
        have e2 : t < s := by omega
        have := cd_free hR ⟨htl, ht0⟩ ⟨hsl, hs0⟩ (.inr ⟨e1.symm, e2⟩)
        rw [e1] at this ⊢
        simp at this ⊢
        exact ⟨e2, by omega⟩
    refine ⟨fun _ => ⟨ct, hct1, by omega, by omega, _, hct2, xt, hxt1, by omega, by omega, _, hxt2, xs, hxs1, by omega, by omega, _, hxs2, by omega, by omega, cs, hcs1, by omega, by omega, _, hcs2, xs, hxs1, by omega, by omega, _, hxs2, xt, hxt1, by omega, by omega, _, hxt2, fun hlt => ?_, fun hnlt => ?_⟩, fun h => absurd (by rcases key with ⟨_, k⟩ | ⟨_, _, k⟩ <;> omega) h⟩
    · refine ⟨_, fun w => run_eql _ _ _ _ w, ?_, fin3⟩
      · rw [m2]
        have hgt : cd ls t / 2 ^ (ln ls t - ln ls s).toNat > cd ls s := by rcases key with ⟨_, k⟩ | ⟨_, _, k⟩ <;> omega
        simp [hgt]
    · refine ⟨_, fun w => run_eql _ _ _ _ w, ?_, fin3⟩
      · rw [m2]
        rcases key with ⟨h, k⟩ | ⟨h1, h2, k⟩
        · have hgt : cd ls t / 2 ^ (ln ls t - ln ls s).toNat > cd ls s := by omega
          have hs : s < t := by omega
          simp [hgt, hs]
        · have hgt : ¬ cd ls t / 2 ^ (ln ls t - ln ls s).toNat > cd ls s := by omega
          have hs : ¬ s < t := by omega
          simp [hgt, hs]
end Go.Proofs.Ytmenmmgfdakeeaa
