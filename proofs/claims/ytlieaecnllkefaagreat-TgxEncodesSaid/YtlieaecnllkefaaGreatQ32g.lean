/- The statement 'TgxEncodesSaid' is proved: archipelagolaw20.TgxEncodes returns true, for every input, and its arguments read as they did. No condition. -/
import Derived.Test.YtlieaecnllkefaaGreatGWFg
import Derived.Test.YtlieaecnllkefaaGreatR3g
import Derived.Test.YtlieaecnllkefaaGreatFJ
namespace Go.Proofs.YtlieaecnllkefaaGreat
open Go Go.V Go.ChangeShapes Go.WideShapes Go.ChangeAt Go.RowKit
set_option linter.unusedVariables false

set_option maxRecDepth 100000 in
theorem tgxEncodes_lifted (os : Os) (started : os.Started) (H : Type) (enc : TypeId × Value → H) :
    ReturnsInHanded {} Tryz.checked os 3 .any (Rows.tgxEncodesSpec.pre6 enc Tryz.prog Tryz.f3 Rows.tgxEncodesRow.domain false) (Rows.tgxEncodesSpec.post enc Tryz.prog Tryz.f3 false true false false) := by
  refine returnsInHanded_of_change (C := Tryz.checked) CD started (by kernel_rfl) Tryz.func3
    (ChangeSpec.witness6 (enc := enc) (C := Tryz.checked) false ⟨#[], #[.agg #[.int .u64 0, .slice none 0 0], .int .u8 0, .slice none 0 0, .int .u8 0, .int .u8 0, .int .i64 0, .int .i64 0, .int .i64 0], []⟩ 8 (by kernel_rfl) (by kernel_rfl) (by kernel_rfl) (by kernel_rfl)) ?_
  intro W base args ds gs before Ls hW Wn _
  have HA : ∀ (j : Nat) t v, Tryz.f3.params[j]? = some t → args[j]? = some v → Value.okWide Tryz.prog W .any base t v := Ls
  have TS := hW
  obtain ⟨p, q, NF, hV, rfl, Yy, Hv⟩ := hW
  have hA : DataW.TrodAll enc Tryz.prog W 0 (fun _ => true) true Tryz.f3.params.toList args.toList ds p := NF
  rw [Tryz.params3] at hA HA
  obtain ⟨v0, vs0, d0, ds0, p0, q0, TP, rfl, rfl, h0, r0⟩ := trodAll_cons hA
  obtain ⟨v1, vs1, d1, ds1, p1, q1, rfl, rfl, rfl, h1, r1⟩ := trodAll_cons r0
  obtain ⟨v2, vs2, d2, ds2, p2, q2, rfl, rfl, rfl, h2, r2⟩ := trodAll_cons r1
  obtain ⟨v3, vs3, d3, ds3, p3, q3, rfl, rfl, rfl, h3, r3⟩ := trodAll_cons r2
  obtain ⟨v4, vs4, d4, ds4, p4, q4, rfl, rfl, rfl, h4, r4⟩ := trodAll_cons r3
  obtain ⟨v5, vs5, d5, ds5, p5, q5, rfl, rfl, rfl, h5, r5⟩ := trodAll_cons r4
  obtain ⟨v6, vs6, d6, ds6, p6, q6, rfl, rfl, rfl, h6, r6⟩ := trodAll_cons r5
  obtain ⟨v7, vs7, d7, ds7, p7, q7, rfl, rfl, rfl, h7, r7⟩ := trodAll_cons r6
  obtain ⟨rfl, rfl, rfl⟩ := trodAll_nil r7
  obtain rfl : args = #[v0, v1, v2, v3, v4, v5, v6, v7] := by cases args; simp_all
  obtain ⟨rfl, rfl⟩ := trodVars_none hV
  have Xw := h0
  have Xt := h2
  obtain ⟨N0, A0, n0, c0, l0, rfl, JI, G4, Uq, Ol, UJ, Sj⟩ := Am (HA 0 25 v0 rfl rfl) h0
  obtain ⟨a1, rfl, rfl, rfl, w1⟩ := open_int Tryz.underlying5 (HA 1 5 v1 rfl rfl) h1
  obtain ⟨A2, n2, c2, l2, rfl, Ir, Oj, QE⟩ := Dw Tryz.underlying26 Tryz.underlying5 (by kernel_rfl) (HA 2 26 v2 rfl rfl) h2
  obtain ⟨a3, rfl, rfl, rfl, w3⟩ := open_int Tryz.underlying5 (HA 3 5 v3 rfl rfl) h3
  obtain ⟨a4, rfl, rfl, rfl, w4⟩ := open_int Tryz.underlying5 (HA 4 5 v4 rfl rfl) h4
  obtain ⟨a5, rfl, rfl, rfl, w5⟩ := open_int Tryz.underlying2 (HA 5 2 v5 rfl rfl) h5
  obtain ⟨a6, rfl, rfl, rfl, w6⟩ := open_int Tryz.underlying3 (HA 6 3 v6 rfl rfl) h6
  obtain ⟨a7, rfl, rfl, rfl, w7⟩ := open_int Tryz.underlying3 (HA 7 3 v7 rfl rfl) h7
  clear NF Ls
  have JX := TS
  have Ri : ∀ x ∈ p0, x.block < W.heap.size := fun x hx => JX.lt x (by simp [hx])
  have GK : ∀ x ∈ p2, x.block < W.heap.size := fun x hx => JX.lt x (by simp [hx])
  refine (tg Ol JI G4 Uq UJ Sj (Bw w1) Oj Ir (fun x hx => Bw (QE x hx)) (Bw w3) (Bw w4) (zO w5) (zO w6) (zO w7)).mono fun e W' ⟨he, hg⟩ => ?_
  subst he
  have hb := zy hg (Nat.le_refl _) (by simp)
  exact ⟨_, rfl, _, _, _, [], _, [], TS, trodAll_cons_mk (shut_bool Tryz.underlying4 _) trodAll_mk0, trodAll_cons_mk (wG (by kernel_rfl) (of_decide_eq_true (by kernel_rfl)) Xw hb Ri) (trodAll_cons_mk (shut_int Tryz.underlying5 w1) (trodAll_cons_mk (wG (by kernel_rfl) (of_decide_eq_true (by kernel_rfl)) Xt hb GK) (trodAll_cons_mk (shut_int Tryz.underlying5 w3) (trodAll_cons_mk (shut_int Tryz.underlying5 w4) (trodAll_cons_mk (shut_int Tryz.underlying2 w5) (trodAll_cons_mk (shut_int Tryz.underlying3 w6) (trodAll_cons_mk (shut_int Tryz.underlying3 w7) (trodAll_mk0)))))))), rfl, hb.frame _, fun h => by cases h⟩

theorem tgxEncodes_facts : rowFacts Tryz.prog 3 Tryz.f3 Rows.tgxEncodesSpec Rows.tgxEncodesRow = true := by kernel_rfl

theorem tgxEncodes_over : Rows.tgxEncodesRow.holds Tryz.pinned (OpenSpec.ofChange Rows.tgxEncodesSpec) :=
  OpenClaim.holds_of_wide 3 Tryz.f3 rfl rfl rfl rfl rfl rfl rfl ⟨rfl, rfl, rfl, rfl, rfl⟩ rfl rfl rfl rfl rfl (by kernel_rfl) Tryz.func3 (joined_of (P := Tryz.prog) tgxEncodes_facts pf (by rw [lf]; rfl) (by rw [mf]; rfl) me)
    (of_decide_eq_true (by kernel_rfl)) (by unfold Func.isWrapper; first | (rw [if_pos (by decide +kernel)]; kernel_rfl) | (rw [if_neg (by decide +kernel)]; exact ⟨rfl, rfl⟩))
    (fun os started H enc _ => tgxEncodes_lifted os started H enc)

theorem tgxEncodes : Rows.TgxEncodesSaid := tgxEncodes_over
#print axioms tgxEncodes
end Go.Proofs.YtlieaecnllkefaaGreat
