/- The statement 'TgxOddSaid' is proved: archipelagolaw20.TgxOdd returns true, for every input, and its arguments read as they did. No condition. -/
import Derived.Test.YtlieaecnllkefaaGreatGWHg
import Derived.Test.YtlieaecnllkefaaGreatR1g
import Derived.Test.YtlieaecnllkefaaGreatFJ
namespace Go.Proofs.YtlieaecnllkefaaGreat
open Go Go.V Go.ChangeShapes Go.WideShapes Go.ChangeAt Go.RowKit
set_option linter.unusedVariables false

set_option maxRecDepth 100000 in
theorem tgxOdd_lifted (os : Os) (started : os.Started) (H : Type) (enc : TypeId × Value → H) :
    ReturnsInHanded {} Tryz.checked os 4 .any (Rows.tgxOddSpec.pre6 enc Tryz.prog Tryz.f4 Rows.tgxOddRow.domain false) (Rows.tgxOddSpec.post enc Tryz.prog Tryz.f4 false true false false) := by
  refine returnsInHanded_of_change (C := Tryz.checked) Co started (by kernel_rfl) Tryz.func4
    (ChangeSpec.witness6 (enc := enc) (C := Tryz.checked) false ⟨#[], #[.int .u8 0, .slice none 0 0, .int .u8 0, .int .u8 0, .int .u8 0, .int .u8 0], []⟩ 8 (by kernel_rfl) (by kernel_rfl) (by kernel_rfl) (by kernel_rfl)) ?_
  intro W base args ds gs before Lh hW VL _
  have HE : ∀ (j : Nat) t v, Tryz.f4.params[j]? = some t → args[j]? = some v → Value.okWide Tryz.prog W .any base t v := Lh
  have Tk := hW
  obtain ⟨p, q, Ni, hV, rfl, Xu, G8⟩ := hW
  have hA : DataW.TrodAll enc Tryz.prog W 0 (fun _ => true) true Tryz.f4.params.toList args.toList ds p := Ni
  rw [Tryz.params4] at hA HE
  obtain ⟨v0, vs0, d0, ds0, p0, q0, Th, rfl, rfl, h0, r0⟩ := trodAll_cons hA
  obtain ⟨v1, vs1, d1, ds1, p1, q1, rfl, rfl, rfl, h1, r1⟩ := trodAll_cons r0
  obtain ⟨v2, vs2, d2, ds2, p2, q2, rfl, rfl, rfl, h2, r2⟩ := trodAll_cons r1
  obtain ⟨v3, vs3, d3, ds3, p3, q3, rfl, rfl, rfl, h3, r3⟩ := trodAll_cons r2
  obtain ⟨v4, vs4, d4, ds4, p4, q4, rfl, rfl, rfl, h4, r4⟩ := trodAll_cons r3
  obtain ⟨v5, vs5, d5, ds5, p5, q5, rfl, rfl, rfl, h5, r5⟩ := trodAll_cons r4
  obtain ⟨rfl, rfl, rfl⟩ := trodAll_nil r5
  obtain rfl : args = #[v0, v1, v2, v3, v4, v5] := by cases args; simp_all
  obtain ⟨rfl, rfl⟩ := trodVars_none hV
  have WO := h1
  obtain ⟨a0, rfl, rfl, rfl, w0⟩ := open_int Tryz.underlying5 (HE 0 5 v0 rfl rfl) h0
  obtain ⟨A1, n1, c1, l1, rfl, Ii, NM, Qe⟩ := Df Tryz.underlying26 Tryz.underlying5 (by kernel_rfl) (HE 1 26 v1 rfl rfl) h1
  obtain ⟨a2, rfl, rfl, rfl, w2⟩ := open_int Tryz.underlying5 (HE 2 5 v2 rfl rfl) h2
  obtain ⟨a3, rfl, rfl, rfl, w3⟩ := open_int Tryz.underlying5 (HE 3 5 v3 rfl rfl) h3
  obtain ⟨a4, rfl, rfl, rfl, w4⟩ := open_int Tryz.underlying5 (HE 4 5 v4 rfl rfl) h4
  obtain ⟨a5, rfl, rfl, rfl, w5⟩ := open_int Tryz.underlying5 (HE 5 5 v5 rfl rfl) h5
  clear Ni Lh
  have KT := Tk
  have QP : ∀ x ∈ p1, x.block < W.heap.size := fun x hx => KT.lt x (by simp [hx])
  refine (zJ (vK w0) NM Ii (fun x hx => vK (Qe x hx)) (vK w2) (vK w3) (vK w4) (vK w5)).mono fun e W' ⟨he, hg⟩ => ?_
  subst he
  have hb := zt hg (Nat.le_refl _) (by simp)
  exact ⟨_, rfl, _, _, _, [], _, [], Tk, trodAll_cons_mk (shut_bool Tryz.underlying4 _) trodAll_mk0, trodAll_cons_mk (shut_int Tryz.underlying5 w0) (trodAll_cons_mk (CO (by kernel_rfl) (of_decide_eq_true (by kernel_rfl)) WO hb QP) (trodAll_cons_mk (shut_int Tryz.underlying5 w2) (trodAll_cons_mk (shut_int Tryz.underlying5 w3) (trodAll_cons_mk (shut_int Tryz.underlying5 w4) (trodAll_cons_mk (shut_int Tryz.underlying5 w5) (trodAll_mk0)))))), rfl, hb.frame _, fun h => by cases h⟩

theorem tgxOdd_facts : rowFacts Tryz.prog 4 Tryz.f4 Rows.tgxOddSpec Rows.tgxOddRow = true := by kernel_rfl

theorem tgxOdd_over : Rows.tgxOddRow.holds Tryz.pinned (OpenSpec.ofChange Rows.tgxOddSpec) :=
  OpenClaim.holds_of_wide 4 Tryz.f4 rfl rfl rfl rfl rfl rfl rfl ⟨rfl, rfl, rfl, rfl, rfl⟩ rfl rfl rfl rfl rfl (by kernel_rfl) Tryz.func4 (joined_of (P := Tryz.prog) tgxOdd_facts pf (by rw [lf]; rfl) (by rw [mf]; rfl) me)
    (of_decide_eq_true (by kernel_rfl)) (by unfold Func.isWrapper; first | (rw [if_pos (by decide +kernel)]; kernel_rfl) | (rw [if_neg (by decide +kernel)]; exact ⟨rfl, rfl⟩))
    (fun os started H enc _ => tgxOdd_lifted os started H enc)

theorem tgxOdd : Rows.TgxOddSaid := tgxOdd_over
#print axioms tgxOdd
end Go.Proofs.YtlieaecnllkefaaGreat
