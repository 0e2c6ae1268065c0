/- The statement 'TgxSizesSaid' is proved: archipelagolaw20.TgxSizes returns true, for every input, and its arguments read as they did. No condition. -/
import Derived.Test.YtlieaecnllkefaaGreatGWDg
import Derived.Test.YtlieaecnllkefaaGreatR1g
import Derived.Test.YtlieaecnllkefaaGreatFJ
namespace Go.Proofs.YtlieaecnllkefaaGreat
open Go Go.V Go.ChangeShapes Go.WideShapes Go.ChangeAt Go.RowKit
set_option linter.unusedVariables false

set_option maxRecDepth 100000 in
theorem tgxSizes_lifted (os : Os) (started : os.Started) (H : Type) (enc : TypeId × Value → H) :
    ReturnsInHanded {} Tryz.checked os 5 .any (Rows.tgxSizesSpec.pre6 enc Tryz.prog Tryz.f5 Rows.tgxSizesRow.domain false) (Rows.tgxSizesSpec.post enc Tryz.prog Tryz.f5 false true false false) := by
  refine returnsInHanded_of_change (C := Tryz.checked) Aa started (by kernel_rfl) Tryz.func5
    (ChangeSpec.witness6 (enc := enc) (C := Tryz.checked) false ⟨#[], #[.int .u8 0, .slice none 0 0, .int .u8 0], []⟩ 8 (by kernel_rfl) (by kernel_rfl) (by kernel_rfl) (by kernel_rfl)) ?_
  intro W base args ds gs before HT hW RN _
  have FA : ∀ (j : Nat) t v, Tryz.f5.params[j]? = some t → args[j]? = some v → Value.okWide Tryz.prog W .any base t v := HT
  have PC := hW
  obtain ⟨p, q, JS, hV, rfl, Tp, EL⟩ := hW
  have hA : DataW.TrodAll enc Tryz.prog W 0 (fun _ => true) true Tryz.f5.params.toList args.toList ds p := JS
  rw [Tryz.params5] at hA FA
  obtain ⟨v0, vs0, d0, ds0, p0, q0, Px, rfl, rfl, h0, r0⟩ := trodAll_cons hA
  obtain ⟨v1, vs1, d1, ds1, p1, q1, rfl, rfl, rfl, h1, r1⟩ := trodAll_cons r0
  obtain ⟨v2, vs2, d2, ds2, p2, q2, rfl, rfl, rfl, h2, r2⟩ := trodAll_cons r1
  obtain ⟨rfl, rfl, rfl⟩ := trodAll_nil r2
  obtain rfl : args = #[v0, v1, v2] := by cases args; simp_all
  obtain ⟨rfl, rfl⟩ := trodVars_none hV
  have SF := h1
  obtain ⟨a0, rfl, rfl, rfl, w0⟩ := open_int Tryz.underlying5 (FA 0 5 v0 rfl rfl) h0
  obtain ⟨A1, n1, c1, l1, rfl, GJ, Kj, Mx⟩ := Bo Tryz.underlying26 Tryz.underlying5 (by kernel_rfl) (FA 1 26 v1 rfl rfl) h1
  obtain ⟨a2, rfl, rfl, rfl, w2⟩ := open_int Tryz.underlying5 (FA 2 5 v2 rfl rfl) h2
  clear JS HT
  have Jh := PC
  have Na : ∀ x ∈ p1, x.block < W.heap.size := fun x hx => Jh.lt x (by simp [hx])
  refine (uw (AU w0) Kj GJ (fun x hx => AU (Mx x hx)) (AU w2)).mono fun e W' ⟨he, hg⟩ => ?_
  subst he
  have hb := xi hg (Nat.le_refl _) (by simp)
  exact ⟨_, rfl, _, _, _, [], _, [], PC, trodAll_cons_mk (shut_bool Tryz.underlying4 _) trodAll_mk0, trodAll_cons_mk (shut_int Tryz.underlying5 w0) (trodAll_cons_mk (AK (by kernel_rfl) (of_decide_eq_true (by kernel_rfl)) SF hb Na) (trodAll_cons_mk (shut_int Tryz.underlying5 w2) (trodAll_mk0))), rfl, hb.frame _, fun h => by cases h⟩

theorem tgxSizes_facts : rowFacts Tryz.prog 5 Tryz.f5 Rows.tgxSizesSpec Rows.tgxSizesRow = true := by kernel_rfl

theorem tgxSizes_over : Rows.tgxSizesRow.holds Tryz.pinned (OpenSpec.ofChange Rows.tgxSizesSpec) :=
  OpenClaim.holds_of_wide 5 Tryz.f5 rfl rfl rfl rfl rfl rfl rfl ⟨rfl, rfl, rfl, rfl, rfl⟩ rfl rfl rfl rfl rfl (by kernel_rfl) Tryz.func5 (joined_of (P := Tryz.prog) tgxSizes_facts pf (by rw [lf]; rfl) (by rw [mf]; rfl) me)
    (of_decide_eq_true (by kernel_rfl)) (by unfold Func.isWrapper; first | (rw [if_pos (by decide +kernel)]; kernel_rfl) | (rw [if_neg (by decide +kernel)]; exact ⟨rfl, rfl⟩))
    (fun os started H enc _ => tgxSizes_lifted os started H enc)

theorem tgxSizes : Rows.TgxSizesSaid := tgxSizes_over
#print axioms tgxSizes
end Go.Proofs.YtlieaecnllkefaaGreat
