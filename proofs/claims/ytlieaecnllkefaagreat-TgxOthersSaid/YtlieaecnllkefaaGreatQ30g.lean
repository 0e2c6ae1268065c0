/- The statement 'TgxOthersSaid' is proved: archipelagolaw20.TgxOthers returns true, for every input, and its arguments read as they did. No condition. -/
import Derived.Test.YtlieaecnllkefaaGreatGWDg
import Derived.Test.YtlieaecnllkefaaGreatR1g
import Derived.Test.YtlieaecnllkefaaGreatFJ
namespace Go.Proofs.YtlieaecnllkefaaGreat
open Go Go.V Go.ChangeShapes Go.WideShapes Go.ChangeAt Go.RowKit
set_option linter.unusedVariables false

set_option maxRecDepth 100000 in
theorem tgxOthers_lifted (os : Os) (started : os.Started) (H : Type) (enc : TypeId × Value → H) :
    ReturnsInHanded {} Tryz.checked os 7 .any (Rows.tgxOthersSpec.pre6 enc Tryz.prog Tryz.f7 Rows.tgxOthersRow.domain false) (Rows.tgxOthersSpec.post enc Tryz.prog Tryz.f7 false true false false) := by
  refine returnsInHanded_of_change (C := Tryz.checked) Ad started (by kernel_rfl) Tryz.func7
    (ChangeSpec.witness6 (enc := enc) (C := Tryz.checked) false ⟨#[], #[.int .u8 0, .int .u8 0, .slice none 0 0, .slice none 0 0, .int .u8 0, .int .u8 0], []⟩ 8 (by kernel_rfl) (by kernel_rfl) (by kernel_rfl) (by kernel_rfl)) ?_
  intro W base args ds gs before HU hW RO _
  have E9 : ∀ (j : Nat) t v, Tryz.f7.params[j]? = some t → args[j]? = some v → Value.okWide Tryz.prog W .any base t v := HU
  have PD := hW
  obtain ⟨p, q, JT, hV, rfl, Tr, EL⟩ := hW
  have hA : DataW.TrodAll enc Tryz.prog W 0 (fun _ => true) true Tryz.f7.params.toList args.toList ds p := JT
  rw [Tryz.params7] at hA E9
  obtain ⟨v0, vs0, d0, ds0, p0, q0, Py, rfl, rfl, h0, r0⟩ := trodAll_cons hA
  obtain ⟨v1, vs1, d1, ds1, p1, q1, rfl, rfl, rfl, h1, r1⟩ := trodAll_cons r0
  obtain ⟨v2, vs2, d2, ds2, p2, q2, rfl, rfl, rfl, h2, r2⟩ := trodAll_cons r1
  obtain ⟨v3, vs3, d3, ds3, p3, q3, rfl, rfl, rfl, h3, r3⟩ := trodAll_cons r2
  obtain ⟨v4, vs4, d4, ds4, p4, q4, rfl, rfl, rfl, h4, r4⟩ := trodAll_cons r3
  obtain ⟨v5, vs5, d5, ds5, p5, q5, rfl, rfl, rfl, h5, r5⟩ := trodAll_cons r4
  obtain ⟨rfl, rfl, rfl⟩ := trodAll_nil r5
  obtain rfl : args = #[v0, v1, v2, v3, v4, v5] := by cases args; simp_all
  obtain ⟨rfl, rfl⟩ := trodVars_none hV
  have SG := h2
  have SE := h3
  obtain ⟨a0, rfl, rfl, rfl, w0⟩ := open_int Tryz.underlying5 (E9 0 5 v0 rfl rfl) h0
  obtain ⟨a1, rfl, rfl, rfl, w1⟩ := open_int Tryz.underlying5 (E9 1 5 v1 rfl rfl) h1
  obtain ⟨A2, n2, c2, l2, rfl, FQ, GR, My⟩ := vV Tryz.underlying26 Tryz.underlying5 (by kernel_rfl) (E9 2 26 v2 rfl rfl) h2
  obtain ⟨A3, n3, c3, l3, rfl, Gs, Kj, Mx⟩ := vV Tryz.underlying26 Tryz.underlying5 (by kernel_rfl) (E9 3 26 v3 rfl rfl) h3
  obtain ⟨a4, rfl, rfl, rfl, w4⟩ := open_int Tryz.underlying5 (E9 4 5 v4 rfl rfl) h4
  obtain ⟨a5, rfl, rfl, rfl, w5⟩ := open_int Tryz.underlying5 (E9 5 5 v5 rfl rfl) h5
  clear JT HU
  have Iw := PD
  have Fu : ∀ x ∈ p2, x.block < W.heap.size := fun x hx => Iw.lt x (by simp [hx])
  have Nb : ∀ x ∈ p3, x.block < W.heap.size := fun x hx => Iw.lt x (by simp [hx])
  refine (sM (tu w0) (tu w1) GR FQ (fun x hx => tu (My x hx)) Kj Gs (fun x hx => tu (Mx x hx)) (tu w4) (tu w5)).mono fun e W' ⟨he, hg⟩ => ?_
  subst he
  have hb := xl hg (Nat.le_refl _) (by simp)
  exact ⟨_, rfl, _, _, _, [], _, [], PD, trodAll_cons_mk (shut_bool Tryz.underlying4 _) trodAll_mk0, trodAll_cons_mk (shut_int Tryz.underlying5 w0) (trodAll_cons_mk (shut_int Tryz.underlying5 w1) (trodAll_cons_mk (ur (by kernel_rfl) (of_decide_eq_true (by kernel_rfl)) SG hb Fu) (trodAll_cons_mk (ur (by kernel_rfl) (of_decide_eq_true (by kernel_rfl)) SE hb Nb) (trodAll_cons_mk (shut_int Tryz.underlying5 w4) (trodAll_cons_mk (shut_int Tryz.underlying5 w5) (trodAll_mk0)))))), rfl, hb.frame _, fun h => by cases h⟩

theorem tgxOthers_facts : rowFacts Tryz.prog 7 Tryz.f7 Rows.tgxOthersSpec Rows.tgxOthersRow = true := by kernel_rfl

theorem tgxOthers_over : Rows.tgxOthersRow.holds Tryz.pinned (OpenSpec.ofChange Rows.tgxOthersSpec) :=
  OpenClaim.holds_of_wide 7 Tryz.f7 rfl rfl rfl rfl rfl rfl rfl ⟨rfl, rfl, rfl, rfl, rfl⟩ rfl rfl rfl rfl rfl (by kernel_rfl) Tryz.func7 (joined_of (P := Tryz.prog) tgxOthers_facts pf (by rw [lf]; rfl) (by rw [mf]; rfl) me)
    (of_decide_eq_true (by kernel_rfl)) (by unfold Func.isWrapper; first | (rw [if_pos (by decide +kernel)]; kernel_rfl) | (rw [if_neg (by decide +kernel)]; exact ⟨rfl, rfl⟩))
    (fun os started H enc _ => tgxOthers_lifted os started H enc)

theorem tgxOthers : Rows.TgxOthersSaid := tgxOthers_over
#print axioms tgxOthers
end Go.Proofs.YtlieaecnllkefaaGreat
