/- The statement 'TgxKeysSaid' is proved: archipelagolaw20.TgxKeys returns true, for every input, and its arguments read as they did. No condition. -/
import Derived.Test.YtlieaecnllkefaaGreatGWGg
import Derived.Test.YtlieaecnllkefaaGreatR1g
import Derived.Test.YtlieaecnllkefaaGreatFJ
namespace Go.Proofs.YtlieaecnllkefaaGreat
open Go Go.V Go.ChangeShapes Go.WideShapes Go.ChangeAt Go.RowKit
set_option linter.unusedVariables false

set_option maxRecDepth 100000 in
theorem tgxKeys_lifted (os : Os) (started : os.Started) (H : Type) (enc : TypeId × Value → H) :
    ReturnsInHanded {} Tryz.checked os 6 .any (Rows.tgxKeysSpec.pre6 enc Tryz.prog Tryz.f6 Rows.tgxKeysRow.domain false) (Rows.tgxKeysSpec.post enc Tryz.prog Tryz.f6 false true false false) := by
  refine returnsInHanded_of_change (C := Tryz.checked) Cd started (by kernel_rfl) Tryz.func6
    (ChangeSpec.witness6 (enc := enc) (C := Tryz.checked) false ⟨#[], #[.int .u8 0, .slice none 0 0, .int .u8 0, .int .u8 0], []⟩ 8 (by kernel_rfl) (by kernel_rfl) (by kernel_rfl) (by kernel_rfl)) ?_
  intro W base args ds gs before KZ hW VP _
  have Hu : ∀ (j : Nat) t v, Tryz.f6.params[j]? = some t → args[j]? = some v → Value.okWide Tryz.prog W .any base t v := KZ
  have Tn := hW
  obtain ⟨p, q, Ni, hV, rfl, Xt, G2⟩ := hW
  have hA : DataW.TrodAll enc Tryz.prog W 0 (fun _ => true) true Tryz.f6.params.toList args.toList ds p := Ni
  rw [Tryz.params6] at hA Hu
  obtain ⟨v0, vs0, d0, ds0, p0, q0, Tj, rfl, rfl, h0, r0⟩ := trodAll_cons hA
  obtain ⟨v1, vs1, d1, ds1, p1, q1, rfl, rfl, rfl, h1, r1⟩ := trodAll_cons r0
  obtain ⟨v2, vs2, d2, ds2, p2, q2, rfl, rfl, rfl, h2, r2⟩ := trodAll_cons r1
  obtain ⟨v3, vs3, d3, ds3, p3, q3, rfl, rfl, rfl, h3, r3⟩ := trodAll_cons r2
  obtain ⟨rfl, rfl, rfl⟩ := trodAll_nil r3
  obtain rfl : args = #[v0, v1, v2, v3] := by cases args; simp_all
  obtain ⟨rfl, rfl⟩ := trodVars_none hV
  have WQ := h1
  obtain ⟨a0, rfl, rfl, rfl, w0⟩ := open_int Tryz.underlying5 (Hu 0 5 v0 rfl rfl) h0
  obtain ⟨A1, n1, c1, l1, rfl, HU, NJ, P4⟩ := C7 Tryz.underlying26 Tryz.underlying5 (by kernel_rfl) (Hu 1 26 v1 rfl rfl) h1
  obtain ⟨a2, rfl, rfl, rfl, w2⟩ := open_int Tryz.underlying5 (Hu 2 5 v2 rfl rfl) h2
  obtain ⟨a3, rfl, rfl, rfl, w3⟩ := open_int Tryz.underlying5 (Hu 3 5 v3 rfl rfl) h3
  clear Ni KZ
  have KR := Tn
  have QE : ∀ x ∈ p1, x.block < W.heap.size := fun x hx => KR.lt x (by simp [hx])
  refine (xC (AT w0) NJ HU (fun x hx => AT (P4 x hx)) (AT w2) (AT w3)).mono fun e W' ⟨he, hg⟩ => ?_
  subst he
  have hb := zb hg (Nat.le_refl _) (by simp)
  exact ⟨_, rfl, _, _, _, [], _, [], Tn, trodAll_cons_mk (shut_bool Tryz.underlying4 _) trodAll_mk0, trodAll_cons_mk (shut_int Tryz.underlying5 w0) (trodAll_cons_mk (CE (by kernel_rfl) (of_decide_eq_true (by kernel_rfl)) WQ hb QE) (trodAll_cons_mk (shut_int Tryz.underlying5 w2) (trodAll_cons_mk (shut_int Tryz.underlying5 w3) (trodAll_mk0)))), rfl, hb.frame _, fun h => by cases h⟩

theorem tgxKeys_facts : rowFacts Tryz.prog 6 Tryz.f6 Rows.tgxKeysSpec Rows.tgxKeysRow = true := by kernel_rfl

theorem tgxKeys_over : Rows.tgxKeysRow.holds Tryz.pinned (OpenSpec.ofChange Rows.tgxKeysSpec) :=
  OpenClaim.holds_of_wide 6 Tryz.f6 rfl rfl rfl rfl rfl rfl rfl ⟨rfl, rfl, rfl, rfl, rfl⟩ rfl rfl rfl rfl rfl (by kernel_rfl) Tryz.func6 (joined_of (P := Tryz.prog) tgxKeys_facts pf (by rw [lf]; rfl) (by rw [mf]; rfl) me)
    (of_decide_eq_true (by kernel_rfl)) (by unfold Func.isWrapper; first | (rw [if_pos (by decide +kernel)]; kernel_rfl) | (rw [if_neg (by decide +kernel)]; exact ⟨rfl, rfl⟩))
    (fun os started H enc _ => tgxKeys_lifted os started H enc)

theorem tgxKeys : Rows.TgxKeysSaid := tgxKeys_over
#print axioms tgxKeys
end Go.Proofs.YtlieaecnllkefaaGreat
