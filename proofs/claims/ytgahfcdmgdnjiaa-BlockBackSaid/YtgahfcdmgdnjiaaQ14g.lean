/- The statement 'BlockBackSaid' is proved: archipelagolaw17.BlockBack returns true, for every input, and its arguments read as they did. No condition. -/
import Derived.Test.YtgahfcdmgdnjiaaGRg
import Derived.Test.YtgahfcdmgdnjiaaR1g
import Derived.Test.YtgahfcdmgdnjiaaFJ
namespace Go.Proofs.Ytgahfcdmgdnjiaa
open Go Go.V Go.ChangeShapes Go.WideShapes Go.ChangeAt Go.RowKit
set_option linter.unusedVariables false

set_option maxRecDepth 100000 in
theorem blockBack_lifted (os : Os) (started : os.Started) (H : Type) (enc : TypeId × Value → H) :
    ReturnsInHanded {} Try.checked os 3 .any (Rows.blockBackSpec.pre6 enc Try.prog Try.f3 Rows.blockBackRow.domain false) (Rows.blockBackSpec.post enc Try.prog Try.f3 false true false false) := by
  refine returnsInHanded_of_change (C := Try.checked) own started (by kernel_rfl) Try.func3
    (ChangeSpec.witness6 (enc := enc) (C := Try.checked) false ⟨#[], #[.int .u8 0, .slice none 0 0, .int .u8 0, .int .u8 0, .slice none 0 0], []⟩ 8 (by kernel_rfl) (by kernel_rfl) (by kernel_rfl) (by kernel_rfl)) ?_
  intro W base args ds gs before hval0 hW hcnd _
  have hval : ∀ (j : Nat) t v, Try.f3.params[j]? = some t → args[j]? = some v → Value.okWide Try.prog W .any base t v := hval0
  have hW' := hW
  obtain ⟨p, q, hA0, hV, rfl, hfz, hnd⟩ := hW
  have hA : DataW.TrodAll enc Try.prog W 0 (fun _ => true) true Try.f3.params.toList args.toList ds p := hA0
  rw [Try.params3] at hA hval
  obtain ⟨v0, vs0, d0, ds0, p0, q0, hargs, rfl, rfl, h0, r0⟩ := trodAll_cons hA
  obtain ⟨v1, vs1, d1, ds1, p1, q1, rfl, rfl, rfl, h1, r1⟩ := trodAll_cons r0
  obtain ⟨v2, vs2, d2, ds2, p2, q2, rfl, rfl, rfl, h2, r2⟩ := trodAll_cons r1
  obtain ⟨v3, vs3, d3, ds3, p3, q3, rfl, rfl, rfl, h3, r3⟩ := trodAll_cons r2
  obtain ⟨v4, vs4, d4, ds4, p4, q4, rfl, rfl, rfl, h4, r4⟩ := trodAll_cons r3
  obtain ⟨rfl, rfl, rfl⟩ := trodAll_nil r4
  obtain rfl : args = #[v0, v1, v2, v3, v4] := by cases args; simp_all
  obtain ⟨rfl, rfl⟩ := trodVars_none hV
  have h1k := h1
  have h4k := h4
  obtain ⟨a0, rfl, rfl, rfl, w0⟩ := open_int Try.underlying5 (hval 0 5 v0 rfl rfl) h0
  obtain ⟨A1, n1, c1, l1, rfl, hn1, hrow1, hwl1⟩ := open_row Try.underlying22 Try.underlying5 (by kernel_rfl) (hval 1 22 v1 rfl rfl) h1
  obtain ⟨a2, rfl, rfl, rfl, w2⟩ := open_int Try.underlying5 (hval 2 5 v2 rfl rfl) h2
  obtain ⟨a3, rfl, rfl, rfl, w3⟩ := open_int Try.underlying5 (hval 3 5 v3 rfl rfl) h3
  obtain ⟨A4, n4, c4, l4, rfl, hn4, hrow4, hwl4⟩ := open_row Try.underlying22 Try.underlying5 (by kernel_rfl) (hval 4 22 v4 rfl rfl) h4
  clear hA0 hval0
  have hW2 := hW'
  have hlt1 : ∀ x ∈ p1, x.block < W.heap.size := fun x hx => hW2.lt x (by simp [hx])
  have hlt4 : ∀ x ∈ p4, x.block < W.heap.size := fun x hx => hW2.lt x (by simp [hx])
  refine (walkBlockBack (wf_u8 w0) hrow1 hn1 (fun x hx => wf_u8 (hwl1 x hx)) (wf_u8 w2) (wf_u8 w3) hrow4 hn4 (fun x hx => wf_u8 (hwl4 x hx))).mono fun e W' ⟨he, hg⟩ => ?_
  subst he
  have hb := below_grown hg (Nat.le_refl _) (by simp)
  exact ⟨_, rfl, _, _, _, [], _, [], hW', trodAll_cons_mk (shut_bool Try.underlying4 _) trodAll_mk0, trodAll_cons_mk (shut_int Try.underlying5 w0) (trodAll_cons_mk (arg_stays (by kernel_rfl) (of_decide_eq_true (by kernel_rfl)) h1k hb hlt1) (trodAll_cons_mk (shut_int Try.underlying5 w2) (trodAll_cons_mk (shut_int Try.underlying5 w3) (trodAll_cons_mk (arg_stays (by kernel_rfl) (of_decide_eq_true (by kernel_rfl)) h4k hb hlt4) (trodAll_mk0))))), rfl, hb.frame _, fun h => by cases h⟩

theorem blockBack_facts : rowFacts Try.prog 3 Try.f3 Rows.blockBackSpec Rows.blockBackRow = true := by kernel_rfl

theorem blockBack_over : Rows.blockBackRow.holds Try.pinned (OpenSpec.ofChange Rows.blockBackSpec) :=
  OpenClaim.holds_of_wide 3 Try.f3 rfl rfl rfl rfl rfl rfl rfl ⟨rfl, rfl, rfl, rfl, rfl⟩ rfl rfl rfl rfl rfl (by kernel_rfl) Try.func3 (joined_of (P := Try.prog) blockBack_facts pf (by rw [lf]; rfl) (by rw [mf]; rfl) me)
    (of_decide_eq_true (by kernel_rfl)) (by unfold Func.isWrapper; first | (rw [if_pos (by decide +kernel)]; kernel_rfl) | (rw [if_neg (by decide +kernel)]; exact ⟨rfl, rfl⟩))
    (fun os started H enc _ => blockBack_lifted os started H enc)

theorem blockBack : Rows.BlockBackSaid := blockBack_over
#print axioms blockBack
end Go.Proofs.Ytgahfcdmgdnjiaa
