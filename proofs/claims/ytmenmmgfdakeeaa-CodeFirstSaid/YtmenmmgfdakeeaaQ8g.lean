/- The statement 'CodeFirstSaid' is proved: archipelagolaw6.CodeFirst returns true, for every input, and its arguments read as they did. No condition. -/
import Derived.Test.YtmenmmgfdakeeaaG2g
import Derived.Test.YtmenmmgfdakeeaaR1g
import Derived.Test.YtmenmmgfdakeeaaFJ
namespace Go.Proofs.Ytmenmmgfdakeeaa
open Go Go.V Go.ChangeShapes Go.WideShapes Go.ChangeAt Go.RowKit
set_option linter.unusedVariables false

set_option maxRecDepth 100000 in
theorem codeFirst_lifted (os : Os) (started : os.Started) (H : Type) (enc : TypeId × Value → H) :
    ReturnsInHanded {} Try.checked os 8 .any (Rows.codeFirstSpec.pre6 enc Try.prog Try.f8 Rows.codeFirstRow.domain false) (Rows.codeFirstSpec.post enc Try.prog Try.f8 false true false false) := by
  refine returnsInHanded_of_change (C := Try.checked) own started (by kernel_rfl) Try.func8
    (ChangeSpec.witness6 (enc := enc) (C := Try.checked) false ⟨#[], #[.slice none 0 0], []⟩ 8 (by kernel_rfl) (by kernel_rfl) (by kernel_rfl) (by kernel_rfl)) ?_
  intro W base args ds gs before hval0 hW hcnd _
  have hval : ∀ (j : Nat) t v, Try.f8.params[j]? = some t → args[j]? = some v → Value.okWide Try.prog W .any base t v := hval0
  have hW' := hW
  obtain ⟨p, q, hA0, hV, rfl, hfz, hnd⟩ := hW
  have hA : DataW.TrodAll enc Try.prog W 0 (fun _ => true) true Try.f8.params.toList args.toList ds p := hA0
  rw [Try.params8] at hA hval
  obtain ⟨v0, vs0, d0, ds0, p0, q0, hargs, rfl, rfl, h0, r0⟩ := trodAll_cons hA
  obtain ⟨rfl, rfl, rfl⟩ := trodAll_nil r0
  obtain rfl : args = #[v0] := by cases args; simp_all
  obtain ⟨rfl, rfl⟩ := trodVars_none hV
  have h0k := h0
  obtain ⟨A0, n0, c0, l0, rfl, hn0, hrow0, hwl0⟩ := open_row Try.underlying23 Try.underlying64 (by kernel_rfl) (hval 0 23 v0 rfl rfl) h0
  clear hA0 hval0
  have hW2 := hW'
  have hlt0 : ∀ x ∈ p0, x.block < W.heap.size := fun x hx => hW2.lt x (by simp [hx])
  refine (walkFirst hrow0 hn0 (fun x hx => wf_u16 (hwl0 x hx))).mono fun e W' ⟨he, hg⟩ => ?_
  subst he
  have hb := below_grown hg (Nat.le_refl _) (by simp)
  exact ⟨_, rfl, _, _, _, [], _, [], hW', trodAll_cons_mk (shut_bool Try.underlying4 _) trodAll_mk0, trodAll_cons_mk (arg_stays (by kernel_rfl) (of_decide_eq_true (by kernel_rfl)) h0k hb hlt0) (trodAll_mk0), rfl, hb.frame _, fun h => by cases h⟩

theorem codeFirst_facts : rowFacts Try.prog 8 Try.f8 Rows.codeFirstSpec Rows.codeFirstRow = true := by kernel_rfl

theorem codeFirst_over : Rows.codeFirstRow.holds Try.pinned (OpenSpec.ofChange Rows.codeFirstSpec) :=
  OpenClaim.holds_of_wide 8 Try.f8 rfl rfl rfl rfl rfl rfl rfl ⟨rfl, rfl, rfl, rfl, rfl⟩ rfl rfl rfl rfl rfl (by kernel_rfl) Try.func8 (joined_of (P := Try.prog) codeFirst_facts pf (by rw [lf]; rfl) (by rw [mf]; rfl) me)
    (of_decide_eq_true (by kernel_rfl)) (by unfold Func.isWrapper; first | (rw [if_pos (by decide +kernel)]; kernel_rfl) | (rw [if_neg (by decide +kernel)]; exact ⟨rfl, rfl⟩))
    (fun os started H enc _ => codeFirst_lifted os started H enc)

theorem codeFirst : Rows.CodeFirstSaid := codeFirst_over
#print axioms codeFirst
end Go.Proofs.Ytmenmmgfdakeeaa
