/- The statement 'HuffAllSaid' is proved: archipelagolaw7.HuffAll returns true, for every input, and its arguments read as they did. No condition. -/
import Derived.Test.YtmenmmgfdakeeaaH16g
import Derived.Test.YtmenmmgfdakeeaaR1g
import Derived.Test.YtmenmmgfdakeeaaFJ
namespace Go.Proofs.Ytmenmmgfdakeeaa
open Go Go.V Go.ChangeShapes Go.WideShapes Go.ChangeAt Go.RowKit
set_option linter.unusedVariables false

set_option maxRecDepth 100000 in
theorem huffAll_lifted (os : Os) (started : os.Started) (H : Type) (enc : TypeId × Value → H) :
    ReturnsInHanded {} Try.checked os 13 .any (Rows.huffAllSpec.pre6 enc Try.prog Try.f13 Rows.huffAllRow.domain false) (Rows.huffAllSpec.post enc Try.prog Try.f13 false true false false) := by
  refine returnsInHanded_of_change (C := Try.checked) own started (by kernel_rfl) Try.func13
    (ChangeSpec.witness6 (enc := enc) (C := Try.checked) false ⟨#[], #[.int .u8 0, .int .u8 0], []⟩ 8 (by kernel_rfl) (by kernel_rfl) (by kernel_rfl) (by kernel_rfl)) ?_
  intro W base args ds gs before hval0 hW hcnd _
  have hval : ∀ (j : Nat) t v, Try.f13.params[j]? = some t → args[j]? = some v → Value.okWide Try.prog W .any base t v := hval0
  have hW' := hW
  obtain ⟨p, q, hA0, hV, rfl, hfz, hnd⟩ := hW
  have hA : DataW.TrodAll enc Try.prog W 0 (fun _ => true) true Try.f13.params.toList args.toList ds p := hA0
  rw [Try.params13] at hA hval
  obtain ⟨v0, vs0, d0, ds0, p0, q0, hargs, rfl, rfl, h0, r0⟩ := trodAll_cons hA
  obtain ⟨v1, vs1, d1, ds1, p1, q1, rfl, rfl, rfl, h1, r1⟩ := trodAll_cons r0
  obtain ⟨rfl, rfl, rfl⟩ := trodAll_nil r1
  obtain rfl : args = #[v0, v1] := by cases args; simp_all
  obtain ⟨rfl, rfl⟩ := trodVars_none hV
  obtain ⟨a0, rfl, rfl, rfl, w0⟩ := open_int Try.underlying5 (hval 0 5 v0 rfl rfl) h0
  obtain ⟨a1, rfl, rfl, rfl, w1⟩ := open_int Try.underlying5 (hval 1 5 v1 rfl rfl) h1
  clear hA0 hval0
  have hW2 := hW'
  refine (walkHuffAll (wf_u8 w0) (wf_u8 w1)).mono fun e W' ⟨he, hg⟩ => ?_
  subst he
  have hb := below_grown hg (Nat.le_refl _) (by simp)
  exact ⟨_, rfl, _, _, _, [], [], [], hW', trodAll_cons_mk (shut_bool Try.underlying4 _) trodAll_mk0, trodAll_cons_mk (shut_int Try.underlying5 w0) (trodAll_cons_mk (shut_int Try.underlying5 w1) (trodAll_mk0)), rfl, hb.frame _, fun h => by cases h⟩

theorem huffAll_facts : rowFacts Try.prog 13 Try.f13 Rows.huffAllSpec Rows.huffAllRow = true := by kernel_rfl

theorem huffAll_over : Rows.huffAllRow.holds Try.pinned (OpenSpec.ofChange Rows.huffAllSpec) :=
  OpenClaim.holds_of_wide 13 Try.f13 rfl rfl rfl rfl rfl rfl rfl ⟨rfl, rfl, rfl, rfl, rfl⟩ rfl rfl rfl rfl rfl (by kernel_rfl) Try.func13 (joined_of (P := Try.prog) huffAll_facts pf (by rw [lf]; rfl) (by rw [mf]; rfl) me)
    (of_decide_eq_true (by kernel_rfl)) (by unfold Func.isWrapper; first | (rw [if_pos (by decide +kernel)]; kernel_rfl) | (rw [if_neg (by decide +kernel)]; exact ⟨rfl, rfl⟩))
    (fun os started H enc _ => huffAll_lifted os started H enc)

theorem huffAll : Rows.HuffAllSaid := huffAll_over
#print axioms huffAll
end Go.Proofs.Ytmenmmgfdakeeaa
