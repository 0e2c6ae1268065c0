/- The statement 'HdtWholeSaid' is proved: archipelagolaw23.HdtWhole returns true, for every input, and its arguments read as they did. No condition. -/
import Derived.Test.YtpfkpmapimonbaaGHFg
import Derived.Test.YtpfkpmapimonbaaR4g
import Derived.Test.YtpfkpmapimonbaaFJ
namespace Go.Proofs.Ytpfkpmapimonbaa
open Go Go.V Go.ChangeShapes Go.WideShapes Go.ChangeAt Go.RowKit
set_option linter.unusedVariables false

set_option maxRecDepth 100000 in
theorem hdtWhole_lifted (os : Os) (started : os.Started) (H : Type) (enc : TypeId × Value → H) :
    ReturnsInHanded {} Try.checked os 11 .any (Rows.hdtWholeSpec.pre6 enc Try.prog Try.f11 Rows.hdtWholeRow.domain false) (Rows.hdtWholeSpec.post enc Try.prog Try.f11 false true false false) := by
  refine returnsInHanded_of_change (C := Try.checked) own started (by kernel_rfl) Try.func11
    (ChangeSpec.witness6 (enc := enc) (C := Try.checked) false ⟨#[], #[.int .u8 0, .int .u64 0, .slice none 0 0], []⟩ 8 (by kernel_rfl) (by kernel_rfl) (by kernel_rfl) (by kernel_rfl)) ?_
  intro W base args ds gs before hval0 hW hcnd _
  have hval : ∀ (j : Nat) t v, Try.f11.params[j]? = some t → args[j]? = some v → Value.okWide Try.prog W .any base t v := hval0
  have hW' := hW
  obtain ⟨p, q, hA0, hV, rfl, hfz, hnd⟩ := hW
  have hA : DataW.TrodAll enc Try.prog W 0 (fun _ => true) true Try.f11.params.toList args.toList ds p := hA0
  rw [Try.params11] at hA hval
  obtain ⟨v0, vs0, d0, ds0, p0, q0, hargs, rfl, rfl, h0, r0⟩ := trodAll_cons hA
  obtain ⟨v1, vs1, d1, ds1, p1, q1, rfl, rfl, rfl, h1, r1⟩ := trodAll_cons r0
  obtain ⟨v2, vs2, d2, ds2, p2, q2, rfl, rfl, rfl, h2, r2⟩ := trodAll_cons r1
  obtain ⟨rfl, rfl, rfl⟩ := trodAll_nil r2
  obtain rfl : args = #[v0, v1, v2] := by cases args; simp_all
  obtain ⟨rfl, rfl⟩ := trodVars_none hV
  have h2k := h2
  obtain ⟨a0, rfl, rfl, rfl, w0⟩ := open_int Try.underlying5 (hval 0 5 v0 rfl rfl) h0
  obtain ⟨a1, rfl, rfl, rfl, w1⟩ := open_int Try.underlying22 (hval 1 22 v1 rfl rfl) h1
  obtain ⟨A2, n2, c2, l2, rfl, hn2, hrow2, hwl2⟩ := open_row Try.underlying42 Try.underlying5 (by kernel_rfl) (hval 2 42 v2 rfl rfl) h2
  clear hA0 hval0
  have hW2 := hW'
  have hlt2 : ∀ x ∈ p2, x.block < W.heap.size := fun x hx => hW2.lt x (by simp [hx])
  refine (walkHdtWhole (wf_u8 w0) (wf_u64 w1) hrow2 hn2 (fun x hx => wf_u8 (hwl2 x hx))).mono fun e W' ⟨he, hg⟩ => ?_
  subst he
  have hb := below_grown hg (Nat.le_refl _) (by simp)
  exact ⟨_, rfl, _, _, _, [], _, [], hW', trodAll_cons_mk (shut_bool Try.underlying4 _) trodAll_mk0, trodAll_cons_mk (shut_int Try.underlying5 w0) (trodAll_cons_mk (shut_int Try.underlying22 w1) (trodAll_cons_mk (arg_stays (by kernel_rfl) (of_decide_eq_true (by kernel_rfl)) h2k hb hlt2) (trodAll_mk0))), rfl, hb.frame _, fun h => by cases h⟩

theorem hdtWhole_facts : rowFacts Try.prog 11 Try.f11 Rows.hdtWholeSpec Rows.hdtWholeRow = true := by kernel_rfl

theorem hdtWhole_over : Rows.hdtWholeRow.holds Try.pinned (OpenSpec.ofChange Rows.hdtWholeSpec) :=
  OpenClaim.holds_of_wide 11 Try.f11 rfl rfl rfl rfl rfl rfl rfl ⟨rfl, rfl, rfl, rfl, rfl⟩ rfl rfl rfl rfl rfl (by kernel_rfl) Try.func11 (joined_of (P := Try.prog) hdtWhole_facts pf (by rw [lf]; rfl) (by rw [mf]; rfl) me)
    (of_decide_eq_true (by kernel_rfl)) (by unfold Func.isWrapper; first | (rw [if_pos (by decide +kernel)]; kernel_rfl) | (rw [if_neg (by decide +kernel)]; exact ⟨rfl, rfl⟩))
    (fun os started H enc _ => hdtWhole_lifted os started H enc)

theorem hdtWhole : Rows.HdtWholeSaid := hdtWhole_over
#print axioms hdtWhole
end Go.Proofs.Ytpfkpmapimonbaa
