/- The statement 'HdtSeedsSaid' is proved: archipelagolaw23.HdtSeeds returns true, for every input, and its arguments read as they did. No condition. -/
import Derived.Test.YtpfkpmapimonbaaGHFg
import Derived.Test.YtpfkpmapimonbaaR6g
import Derived.Test.YtpfkpmapimonbaaFJ
namespace Go.Proofs.Ytpfkpmapimonbaa
open Go Go.V Go.ChangeShapes Go.WideShapes Go.ChangeAt Go.RowKit
set_option linter.unusedVariables false

set_option maxRecDepth 100000 in
theorem hdtSeeds_lifted (os : Os) (started : os.Started) (H : Type) (enc : TypeId × Value → H) :
    ReturnsInHanded {} Try.checked os 10 .any (Rows.hdtSeedsSpec.pre6 enc Try.prog Try.f10 Rows.hdtSeedsRow.domain false) (Rows.hdtSeedsSpec.post enc Try.prog Try.f10 false true false false) := by
  refine returnsInHanded_of_change (C := Try.checked) own started (by kernel_rfl) Try.func10
    (ChangeSpec.witness6 (enc := enc) (C := Try.checked) false ⟨#[], #[.int .u64 0, .int .u64 0, .slice none 0 0], []⟩ 8 (by kernel_rfl) (by kernel_rfl) (by kernel_rfl) (by kernel_rfl)) ?_
  intro W base args ds gs before hval0 hW hcnd _
  have hval : ∀ (j : Nat) t v, Try.f10.params[j]? = some t → args[j]? = some v → Value.okWide Try.prog W .any base t v := hval0
  have hW' := hW
  obtain ⟨p, q, hA0, hV, rfl, hfz, hnd⟩ := hW
  have hA : DataW.TrodAll enc Try.prog W 0 (fun _ => true) true Try.f10.params.toList args.toList ds p := hA0
  rw [Try.params10] at hA hval
  obtain ⟨v0, vs0, d0, ds0, p0, q0, hargs, rfl, rfl, h0, r0⟩ := trodAll_cons hA
  obtain ⟨v1, vs1, d1, ds1, p1, q1, rfl, rfl, rfl, h1, r1⟩ := trodAll_cons r0
  obtain ⟨v2, vs2, d2, ds2, p2, q2, rfl, rfl, rfl, h2, r2⟩ := trodAll_cons r1
  obtain ⟨rfl, rfl, rfl⟩ := trodAll_nil r2
  obtain rfl : args = #[v0, v1, v2] := by cases args; simp_all
  obtain ⟨rfl, rfl⟩ := trodVars_none hV
  have h2k := h2
  obtain ⟨a0, rfl, rfl, rfl, w0⟩ := open_int Try.underlying22 (hval 0 22 v0 rfl rfl) h0
  obtain ⟨a1, rfl, rfl, rfl, w1⟩ := open_int Try.underlying22 (hval 1 22 v1 rfl rfl) h1
  obtain ⟨A2, n2, c2, l2, rfl, hn2, hrow2, hok2⟩ := open_acts23 (hval 2 47 v2 rfl rfl) h2
  clear hA0 hval0
  have hW2 := hW'
  have hlt2 : ∀ x ∈ p2, x.block < W.heap.size := fun x hx => hW2.lt x (by simp [hx])
  refine (walkHdtSeeds (wf_u64 w0) (wf_u64 w1) hrow2 hn2 hok2).mono fun e W' ⟨he, hg⟩ => ?_
  subst he
  have hb := below_grown hg (Nat.le_refl _) (by simp)
  exact ⟨_, rfl, _, _, _, [], _, [], hW', trodAll_cons_mk (shut_bool Try.underlying4 _) trodAll_mk0, trodAll_cons_mk (shut_int Try.underlying22 w0) (trodAll_cons_mk (shut_int Try.underlying22 w1) (trodAll_cons_mk (arg_stays (by kernel_rfl) (of_decide_eq_true (by kernel_rfl)) h2k hb hlt2) (trodAll_mk0))), rfl, hb.frame _, fun h => by cases h⟩

theorem hdtSeeds_facts : rowFacts Try.prog 10 Try.f10 Rows.hdtSeedsSpec Rows.hdtSeedsRow = true := by kernel_rfl

theorem hdtSeeds_over : Rows.hdtSeedsRow.holds Try.pinned (OpenSpec.ofChange Rows.hdtSeedsSpec) :=
  OpenClaim.holds_of_wide 10 Try.f10 rfl rfl rfl rfl rfl rfl rfl ⟨rfl, rfl, rfl, rfl, rfl⟩ rfl rfl rfl rfl rfl (by kernel_rfl) Try.func10 (joined_of (P := Try.prog) hdtSeeds_facts pf (by rw [lf]; rfl) (by rw [mf]; rfl) me)
    (of_decide_eq_true (by kernel_rfl)) (by unfold Func.isWrapper; first | (rw [if_pos (by decide +kernel)]; kernel_rfl) | (rw [if_neg (by decide +kernel)]; exact ⟨rfl, rfl⟩))
    (fun os started H enc _ => hdtSeeds_lifted os started H enc)

theorem hdtSeeds : Rows.HdtSeedsSaid := hdtSeeds_over
#print axioms hdtSeeds
end Go.Proofs.Ytpfkpmapimonbaa
