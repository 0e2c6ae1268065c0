/- The statement 'HuffCountsSaid' is proved: archipelagolaw7.HuffCounts returns true, for every input, and its arguments read as they did. No condition. -/
import Derived.Test.YtmenmmgfdakeeaaH14g
import Derived.Test.YtmenmmgfdakeeaaR1g
import Derived.Test.YtmenmmgfdakeeaaFJ
namespace Go.Proofs.Ytmenmmgfdakeeaa
open Go Go.V Go.ChangeShapes Go.WideShapes Go.ChangeAt Go.RowKit
set_option linter.unusedVariables false

set_option maxRecDepth 100000 in
theorem huffCounts_lifted (os : Os) (started : os.Started) (H : Type) (enc : TypeId × Value → H) :
    ReturnsInHanded {} Try.checked os 12 .any (Rows.huffCountsSpec.pre6 enc Try.prog Try.f12 Rows.huffCountsRow.domain false) (Rows.huffCountsSpec.post enc Try.prog Try.f12 false true false false) := by
  refine returnsInHanded_of_change (C := Try.checked) own started (by kernel_rfl) Try.func12
    (ChangeSpec.witness6 (enc := enc) (C := Try.checked) false ⟨#[], #[.slice none 0 0, .int .u8 0, .int .u8 0], []⟩ 8 (by kernel_rfl) (by kernel_rfl) (by kernel_rfl) (by kernel_rfl)) ?_
  intro W base args ds gs before hval0 hW hcnd _
  have hval : ∀ (j : Nat) t v, Try.f12.params[j]? = some t → args[j]? = some v → Value.okWide Try.prog W .any base t v := hval0
  have hW' := hW
  obtain ⟨p, q, hA0, hV, rfl, hfz, hnd⟩ := hW
  have hA : DataW.TrodAll enc Try.prog W 0 (fun _ => true) true Try.f12.params.toList args.toList ds p := hA0
  rw [Try.params12] at hA hval
  obtain ⟨v0, vs0, d0, ds0, p0, q0, hargs, rfl, rfl, h0, r0⟩ := trodAll_cons hA
  obtain ⟨v1, vs1, d1, ds1, p1, q1, rfl, rfl, rfl, h1, r1⟩ := trodAll_cons r0
  obtain ⟨v2, vs2, d2, ds2, p2, q2, rfl, rfl, rfl, h2, r2⟩ := trodAll_cons r1
  obtain ⟨rfl, rfl, rfl⟩ := trodAll_nil r2
  obtain rfl : args = #[v0, v1, v2] := by cases args; simp_all
  obtain ⟨rfl, rfl⟩ := trodVars_none hV
  have h0k := h0
  obtain ⟨A0, n0, c0, l0, rfl, hn0, hrow0, hwl0⟩ := open_row Try.underlying39 Try.underlying5 (by kernel_rfl) (hval 0 39 v0 rfl rfl) h0
  obtain ⟨a1, rfl, rfl, rfl, w1⟩ := open_int Try.underlying5 (hval 1 5 v1 rfl rfl) h1
  obtain ⟨a2, rfl, rfl, rfl, w2⟩ := open_int Try.underlying5 (hval 2 5 v2 rfl rfl) h2
  clear hA0 hval0
  have hW2 := hW'
  have hlt0 : ∀ x ∈ p0, x.block < W.heap.size := fun x hx => hW2.lt x (by simp [hx])
  refine (walkHuffCounts hrow0 hn0 (fun x hx => wf_u8 (hwl0 x hx)) (wf_u8 w1) (wf_u8 w2)).mono fun e W' ⟨he, hg⟩ => ?_
  subst he
  have hb := below_grown hg (Nat.le_refl _) (by simp)
  exact ⟨_, rfl, _, _, _, [], _, [], hW', trodAll_cons_mk (shut_bool Try.underlying4 _) trodAll_mk0, trodAll_cons_mk (arg_stays (by kernel_rfl) (of_decide_eq_true (by kernel_rfl)) h0k hb hlt0) (trodAll_cons_mk (shut_int Try.underlying5 w1) (trodAll_cons_mk (shut_int Try.underlying5 w2) (trodAll_mk0))), rfl, hb.frame _, fun h => by cases h⟩

theorem huffCounts_facts : rowFacts Try.prog 12 Try.f12 Rows.huffCountsSpec Rows.huffCountsRow = true := by kernel_rfl

theorem huffCounts_over : Rows.huffCountsRow.holds Try.pinned (OpenSpec.ofChange Rows.huffCountsSpec) :=
  OpenClaim.holds_of_wide 12 Try.f12 rfl rfl rfl rfl rfl rfl rfl ⟨rfl, rfl, rfl, rfl, rfl⟩ rfl rfl rfl rfl rfl (by kernel_rfl) Try.func12 (joined_of (P := Try.prog) huffCounts_facts pf (by rw [lf]; rfl) (by rw [mf]; rfl) me)
    (of_decide_eq_true (by kernel_rfl)) (by unfold Func.isWrapper; first | (rw [if_pos (by decide +kernel)]; kernel_rfl) | (rw [if_neg (by decide +kernel)]; exact ⟨rfl, rfl⟩))
    (fun os started H enc _ => huffCounts_lifted os started H enc)

theorem huffCounts : Rows.HuffCountsSaid := huffCounts_over
#print axioms huffCounts
end Go.Proofs.Ytmenmmgfdakeeaa
