/- The statement 'HuffBackSaid' is proved: archipelagolaw7.HuffBack returns true, for every input, and its arguments read as they did. No condition. -/
import Derived.Test.YtmenmmgfdakeeaaH12g
import Derived.Test.YtmenmmgfdakeeaaR1g
import Derived.Test.YtmenmmgfdakeeaaFJ
namespace Go.Proofs.Ytmenmmgfdakeeaa
open Go Go.V Go.ChangeShapes Go.WideShapes Go.ChangeAt Go.RowKit
set_option linter.unusedVariables false

set_option maxRecDepth 100000 in
theorem huffBack_lifted (os : Os) (started : os.Started) (H : Type) (enc : TypeId × Value → H) :
    ReturnsInHanded {} Try.checked os 10 .any (Rows.huffBackSpec.pre6 enc Try.prog Try.f10 Rows.huffBackRow.domain false) (Rows.huffBackSpec.post enc Try.prog Try.f10 false true false false) := by
  refine returnsInHanded_of_change (C := Try.checked) own started (by kernel_rfl) Try.func10
    (ChangeSpec.witness6 (enc := enc) (C := Try.checked) false ⟨#[], #[.slice none 0 0, .int .u8 0, .int .u16 0, .slice none 0 0], []⟩ 8 (by kernel_rfl) (by kernel_rfl) (by kernel_rfl) (by kernel_rfl)) ?_
  intro W base args ds gs before hval0 hW hcnd _
  have hval : ∀ (j : Nat) t v, Try.f10.params[j]? = some t → args[j]? = some v → Value.okWide Try.prog W .any base t v := hval0
  have hW' := hW
  obtain ⟨p, q, hA0, hV, rfl, hfz, hnd⟩ := hW
  have hA : DataW.TrodAll enc Try.prog W 0 (fun _ => true) true Try.f10.params.toList args.toList ds p := hA0
  rw [Try.params10] at hA hval
  obtain ⟨v0, vs0, d0, ds0, p0, q0, hargs, rfl, rfl, h0, r0⟩ := trodAll_cons hA
  obtain ⟨v1, vs1, d1, ds1, p1, q1, rfl, rfl, rfl, h1, r1⟩ := trodAll_cons r0
  obtain ⟨v2, vs2, d2, ds2, p2, q2, rfl, rfl, rfl, h2, r2⟩ := trodAll_cons r1
  obtain ⟨v3, vs3, d3, ds3, p3, q3, rfl, rfl, rfl, h3, r3⟩ := trodAll_cons r2
  obtain ⟨rfl, rfl, rfl⟩ := trodAll_nil r3
  obtain rfl : args = #[v0, v1, v2, v3] := by cases args; simp_all
  obtain ⟨rfl, rfl⟩ := trodVars_none hV
  have h0k := h0
  have h3k := h3
  obtain ⟨A0, n0, c0, l0, rfl, hn0, hrow0, hwl0⟩ := open_row Try.underlying39 Try.underlying5 (by kernel_rfl) (hval 0 39 v0 rfl rfl) h0
  obtain ⟨a1, rfl, rfl, rfl, w1⟩ := open_int Try.underlying5 (hval 1 5 v1 rfl rfl) h1
  obtain ⟨a2, rfl, rfl, rfl, w2⟩ := open_int Try.underlying64 (hval 2 64 v2 rfl rfl) h2
  obtain ⟨A3, n3, c3, l3, rfl, hn3, hrow3, hwl3⟩ := open_row Try.underlying39 Try.underlying5 (by kernel_rfl) (hval 3 39 v3 rfl rfl) h3
  clear hA0 hval0
  have hW2 := hW'
  have hlt0 : ∀ x ∈ p0, x.block < W.heap.size := fun x hx => hW2.lt x (by simp [hx])
  have hlt3 : ∀ x ∈ p3, x.block < W.heap.size := fun x hx => hW2.lt x (by simp [hx])
  refine (walkHuffBack hrow0 hn0 (fun x hx => wf_u8 (hwl0 x hx)) (wf_u8 w1) (wf_u16 w2) hrow3 hn3 (fun x hx => wf_u8 (hwl3 x hx))).mono fun e W' ⟨he, hg⟩ => ?_
  subst he
  have hb := below_grown hg (Nat.le_refl _) (by simp)
  exact ⟨_, rfl, _, _, _, [], _, [], hW', trodAll_cons_mk (shut_bool Try.underlying4 _) trodAll_mk0, trodAll_cons_mk (arg_stays (by kernel_rfl) (of_decide_eq_true (by kernel_rfl)) h0k hb hlt0) (trodAll_cons_mk (shut_int Try.underlying5 w1) (trodAll_cons_mk (shut_int Try.underlying64 w2) (trodAll_cons_mk (arg_stays (by kernel_rfl) (of_decide_eq_true (by kernel_rfl)) h3k hb hlt3) (trodAll_mk0)))), rfl, hb.frame _, fun h => by cases h⟩

theorem huffBack_facts : rowFacts Try.prog 10 Try.f10 Rows.huffBackSpec Rows.huffBackRow = true := by kernel_rfl

theorem huffBack_over : Rows.huffBackRow.holds Try.pinned (OpenSpec.ofChange Rows.huffBackSpec) :=
  OpenClaim.holds_of_wide 10 Try.f10 rfl rfl rfl rfl rfl rfl rfl ⟨rfl, rfl, rfl, rfl, rfl⟩ rfl rfl rfl rfl rfl (by kernel_rfl) Try.func10 (joined_of (P := Try.prog) huffBack_facts pf (by rw [lf]; rfl) (by rw [mf]; rfl) me)
    (of_decide_eq_true (by kernel_rfl)) (by unfold Func.isWrapper; first | (rw [if_pos (by decide +kernel)]; kernel_rfl) | (rw [if_neg (by decide +kernel)]; exact ⟨rfl, rfl⟩))
    (fun os started H enc _ => huffBack_lifted os started H enc)

theorem huffBack : Rows.HuffBackSaid := huffBack_over
#print axioms huffBack
end Go.Proofs.Ytmenmmgfdakeeaa
