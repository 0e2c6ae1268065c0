/- The statement 'ScriptBackSaid' is proved: which commands can be printed, and that these come back, for every input, and its arguments read as they did. No condition. -/
import Derived.Test.YtdlomlmijdifbaaGreatDoorGIDg
import Derived.Test.YtdlomlmijdifbaaGreatDoorR1g
import Derived.Test.YtdlomlmijdifbaaGreatDoorFJ
import Derived.Test.YtdlomlmijdifbaaGreatDoorTie
import Derived.Test.YtdlomlmijdifbaaGreatDoorCards
import Derived.SevenTiedAt
namespace Go.Proofs.YtdlomlmijdifbaaGreatDoor
open Go Go.V Go.ChangeShapes Go.WideShapes Go.ChangeAt Go.RowKit
set_option linter.unusedVariables false

set_option maxRecDepth 100000 in
theorem scriptBack_lifted (os : Os) (started : os.Started) (H : Type) (enc : TypeId × Value → H) :
    ReturnsInHanded {} Tryz.checked os 4 .any (fun w args => (Rows.scriptBackSpec.pre enc Tryz.prog Tryz.f4 [] false w args ∧ laidMetH Tryz.prog kI w) ∧ sizedMet enc Tryz.prog Tryz.f4 (OpenSpec.ofChange Rows.scriptBackSpec) false w args) (Rows.scriptBackSpec.post enc Tryz.prog Tryz.f4 false true false false) := by
  refine returnsInHanded_of_change_and (C := Tryz.checked) (X := fun w _ => laidMetH Tryz.prog kI w) (fun _ _ _ hh h => h.of_heap hh) own started (by kernel_rfl) Tryz.func4
    (ChangeSpec.witness_shaped (enc := enc) (C := Tryz.checked) (os := os) (X := fun w _ => laidMetH Tryz.prog kI w) false (World.laidAll Tryz.prog os kI) #[.slice none 0 0, .int .u8 0, .slice none 0 0, .slice none 0 0] 8 (World.laidAll_os _ _ _)
      (World.shaped_of_ZipB (by kernel_rfl) (by kernel_rfl)) (by kernel_rfl) (by kernel_rfl) (by kernel_rfl) (BJ os _)) ?_
  intro W base args ds gs before ES hW _ _ hL _
  have Er : ∀ (j : Nat) t v, Tryz.f4.params[j]? = some t → args[j]? = some v → Value.okWide Tryz.prog W .any base t v := ES
  have HF := hW
  obtain ⟨p, q, Ja, hV, rfl, KU, DZ⟩ := hW
  have hA : DataW.TrodAll enc Tryz.prog W 0 (fun _ => true) true Tryz.f4.params.toList args.toList ds p := Ja
  rw [Tryz.params4] at hA Er
  obtain ⟨v0, vs0, d0, ds0, p0, q0, IM, rfl, rfl, h0, r0⟩ := trodAll_cons hA
  obtain ⟨v1, vs1, d1, ds1, p1, q1, rfl, rfl, rfl, h1, r1⟩ := trodAll_cons r0
  obtain ⟨v2, vs2, d2, ds2, p2, q2, rfl, rfl, rfl, h2, r2⟩ := trodAll_cons r1
  obtain ⟨v3, vs3, d3, ds3, p3, q3, rfl, rfl, rfl, h3, r3⟩ := trodAll_cons r2
  obtain ⟨rfl, rfl, rfl⟩ := trodAll_nil r3
  obtain rfl : args = #[v0, v1, v2, v3] := by cases args; simp_all
  obtain ⟨rfl, rfl⟩ := trodVars_none hV
  have Kt := h0
  have Ks := h2
  have Kq := h3
  obtain ⟨A0, n0, c0, l0, rfl, Hl, Ji, FP, J1⟩ := AD (Er 0 26 v0 rfl rfl) h0
  obtain ⟨a1, rfl, rfl, rfl, w1⟩ := open_int Tryz.underlying5 (Er 1 5 v1 rfl rfl) h1
  obtain ⟨A2, n2, c2, l2, rfl, FU, FO, GX⟩ := uU Tryz.underlying22 Tryz.underlying5 (by kernel_rfl) (Er 2 22 v2 rfl rfl) h2
  obtain ⟨A3, n3, c3, l3, rfl, FT, FN, GW⟩ := uU Tryz.underlying22 Tryz.underlying5 (by kernel_rfl) (Er 3 22 v3 rfl rfl) h3
  have ht : qC W := Bp hL
  clear Ja ES
  simp only [List.append_nil] at HF
  have EB := HF
  have Ho : ∀ x ∈ p0, x.block < W.heap.size := fun x hx => EB.lt x (by simp [hx])
  have Hn : ∀ x ∈ p2, x.block < W.heap.size := fun x hx => EB.lt x (by simp [hx])
  have Hm : ∀ x ∈ p3, x.block < W.heap.size := fun x hx => EB.lt x (by simp [hx])
  refine (tU FP Hl Ji J1 (Be w1) FO FU (fun x hx => Be (GX x hx)) FN FT (fun x hx => Be (GW x hx)) ht).mono fun e W' ⟨he, hg⟩ => ?_
  subst he
  have hb := wL hg (Nat.le_refl _) (by simp)
  exact ⟨_, rfl, _, _, _, [], _, [], HF, trodAll_cons_mk (shut_bool Tryz.underlying4 _) trodAll_mk0, trodAll_cons_mk (mL (by kernel_rfl) (of_decide_eq_true (by kernel_rfl)) Kt hb Ho) (trodAll_cons_mk (shut_int Tryz.underlying5 w1) (trodAll_cons_mk (mL (by kernel_rfl) (of_decide_eq_true (by kernel_rfl)) Ks hb Hn) (trodAll_cons_mk (mL (by kernel_rfl) (of_decide_eq_true (by kernel_rfl)) Kq hb Hm) (trodAll_mk0)))), rfl, hb.frame _, fun h => by cases h⟩

theorem scriptBack_facts : rowFacts Tryz.prog 4 Tryz.f4 Rows.scriptBackSpec Rows.scriptBackRow = true := by kernel_rfl

theorem scriptBack_over : Rows.scriptBackRow.holds Tryz.pinned (OpenSpec.ofChange Rows.scriptBackSpec) :=
  OpenClaim.holds_of_wide 4 Tryz.f4 rfl rfl rfl rfl rfl rfl rfl ⟨rfl, rfl, rfl, rfl, rfl⟩ rfl rfl rfl rfl rfl (by kernel_rfl) Tryz.func4 (joined_of (P := Tryz.prog) scriptBack_facts pf (by rw [lf]; rfl) (by rw [mf]; rfl) me)
    (of_decide_eq_true (by kernel_rfl)) (by unfold Func.isWrapper; first | (rw [if_pos (by decide +kernel)]; kernel_rfl) | (rw [if_neg (by decide +kernel)]; exact ⟨rfl, rfl⟩))
    (fun os started H enc _ => scriptBack_lifted os started H enc)

theorem scriptBack : Rows.ScriptBackSaid := scriptBack_over
theorem scriptBack_card : Rows.ScriptBackCardSaid :=
  Claim7.holds_tied_plain_at .later [] [.data, .data, .data] true (true, "25d3ce348d1fab85bdae7b31d44c7c60021b2b0644bd1f5a86a42f257363a414") false scriptBack (fun _ h => by cases h) (by kernel_rfl) (fun _ h => by cases h) scriptBack_row_tie rfl ⟨rfl, rfl⟩ (by kernel_rfl) rfl
    (fun f fn hf J3 => by
      obtain rfl : f = 4 := Option.some.inj ((show Tryz.prog.funcNamed "archipelago/archipelagolaw27.ScriptBack" = some 4 by kernel_rfl).symm.trans hf) |>.symm
      obtain rfl : fn = Tryz.f4 := (Option.some.inj (Tryz.func4.symm.trans J3)).symm
      exact ⟨by kernel_rfl, fun j t ht => by
        rw [Tryz.params4] at ht
        have hm : t ∈ [26, 5, 22, 22] := by simpa using Array.mem_of_getElem? ht
        have Dr : ([26, 5, 22, 22].all fun u => !Tryz.prog.wantsStandIn u) = true := by kernel_rfl
        exact (show Tryz.prog.wantsStandIn t = false by simpa using List.all_eq_true.1 Dr t hm)⟩)
    (by kernel_rfl)
#print axioms scriptBack_card
end Go.Proofs.YtdlomlmijdifbaaGreatDoor
