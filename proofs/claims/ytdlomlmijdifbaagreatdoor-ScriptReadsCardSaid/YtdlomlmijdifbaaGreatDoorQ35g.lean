/- The statement 'ScriptReadsSaid' is proved: which commands any text is, or where it is wrong, for every input, and its arguments read as they did. No condition. -/
import Derived.Test.YtdlomlmijdifbaaGreatDoorGIDg
import Derived.Test.YtdlomlmijdifbaaGreatDoorR1g
import Derived.Test.YtdlomlmijdifbaaGreatDoorFJ
import Derived.Test.YtdlomlmijdifbaaGreatDoorTie
import Derived.Test.YtdlomlmijdifbaaGreatDoorCards
import Derived.SevenTiedAt
import Derived.ChangeMaps5
namespace Go.Proofs.YtdlomlmijdifbaaGreatDoor
open Go Go.V Go.ChangeShapes Go.WideShapes Go.ChangeAt Go.RowKit
set_option linter.unusedVariables false

set_option maxRecDepth 100000 in
theorem scriptReads_lifted (os : Os) (started : os.Started) (H : Type) (enc : TypeId × Value → H) :
    ReturnsInHanded {} Tryz.checked os 3 .any (fun w args => (Rows.scriptReadsSpec.pre enc Tryz.prog Tryz.f3 [] false w args ∧ laidMetH Tryz.prog kW w) ∧ sizedMet enc Tryz.prog Tryz.f3 (OpenSpec.ofChange Rows.scriptReadsSpec) false w args) (Rows.scriptReadsSpec.post enc Tryz.prog Tryz.f3 false true false false) := by
  refine returnsInHanded_of_change_and (C := Tryz.checked) (X := fun w _ => laidMetH Tryz.prog kW w) (fun _ _ _ hh h => h.of_heap hh) own started (by kernel_rfl) Tryz.func3
    (ChangeSpec.witness_shaped (enc := enc) (C := Tryz.checked) (os := os) (X := fun w _ => laidMetH Tryz.prog kW w) false (World.laidAll Tryz.prog os kW) #[.string ⟨#[]⟩, .slice none 0 0, .int .u8 0, .slice none 0 0, .slice none 0 0, .int .u8 0, .int .u16 0, .int .u8 0, .string ⟨#[]⟩] 8 (World.laidAll_os _ _ _)
      (World.shaped_of_ZipB (by kernel_rfl) (by kernel_rfl)) (by kernel_rfl) (by kernel_rfl) (by kernel_rfl) (B8 os _)) ?_
  intro W base args ds gs before Fs hW _ _ hL _
  have Ei : ∀ (j : Nat) t v, Tryz.f3.params[j]? = some t → args[j]? = some v → Value.okWide Tryz.prog W .any base t v := Fs
  have II := hW
  obtain ⟨p, q, J1, hV, rfl, LS, EA⟩ := hW
  have hA : DataW.TrodAll enc Tryz.prog W 0 (fun _ => true) true Tryz.f3.params.toList args.toList ds p := J1
  rw [Tryz.params3] at hA Ei
  obtain ⟨v0, vs0, d0, ds0, p0, q0, JL, rfl, rfl, h0, r0⟩ := trodAll_cons hA
  obtain ⟨v1, vs1, d1, ds1, p1, q1, rfl, rfl, rfl, h1, r1⟩ := trodAll_cons r0
  obtain ⟨v2, vs2, d2, ds2, p2, q2, rfl, rfl, rfl, h2, r2⟩ := trodAll_cons r1
  obtain ⟨v3, vs3, d3, ds3, p3, q3, rfl, rfl, rfl, h3, r3⟩ := trodAll_cons r2
  obtain ⟨v4, vs4, d4, ds4, p4, q4, rfl, rfl, rfl, h4, r4⟩ := trodAll_cons r3
  obtain ⟨v5, vs5, d5, ds5, p5, q5, rfl, rfl, rfl, h5, r5⟩ := trodAll_cons r4
  obtain ⟨v6, vs6, d6, ds6, p6, q6, rfl, rfl, rfl, h6, r6⟩ := trodAll_cons r5
  obtain ⟨v7, vs7, d7, ds7, p7, q7, rfl, rfl, rfl, h7, r7⟩ := trodAll_cons r6
  obtain ⟨v8, vs8, d8, ds8, p8, q8, rfl, rfl, rfl, h8, r8⟩ := trodAll_cons r7
  obtain ⟨rfl, rfl, rfl⟩ := trodAll_nil r8
  obtain rfl : args = #[v0, v1, v2, v3, v4, v5, v6, v7, v8] := by cases args; simp_all
  obtain ⟨rfl, rfl⟩ := trodVars_none hV
  have Ls := h1
  have Lr := h3
  have Lp := h4
  obtain ⟨a0, rfl, rfl, rfl, w0⟩ := Go.ChangeMaps.open_string Tryz.underlying9 (Ei 0 9 v0 rfl rfl) h0
  obtain ⟨A1, n1, c1, l1, rfl, Fa, Gv, HM⟩ := pP Tryz.underlying22 Tryz.underlying5 (by kernel_rfl) (Ei 1 22 v1 rfl rfl) h1
  obtain ⟨a2, rfl, rfl, rfl, w2⟩ := open_int Tryz.underlying5 (Ei 2 5 v2 rfl rfl) h2
  obtain ⟨A3, n3, c3, l3, rfl, F9, Gu, HK⟩ := pP Tryz.underlying22 Tryz.underlying5 (by kernel_rfl) (Ei 3 22 v3 rfl rfl) h3
  obtain ⟨A4, n4, c4, l4, rfl, ET, Gt, HJ⟩ := pP Tryz.underlying22 Tryz.underlying5 (by kernel_rfl) (Ei 4 22 v4 rfl rfl) h4
  obtain ⟨a5, rfl, rfl, rfl, w5⟩ := open_int Tryz.underlying5 (Ei 5 5 v5 rfl rfl) h5
  obtain ⟨a6, rfl, rfl, rfl, w6⟩ := open_int Tryz.underlying23 (Ei 6 23 v6 rfl rfl) h6
  obtain ⟨a7, rfl, rfl, rfl, w7⟩ := open_int Tryz.underlying5 (Ei 7 5 v7 rfl rfl) h7
  obtain ⟨a8, rfl, rfl, rfl, w8⟩ := Go.ChangeMaps.open_string Tryz.underlying9 (Ei 8 9 v8 rfl rfl) h8
  have ht : rE W := BO hL
  clear J1 Fs
  simp only [List.append_nil] at II
  have Fe := II
  have Ip : ∀ x ∈ p1, x.block < W.heap.size := fun x hx => Fe.lt x (by simp [hx])
  have Io : ∀ x ∈ p3, x.block < W.heap.size := fun x hx => Fe.lt x (by simp [hx])
  have Il : ∀ x ∈ p4, x.block < W.heap.size := fun x hx => Fe.lt x (by simp [hx])
  refine (qP Gv Fa (fun x hx => rG (HM x hx)) (rG w2) Gu F9 (fun x hx => rG (HK x hx)) Gt ET (fun x hx => rG (HJ x hx)) (rG w5) (Dp w6) (rG w7) ht).mono fun e W' ⟨he, hg⟩ => ?_
  subst he
  have hb := xN hg (Nat.le_refl _) (by simp)
  exact ⟨_, rfl, _, _, _, [], _, [], II, trodAll_cons_mk (shut_bool Tryz.underlying4 _) trodAll_mk0, trodAll_cons_mk (Go.ChangeMaps.shut_string Tryz.underlying9 w0) (trodAll_cons_mk (nE (by kernel_rfl) (of_decide_eq_true (by kernel_rfl)) Ls hb Ip) (trodAll_cons_mk (shut_int Tryz.underlying5 w2) (trodAll_cons_mk (nE (by kernel_rfl) (of_decide_eq_true (by kernel_rfl)) Lr hb Io) (trodAll_cons_mk (nE (by kernel_rfl) (of_decide_eq_true (by kernel_rfl)) Lp hb Il) (trodAll_cons_mk (shut_int Tryz.underlying5 w5) (trodAll_cons_mk (shut_int Tryz.underlying23 w6) (trodAll_cons_mk (shut_int Tryz.underlying5 w7) (trodAll_cons_mk (Go.ChangeMaps.shut_string Tryz.underlying9 w8) (trodAll_mk0))))))))), rfl, hb.frame _, fun h => by cases h⟩

theorem scriptReads_facts : rowFacts Tryz.prog 3 Tryz.f3 Rows.scriptReadsSpec Rows.scriptReadsRow = true := by kernel_rfl

theorem scriptReads_over : Rows.scriptReadsRow.holds Tryz.pinned (OpenSpec.ofChange Rows.scriptReadsSpec) :=
  OpenClaim.holds_of_wide 3 Tryz.f3 rfl rfl rfl rfl rfl rfl rfl ⟨rfl, rfl, rfl, rfl, rfl⟩ rfl rfl rfl rfl rfl (by kernel_rfl) Tryz.func3 (joined_of (P := Tryz.prog) scriptReads_facts pf (by rw [lf]; rfl) (by rw [mf]; rfl) me)
    (of_decide_eq_true (by kernel_rfl)) (by unfold Func.isWrapper; first | (rw [if_pos (by decide +kernel)]; kernel_rfl) | (rw [if_neg (by decide +kernel)]; exact ⟨rfl, rfl⟩))
    (fun os started H enc _ => scriptReads_lifted os started H enc)

theorem scriptReads : Rows.ScriptReadsSaid := scriptReads_over
theorem scriptReads_card : Rows.ScriptReadsCardSaid :=
  Claim7.holds_tied_plain_at .later [] [.data, .data, .data] true (true, "25d3ce348d1fab85bdae7b31d44c7c60021b2b0644bd1f5a86a42f257363a414") false scriptReads (fun _ h => by cases h) (by kernel_rfl) (fun _ h => by cases h) scriptReads_row_tie rfl ⟨rfl, rfl⟩ (by kernel_rfl) rfl
    (fun f fn hf KT => by
      obtain rfl : f = 3 := Option.some.inj ((show Tryz.prog.funcNamed "archipelago/archipelagolaw27.ScriptReads" = some 3 by kernel_rfl).symm.trans hf) |>.symm
      obtain rfl : fn = Tryz.f3 := (Option.some.inj (Tryz.func3.symm.trans KT)).symm
      exact ⟨by kernel_rfl, fun j t ht => by
        rw [Tryz.params3] at ht
        have hm : t ∈ [9, 22, 5, 22, 22, 5, 23, 5, 9] := by simpa using Array.mem_of_getElem? ht
        have DQ : ([9, 22, 5, 22, 22, 5, 23, 5, 9].all fun u => !Tryz.prog.wantsStandIn u) = true := by kernel_rfl
        exact (show Tryz.prog.wantsStandIn t = false by simpa using List.all_eq_true.1 DQ t hm)⟩)
    (by kernel_rfl)
#print axioms scriptReads_card
end Go.Proofs.YtdlomlmijdifbaaGreatDoor
