/- The statement 'ScriptPlacesSaid' is proved: where in a line what is wrong stands, for every input, and its arguments read as they did. No condition. -/
import Derived.Test.YtdlomlmijdifbaaGreatDoorGIDg
import Derived.Test.YtdlomlmijdifbaaGreatDoorR1g
import Derived.Test.YtdlomlmijdifbaaGreatDoorFJ
import Derived.Test.YtdlomlmijdifbaaGreatDoorTie
import Derived.Test.YtdlomlmijdifbaaGreatDoorCards
import Derived.SevenTiedAt
namespace Go.Proofs.YtdlomlmijdifbaaGreatDoor
open Go Go.V Go.ChangeShapes Go.WideShapes Go.ChangeAt Go.RowKit
set_option linter.unusedVariables false

set_option maxRecDepth 100000 in
theorem scriptPlaces_lifted (os : Os) (started : os.Started) (H : Type) (enc : TypeId × Value → H) :
    ReturnsInHanded {} Tryz.checked os 6 .any (fun w args => (Rows.scriptPlacesSpec.pre enc Tryz.prog Tryz.f6 [] false w args ∧ laidMetH Tryz.prog jK w) ∧ sizedMet enc Tryz.prog Tryz.f6 (OpenSpec.ofChange Rows.scriptPlacesSpec) false w args) (Rows.scriptPlacesSpec.post enc Tryz.prog Tryz.f6 false true false false) := by
  refine returnsInHanded_of_change_and (C := Tryz.checked) (X := fun w _ => laidMetH Tryz.prog jK w) (fun _ _ _ hh h => h.of_heap hh) own started (by kernel_rfl) Tryz.func6
    (ChangeSpec.witness_shaped (enc := enc) (C := Tryz.checked) (os := os) (X := fun w _ => laidMetH Tryz.prog jK w) false (World.laidAll Tryz.prog os jK) #[.int .u8 0, .int .u8 0] 8 (World.laidAll_os _ _ _)
      (World.shaped_of_ZipB (by kernel_rfl) (by kernel_rfl)) (by kernel_rfl) (by kernel_rfl) (by kernel_rfl) (zY os _)) ?_
  intro W base args ds gs before Di hW _ _ hL _
  have Ds : ∀ (j : Nat) t v, Tryz.f6.params[j]? = some t → args[j]? = some v → Value.okWide Tryz.prog W .any base t v := Di
  have FJ := hW
  obtain ⟨p, q, GN, hV, rfl, IE, CH⟩ := hW
  have hA : DataW.TrodAll enc Tryz.prog W 0 (fun _ => true) true Tryz.f6.params.toList args.toList ds p := GN
  rw [Tryz.params6] at hA Ds
  obtain ⟨v0, vs0, d0, ds0, p0, q0, Gx, rfl, rfl, h0, r0⟩ := trodAll_cons hA
  obtain ⟨v1, vs1, d1, ds1, p1, q1, rfl, rfl, rfl, h1, r1⟩ := trodAll_cons r0
  obtain ⟨rfl, rfl, rfl⟩ := trodAll_nil r1
  obtain rfl : args = #[v0, v1] := by cases args; simp_all
  obtain ⟨rfl, rfl⟩ := trodVars_none hV
  obtain ⟨a0, rfl, rfl, rfl, w0⟩ := open_int Tryz.underlying5 (Ds 0 5 v0 rfl rfl) h0
  obtain ⟨a1, rfl, rfl, rfl, w1⟩ := open_int Tryz.underlying5 (Ds 1 5 v1 rfl rfl) h1
  have ht : nR W := zE hL
  clear GN Di
  simp only [List.append_nil] at FJ
  have DM := FJ
  refine (qD (Bw w0) (Bw w1) ht).mono fun e W' ⟨he, hg⟩ => ?_
  subst he
  have hb := uF hg (Nat.le_refl _) (by simp)
  exact ⟨_, rfl, _, _, _, [], [], [], FJ, trodAll_cons_mk (shut_bool Tryz.underlying4 _) trodAll_mk0, trodAll_cons_mk (shut_int Tryz.underlying5 w0) (trodAll_cons_mk (shut_int Tryz.underlying5 w1) (trodAll_mk0)), rfl, hb.frame _, fun h => by cases h⟩

theorem scriptPlaces_facts : rowFacts Tryz.prog 6 Tryz.f6 Rows.scriptPlacesSpec Rows.scriptPlacesRow = true := by kernel_rfl

theorem scriptPlaces_over : Rows.scriptPlacesRow.holds Tryz.pinned (OpenSpec.ofChange Rows.scriptPlacesSpec) :=
  OpenClaim.holds_of_wide 6 Tryz.f6 rfl rfl rfl rfl rfl rfl rfl ⟨rfl, rfl, rfl, rfl, rfl⟩ rfl rfl rfl rfl rfl (by kernel_rfl) Tryz.func6 (joined_of (P := Tryz.prog) scriptPlaces_facts pf (by rw [lf]; rfl) (by rw [mf]; rfl) me)
    (of_decide_eq_true (by kernel_rfl)) (by unfold Func.isWrapper; first | (rw [if_pos (by decide +kernel)]; kernel_rfl) | (rw [if_neg (by decide +kernel)]; exact ⟨rfl, rfl⟩))
    (fun os started H enc _ => scriptPlaces_lifted os started H enc)

theorem scriptPlaces : Rows.ScriptPlacesSaid := scriptPlaces_over
theorem scriptPlaces_card : Rows.ScriptPlacesCardSaid :=
  Claim7.holds_tied_plain_at .later [] [.data, .data, .data] true (true, "25d3ce348d1fab85bdae7b31d44c7c60021b2b0644bd1f5a86a42f257363a414") false scriptPlaces (fun _ h => by cases h) (by kernel_rfl) (fun _ h => by cases h) scriptPlaces_row_tie rfl ⟨rfl, rfl⟩ (by kernel_rfl) rfl
    (fun f fn hf HG => by
      obtain rfl : f = 6 := Option.some.inj ((show Tryz.prog.funcNamed "archipelago/archipelagolaw27.ScriptPlaces" = some 6 by kernel_rfl).symm.trans hf) |>.symm
      obtain rfl : fn = Tryz.f6 := (Option.some.inj (Tryz.func6.symm.trans HG)).symm
      exact ⟨by kernel_rfl, fun j t ht => by
        rw [Tryz.params6] at ht
        have hm : t ∈ [5, 5] := by simpa using Array.mem_of_getElem? ht
        have Cc : ([5, 5].all fun u => !Tryz.prog.wantsStandIn u) = true := by kernel_rfl
        exact (show Tryz.prog.wantsStandIn t = false by simpa using List.all_eq_true.1 Cc t hm)⟩)
    (by kernel_rfl)
#print axioms scriptPlaces_card
end Go.Proofs.YtdlomlmijdifbaaGreatDoor
