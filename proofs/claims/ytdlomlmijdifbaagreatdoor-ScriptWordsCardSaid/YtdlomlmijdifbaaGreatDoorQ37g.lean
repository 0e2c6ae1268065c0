/- The statement 'ScriptWordsSaid' is proved: each line has its word and its numbers, and no more, for every input, and its arguments read as they did. No condition. -/
import Derived.Test.YtdlomlmijdifbaaGreatDoorGIDg
import Derived.Test.YtdlomlmijdifbaaGreatDoorR4g
import Derived.Test.YtdlomlmijdifbaaGreatDoorFJ
import Derived.Test.YtdlomlmijdifbaaGreatDoorTie
import Derived.Test.YtdlomlmijdifbaaGreatDoorCards
import Derived.SevenTiedAt
namespace Go.Proofs.YtdlomlmijdifbaaGreatDoor
open Go Go.V Go.ChangeShapes Go.WideShapes Go.ChangeAt Go.RowKit
set_option linter.unusedVariables false

set_option maxRecDepth 100000 in
theorem scriptWords_lifted (os : Os) (started : os.Started) (H : Type) (enc : TypeId × Value → H) :
    ReturnsInHanded {} Tryz.checked os 5 .any (fun w args => (Rows.scriptWordsSpec.pre enc Tryz.prog Tryz.f5 [] false w args ∧ laidMetH Tryz.prog jK w) ∧ sizedMet enc Tryz.prog Tryz.f5 (OpenSpec.ofChange Rows.scriptWordsSpec) false w args) (Rows.scriptWordsSpec.post enc Tryz.prog Tryz.f5 false true false false) := by
  refine returnsInHanded_of_change_and (C := Tryz.checked) (X := fun w _ => laidMetH Tryz.prog jK w) (fun _ _ _ hh h => h.of_heap hh) own started (by kernel_rfl) Tryz.func5
    (ChangeSpec.witness_shaped (enc := enc) (C := Tryz.checked) (os := os) (X := fun w _ => laidMetH Tryz.prog jK w) false (World.laidAll Tryz.prog os jK) #[.int .u8 0, .int .u64 0, .int .u64 0, .int .u8 0, .int .u8 0] 8 (World.laidAll_os _ _ _)
      (World.shaped_of_ZipB (by kernel_rfl) (by kernel_rfl)) (by kernel_rfl) (by kernel_rfl) (by kernel_rfl) (Aa os _)) ?_
  intro W base args ds gs before Dk hW _ _ hL _
  have CP : ∀ (j : Nat) t v, Tryz.f5.params[j]? = some t → args[j]? = some v → Value.okWide Tryz.prog W .any base t v := Dk
  have FK := hW
  obtain ⟨p, q, GO, hV, rfl, IF, CI⟩ := hW
  have hA : DataW.TrodAll enc Tryz.prog W 0 (fun _ => true) true Tryz.f5.params.toList args.toList ds p := GO
  rw [Tryz.params5] at hA CP
  obtain ⟨v0, vs0, d0, ds0, p0, q0, Gy, rfl, rfl, h0, r0⟩ := trodAll_cons hA
  obtain ⟨v1, vs1, d1, ds1, p1, q1, rfl, rfl, rfl, h1, r1⟩ := trodAll_cons r0
  obtain ⟨v2, vs2, d2, ds2, p2, q2, rfl, rfl, rfl, h2, r2⟩ := trodAll_cons r1
  obtain ⟨v3, vs3, d3, ds3, p3, q3, rfl, rfl, rfl, h3, r3⟩ := trodAll_cons r2
  obtain ⟨v4, vs4, d4, ds4, p4, q4, rfl, rfl, rfl, h4, r4⟩ := trodAll_cons r3
  obtain ⟨rfl, rfl, rfl⟩ := trodAll_nil r4
  obtain rfl : args = #[v0, v1, v2, v3, v4] := by cases args; simp_all
  obtain ⟨rfl, rfl⟩ := trodVars_none hV
  obtain ⟨a0, rfl, rfl, rfl, w0⟩ := open_int Tryz.underlying5 (CP 0 5 v0 rfl rfl) h0
  obtain ⟨a1, rfl, rfl, rfl, w1⟩ := open_int Tryz.underlying28 (CP 1 28 v1 rfl rfl) h1
  obtain ⟨a2, rfl, rfl, rfl, w2⟩ := open_int Tryz.underlying28 (CP 2 28 v2 rfl rfl) h2
  obtain ⟨a3, rfl, rfl, rfl, w3⟩ := open_int Tryz.underlying5 (CP 3 5 v3 rfl rfl) h3
  obtain ⟨a4, rfl, rfl, rfl, w4⟩ := open_int Tryz.underlying5 (CP 4 5 v4 rfl rfl) h4
  have ht : nR W := zH hL
  clear GO Dk
  simp only [List.append_nil] at FK
  have DN := FK
  refine (nT (yZ w0) (zA w1) (zA w2) (yZ w3) (yZ w4) ht).mono fun e W' ⟨he, hg⟩ => ?_
  subst he
  have hb := uF hg (Nat.le_refl _) (by simp)
  exact ⟨_, rfl, _, _, _, [], [], [], FK, trodAll_cons_mk (shut_bool Tryz.underlying4 _) trodAll_mk0, trodAll_cons_mk (shut_int Tryz.underlying5 w0) (trodAll_cons_mk (shut_int Tryz.underlying28 w1) (trodAll_cons_mk (shut_int Tryz.underlying28 w2) (trodAll_cons_mk (shut_int Tryz.underlying5 w3) (trodAll_cons_mk (shut_int Tryz.underlying5 w4) (trodAll_mk0))))), rfl, hb.frame _, fun h => by cases h⟩

theorem scriptWords_facts : rowFacts Tryz.prog 5 Tryz.f5 Rows.scriptWordsSpec Rows.scriptWordsRow = true := by kernel_rfl

theorem scriptWords_over : Rows.scriptWordsRow.holds Tryz.pinned (OpenSpec.ofChange Rows.scriptWordsSpec) :=
  OpenClaim.holds_of_wide 5 Tryz.f5 rfl rfl rfl rfl rfl rfl rfl ⟨rfl, rfl, rfl, rfl, rfl⟩ rfl rfl rfl rfl rfl (by kernel_rfl) Tryz.func5 (joined_of (P := Tryz.prog) scriptWords_facts pf (by rw [lf]; rfl) (by rw [mf]; rfl) me)
    (of_decide_eq_true (by kernel_rfl)) (by unfold Func.isWrapper; first | (rw [if_pos (by decide +kernel)]; kernel_rfl) | (rw [if_neg (by decide +kernel)]; exact ⟨rfl, rfl⟩))
    (fun os started H enc _ => scriptWords_lifted os started H enc)

theorem scriptWords : Rows.ScriptWordsSaid := scriptWords_over
theorem scriptWords_card : Rows.ScriptWordsCardSaid :=
  Claim7.holds_tied_plain_at .later [] [.data, .data, .data] true (true, "25d3ce348d1fab85bdae7b31d44c7c60021b2b0644bd1f5a86a42f257363a414") false scriptWords (fun _ h => by cases h) (by kernel_rfl) (fun _ h => by cases h) scriptWords_row_tie rfl ⟨rfl, rfl⟩ (by kernel_rfl) rfl
    (fun f fn hf HH => by
      obtain rfl : f = 5 := Option.some.inj ((show Tryz.prog.funcNamed "archipelago/archipelagolaw27.ScriptWords" = some 5 by kernel_rfl).symm.trans hf) |>.symm
      obtain rfl : fn = Tryz.f5 := (Option.some.inj (Tryz.func5.symm.trans HH)).symm
      exact ⟨by kernel_rfl, fun j t ht => by
        rw [Tryz.params5] at ht
        have hm : t ∈ [5, 28, 28, 5, 5] := by simpa using Array.mem_of_getElem? ht
        have Cd : ([5, 28, 28, 5, 5].all fun u => !Tryz.prog.wantsStandIn u) = true := by kernel_rfl
        exact (show Tryz.prog.wantsStandIn t = false by simpa using List.all_eq_true.1 Cd t hm)⟩)
    (by kernel_rfl)
#print axioms scriptWords_card
end Go.Proofs.YtdlomlmijdifbaaGreatDoor
