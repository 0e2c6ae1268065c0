/- The closed facts of a row, parted: those of the program alone (once), those of the row. -/
import Derived.Test.YtdlomlmijdifbaaGreatDoorRows
import Derived.ProofKit
namespace Go.Proofs.YtdlomlmijdifbaaGreatDoor
open Go Go.ChangeShapes Go.WideShapes Go.ChangeAt Go.RowKit

/-- The facts that hang on the row. -/
def rowFacts (P : Program) (f : FuncId) (fn : Func) (s : ChangeSpec) (c : OpenClaim) : Bool :=
  c.wf (OpenSpec.ofChange s) && fn.params.all (P.readableRec ·) && namedTie P c.named s.vars &&
  (c.stops == []) && (c.knobs == []) &&
  (c.inPlace == P.inPlace f) && (c.unfollowed == P.unfollowed f) && (c.recurses == P.recurses f) && (c.named == P.varsNamed f) &&
  (c.maps == (fn.params.toList ++ s.plain.varTypes P).any (P.mapsRec ·)) && (c.ifaces == (fn.params.toList ++ s.plain.varTypes P).any (P.ifacesRec ·)) && (c.mapsOut == P.mapsAmong fn.resultTypes.toList) &&
  (c.loops == (fn.params.toList ++ s.plain.varTypes P).any (P.loopsFrom ·)) && (c.wideKeys == (fn.params.toList ++ s.plain.varTypes P ++ fn.resultTypes.toList).any (P.wideKeysFrom ·)) &&
  s.vars.all (P.varReadable ·) && fn.resultTypes.all (fun t => P.readableRec t && decide (t < P.types.size)) && (c.ifacesOut == fn.resultTypes.toList.any (P.ifacesRec ·)) && (c.loopsOut == fn.resultTypes.toList.any (P.loopsFrom ·)) && c.shortTexts.isNone && c.domain.isEmpty && (c.kinds == []) && (c.pinned == c.pinnedBy) &&
  (c.veiled == (fn.params.toList ++ s.plain.varTypes P ++ fn.resultTypes.toList).any (P.veiledRec ·)) && c.veiledFits P fn.params.toList (fn.params.toList ++ s.plain.varTypes P ++ fn.resultTypes.toList)
/-- The facts of the program. -/
def progFacts (P : Program) (plain : Bool) : Bool :=
  laidOutB P && mapsRowed P && (P.stops == []) && (P.stopKnobs == []) && (plain == P.plainKeys) && P.stopsHeard
theorem joined_of {P : Program} {f : FuncId} {fn : Func} {s : ChangeSpec} {c : OpenClaim} (h1 : rowFacts P f fn s c = true) (h2 : progFacts P c.plainKeys = true) (h3 : (c.lifted == P.liftsFinal) = true) (h4 : (P.make == some c.make) = true) (h6 : P.mayEnter = true) : joinedFacts P f fn s c = true := by
  simp only [rowFacts, progFacts, Bool.and_eq_true] at h1 h2
  unfold joinedFacts
  have h5 : c.domain.isEmpty = true := h1.1.1.1.1.2
  rw [h5]
  simp only [h1, h2, h3, h4, h6, if_true, Bool.and_self]
theorem pf : progFacts Tryz.prog false = true := by kernel_rfl
theorem me : Tryz.prog.mayEnter = true := by kernel_rfl
theorem lf : Tryz.prog.liftsFinal = Rows.scriptReadsRow.lifted := by kernel_rfl
theorem mf : Tryz.prog.make = some Rows.scriptReadsRow.make := by kernel_rfl
end Go.Proofs.YtdlomlmijdifbaaGreatDoor
