/-
  No cell of these rows narrows 'for every input' (looked for: loops, veiled, ifaces, maps, wideKeys, modest, calm, conditions, laid).
  DERIVED. THE GIVEN ROWS OF THIS SEAT. 12 by the template 'for every input the law returns true; each argument reads behind the call as it read before'; 0 by the template 'total and deterministic' (their statements: YtgjkmakhomefkaaTotals.lean).
  GIVEN WITH THE SEED: the statements are not yours to turn. If you find one false, say at which input.
  Laid BY PROGRAM, IN A SANDBOX (cutbox-rows.mjs): the forced cells as the released guide's own fill.sh prints them over the translation 453df8a280d99214… (all of the seat's roots in one cut). By AI agents, Wed Nov 11 2026. No macro, syntax, notation, axiom, sorry.
-/
import Derived.Test.YtgjkmakhomefkaaChecked
import GoSem.Claim
import GoSem.ClaimJoined
import GoSem.ClaimMapViews
import Derived.JoinedTies
import Derived.KernelRfl
namespace Go.Proofs.Ytgjkmakhomefkaa
/- THE CELL 'sum', in the pinned program and in every row, IS THE sha256 OF THE DUMP (.gsa) THAT YtgjkmakhomefkaaProg.lean LOADS. Nothing in Lean hashes anything: it is a label: what it is worth is what the hold of that sum in a sandbox is worth. -/
noncomputable def Try.pinned : Pinned := { name := "ytgjkmakhomefkaa", sum := "453df8a280d992142968d04d701b33467df2e6b182fd415653127554fe8d8359", checked := Try.checked }
namespace Rows
def none {H : Type} : Left H := { results := [], args := [] }

/-- 'archipelagolaw5.MergeTells': WHATEVER THE INPUT: true; the input reads as it did. -/
def mergeTellsSpec : ChangeSpec := { name := "mergeTells", fn := fun _ => fun
  | [d1, d2, d3, d4] => { results := [.lit (.bool true)], args := [d1, d2, d3, d4] }
  | _ => none }
def mergeTellsRow : OpenClaim := { program := "ytgjkmakhomefkaa", sum := "453df8a280d992142968d04d701b33467df2e6b182fd415653127554fe8d8359", func := "archipelago/archipelagolaw5.MergeTells", spec := "mergeTells", unfollowed := true, recurses := true, plainKeys := false, apart := false }
def MergeTellsSaid : Prop := mergeTellsRow.holds Try.pinned (OpenSpec.ofChange mergeTellsSpec)

/-- ITS FALSE NEIGHBOUR: 'it returns false'. Refute it at one input. -/
def mergeTellsWrong : ChangeSpec := { name := "mergeTells", fn := fun _ => fun
  | [d1, d2, d3, d4] => { results := [.lit (.bool false)], args := [d1, d2, d3, d4] }
  | _ => none }
def MergeTellsWrongFalsely : Prop := mergeTellsRow.holds Try.pinned (OpenSpec.ofChange mergeTellsWrong)

/-- 'archipelagolaw5.MergeFull': WHATEVER THE INPUT: true; the input reads as it did. -/
def mergeFullSpec : ChangeSpec := { name := "mergeFull", fn := fun _ => fun
  | [d1, d2, d3] => { results := [.lit (.bool true)], args := [d1, d2, d3] }
  | _ => none }
def mergeFullRow : OpenClaim := { program := "ytgjkmakhomefkaa", sum := "453df8a280d992142968d04d701b33467df2e6b182fd415653127554fe8d8359", func := "archipelago/archipelagolaw5.MergeFull", spec := "mergeFull", unfollowed := true, recurses := true, plainKeys := false, apart := false }
def MergeFullSaid : Prop := mergeFullRow.holds Try.pinned (OpenSpec.ofChange mergeFullSpec)

/-- ITS FALSE NEIGHBOUR: 'it returns false'. Refute it at one input. -/
def mergeFullWrong : ChangeSpec := { name := "mergeFull", fn := fun _ => fun
  | [d1, d2, d3] => { results := [.lit (.bool false)], args := [d1, d2, d3] }
  | _ => none }
def MergeFullWrongFalsely : Prop := mergeFullRow.holds Try.pinned (OpenSpec.ofChange mergeFullWrong)

/-- 'archipelagolaw5.MergeBest': WHATEVER THE INPUT: true; the input reads as it did. -/
def mergeBestSpec : ChangeSpec := { name := "mergeBest", fn := fun _ => fun
  | [d1, d2, d3, d4] => { results := [.lit (.bool true)], args := [d1, d2, d3, d4] }
  | _ => none }
def mergeBestRow : OpenClaim := { program := "ytgjkmakhomefkaa", sum := "453df8a280d992142968d04d701b33467df2e6b182fd415653127554fe8d8359", func := "archipelago/archipelagolaw5.MergeBest", spec := "mergeBest", unfollowed := true, recurses := true, plainKeys := false, apart := false }
def MergeBestSaid : Prop := mergeBestRow.holds Try.pinned (OpenSpec.ofChange mergeBestSpec)

/-- ITS FALSE NEIGHBOUR: 'it returns false'. Refute it at one input. -/
def mergeBestWrong : ChangeSpec := { name := "mergeBest", fn := fun _ => fun
  | [d1, d2, d3, d4] => { results := [.lit (.bool false)], args := [d1, d2, d3, d4] }
  | _ => none }
def MergeBestWrongFalsely : Prop := mergeBestRow.holds Try.pinned (OpenSpec.ofChange mergeBestWrong)

/-- 'archipelagolaw5.MergeMany': WHATEVER THE INPUT: true; the input reads as it did. -/
def mergeManySpec : ChangeSpec := { name := "mergeMany", fn := fun _ => fun
  | [d1, d2] => { results := [.lit (.bool true)], args := [d1, d2] }
  | _ => none }
def mergeManyRow : OpenClaim := { program := "ytgjkmakhomefkaa", sum := "453df8a280d992142968d04d701b33467df2e6b182fd415653127554fe8d8359", func := "archipelago/archipelagolaw5.MergeMany", spec := "mergeMany", unfollowed := true, recurses := true, plainKeys := false, apart := false }
def MergeManySaid : Prop := mergeManyRow.holds Try.pinned (OpenSpec.ofChange mergeManySpec)

/-- ITS FALSE NEIGHBOUR: 'it returns false'. Refute it at one input. -/
def mergeManyWrong : ChangeSpec := { name := "mergeMany", fn := fun _ => fun
  | [d1, d2] => { results := [.lit (.bool false)], args := [d1, d2] }
  | _ => none }
def MergeManyWrongFalsely : Prop := mergeManyRow.holds Try.pinned (OpenSpec.ofChange mergeManyWrong)

/-- 'archipelagolaw5.MergeScales': WHATEVER THE INPUT: true; the input reads as it did. -/
def mergeScalesSpec : ChangeSpec := { name := "mergeScales", fn := fun _ => fun
  | [d1, d2, d3] => { results := [.lit (.bool true)], args := [d1, d2, d3] }
  | _ => none }
def mergeScalesRow : OpenClaim := { program := "ytgjkmakhomefkaa", sum := "453df8a280d992142968d04d701b33467df2e6b182fd415653127554fe8d8359", func := "archipelago/archipelagolaw5.MergeScales", spec := "mergeScales", unfollowed := true, recurses := true, plainKeys := false, apart := false }
def MergeScalesSaid : Prop := mergeScalesRow.holds Try.pinned (OpenSpec.ofChange mergeScalesSpec)

/-- ITS FALSE NEIGHBOUR: 'it returns false'. Refute it at one input. -/
def mergeScalesWrong : ChangeSpec := { name := "mergeScales", fn := fun _ => fun
  | [d1, d2, d3] => { results := [.lit (.bool false)], args := [d1, d2, d3] }
  | _ => none }
def MergeScalesWrongFalsely : Prop := mergeScalesRow.holds Try.pinned (OpenSpec.ofChange mergeScalesWrong)

/-- 'archipelagolaw5.MergeTight': WHATEVER THE INPUT: true; the input reads as it did. -/
def mergeTightSpec : ChangeSpec := { name := "mergeTight", fn := fun _ => fun
  | [d1, d2, d3] => { results := [.lit (.bool true)], args := [d1, d2, d3] }
  | _ => none }
def mergeTightRow : OpenClaim := { program := "ytgjkmakhomefkaa", sum := "453df8a280d992142968d04d701b33467df2e6b182fd415653127554fe8d8359", func := "archipelago/archipelagolaw5.MergeTight", spec := "mergeTight", unfollowed := true, recurses := true, plainKeys := false, apart := false }
def MergeTightSaid : Prop := mergeTightRow.holds Try.pinned (OpenSpec.ofChange mergeTightSpec)

/-- ITS FALSE NEIGHBOUR: 'it returns false'. Refute it at one input. -/
def mergeTightWrong : ChangeSpec := { name := "mergeTight", fn := fun _ => fun
  | [d1, d2, d3] => { results := [.lit (.bool false)], args := [d1, d2, d3] }
  | _ => none }
def MergeTightWrongFalsely : Prop := mergeTightRow.holds Try.pinned (OpenSpec.ofChange mergeTightWrong)

/-- 'archipelagolaw5.MergeSkewed': WHATEVER THE INPUT: true; the input reads as it did. -/
def mergeSkewedSpec : ChangeSpec := { name := "mergeSkewed", fn := fun _ => fun
  | [d] => { results := [.lit (.bool true)], args := [d] }
  | _ => none }
def mergeSkewedRow : OpenClaim := { program := "ytgjkmakhomefkaa", sum := "453df8a280d992142968d04d701b33467df2e6b182fd415653127554fe8d8359", func := "archipelago/archipelagolaw5.MergeSkewed", spec := "mergeSkewed", unfollowed := true, recurses := true, plainKeys := false, apart := false }
def MergeSkewedSaid : Prop := mergeSkewedRow.holds Try.pinned (OpenSpec.ofChange mergeSkewedSpec)

/-- ITS FALSE NEIGHBOUR: 'it returns false'. Refute it at one input. -/
def mergeSkewedWrong : ChangeSpec := { name := "mergeSkewed", fn := fun _ => fun
  | [d] => { results := [.lit (.bool false)], args := [d] }
  | _ => none }
def MergeSkewedWrongFalsely : Prop := mergeSkewedRow.holds Try.pinned (OpenSpec.ofChange mergeSkewedWrong)

/-- 'archipelagolaw6.CodeTells': WHATEVER THE INPUT: true; the input reads as it did. -/
def codeTellsSpec : ChangeSpec := { name := "codeTells", fn := fun _ => fun
  | [d1, d2, d3, d4] => { results := [.lit (.bool true)], args := [d1, d2, d3, d4] }
  | _ => none }
def codeTellsRow : OpenClaim := { program := "ytgjkmakhomefkaa", sum := "453df8a280d992142968d04d701b33467df2e6b182fd415653127554fe8d8359", func := "archipelago/archipelagolaw6.CodeTells", spec := "codeTells", unfollowed := true, recurses := true, plainKeys := false, apart := false }
def CodeTellsSaid : Prop := codeTellsRow.holds Try.pinned (OpenSpec.ofChange codeTellsSpec)

/-- ITS FALSE NEIGHBOUR: 'it returns false'. Refute it at one input. -/
def codeTellsWrong : ChangeSpec := { name := "codeTells", fn := fun _ => fun
  | [d1, d2, d3, d4] => { results := [.lit (.bool false)], args := [d1, d2, d3, d4] }
  | _ => none }
def CodeTellsWrongFalsely : Prop := codeTellsRow.holds Try.pinned (OpenSpec.ofChange codeTellsWrong)

/-- 'archipelagolaw6.CodePlays': WHATEVER THE INPUT: true; the input reads as it did. -/
def codePlaysSpec : ChangeSpec := { name := "codePlays", fn := fun _ => fun
  | [d1, d2, d3, d4] => { results := [.lit (.bool true)], args := [d1, d2, d3, d4] }
  | _ => none }
def codePlaysRow : OpenClaim := { program := "ytgjkmakhomefkaa", sum := "453df8a280d992142968d04d701b33467df2e6b182fd415653127554fe8d8359", func := "archipelago/archipelagolaw6.CodePlays", spec := "codePlays", unfollowed := true, recurses := true, plainKeys := false, apart := false }
def CodePlaysSaid : Prop := codePlaysRow.holds Try.pinned (OpenSpec.ofChange codePlaysSpec)

/-- ITS FALSE NEIGHBOUR: 'it returns false'. Refute it at one input. -/
def codePlaysWrong : ChangeSpec := { name := "codePlays", fn := fun _ => fun
  | [d1, d2, d3, d4] => { results := [.lit (.bool false)], args := [d1, d2, d3, d4] }
  | _ => none }
def CodePlaysWrongFalsely : Prop := codePlaysRow.holds Try.pinned (OpenSpec.ofChange codePlaysWrong)

/-- 'archipelagolaw6.CodeFree': WHATEVER THE INPUT: true; the input reads as it did. -/
def codeFreeSpec : ChangeSpec := { name := "codeFree", fn := fun _ => fun
  | [d1, d2, d3] => { results := [.lit (.bool true)], args := [d1, d2, d3] }
  | _ => none }
def codeFreeRow : OpenClaim := { program := "ytgjkmakhomefkaa", sum := "453df8a280d992142968d04d701b33467df2e6b182fd415653127554fe8d8359", func := "archipelago/archipelagolaw6.CodeFree", spec := "codeFree", unfollowed := true, recurses := true, plainKeys := false, apart := false }
def CodeFreeSaid : Prop := codeFreeRow.holds Try.pinned (OpenSpec.ofChange codeFreeSpec)

/-- ITS FALSE NEIGHBOUR: 'it returns false'. Refute it at one input. -/
def codeFreeWrong : ChangeSpec := { name := "codeFree", fn := fun _ => fun
  | [d1, d2, d3] => { results := [.lit (.bool false)], args := [d1, d2, d3] }
  | _ => none }
def CodeFreeWrongFalsely : Prop := codeFreeRow.holds Try.pinned (OpenSpec.ofChange codeFreeWrong)

/-- 'archipelagolaw6.CodeTexts': WHATEVER THE INPUT: true; the input reads as it did. -/
def codeTextsSpec : ChangeSpec := { name := "codeTexts", fn := fun _ => fun
  | [d1, d2] => { results := [.lit (.bool true)], args := [d1, d2] }
  | _ => none }
def codeTextsRow : OpenClaim := { program := "ytgjkmakhomefkaa", sum := "453df8a280d992142968d04d701b33467df2e6b182fd415653127554fe8d8359", func := "archipelago/archipelagolaw6.CodeTexts", spec := "codeTexts", unfollowed := true, recurses := true, plainKeys := false, apart := false }
def CodeTextsSaid : Prop := codeTextsRow.holds Try.pinned (OpenSpec.ofChange codeTextsSpec)

/-- ITS FALSE NEIGHBOUR: 'it returns false'. Refute it at one input. -/
def codeTextsWrong : ChangeSpec := { name := "codeTexts", fn := fun _ => fun
  | [d1, d2] => { results := [.lit (.bool false)], args := [d1, d2] }
  | _ => none }
def CodeTextsWrongFalsely : Prop := codeTextsRow.holds Try.pinned (OpenSpec.ofChange codeTextsWrong)

/-- 'archipelagolaw6.CodeFirst': WHATEVER THE INPUT: true; the input reads as it did. -/
def codeFirstSpec : ChangeSpec := { name := "codeFirst", fn := fun _ => fun
  | [d] => { results := [.lit (.bool true)], args := [d] }
  | _ => none }
def codeFirstRow : OpenClaim := { program := "ytgjkmakhomefkaa", sum := "453df8a280d992142968d04d701b33467df2e6b182fd415653127554fe8d8359", func := "archipelago/archipelagolaw6.CodeFirst", spec := "codeFirst", unfollowed := true, recurses := true, plainKeys := false, apart := false }
def CodeFirstSaid : Prop := codeFirstRow.holds Try.pinned (OpenSpec.ofChange codeFirstSpec)

/-- ITS FALSE NEIGHBOUR: 'it returns false'. Refute it at one input. -/
def codeFirstWrong : ChangeSpec := { name := "codeFirst", fn := fun _ => fun
  | [d] => { results := [.lit (.bool false)], args := [d] }
  | _ => none }
def CodeFirstWrongFalsely : Prop := codeFirstRow.holds Try.pinned (OpenSpec.ofChange codeFirstWrong)

/- THE SECOND FORM. 'bulk': how many values and letters a reading holds, each counted each time it is reached (what is shared counts as often as it is met; a slice's spare places count too). A statement '..UptoSaid' is the law's where the arguments, and the package variables that the reading takes, are together of bulk at most 1048576: NARROWER than '..Said'. Prove '..Said' where nothing that the law and all that it calls make is longer than what came in: it says more and counts as full. Else prove '..UptoSaid'. A law counts once. -/
mutual
def uptoBulk {H : Type} : DataW H → Nat
  | .lit (.string bytes) => bytes.length + 1
  | .lit _ => 1
  | .nil => 1
  | .ptr d => uptoBulk d + 1
  | .slice elems spare => uptoBulkAll elems + uptoBulkAll spare + 1
  | .agg parts => uptoBulkAll parts + 1
  | .iface _ d => uptoBulk d + 1
  | .map entries => uptoBulkEntries entries + 1
  | .held _ => 1
def uptoBulkAll {H : Type} : List (DataW H) → Nat
  | [] => 0
  | d :: r => uptoBulk d + uptoBulkAll r
def uptoBulkEntries {H : Type} : List (Lit × DataW H) → Nat
  | [] => 0
  | x :: r => uptoBulkEntry x + uptoBulkEntries r
def uptoBulkEntry {H : Type} : Lit × DataW H → Nat
  | (.string bytes, d) => bytes.length + uptoBulk d + 1
  | (_, d) => uptoBulk d + 1
 end
def uptoSmall : (H : Type) → List (DataW H) → Bool := fun _ ds => decide (uptoBulkAll ds ≤ 1048576)
def OpenSpec.upto (s : _root_.Go.ChangeSpec) : _root_.Go.OpenSpec := { _root_.Go.OpenSpec.ofChange s with cond := some uptoSmall }

/-- 'archipelagolaw5.MergeTells', WHERE WHAT IT READS IS OF BULK AT MOST 1048576: true; the input reads as it did. -/
def mergeTellsUptoRow : OpenClaim := { program := "ytgjkmakhomefkaa", sum := "453df8a280d992142968d04d701b33467df2e6b182fd415653127554fe8d8359", func := "archipelago/archipelagolaw5.MergeTells", spec := "mergeTells", unfollowed := true, recurses := true, plainKeys := false, apart := false, narrowed := true }
def MergeTellsUptoSaid : Prop := mergeTellsUptoRow.holds Try.pinned (OpenSpec.upto mergeTellsSpec)

/-- 'archipelagolaw5.MergeFull', WHERE WHAT IT READS IS OF BULK AT MOST 1048576: true; the input reads as it did. -/
def mergeFullUptoRow : OpenClaim := { program := "ytgjkmakhomefkaa", sum := "453df8a280d992142968d04d701b33467df2e6b182fd415653127554fe8d8359", func := "archipelago/archipelagolaw5.MergeFull", spec := "mergeFull", unfollowed := true, recurses := true, plainKeys := false, apart := false, narrowed := true }
def MergeFullUptoSaid : Prop := mergeFullUptoRow.holds Try.pinned (OpenSpec.upto mergeFullSpec)

/-- 'archipelagolaw5.MergeBest', WHERE WHAT IT READS IS OF BULK AT MOST 1048576: true; the input reads as it did. -/
def mergeBestUptoRow : OpenClaim := { program := "ytgjkmakhomefkaa", sum := "453df8a280d992142968d04d701b33467df2e6b182fd415653127554fe8d8359", func := "archipelago/archipelagolaw5.MergeBest", spec := "mergeBest", unfollowed := true, recurses := true, plainKeys := false, apart := false, narrowed := true }
def MergeBestUptoSaid : Prop := mergeBestUptoRow.holds Try.pinned (OpenSpec.upto mergeBestSpec)

/-- 'archipelagolaw5.MergeMany', WHERE WHAT IT READS IS OF BULK AT MOST 1048576: true; the input reads as it did. -/
def mergeManyUptoRow : OpenClaim := { program := "ytgjkmakhomefkaa", sum := "453df8a280d992142968d04d701b33467df2e6b182fd415653127554fe8d8359", func := "archipelago/archipelagolaw5.MergeMany", spec := "mergeMany", unfollowed := true, recurses := true, plainKeys := false, apart := false, narrowed := true }
def MergeManyUptoSaid : Prop := mergeManyUptoRow.holds Try.pinned (OpenSpec.upto mergeManySpec)

/-- 'archipelagolaw5.MergeScales', WHERE WHAT IT READS IS OF BULK AT MOST 1048576: true; the input reads as it did. -/
def mergeScalesUptoRow : OpenClaim := { program := "ytgjkmakhomefkaa", sum := "453df8a280d992142968d04d701b33467df2e6b182fd415653127554fe8d8359", func := "archipelago/archipelagolaw5.MergeScales", spec := "mergeScales", unfollowed := true, recurses := true, plainKeys := false, apart := false, narrowed := true }
def MergeScalesUptoSaid : Prop := mergeScalesUptoRow.holds Try.pinned (OpenSpec.upto mergeScalesSpec)

/-- 'archipelagolaw5.MergeTight', WHERE WHAT IT READS IS OF BULK AT MOST 1048576: true; the input reads as it did. -/
def mergeTightUptoRow : OpenClaim := { program := "ytgjkmakhomefkaa", sum := "453df8a280d992142968d04d701b33467df2e6b182fd415653127554fe8d8359", func := "archipelago/archipelagolaw5.MergeTight", spec := "mergeTight", unfollowed := true, recurses := true, plainKeys := false, apart := false, narrowed := true }
def MergeTightUptoSaid : Prop := mergeTightUptoRow.holds Try.pinned (OpenSpec.upto mergeTightSpec)

/-- 'archipelagolaw5.MergeSkewed', WHERE WHAT IT READS IS OF BULK AT MOST 1048576: true; the input reads as it did. -/
def mergeSkewedUptoRow : OpenClaim := { program := "ytgjkmakhomefkaa", sum := "453df8a280d992142968d04d701b33467df2e6b182fd415653127554fe8d8359", func := "archipelago/archipelagolaw5.MergeSkewed", spec := "mergeSkewed", unfollowed := true, recurses := true, plainKeys := false, apart := false, narrowed := true }
def MergeSkewedUptoSaid : Prop := mergeSkewedUptoRow.holds Try.pinned (OpenSpec.upto mergeSkewedSpec)

/-- 'archipelagolaw6.CodeTells', WHERE WHAT IT READS IS OF BULK AT MOST 1048576: true; the input reads as it did. -/
def codeTellsUptoRow : OpenClaim := { program := "ytgjkmakhomefkaa", sum := "453df8a280d992142968d04d701b33467df2e6b182fd415653127554fe8d8359", func := "archipelago/archipelagolaw6.CodeTells", spec := "codeTells", unfollowed := true, recurses := true, plainKeys := false, apart := false, narrowed := true }
def CodeTellsUptoSaid : Prop := codeTellsUptoRow.holds Try.pinned (OpenSpec.upto codeTellsSpec)

/-- 'archipelagolaw6.CodePlays', WHERE WHAT IT READS IS OF BULK AT MOST 1048576: true; the input reads as it did. -/
def codePlaysUptoRow : OpenClaim := { program := "ytgjkmakhomefkaa", sum := "453df8a280d992142968d04d701b33467df2e6b182fd415653127554fe8d8359", func := "archipelago/archipelagolaw6.CodePlays", spec := "codePlays", unfollowed := true, recurses := true, plainKeys := false, apart := false, narrowed := true }
def CodePlaysUptoSaid : Prop := codePlaysUptoRow.holds Try.pinned (OpenSpec.upto codePlaysSpec)

/-- 'archipelagolaw6.CodeFree', WHERE WHAT IT READS IS OF BULK AT MOST 1048576: true; the input reads as it did. -/
def codeFreeUptoRow : OpenClaim := { program := "ytgjkmakhomefkaa", sum := "453df8a280d992142968d04d701b33467df2e6b182fd415653127554fe8d8359", func := "archipelago/archipelagolaw6.CodeFree", spec := "codeFree", unfollowed := true, recurses := true, plainKeys := false, apart := false, narrowed := true }
def CodeFreeUptoSaid : Prop := codeFreeUptoRow.holds Try.pinned (OpenSpec.upto codeFreeSpec)

/-- 'archipelagolaw6.CodeTexts', WHERE WHAT IT READS IS OF BULK AT MOST 1048576: true; the input reads as it did. -/
def codeTextsUptoRow : OpenClaim := { program := "ytgjkmakhomefkaa", sum := "453df8a280d992142968d04d701b33467df2e6b182fd415653127554fe8d8359", func := "archipelago/archipelagolaw6.CodeTexts", spec := "codeTexts", unfollowed := true, recurses := true, plainKeys := false, apart := false, narrowed := true }
def CodeTextsUptoSaid : Prop := codeTextsUptoRow.holds Try.pinned (OpenSpec.upto codeTextsSpec)

/-- 'archipelagolaw6.CodeFirst', WHERE WHAT IT READS IS OF BULK AT MOST 1048576: true; the input reads as it did. -/
def codeFirstUptoRow : OpenClaim := { program := "ytgjkmakhomefkaa", sum := "453df8a280d992142968d04d701b33467df2e6b182fd415653127554fe8d8359", func := "archipelago/archipelagolaw6.CodeFirst", spec := "codeFirst", unfollowed := true, recurses := true, plainKeys := false, apart := false, narrowed := true }
def CodeFirstUptoSaid : Prop := codeFirstUptoRow.holds Try.pinned (OpenSpec.upto codeFirstSpec)

end Rows
end Go.Proofs.Ytgjkmakhomefkaa
