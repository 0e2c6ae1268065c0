/-
  No cell of these rows narrows 'for every input' (looked for: loops, veiled, ifaces, maps, wideKeys, modest, calm, conditions, laid).
  DERIVED. THE GIVEN ROWS OF THIS SEAT. 18 by the template 'for every input the law returns true; each argument reads behind the call as it read before'; 0 by the template 'total and deterministic' (their statements: YtmenmmgfdakeeaaTotals.lean).
  GIVEN WITH THE SEED: the statements are not yours to turn. If you find one false, say at which input.
  Laid BY PROGRAM, IN A SANDBOX (cutbox-rows.mjs): the forced cells as the released guide's own fill.sh prints them over the translation 04f64410ad0cb48d… (all of the seat's roots in one cut). By AI agents, Wed Nov 11 2026. No macro, syntax, notation, axiom, sorry.
-/
import Derived.Test.YtmenmmgfdakeeaaChecked
import GoSem.Claim
import GoSem.ClaimJoined
import GoSem.ClaimMapViews
import Derived.JoinedTies
import Derived.KernelRfl
namespace Go.Proofs.Ytmenmmgfdakeeaa
/- THE CELL 'sum', in the pinned program and in every row, IS THE sha256 OF THE DUMP (.gsa) THAT YtmenmmgfdakeeaaProg.lean LOADS. Nothing in Lean hashes anything: it is a label: what it is worth is what the hold of that sum in a sandbox is worth. -/
noncomputable def Try.pinned : Pinned := { name := "ytmenmmgfdakeeaa", sum := "04f64410ad0cb48d359638f1fe4d16bb681e3eb865d588a591645d85454b141b", checked := Try.checked }
namespace Rows
def none {H : Type} : Left H := { results := [], args := [] }

/-- 'archipelagolaw5.MergeTells': WHATEVER THE INPUT: true; the input reads as it did. -/
def mergeTellsSpec : ChangeSpec := { name := "mergeTells", fn := fun _ => fun
  | [d1, d2, d3, d4] => { results := [.lit (.bool true)], args := [d1, d2, d3, d4] }
  | _ => none }
def mergeTellsRow : OpenClaim := { program := "ytmenmmgfdakeeaa", sum := "04f64410ad0cb48d359638f1fe4d16bb681e3eb865d588a591645d85454b141b", func := "archipelago/archipelagolaw5.MergeTells", spec := "mergeTells", unfollowed := true, recurses := true, plainKeys := false, apart := false }
def MergeTellsSaid : Prop := mergeTellsRow.holds Try.pinned (OpenSpec.ofChange mergeTellsSpec)

/-- ITS FALSE NEIGHBOUR: 'it returns false'. Refute it at one input. -/
def mergeTellsWrong : ChangeSpec := { name := "mergeTells", fn := fun _ => fun
  | [d1, d2, d3, d4] => { results := [.lit (.bool false)], args := [d1, d2, d3, d4] }
  | _ => none }
def MergeTellsWrongFalsely : Prop := mergeTellsRow.holds Try.pinned (OpenSpec.ofChange mergeTellsWrong)

/-- 'archipelagolaw6.CodeTells': WHATEVER THE INPUT: true; the input reads as it did. -/
def codeTellsSpec : ChangeSpec := { name := "codeTells", fn := fun _ => fun
  | [d1, d2, d3, d4] => { results := [.lit (.bool true)], args := [d1, d2, d3, d4] }
  | _ => none }
def codeTellsRow : OpenClaim := { program := "ytmenmmgfdakeeaa", sum := "04f64410ad0cb48d359638f1fe4d16bb681e3eb865d588a591645d85454b141b", func := "archipelago/archipelagolaw6.CodeTells", spec := "codeTells", unfollowed := true, recurses := true, plainKeys := false, apart := false }
def CodeTellsSaid : Prop := codeTellsRow.holds Try.pinned (OpenSpec.ofChange codeTellsSpec)

/-- ITS FALSE NEIGHBOUR: 'it returns false'. Refute it at one input. -/
def codeTellsWrong : ChangeSpec := { name := "codeTells", fn := fun _ => fun
  | [d1, d2, d3, d4] => { results := [.lit (.bool false)], args := [d1, d2, d3, d4] }
  | _ => none }
def CodeTellsWrongFalsely : Prop := codeTellsRow.holds Try.pinned (OpenSpec.ofChange codeTellsWrong)

/-- 'archipelagolaw6.CodePlays': WHATEVER THE INPUT: true; the input reads as it did. -/
def codePlaysSpec : ChangeSpec := { name := "codePlays", fn := fun _ => fun
  | [d1, d2, d3, d4] => { results := [.lit (.bool true)], args := [d1, d2, d3, d4] }
  | _ => none }
def codePlaysRow : OpenClaim := { program := "ytmenmmgfdakeeaa", sum := "04f64410ad0cb48d359638f1fe4d16bb681e3eb865d588a591645d85454b141b", func := "archipelago/archipelagolaw6.CodePlays", spec := "codePlays", unfollowed := true, recurses := true, plainKeys := false, apart := false }
def CodePlaysSaid : Prop := codePlaysRow.holds Try.pinned (OpenSpec.ofChange codePlaysSpec)

/-- ITS FALSE NEIGHBOUR: 'it returns false'. Refute it at one input. -/
def codePlaysWrong : ChangeSpec := { name := "codePlays", fn := fun _ => fun
  | [d1, d2, d3, d4] => { results := [.lit (.bool false)], args := [d1, d2, d3, d4] }
  | _ => none }
def CodePlaysWrongFalsely : Prop := codePlaysRow.holds Try.pinned (OpenSpec.ofChange codePlaysWrong)

/-- 'archipelagolaw6.CodeFree': WHATEVER THE INPUT: true; the input reads as it did. -/
def codeFreeSpec : ChangeSpec := { name := "codeFree", fn := fun _ => fun
  | [d1, d2, d3] => { results := [.lit (.bool true)], args := [d1, d2, d3] }
  | _ => none }
def codeFreeRow : OpenClaim := { program := "ytmenmmgfdakeeaa", sum := "04f64410ad0cb48d359638f1fe4d16bb681e3eb865d588a591645d85454b141b", func := "archipelago/archipelagolaw6.CodeFree", spec := "codeFree", unfollowed := true, recurses := true, plainKeys := false, apart := false }
def CodeFreeSaid : Prop := codeFreeRow.holds Try.pinned (OpenSpec.ofChange codeFreeSpec)

/-- ITS FALSE NEIGHBOUR: 'it returns false'. Refute it at one input. -/
def codeFreeWrong : ChangeSpec := { name := "codeFree", fn := fun _ => fun
  | [d1, d2, d3] => { results := [.lit (.bool false)], args := [d1, d2, d3] }
  | _ => none }
def CodeFreeWrongFalsely : Prop := codeFreeRow.holds Try.pinned (OpenSpec.ofChange codeFreeWrong)

/-- 'archipelagolaw6.CodeTexts': WHATEVER THE INPUT: true; the input reads as it did. -/
def codeTextsSpec : ChangeSpec := { name := "codeTexts", fn := fun _ => fun
  | [d1, d2] => { results := [.lit (.bool true)], args := [d1, d2] }
  | _ => none }
def codeTextsRow : OpenClaim := { program := "ytmenmmgfdakeeaa", sum := "04f64410ad0cb48d359638f1fe4d16bb681e3eb865d588a591645d85454b141b", func := "archipelago/archipelagolaw6.CodeTexts", spec := "codeTexts", unfollowed := true, recurses := true, plainKeys := false, apart := false }
def CodeTextsSaid : Prop := codeTextsRow.holds Try.pinned (OpenSpec.ofChange codeTextsSpec)

/-- ITS FALSE NEIGHBOUR: 'it returns false'. Refute it at one input. -/
def codeTextsWrong : ChangeSpec := { name := "codeTexts", fn := fun _ => fun
  | [d1, d2] => { results := [.lit (.bool false)], args := [d1, d2] }
  | _ => none }
def CodeTextsWrongFalsely : Prop := codeTextsRow.holds Try.pinned (OpenSpec.ofChange codeTextsWrong)

/-- 'archipelagolaw6.CodeFirst': WHATEVER THE INPUT: true; the input reads as it did. -/
def codeFirstSpec : ChangeSpec := { name := "codeFirst", fn := fun _ => fun
  | [d] => { results := [.lit (.bool true)], args := [d] }
  | _ => none }
def codeFirstRow : OpenClaim := { program := "ytmenmmgfdakeeaa", sum := "04f64410ad0cb48d359638f1fe4d16bb681e3eb865d588a591645d85454b141b", func := "archipelago/archipelagolaw6.CodeFirst", spec := "codeFirst", unfollowed := true, recurses := true, plainKeys := false, apart := false }
def CodeFirstSaid : Prop := codeFirstRow.holds Try.pinned (OpenSpec.ofChange codeFirstSpec)

/-- ITS FALSE NEIGHBOUR: 'it returns false'. Refute it at one input. -/
def codeFirstWrong : ChangeSpec := { name := "codeFirst", fn := fun _ => fun
  | [d] => { results := [.lit (.bool false)], args := [d] }
  | _ => none }
def CodeFirstWrongFalsely : Prop := codeFirstRow.holds Try.pinned (OpenSpec.ofChange codeFirstWrong)

/-- 'archipelagolaw7.HuffTells': WHATEVER THE INPUT: true; the input reads as it did. -/
def huffTellsSpec : ChangeSpec := { name := "huffTells", fn := fun _ => fun
  | [d1, d2, d3, d4, d5, d6] => { results := [.lit (.bool true)], args := [d1, d2, d3, d4, d5, d6] }
  | _ => none }
def huffTellsRow : OpenClaim := { program := "ytmenmmgfdakeeaa", sum := "04f64410ad0cb48d359638f1fe4d16bb681e3eb865d588a591645d85454b141b", func := "archipelago/archipelagolaw7.HuffTells", spec := "huffTells", unfollowed := true, recurses := true, plainKeys := false, apart := false }
def HuffTellsSaid : Prop := huffTellsRow.holds Try.pinned (OpenSpec.ofChange huffTellsSpec)

/-- ITS FALSE NEIGHBOUR: 'it returns false'. Refute it at one input. -/
def huffTellsWrong : ChangeSpec := { name := "huffTells", fn := fun _ => fun
  | [d1, d2, d3, d4, d5, d6] => { results := [.lit (.bool false)], args := [d1, d2, d3, d4, d5, d6] }
  | _ => none }
def HuffTellsWrongFalsely : Prop := huffTellsRow.holds Try.pinned (OpenSpec.ofChange huffTellsWrong)

/-- 'archipelagolaw7.HuffBack': WHATEVER THE INPUT: true; the input reads as it did. -/
def huffBackSpec : ChangeSpec := { name := "huffBack", fn := fun _ => fun
  | [d1, d2, d3, d4] => { results := [.lit (.bool true)], args := [d1, d2, d3, d4] }
  | _ => none }
def huffBackRow : OpenClaim := { program := "ytmenmmgfdakeeaa", sum := "04f64410ad0cb48d359638f1fe4d16bb681e3eb865d588a591645d85454b141b", func := "archipelago/archipelagolaw7.HuffBack", spec := "huffBack", unfollowed := true, recurses := true, plainKeys := false, apart := false }
def HuffBackSaid : Prop := huffBackRow.holds Try.pinned (OpenSpec.ofChange huffBackSpec)

/-- ITS FALSE NEIGHBOUR: 'it returns false'. Refute it at one input. -/
def huffBackWrong : ChangeSpec := { name := "huffBack", fn := fun _ => fun
  | [d1, d2, d3, d4] => { results := [.lit (.bool false)], args := [d1, d2, d3, d4] }
  | _ => none }
def HuffBackWrongFalsely : Prop := huffBackRow.holds Try.pinned (OpenSpec.ofChange huffBackWrong)

/-- 'archipelagolaw7.HuffSmall': WHATEVER THE INPUT: true; the input reads as it did. -/
def huffSmallSpec : ChangeSpec := { name := "huffSmall", fn := fun _ => fun
  | [d1, d2, d3] => { results := [.lit (.bool true)], args := [d1, d2, d3] }
  | _ => none }
def huffSmallRow : OpenClaim := { program := "ytmenmmgfdakeeaa", sum := "04f64410ad0cb48d359638f1fe4d16bb681e3eb865d588a591645d85454b141b", func := "archipelago/archipelagolaw7.HuffSmall", spec := "huffSmall", unfollowed := true, recurses := true, plainKeys := false, apart := false }
def HuffSmallSaid : Prop := huffSmallRow.holds Try.pinned (OpenSpec.ofChange huffSmallSpec)

/-- ITS FALSE NEIGHBOUR: 'it returns false'. Refute it at one input. -/
def huffSmallWrong : ChangeSpec := { name := "huffSmall", fn := fun _ => fun
  | [d1, d2, d3] => { results := [.lit (.bool false)], args := [d1, d2, d3] }
  | _ => none }
def HuffSmallWrongFalsely : Prop := huffSmallRow.holds Try.pinned (OpenSpec.ofChange huffSmallWrong)

/-- 'archipelagolaw7.HuffCounts': WHATEVER THE INPUT: true; the input reads as it did. -/
def huffCountsSpec : ChangeSpec := { name := "huffCounts", fn := fun _ => fun
  | [d1, d2, d3] => { results := [.lit (.bool true)], args := [d1, d2, d3] }
  | _ => none }
def huffCountsRow : OpenClaim := { program := "ytmenmmgfdakeeaa", sum := "04f64410ad0cb48d359638f1fe4d16bb681e3eb865d588a591645d85454b141b", func := "archipelago/archipelagolaw7.HuffCounts", spec := "huffCounts", unfollowed := true, recurses := true, plainKeys := false, apart := false }
def HuffCountsSaid : Prop := huffCountsRow.holds Try.pinned (OpenSpec.ofChange huffCountsSpec)

/-- ITS FALSE NEIGHBOUR: 'it returns false'. Refute it at one input. -/
def huffCountsWrong : ChangeSpec := { name := "huffCounts", fn := fun _ => fun
  | [d1, d2, d3] => { results := [.lit (.bool false)], args := [d1, d2, d3] }
  | _ => none }
def HuffCountsWrongFalsely : Prop := huffCountsRow.holds Try.pinned (OpenSpec.ofChange huffCountsWrong)

/-- 'archipelagolaw7.HuffAll': WHATEVER THE INPUT: true; the input reads as it did. -/
def huffAllSpec : ChangeSpec := { name := "huffAll", fn := fun _ => fun
  | [d1, d2] => { results := [.lit (.bool true)], args := [d1, d2] }
  | _ => none }
def huffAllRow : OpenClaim := { program := "ytmenmmgfdakeeaa", sum := "04f64410ad0cb48d359638f1fe4d16bb681e3eb865d588a591645d85454b141b", func := "archipelago/archipelagolaw7.HuffAll", spec := "huffAll", unfollowed := true, recurses := true, plainKeys := false, apart := false }
def HuffAllSaid : Prop := huffAllRow.holds Try.pinned (OpenSpec.ofChange huffAllSpec)

/-- ITS FALSE NEIGHBOUR: 'it returns false'. Refute it at one input. -/
def huffAllWrong : ChangeSpec := { name := "huffAll", fn := fun _ => fun
  | [d1, d2] => { results := [.lit (.bool false)], args := [d1, d2] }
  | _ => none }
def HuffAllWrongFalsely : Prop := huffAllRow.holds Try.pinned (OpenSpec.ofChange huffAllWrong)

/-- 'archipelagolaw17.BlockBack': WHATEVER THE INPUT: true; the input reads as it did. -/
def blockBackSpec : ChangeSpec := { name := "blockBack", fn := fun _ => fun
  | [d1, d2, d3, d4, d5] => { results := [.lit (.bool true)], args := [d1, d2, d3, d4, d5] }
  | _ => none }
def blockBackRow : OpenClaim := { program := "ytmenmmgfdakeeaa", sum := "04f64410ad0cb48d359638f1fe4d16bb681e3eb865d588a591645d85454b141b", func := "archipelago/archipelagolaw17.BlockBack", spec := "blockBack", unfollowed := true, recurses := true, plainKeys := false, apart := false }
def BlockBackSaid : Prop := blockBackRow.holds Try.pinned (OpenSpec.ofChange blockBackSpec)

/-- ITS FALSE NEIGHBOUR: 'it returns false'. Refute it at one input. -/
def blockBackWrong : ChangeSpec := { name := "blockBack", fn := fun _ => fun
  | [d1, d2, d3, d4, d5] => { results := [.lit (.bool false)], args := [d1, d2, d3, d4, d5] }
  | _ => none }
def BlockBackWrongFalsely : Prop := blockBackRow.holds Try.pinned (OpenSpec.ofChange blockBackWrong)

/-- 'archipelagolaw17.BlockErrors': WHATEVER THE INPUT: true; the input reads as it did. -/
def blockErrorsSpec : ChangeSpec := { name := "blockErrors", fn := fun _ => fun
  | [d1, d2, d3, d4, d5, d6] => { results := [.lit (.bool true)], args := [d1, d2, d3, d4, d5, d6] }
  | _ => none }
def blockErrorsRow : OpenClaim := { program := "ytmenmmgfdakeeaa", sum := "04f64410ad0cb48d359638f1fe4d16bb681e3eb865d588a591645d85454b141b", func := "archipelago/archipelagolaw17.BlockErrors", spec := "blockErrors", unfollowed := true, recurses := true, plainKeys := false, apart := false }
def BlockErrorsSaid : Prop := blockErrorsRow.holds Try.pinned (OpenSpec.ofChange blockErrorsSpec)

/-- ITS FALSE NEIGHBOUR: 'it returns false'. Refute it at one input. -/
def blockErrorsWrong : ChangeSpec := { name := "blockErrors", fn := fun _ => fun
  | [d1, d2, d3, d4, d5, d6] => { results := [.lit (.bool false)], args := [d1, d2, d3, d4, d5, d6] }
  | _ => none }
def BlockErrorsWrongFalsely : Prop := blockErrorsRow.holds Try.pinned (OpenSpec.ofChange blockErrorsWrong)

/-- 'archipelagolaw17.BlockVertices': WHATEVER THE INPUT: true; the input reads as it did. -/
def blockVerticesSpec : ChangeSpec := { name := "blockVertices", fn := fun _ => fun
  | [d1, d2, d3, d4] => { results := [.lit (.bool true)], args := [d1, d2, d3, d4] }
  | _ => none }
def blockVerticesRow : OpenClaim := { program := "ytmenmmgfdakeeaa", sum := "04f64410ad0cb48d359638f1fe4d16bb681e3eb865d588a591645d85454b141b", func := "archipelago/archipelagolaw17.BlockVertices", spec := "blockVertices", unfollowed := true, recurses := true, plainKeys := false, apart := false }
def BlockVerticesSaid : Prop := blockVerticesRow.holds Try.pinned (OpenSpec.ofChange blockVerticesSpec)

/-- ITS FALSE NEIGHBOUR: 'it returns false'. Refute it at one input. -/
def blockVerticesWrong : ChangeSpec := { name := "blockVertices", fn := fun _ => fun
  | [d1, d2, d3, d4] => { results := [.lit (.bool false)], args := [d1, d2, d3, d4] }
  | _ => none }
def BlockVerticesWrongFalsely : Prop := blockVerticesRow.holds Try.pinned (OpenSpec.ofChange blockVerticesWrong)

/-- 'archipelagolaw11.SnapTells': WHATEVER THE INPUT: true; the input reads as it did. -/
def snapTellsSpec : ChangeSpec := { name := "snapTells", fn := fun _ => fun
  | [d1, d2, d3, d4, d5, d6, d7, d8] => { results := [.lit (.bool true)], args := [d1, d2, d3, d4, d5, d6, d7, d8] }
  | _ => none }
def snapTellsRow : OpenClaim := { program := "ytmenmmgfdakeeaa", sum := "04f64410ad0cb48d359638f1fe4d16bb681e3eb865d588a591645d85454b141b", func := "archipelago/archipelagolaw11.SnapTells", spec := "snapTells", inPlace := ["internal/reflectlite.ValueOf", "internal/reflectlite.Swapper", "(internal/reflectlite.Value).Len", "slices.overlaps[archipelago/api.Edge]"], unfollowed := true, recurses := true, plainKeys := false, apart := false }
def SnapTellsSaid : Prop := snapTellsRow.holds Try.pinned (OpenSpec.ofChange snapTellsSpec)

/-- ITS FALSE NEIGHBOUR: 'it returns false'. Refute it at one input. -/
def snapTellsWrong : ChangeSpec := { name := "snapTells", fn := fun _ => fun
  | [d1, d2, d3, d4, d5, d6, d7, d8] => { results := [.lit (.bool false)], args := [d1, d2, d3, d4, d5, d6, d7, d8] }
  | _ => none }
def SnapTellsWrongFalsely : Prop := snapTellsRow.holds Try.pinned (OpenSpec.ofChange snapTellsWrong)

/-- 'archipelagolaw11.SnapTurns': WHATEVER THE INPUT: true; the input reads as it did. -/
def snapTurnsSpec : ChangeSpec := { name := "snapTurns", fn := fun _ => fun
  | [d1, d2, d3, d4, d5, d6, d7, d8] => { results := [.lit (.bool true)], args := [d1, d2, d3, d4, d5, d6, d7, d8] }
  | _ => none }
def snapTurnsRow : OpenClaim := { program := "ytmenmmgfdakeeaa", sum := "04f64410ad0cb48d359638f1fe4d16bb681e3eb865d588a591645d85454b141b", func := "archipelago/archipelagolaw11.SnapTurns", spec := "snapTurns", inPlace := ["internal/reflectlite.ValueOf", "internal/reflectlite.Swapper", "(internal/reflectlite.Value).Len", "slices.overlaps[archipelago/api.Edge]"], unfollowed := true, recurses := true, plainKeys := false, apart := false }
def SnapTurnsSaid : Prop := snapTurnsRow.holds Try.pinned (OpenSpec.ofChange snapTurnsSpec)

/-- ITS FALSE NEIGHBOUR: 'it returns false'. Refute it at one input. -/
def snapTurnsWrong : ChangeSpec := { name := "snapTurns", fn := fun _ => fun
  | [d1, d2, d3, d4, d5, d6, d7, d8] => { results := [.lit (.bool false)], args := [d1, d2, d3, d4, d5, d6, d7, d8] }
  | _ => none }
def SnapTurnsWrongFalsely : Prop := snapTurnsRow.holds Try.pinned (OpenSpec.ofChange snapTurnsWrong)

/-- 'archipelagolaw11.SnapSteps': WHATEVER THE INPUT: true; the input reads as it did. -/
def snapStepsSpec : ChangeSpec := { name := "snapSteps", fn := fun _ => fun
  | [d1, d2, d3] => { results := [.lit (.bool true)], args := [d1, d2, d3] }
  | _ => none }
def snapStepsRow : OpenClaim := { program := "ytmenmmgfdakeeaa", sum := "04f64410ad0cb48d359638f1fe4d16bb681e3eb865d588a591645d85454b141b", func := "archipelago/archipelagolaw11.SnapSteps", spec := "snapSteps", inPlace := ["internal/reflectlite.ValueOf", "internal/reflectlite.Swapper", "(internal/reflectlite.Value).Len", "slices.overlaps[archipelago/api.Edge]"], unfollowed := true, recurses := true, plainKeys := false, apart := false }
def SnapStepsSaid : Prop := snapStepsRow.holds Try.pinned (OpenSpec.ofChange snapStepsSpec)

/-- ITS FALSE NEIGHBOUR: 'it returns false'. Refute it at one input. -/
def snapStepsWrong : ChangeSpec := { name := "snapSteps", fn := fun _ => fun
  | [d1, d2, d3] => { results := [.lit (.bool false)], args := [d1, d2, d3] }
  | _ => none }
def SnapStepsWrongFalsely : Prop := snapStepsRow.holds Try.pinned (OpenSpec.ofChange snapStepsWrong)

/-- 'archipelagolaw11.SnapDegrees': WHATEVER THE INPUT: true; the input reads as it did. -/
def snapDegreesSpec : ChangeSpec := { name := "snapDegrees", fn := fun _ => fun
  | [d1, d2, d3] => { results := [.lit (.bool true)], args := [d1, d2, d3] }
  | _ => none }
def snapDegreesRow : OpenClaim := { program := "ytmenmmgfdakeeaa", sum := "04f64410ad0cb48d359638f1fe4d16bb681e3eb865d588a591645d85454b141b", func := "archipelago/archipelagolaw11.SnapDegrees", spec := "snapDegrees", inPlace := ["internal/reflectlite.ValueOf", "internal/reflectlite.Swapper", "(internal/reflectlite.Value).Len", "slices.overlaps[archipelago/api.Edge]"], unfollowed := true, recurses := true, plainKeys := false, apart := false }
def SnapDegreesSaid : Prop := snapDegreesRow.holds Try.pinned (OpenSpec.ofChange snapDegreesSpec)

/-- ITS FALSE NEIGHBOUR: 'it returns false'. Refute it at one input. -/
def snapDegreesWrong : ChangeSpec := { name := "snapDegrees", fn := fun _ => fun
  | [d1, d2, d3] => { results := [.lit (.bool false)], args := [d1, d2, d3] }
  | _ => none }
def SnapDegreesWrongFalsely : Prop := snapDegreesRow.holds Try.pinned (OpenSpec.ofChange snapDegreesWrong)

/- THE SECOND FORM. 'bulk': how many values and letters a reading holds, each counted each time it is reached (what is shared counts as often as it is met; a slice's spare places count too). A statement '..UptoSaid' is the law's where the arguments, and the package variables that the reading takes, are together of bulk at most 1048576: NARROWER than '..Said'. Prove '..Said' where nothing that the law and all that it calls make is longer than what came in: it says more and counts as full. Else prove '..UptoSaid'. A law counts once. -/
mutual
def uptoBulk {H : Type} : DataW H → Nat
  | .lit (.string bytes) => bytes.length + 1
  | .lit _ => 1
  | .nil => 1
  | .ptr d => uptoBulk d + 1
  | .slice elems spare => uptoBulkAll elems + uptoBulkAll spare + 1
  | .agg parts => uptoBulkAll parts + 1
  | .iface _ d => uptoBulk d + 1
  | .map entries => uptoBulkEntries entries + 1
  | .held _ => 1
def uptoBulkAll {H : Type} : List (DataW H) → Nat
  | [] => 0
  | d :: r => uptoBulk d + uptoBulkAll r
def uptoBulkEntries {H : Type} : List (Lit × DataW H) → Nat
  | [] => 0
  | x :: r => uptoBulkEntry x + uptoBulkEntries r
def uptoBulkEntry {H : Type} : Lit × DataW H → Nat
  | (.string bytes, d) => bytes.length + uptoBulk d + 1
  | (_, d) => uptoBulk d + 1
 end
def uptoSmall : (H : Type) → List (DataW H) → Bool := fun _ ds => decide (uptoBulkAll ds ≤ 1048576)
def OpenSpec.upto (s : _root_.Go.ChangeSpec) : _root_.Go.OpenSpec := { _root_.Go.OpenSpec.ofChange s with cond := some uptoSmall }

/-- 'archipelagolaw5.MergeTells', WHERE WHAT IT READS IS OF BULK AT MOST 1048576: true; the input reads as it did. -/
def mergeTellsUptoRow : OpenClaim := { program := "ytmenmmgfdakeeaa", sum := "04f64410ad0cb48d359638f1fe4d16bb681e3eb865d588a591645d85454b141b", func := "archipelago/archipelagolaw5.MergeTells", spec := "mergeTells", unfollowed := true, recurses := true, plainKeys := false, apart := false, narrowed := true }
def MergeTellsUptoSaid : Prop := mergeTellsUptoRow.holds Try.pinned (OpenSpec.upto mergeTellsSpec)

/-- 'archipelagolaw6.CodeTells', WHERE WHAT IT READS IS OF BULK AT MOST 1048576: true; the input reads as it did. -/
def codeTellsUptoRow : OpenClaim := { program := "ytmenmmgfdakeeaa", sum := "04f64410ad0cb48d359638f1fe4d16bb681e3eb865d588a591645d85454b141b", func := "archipelago/archipelagolaw6.CodeTells", spec := "codeTells", unfollowed := true, recurses := true, plainKeys := false, apart := false, narrowed := true }
def CodeTellsUptoSaid : Prop := codeTellsUptoRow.holds Try.pinned (OpenSpec.upto codeTellsSpec)

/-- 'archipelagolaw6.CodePlays', WHERE WHAT IT READS IS OF BULK AT MOST 1048576: true; the input reads as it did. -/
def codePlaysUptoRow : OpenClaim := { program := "ytmenmmgfdakeeaa", sum := "04f64410ad0cb48d359638f1fe4d16bb681e3eb865d588a591645d85454b141b", func := "archipelago/archipelagolaw6.CodePlays", spec := "codePlays", unfollowed := true, recurses := true, plainKeys := false, apart := false, narrowed := true }
def CodePlaysUptoSaid : Prop := codePlaysUptoRow.holds Try.pinned (OpenSpec.upto codePlaysSpec)

/-- 'archipelagolaw6.CodeFree', WHERE WHAT IT READS IS OF BULK AT MOST 1048576: true; the input reads as it did. -/
def codeFreeUptoRow : OpenClaim := { program := "ytmenmmgfdakeeaa", sum := "04f64410ad0cb48d359638f1fe4d16bb681e3eb865d588a591645d85454b141b", func := "archipelago/archipelagolaw6.CodeFree", spec := "codeFree", unfollowed := true, recurses := true, plainKeys := false, apart := false, narrowed := true }
def CodeFreeUptoSaid : Prop := codeFreeUptoRow.holds Try.pinned (OpenSpec.upto codeFreeSpec)

/-- 'archipelagolaw6.CodeTexts', WHERE WHAT IT READS IS OF BULK AT MOST 1048576: true; the input reads as it did. -/
def codeTextsUptoRow : OpenClaim := { program := "ytmenmmgfdakeeaa", sum := "04f64410ad0cb48d359638f1fe4d16bb681e3eb865d588a591645d85454b141b", func := "archipelago/archipelagolaw6.CodeTexts", spec := "codeTexts", unfollowed := true, recurses := true, plainKeys := false, apart := false, narrowed := true }
def CodeTextsUptoSaid : Prop := codeTextsUptoRow.holds Try.pinned (OpenSpec.upto codeTextsSpec)

/-- 'archipelagolaw6.CodeFirst', WHERE WHAT IT READS IS OF BULK AT MOST 1048576: true; the input reads as it did. -/
def codeFirstUptoRow : OpenClaim := { program := "ytmenmmgfdakeeaa", sum := "04f64410ad0cb48d359638f1fe4d16bb681e3eb865d588a591645d85454b141b", func := "archipelago/archipelagolaw6.CodeFirst", spec := "codeFirst", unfollowed := true, recurses := true, plainKeys := false, apart := false, narrowed := true }
def CodeFirstUptoSaid : Prop := codeFirstUptoRow.holds Try.pinned (OpenSpec.upto codeFirstSpec)

/-- 'archipelagolaw7.HuffTells', WHERE WHAT IT READS IS OF BULK AT MOST 1048576: true; the input reads as it did. -/
def huffTellsUptoRow : OpenClaim := { program := "ytmenmmgfdakeeaa", sum := "04f64410ad0cb48d359638f1fe4d16bb681e3eb865d588a591645d85454b141b", func := "archipelago/archipelagolaw7.HuffTells", spec := "huffTells", unfollowed := true, recurses := true, plainKeys := false, apart := false, narrowed := true }
def HuffTellsUptoSaid : Prop := huffTellsUptoRow.holds Try.pinned (OpenSpec.upto huffTellsSpec)

/-- 'archipelagolaw7.HuffBack', WHERE WHAT IT READS IS OF BULK AT MOST 1048576: true; the input reads as it did. -/
def huffBackUptoRow : OpenClaim := { program := "ytmenmmgfdakeeaa", sum := "04f64410ad0cb48d359638f1fe4d16bb681e3eb865d588a591645d85454b141b", func := "archipelago/archipelagolaw7.HuffBack", spec := "huffBack", unfollowed := true, recurses := true, plainKeys := false, apart := false, narrowed := true }
def HuffBackUptoSaid : Prop := huffBackUptoRow.holds Try.pinned (OpenSpec.upto huffBackSpec)

/-- 'archipelagolaw7.HuffSmall', WHERE WHAT IT READS IS OF BULK AT MOST 1048576: true; the input reads as it did. -/
def huffSmallUptoRow : OpenClaim := { program := "ytmenmmgfdakeeaa", sum := "04f64410ad0cb48d359638f1fe4d16bb681e3eb865d588a591645d85454b141b", func := "archipelago/archipelagolaw7.HuffSmall", spec := "huffSmall", unfollowed := true, recurses := true, plainKeys := false, apart := false, narrowed := true }
def HuffSmallUptoSaid : Prop := huffSmallUptoRow.holds Try.pinned (OpenSpec.upto huffSmallSpec)

/-- 'archipelagolaw7.HuffCounts', WHERE WHAT IT READS IS OF BULK AT MOST 1048576: true; the input reads as it did. -/
def huffCountsUptoRow : OpenClaim := { program := "ytmenmmgfdakeeaa", sum := "04f64410ad0cb48d359638f1fe4d16bb681e3eb865d588a591645d85454b141b", func := "archipelago/archipelagolaw7.HuffCounts", spec := "huffCounts", unfollowed := true, recurses := true, plainKeys := false, apart := false, narrowed := true }
def HuffCountsUptoSaid : Prop := huffCountsUptoRow.holds Try.pinned (OpenSpec.upto huffCountsSpec)

/-- 'archipelagolaw7.HuffAll', WHERE WHAT IT READS IS OF BULK AT MOST 1048576: true; the input reads as it did. -/
def huffAllUptoRow : OpenClaim := { program := "ytmenmmgfdakeeaa", sum := "04f64410ad0cb48d359638f1fe4d16bb681e3eb865d588a591645d85454b141b", func := "archipelago/archipelagolaw7.HuffAll", spec := "huffAll", unfollowed := true, recurses := true, plainKeys := false, apart := false, narrowed := true }
def HuffAllUptoSaid : Prop := huffAllUptoRow.holds Try.pinned (OpenSpec.upto huffAllSpec)

/-- 'archipelagolaw17.BlockBack', WHERE WHAT IT READS IS OF BULK AT MOST 1048576: true; the input reads as it did. -/
def blockBackUptoRow : OpenClaim := { program := "ytmenmmgfdakeeaa", sum := "04f64410ad0cb48d359638f1fe4d16bb681e3eb865d588a591645d85454b141b", func := "archipelago/archipelagolaw17.BlockBack", spec := "blockBack", unfollowed := true, recurses := true, plainKeys := false, apart := false, narrowed := true }
def BlockBackUptoSaid : Prop := blockBackUptoRow.holds Try.pinned (OpenSpec.upto blockBackSpec)

/-- 'archipelagolaw17.BlockErrors', WHERE WHAT IT READS IS OF BULK AT MOST 1048576: true; the input reads as it did. -/
def blockErrorsUptoRow : OpenClaim := { program := "ytmenmmgfdakeeaa", sum := "04f64410ad0cb48d359638f1fe4d16bb681e3eb865d588a591645d85454b141b", func := "archipelago/archipelagolaw17.BlockErrors", spec := "blockErrors", unfollowed := true, recurses := true, plainKeys := false, apart := false, narrowed := true }
def BlockErrorsUptoSaid : Prop := blockErrorsUptoRow.holds Try.pinned (OpenSpec.upto blockErrorsSpec)

/-- 'archipelagolaw17.BlockVertices', WHERE WHAT IT READS IS OF BULK AT MOST 1048576: true; the input reads as it did. -/
def blockVerticesUptoRow : OpenClaim := { program := "ytmenmmgfdakeeaa", sum := "04f64410ad0cb48d359638f1fe4d16bb681e3eb865d588a591645d85454b141b", func := "archipelago/archipelagolaw17.BlockVertices", spec := "blockVertices", unfollowed := true, recurses := true, plainKeys := false, apart := false, narrowed := true }
def BlockVerticesUptoSaid : Prop := blockVerticesUptoRow.holds Try.pinned (OpenSpec.upto blockVerticesSpec)

/-- 'archipelagolaw11.SnapTells', WHERE WHAT IT READS IS OF BULK AT MOST 1048576: true; the input reads as it did. -/
def snapTellsUptoRow : OpenClaim := { program := "ytmenmmgfdakeeaa", sum := "04f64410ad0cb48d359638f1fe4d16bb681e3eb865d588a591645d85454b141b", func := "archipelago/archipelagolaw11.SnapTells", spec := "snapTells", inPlace := ["internal/reflectlite.ValueOf", "internal/reflectlite.Swapper", "(internal/reflectlite.Value).Len", "slices.overlaps[archipelago/api.Edge]"], unfollowed := true, recurses := true, plainKeys := false, apart := false, narrowed := true }
def SnapTellsUptoSaid : Prop := snapTellsUptoRow.holds Try.pinned (OpenSpec.upto snapTellsSpec)

/-- 'archipelagolaw11.SnapTurns', WHERE WHAT IT READS IS OF BULK AT MOST 1048576: true; the input reads as it did. -/
def snapTurnsUptoRow : OpenClaim := { program := "ytmenmmgfdakeeaa", sum := "04f64410ad0cb48d359638f1fe4d16bb681e3eb865d588a591645d85454b141b", func := "archipelago/archipelagolaw11.SnapTurns", spec := "snapTurns", inPlace := ["internal/reflectlite.ValueOf", "internal/reflectlite.Swapper", "(internal/reflectlite.Value).Len", "slices.overlaps[archipelago/api.Edge]"], unfollowed := true, recurses := true, plainKeys := false, apart := false, narrowed := true }
def SnapTurnsUptoSaid : Prop := snapTurnsUptoRow.holds Try.pinned (OpenSpec.upto snapTurnsSpec)

/-- 'archipelagolaw11.SnapSteps', WHERE WHAT IT READS IS OF BULK AT MOST 1048576: true; the input reads as it did. -/
def snapStepsUptoRow : OpenClaim := { program := "ytmenmmgfdakeeaa", sum := "04f64410ad0cb48d359638f1fe4d16bb681e3eb865d588a591645d85454b141b", func := "archipelago/archipelagolaw11.SnapSteps", spec := "snapSteps", inPlace := ["internal/reflectlite.ValueOf", "internal/reflectlite.Swapper", "(internal/reflectlite.Value).Len", "slices.overlaps[archipelago/api.Edge]"], unfollowed := true, recurses := true, plainKeys := false, apart := false, narrowed := true }
def SnapStepsUptoSaid : Prop := snapStepsUptoRow.holds Try.pinned (OpenSpec.upto snapStepsSpec)

/-- 'archipelagolaw11.SnapDegrees', WHERE WHAT IT READS IS OF BULK AT MOST 1048576: true; the input reads as it did. -/
def snapDegreesUptoRow : OpenClaim := { program := "ytmenmmgfdakeeaa", sum := "04f64410ad0cb48d359638f1fe4d16bb681e3eb865d588a591645d85454b141b", func := "archipelago/archipelagolaw11.SnapDegrees", spec := "snapDegrees", inPlace := ["internal/reflectlite.ValueOf", "internal/reflectlite.Swapper", "(internal/reflectlite.Value).Len", "slices.overlaps[archipelago/api.Edge]"], unfollowed := true, recurses := true, plainKeys := false, apart := false, narrowed := true }
def SnapDegreesUptoSaid : Prop := snapDegreesUptoRow.holds Try.pinned (OpenSpec.upto snapDegreesSpec)

end Rows
end Go.Proofs.Ytmenmmgfdakeeaa
