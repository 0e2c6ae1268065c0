/-
  No cell of these rows narrows 'for every input' (looked for: loops, veiled, ifaces, maps, wideKeys, modest, calm, conditions, laid).
  DERIVED. THE GIVEN ROWS OF THIS SEAT. 7 by the template 'for every input the law returns true; each argument reads behind the call as it read before'; 0 by the template 'total and deterministic' (their statements: YtgahfcdmgdnjiaaTotals.lean).
  GIVEN WITH THE SEED: the statements are not yours to turn. If you find one false, say at which input.
  Laid BY PROGRAM, IN A SANDBOX (cutbox-rows.mjs): the forced cells as the released guide's own fill.sh prints them over the translation 0e944adac29d3dec… (all of the seat's roots in one cut). By AI agents, Wed Nov 11 2026. No macro, syntax, notation, axiom, sorry.
-/
import Derived.Test.YtgahfcdmgdnjiaaChecked
import GoSem.Claim
import GoSem.ClaimJoined
import GoSem.ClaimMapViews
import Derived.JoinedTies
import Derived.KernelRfl
namespace Go.Proofs.Ytgahfcdmgdnjiaa
/- THE CELL 'sum', in the pinned program and in every row, IS THE sha256 OF THE DUMP (.gsa) THAT YtgahfcdmgdnjiaaProg.lean LOADS. Nothing in Lean hashes anything: it is a label: what it is worth is what the hold of that sum in a sandbox is worth. -/
noncomputable def Try.pinned : Pinned := { name := "ytgahfcdmgdnjiaa", sum := "0e944adac29d3dec8d09d07007de5514cfb0f1bf12e0fb6253079635e3d9e2ed", checked := Try.checked }
namespace Rows
def none {H : Type} : Left H := { results := [], args := [] }

/-- 'archipelagolaw17.BlockBack': WHATEVER THE INPUT: true; the input reads as it did. -/
def blockBackSpec : ChangeSpec := { name := "blockBack", fn := fun _ => fun
  | [d1, d2, d3, d4, d5] => { results := [.lit (.bool true)], args := [d1, d2, d3, d4, d5] }
  | _ => none }
def blockBackRow : OpenClaim := { program := "ytgahfcdmgdnjiaa", sum := "0e944adac29d3dec8d09d07007de5514cfb0f1bf12e0fb6253079635e3d9e2ed", func := "archipelago/archipelagolaw17.BlockBack", spec := "blockBack", unfollowed := true, recurses := true, plainKeys := false, apart := false }
def BlockBackSaid : Prop := blockBackRow.holds Try.pinned (OpenSpec.ofChange blockBackSpec)

/-- ITS FALSE NEIGHBOUR: 'it returns false'. Refute it at one input. -/
def blockBackWrong : ChangeSpec := { name := "blockBack", fn := fun _ => fun
  | [d1, d2, d3, d4, d5] => { results := [.lit (.bool false)], args := [d1, d2, d3, d4, d5] }
  | _ => none }
def BlockBackWrongFalsely : Prop := blockBackRow.holds Try.pinned (OpenSpec.ofChange blockBackWrong)

/-- 'archipelagolaw17.BlockErrors': WHATEVER THE INPUT: true; the input reads as it did. -/
def blockErrorsSpec : ChangeSpec := { name := "blockErrors", fn := fun _ => fun
  | [d1, d2, d3, d4, d5, d6] => { results := [.lit (.bool true)], args := [d1, d2, d3, d4, d5, d6] }
  | _ => none }
def blockErrorsRow : OpenClaim := { program := "ytgahfcdmgdnjiaa", sum := "0e944adac29d3dec8d09d07007de5514cfb0f1bf12e0fb6253079635e3d9e2ed", func := "archipelago/archipelagolaw17.BlockErrors", spec := "blockErrors", unfollowed := true, recurses := true, plainKeys := false, apart := false }
def BlockErrorsSaid : Prop := blockErrorsRow.holds Try.pinned (OpenSpec.ofChange blockErrorsSpec)

/-- ITS FALSE NEIGHBOUR: 'it returns false'. Refute it at one input. -/
def blockErrorsWrong : ChangeSpec := { name := "blockErrors", fn := fun _ => fun
  | [d1, d2, d3, d4, d5, d6] => { results := [.lit (.bool false)], args := [d1, d2, d3, d4, d5, d6] }
  | _ => none }
def BlockErrorsWrongFalsely : Prop := blockErrorsRow.holds Try.pinned (OpenSpec.ofChange blockErrorsWrong)

/-- 'archipelagolaw17.BlockVertices': WHATEVER THE INPUT: true; the input reads as it did. -/
def blockVerticesSpec : ChangeSpec := { name := "blockVertices", fn := fun _ => fun
  | [d1, d2, d3, d4] => { results := [.lit (.bool true)], args := [d1, d2, d3, d4] }
  | _ => none }
def blockVerticesRow : OpenClaim := { program := "ytgahfcdmgdnjiaa", sum := "0e944adac29d3dec8d09d07007de5514cfb0f1bf12e0fb6253079635e3d9e2ed", func := "archipelago/archipelagolaw17.BlockVertices", spec := "blockVertices", unfollowed := true, recurses := true, plainKeys := false, apart := false }
def BlockVerticesSaid : Prop := blockVerticesRow.holds Try.pinned (OpenSpec.ofChange blockVerticesSpec)

/-- ITS FALSE NEIGHBOUR: 'it returns false'. Refute it at one input. -/
def blockVerticesWrong : ChangeSpec := { name := "blockVertices", fn := fun _ => fun
  | [d1, d2, d3, d4] => { results := [.lit (.bool false)], args := [d1, d2, d3, d4] }
  | _ => none }
def BlockVerticesWrongFalsely : Prop := blockVerticesRow.holds Try.pinned (OpenSpec.ofChange blockVerticesWrong)

/-- 'archipelagolaw11.SnapTells': WHATEVER THE INPUT: true; the input reads as it did. -/
def snapTellsSpec : ChangeSpec := { name := "snapTells", fn := fun _ => fun
  | [d1, d2, d3, d4, d5, d6, d7, d8] => { results := [.lit (.bool true)], args := [d1, d2, d3, d4, d5, d6, d7, d8] }
  | _ => none }
def snapTellsRow : OpenClaim := { program := "ytgahfcdmgdnjiaa", sum := "0e944adac29d3dec8d09d07007de5514cfb0f1bf12e0fb6253079635e3d9e2ed", func := "archipelago/archipelagolaw11.SnapTells", spec := "snapTells", inPlace := ["internal/reflectlite.ValueOf", "internal/reflectlite.Swapper", "(internal/reflectlite.Value).Len", "slices.overlaps[archipelago/api.Edge]"], unfollowed := true, recurses := true, plainKeys := false, apart := false }
def SnapTellsSaid : Prop := snapTellsRow.holds Try.pinned (OpenSpec.ofChange snapTellsSpec)

/-- ITS FALSE NEIGHBOUR: 'it returns false'. Refute it at one input. -/
def snapTellsWrong : ChangeSpec := { name := "snapTells", fn := fun _ => fun
  | [d1, d2, d3, d4, d5, d6, d7, d8] => { results := [.lit (.bool false)], args := [d1, d2, d3, d4, d5, d6, d7, d8] }
  | _ => none }
def SnapTellsWrongFalsely : Prop := snapTellsRow.holds Try.pinned (OpenSpec.ofChange snapTellsWrong)

/-- 'archipelagolaw11.SnapTurns': WHATEVER THE INPUT: true; the input reads as it did. -/
def snapTurnsSpec : ChangeSpec := { name := "snapTurns", fn := fun _ => fun
  | [d1, d2, d3, d4, d5, d6, d7, d8] => { results := [.lit (.bool true)], args := [d1, d2, d3, d4, d5, d6, d7, d8] }
  | _ => none }
def snapTurnsRow : OpenClaim := { program := "ytgahfcdmgdnjiaa", sum := "0e944adac29d3dec8d09d07007de5514cfb0f1bf12e0fb6253079635e3d9e2ed", func := "archipelago/archipelagolaw11.SnapTurns", spec := "snapTurns", inPlace := ["internal/reflectlite.ValueOf", "internal/reflectlite.Swapper", "(internal/reflectlite.Value).Len", "slices.overlaps[archipelago/api.Edge]"], unfollowed := true, recurses := true, plainKeys := false, apart := false }
def SnapTurnsSaid : Prop := snapTurnsRow.holds Try.pinned (OpenSpec.ofChange snapTurnsSpec)

/-- ITS FALSE NEIGHBOUR: 'it returns false'. Refute it at one input. -/
def snapTurnsWrong : ChangeSpec := { name := "snapTurns", fn := fun _ => fun
  | [d1, d2, d3, d4, d5, d6, d7, d8] => { results := [.lit (.bool false)], args := [d1, d2, d3, d4, d5, d6, d7, d8] }
  | _ => none }
def SnapTurnsWrongFalsely : Prop := snapTurnsRow.holds Try.pinned (OpenSpec.ofChange snapTurnsWrong)

/-- 'archipelagolaw11.SnapSteps': WHATEVER THE INPUT: true; the input reads as it did. -/
def snapStepsSpec : ChangeSpec := { name := "snapSteps", fn := fun _ => fun
  | [d1, d2, d3] => { results := [.lit (.bool true)], args := [d1, d2, d3] }
  | _ => none }
def snapStepsRow : OpenClaim := { program := "ytgahfcdmgdnjiaa", sum := "0e944adac29d3dec8d09d07007de5514cfb0f1bf12e0fb6253079635e3d9e2ed", func := "archipelago/archipelagolaw11.SnapSteps", spec := "snapSteps", inPlace := ["internal/reflectlite.ValueOf", "internal/reflectlite.Swapper", "(internal/reflectlite.Value).Len", "slices.overlaps[archipelago/api.Edge]"], unfollowed := true, recurses := true, plainKeys := false, apart := false }
def SnapStepsSaid : Prop := snapStepsRow.holds Try.pinned (OpenSpec.ofChange snapStepsSpec)

/-- ITS FALSE NEIGHBOUR: 'it returns false'. Refute it at one input. -/
def snapStepsWrong : ChangeSpec := { name := "snapSteps", fn := fun _ => fun
  | [d1, d2, d3] => { results := [.lit (.bool false)], args := [d1, d2, d3] }
  | _ => none }
def SnapStepsWrongFalsely : Prop := snapStepsRow.holds Try.pinned (OpenSpec.ofChange snapStepsWrong)

/-- 'archipelagolaw11.SnapDegrees': WHATEVER THE INPUT: true; the input reads as it did. -/
def snapDegreesSpec : ChangeSpec := { name := "snapDegrees", fn := fun _ => fun
  | [d1, d2, d3] => { results := [.lit (.bool true)], args := [d1, d2, d3] }
  | _ => none }
def snapDegreesRow : OpenClaim := { program := "ytgahfcdmgdnjiaa", sum := "0e944adac29d3dec8d09d07007de5514cfb0f1bf12e0fb6253079635e3d9e2ed", func := "archipelago/archipelagolaw11.SnapDegrees", spec := "snapDegrees", inPlace := ["internal/reflectlite.ValueOf", "internal/reflectlite.Swapper", "(internal/reflectlite.Value).Len", "slices.overlaps[archipelago/api.Edge]"], unfollowed := true, recurses := true, plainKeys := false, apart := false }
def SnapDegreesSaid : Prop := snapDegreesRow.holds Try.pinned (OpenSpec.ofChange snapDegreesSpec)

/-- ITS FALSE NEIGHBOUR: 'it returns false'. Refute it at one input. -/
def snapDegreesWrong : ChangeSpec := { name := "snapDegrees", fn := fun _ => fun
  | [d1, d2, d3] => { results := [.lit (.bool false)], args := [d1, d2, d3] }
  | _ => none }
def SnapDegreesWrongFalsely : Prop := snapDegreesRow.holds Try.pinned (OpenSpec.ofChange snapDegreesWrong)

/- THE SECOND FORM. 'bulk': how many values and letters a reading holds, each counted each time it is reached (what is shared counts as often as it is met; a slice's spare places count too). A statement '..UptoSaid' is the law's where the arguments, and the package variables that the reading takes, are together of bulk at most 1048576: NARROWER than '..Said'. Prove '..Said' where nothing that the law and all that it calls make is longer than what came in: it says more and counts as full. Else prove '..UptoSaid'. A law counts once. -/
mutual
def uptoBulk {H : Type} : DataW H → Nat
  | .lit (.string bytes) => bytes.length + 1
  | .lit _ => 1
  | .nil => 1
  | .ptr d => uptoBulk d + 1
  | .slice elems spare => uptoBulkAll elems + uptoBulkAll spare + 1
  | .agg parts => uptoBulkAll parts + 1
  | .iface _ d => uptoBulk d + 1
  | .map entries => uptoBulkEntries entries + 1
  | .held _ => 1
def uptoBulkAll {H : Type} : List (DataW H) → Nat
  | [] => 0
  | d :: r => uptoBulk d + uptoBulkAll r
def uptoBulkEntries {H : Type} : List (Lit × DataW H) → Nat
  | [] => 0
  | x :: r => uptoBulkEntry x + uptoBulkEntries r
def uptoBulkEntry {H : Type} : Lit × DataW H → Nat
  | (.string bytes, d) => bytes.length + uptoBulk d + 1
  | (_, d) => uptoBulk d + 1
 end
def uptoSmall : (H : Type) → List (DataW H) → Bool := fun _ ds => decide (uptoBulkAll ds ≤ 1048576)
def OpenSpec.upto (s : _root_.Go.ChangeSpec) : _root_.Go.OpenSpec := { _root_.Go.OpenSpec.ofChange s with cond := some uptoSmall }

/-- 'archipelagolaw17.BlockBack', WHERE WHAT IT READS IS OF BULK AT MOST 1048576: true; the input reads as it did. -/
def blockBackUptoRow : OpenClaim := { program := "ytgahfcdmgdnjiaa", sum := "0e944adac29d3dec8d09d07007de5514cfb0f1bf12e0fb6253079635e3d9e2ed", func := "archipelago/archipelagolaw17.BlockBack", spec := "blockBack", unfollowed := true, recurses := true, plainKeys := false, apart := false, narrowed := true }
def BlockBackUptoSaid : Prop := blockBackUptoRow.holds Try.pinned (OpenSpec.upto blockBackSpec)

/-- 'archipelagolaw17.BlockErrors', WHERE WHAT IT READS IS OF BULK AT MOST 1048576: true; the input reads as it did. -/
def blockErrorsUptoRow : OpenClaim := { program := "ytgahfcdmgdnjiaa", sum := "0e944adac29d3dec8d09d07007de5514cfb0f1bf12e0fb6253079635e3d9e2ed", func := "archipelago/archipelagolaw17.BlockErrors", spec := "blockErrors", unfollowed := true, recurses := true, plainKeys := false, apart := false, narrowed := true }
def BlockErrorsUptoSaid : Prop := blockErrorsUptoRow.holds Try.pinned (OpenSpec.upto blockErrorsSpec)

/-- 'archipelagolaw17.BlockVertices', WHERE WHAT IT READS IS OF BULK AT MOST 1048576: true; the input reads as it did. -/
def blockVerticesUptoRow : OpenClaim := { program := "ytgahfcdmgdnjiaa", sum := "0e944adac29d3dec8d09d07007de5514cfb0f1bf12e0fb6253079635e3d9e2ed", func := "archipelago/archipelagolaw17.BlockVertices", spec := "blockVertices", unfollowed := true, recurses := true, plainKeys := false, apart := false, narrowed := true }
def BlockVerticesUptoSaid : Prop := blockVerticesUptoRow.holds Try.pinned (OpenSpec.upto blockVerticesSpec)

/-- 'archipelagolaw11.SnapTells', WHERE WHAT IT READS IS OF BULK AT MOST 1048576: true; the input reads as it did. -/
def snapTellsUptoRow : OpenClaim := { program := "ytgahfcdmgdnjiaa", sum := "0e944adac29d3dec8d09d07007de5514cfb0f1bf12e0fb6253079635e3d9e2ed", func := "archipelago/archipelagolaw11.SnapTells", spec := "snapTells", inPlace := ["internal/reflectlite.ValueOf", "internal/reflectlite.Swapper", "(internal/reflectlite.Value).Len", "slices.overlaps[archipelago/api.Edge]"], unfollowed := true, recurses := true, plainKeys := false, apart := false, narrowed := true }
def SnapTellsUptoSaid : Prop := snapTellsUptoRow.holds Try.pinned (OpenSpec.upto snapTellsSpec)

/-- 'archipelagolaw11.SnapTurns', WHERE WHAT IT READS IS OF BULK AT MOST 1048576: true; the input reads as it did. -/
def snapTurnsUptoRow : OpenClaim := { program := "ytgahfcdmgdnjiaa", sum := "0e944adac29d3dec8d09d07007de5514cfb0f1bf12e0fb6253079635e3d9e2ed", func := "archipelago/archipelagolaw11.SnapTurns", spec := "snapTurns", inPlace := ["internal/reflectlite.ValueOf", "internal/reflectlite.Swapper", "(internal/reflectlite.Value).Len", "slices.overlaps[archipelago/api.Edge]"], unfollowed := true, recurses := true, plainKeys := false, apart := false, narrowed := true }
def SnapTurnsUptoSaid : Prop := snapTurnsUptoRow.holds Try.pinned (OpenSpec.upto snapTurnsSpec)

/-- 'archipelagolaw11.SnapSteps', WHERE WHAT IT READS IS OF BULK AT MOST 1048576: true; the input reads as it did. -/
def snapStepsUptoRow : OpenClaim := { program := "ytgahfcdmgdnjiaa", sum := "0e944adac29d3dec8d09d07007de5514cfb0f1bf12e0fb6253079635e3d9e2ed", func := "archipelago/archipelagolaw11.SnapSteps", spec := "snapSteps", inPlace := ["internal/reflectlite.ValueOf", "internal/reflectlite.Swapper", "(internal/reflectlite.Value).Len", "slices.overlaps[archipelago/api.Edge]"], unfollowed := true, recurses := true, plainKeys := false, apart := false, narrowed := true }
def SnapStepsUptoSaid : Prop := snapStepsUptoRow.holds Try.pinned (OpenSpec.upto snapStepsSpec)

/-- 'archipelagolaw11.SnapDegrees', WHERE WHAT IT READS IS OF BULK AT MOST 1048576: true; the input reads as it did. -/
def snapDegreesUptoRow : OpenClaim := { program := "ytgahfcdmgdnjiaa", sum := "0e944adac29d3dec8d09d07007de5514cfb0f1bf12e0fb6253079635e3d9e2ed", func := "archipelago/archipelagolaw11.SnapDegrees", spec := "snapDegrees", inPlace := ["internal/reflectlite.ValueOf", "internal/reflectlite.Swapper", "(internal/reflectlite.Value).Len", "slices.overlaps[archipelago/api.Edge]"], unfollowed := true, recurses := true, plainKeys := false, apart := false, narrowed := true }
def SnapDegreesUptoSaid : Prop := snapDegreesUptoRow.holds Try.pinned (OpenSpec.upto snapDegreesSpec)

end Rows
end Go.Proofs.Ytgahfcdmgdnjiaa
