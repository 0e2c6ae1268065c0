/-
  No cell of these rows narrows 'for every input' (looked for: loops, veiled, ifaces, maps, wideKeys, modest, calm, conditions, laid).
  DERIVED. THE GIVEN ROWS OF THIS SEAT. 5 by the template 'for every input the law returns true; each argument reads behind the call as it read before'; 0 by the template 'total and deterministic' (their statements: YtlieaecnllkefaaGreatTotals.lean).
  GIVEN WITH THE SEED: the statements are not yours to turn. If you find one false, say at which input.
  Laid BY PROGRAM, IN A SANDBOX (cutbox-rows.mjs): the forced cells as the released guide's own fill.sh prints them over the translation 2b146ecac5a6a134… (all of the seat's roots in one cut). By AI agents, Wed Nov 11 2026. No macro, syntax, notation, axiom, sorry.
-/
import Derived.Test.YtlieaecnllkefaaGreatChecked
import GoSem.Claim
import GoSem.ClaimJoined
import GoSem.ClaimMapViews
import Derived.JoinedTies
import Derived.KernelRfl
namespace Go.Proofs.YtlieaecnllkefaaGreat
/- THE CELL 'sum', in the pinned program and in every row, IS THE sha256 OF THE DUMP (.gsa) THAT YtlieaecnllkefaaGreatProg.lean LOADS. Nothing in Lean hashes anything: it is a label: what it is worth is what the hold of that sum in a sandbox is worth. -/
noncomputable def Tryz.pinned : Pinned := { name := "ytlieaecnllkefaagreat", sum := "2b146ecac5a6a1342fc82c826c6fb3bd75b8c5546d9ae8788afe8db982c89e4b", checked := Tryz.checked }
namespace Rows
def none {H : Type} : Left H := { results := [], args := [] }

/-- 'archipelagolaw20.TgxEncodes': WHATEVER THE INPUT: true; the input reads as it did. -/
def tgxEncodesSpec : ChangeSpec := { name := "tgxEncodes", fn := fun _ => fun
  | [d1, d2, d3, d4, d5, d6, d7, d8] => { results := [.lit (.bool true)], args := [d1, d2, d3, d4, d5, d6, d7, d8] }
  | _ => none }
def tgxEncodesRow : OpenClaim := { program := "ytlieaecnllkefaagreat", sum := "2b146ecac5a6a1342fc82c826c6fb3bd75b8c5546d9ae8788afe8db982c89e4b", func := "archipelago/archipelagolaw20.TgxEncodes", spec := "tgxEncodes", inPlace := ["internal/reflectlite.ValueOf", "internal/reflectlite.Swapper", "(internal/reflectlite.Value).Len"], unfollowed := true, recurses := true, plainKeys := false, apart := false }
def TgxEncodesSaid : Prop := tgxEncodesRow.holds Tryz.pinned (OpenSpec.ofChange tgxEncodesSpec)

/-- ITS FALSE NEIGHBOUR: 'it returns false'. Refute it at one input. -/
def tgxEncodesWrong : ChangeSpec := { name := "tgxEncodes", fn := fun _ => fun
  | [d1, d2, d3, d4, d5, d6, d7, d8] => { results := [.lit (.bool false)], args := [d1, d2, d3, d4, d5, d6, d7, d8] }
  | _ => none }
def TgxEncodesWrongFalsely : Prop := tgxEncodesRow.holds Tryz.pinned (OpenSpec.ofChange tgxEncodesWrong)

/-- 'archipelagolaw20.TgxOdd': WHATEVER THE INPUT: true; the input reads as it did. -/
def tgxOddSpec : ChangeSpec := { name := "tgxOdd", fn := fun _ => fun
  | [d1, d2, d3, d4, d5, d6] => { results := [.lit (.bool true)], args := [d1, d2, d3, d4, d5, d6] }
  | _ => none }
def tgxOddRow : OpenClaim := { program := "ytlieaecnllkefaagreat", sum := "2b146ecac5a6a1342fc82c826c6fb3bd75b8c5546d9ae8788afe8db982c89e4b", func := "archipelago/archipelagolaw20.TgxOdd", spec := "tgxOdd", inPlace := ["internal/reflectlite.ValueOf", "internal/reflectlite.Swapper", "(internal/reflectlite.Value).Len"], unfollowed := true, recurses := true, plainKeys := false, apart := false }
def TgxOddSaid : Prop := tgxOddRow.holds Tryz.pinned (OpenSpec.ofChange tgxOddSpec)

/-- ITS FALSE NEIGHBOUR: 'it returns false'. Refute it at one input. -/
def tgxOddWrong : ChangeSpec := { name := "tgxOdd", fn := fun _ => fun
  | [d1, d2, d3, d4, d5, d6] => { results := [.lit (.bool false)], args := [d1, d2, d3, d4, d5, d6] }
  | _ => none }
def TgxOddWrongFalsely : Prop := tgxOddRow.holds Tryz.pinned (OpenSpec.ofChange tgxOddWrong)

/-- 'archipelagolaw20.TgxSizes': WHATEVER THE INPUT: true; the input reads as it did. -/
def tgxSizesSpec : ChangeSpec := { name := "tgxSizes", fn := fun _ => fun
  | [d1, d2, d3] => { results := [.lit (.bool true)], args := [d1, d2, d3] }
  | _ => none }
def tgxSizesRow : OpenClaim := { program := "ytlieaecnllkefaagreat", sum := "2b146ecac5a6a1342fc82c826c6fb3bd75b8c5546d9ae8788afe8db982c89e4b", func := "archipelago/archipelagolaw20.TgxSizes", spec := "tgxSizes", inPlace := ["internal/reflectlite.ValueOf", "internal/reflectlite.Swapper", "(internal/reflectlite.Value).Len"], unfollowed := true, recurses := true, plainKeys := false, apart := false }
def TgxSizesSaid : Prop := tgxSizesRow.holds Tryz.pinned (OpenSpec.ofChange tgxSizesSpec)

/-- ITS FALSE NEIGHBOUR: 'it returns false'. Refute it at one input. -/
def tgxSizesWrong : ChangeSpec := { name := "tgxSizes", fn := fun _ => fun
  | [d1, d2, d3] => { results := [.lit (.bool false)], args := [d1, d2, d3] }
  | _ => none }
def TgxSizesWrongFalsely : Prop := tgxSizesRow.holds Tryz.pinned (OpenSpec.ofChange tgxSizesWrong)

/-- 'archipelagolaw20.TgxKeys': WHATEVER THE INPUT: true; the input reads as it did. -/
def tgxKeysSpec : ChangeSpec := { name := "tgxKeys", fn := fun _ => fun
  | [d1, d2, d3, d4] => { results := [.lit (.bool true)], args := [d1, d2, d3, d4] }
  | _ => none }
def tgxKeysRow : OpenClaim := { program := "ytlieaecnllkefaagreat", sum := "2b146ecac5a6a1342fc82c826c6fb3bd75b8c5546d9ae8788afe8db982c89e4b", func := "archipelago/archipelagolaw20.TgxKeys", spec := "tgxKeys", inPlace := ["internal/reflectlite.ValueOf", "internal/reflectlite.Swapper", "(internal/reflectlite.Value).Len"], unfollowed := true, recurses := true, plainKeys := false, apart := false }
def TgxKeysSaid : Prop := tgxKeysRow.holds Tryz.pinned (OpenSpec.ofChange tgxKeysSpec)

/-- ITS FALSE NEIGHBOUR: 'it returns false'. Refute it at one input. -/
def tgxKeysWrong : ChangeSpec := { name := "tgxKeys", fn := fun _ => fun
  | [d1, d2, d3, d4] => { results := [.lit (.bool false)], args := [d1, d2, d3, d4] }
  | _ => none }
def TgxKeysWrongFalsely : Prop := tgxKeysRow.holds Tryz.pinned (OpenSpec.ofChange tgxKeysWrong)

/-- 'archipelagolaw20.TgxOthers': WHATEVER THE INPUT: true; the input reads as it did. -/
def tgxOthersSpec : ChangeSpec := { name := "tgxOthers", fn := fun _ => fun
  | [d1, d2, d3, d4, d5, d6] => { results := [.lit (.bool true)], args := [d1, d2, d3, d4, d5, d6] }
  | _ => none }
def tgxOthersRow : OpenClaim := { program := "ytlieaecnllkefaagreat", sum := "2b146ecac5a6a1342fc82c826c6fb3bd75b8c5546d9ae8788afe8db982c89e4b", func := "archipelago/archipelagolaw20.TgxOthers", spec := "tgxOthers", inPlace := ["internal/reflectlite.ValueOf", "internal/reflectlite.Swapper", "(internal/reflectlite.Value).Len"], unfollowed := true, recurses := true, plainKeys := false, apart := false }
def TgxOthersSaid : Prop := tgxOthersRow.holds Tryz.pinned (OpenSpec.ofChange tgxOthersSpec)

/-- ITS FALSE NEIGHBOUR: 'it returns false'. Refute it at one input. -/
def tgxOthersWrong : ChangeSpec := { name := "tgxOthers", fn := fun _ => fun
  | [d1, d2, d3, d4, d5, d6] => { results := [.lit (.bool false)], args := [d1, d2, d3, d4, d5, d6] }
  | _ => none }
def TgxOthersWrongFalsely : Prop := tgxOthersRow.holds Tryz.pinned (OpenSpec.ofChange tgxOthersWrong)

/- THE SECOND FORM. 'bulk': how many values and letters a reading holds, each counted each time it is reached (what is shared counts as often as it is met; a slice's spare places count too). A statement '..UptoSaid' is the law's where the arguments, and the package variables that the reading takes, are together of bulk at most 1048576: NARROWER than '..Said'. Prove '..Said' where nothing that the law and all that it calls make is longer than what came in: it says more and counts as full. Else prove '..UptoSaid'. A law counts once. -/
mutual
def uptoBulk {H : Type} : DataW H → Nat
  | .lit (.string bytes) => bytes.length + 1
  | .lit _ => 1
  | .nil => 1
  | .ptr d => uptoBulk d + 1
  | .slice elems spare => uptoBulkAll elems + uptoBulkAll spare + 1
  | .agg parts => uptoBulkAll parts + 1
  | .iface _ d => uptoBulk d + 1
  | .map entries => uptoBulkEntries entries + 1
  | .held _ => 1
def uptoBulkAll {H : Type} : List (DataW H) → Nat
  | [] => 0
  | d :: r => uptoBulk d + uptoBulkAll r
def uptoBulkEntries {H : Type} : List (Lit × DataW H) → Nat
  | [] => 0
  | x :: r => uptoBulkEntry x + uptoBulkEntries r
def uptoBulkEntry {H : Type} : Lit × DataW H → Nat
  | (.string bytes, d) => bytes.length + uptoBulk d + 1
  | (_, d) => uptoBulk d + 1
 end
def uptoSmall : (H : Type) → List (DataW H) → Bool := fun _ ds => decide (uptoBulkAll ds ≤ 1048576)
def OpenSpec.upto (s : _root_.Go.ChangeSpec) : _root_.Go.OpenSpec := { _root_.Go.OpenSpec.ofChange s with cond := some uptoSmall }

/-- 'archipelagolaw20.TgxEncodes', WHERE WHAT IT READS IS OF BULK AT MOST 1048576: true; the input reads as it did. -/
def tgxEncodesUptoRow : OpenClaim := { program := "ytlieaecnllkefaagreat", sum := "2b146ecac5a6a1342fc82c826c6fb3bd75b8c5546d9ae8788afe8db982c89e4b", func := "archipelago/archipelagolaw20.TgxEncodes", spec := "tgxEncodes", inPlace := ["internal/reflectlite.ValueOf", "internal/reflectlite.Swapper", "(internal/reflectlite.Value).Len"], unfollowed := true, recurses := true, plainKeys := false, apart := false, narrowed := true }
def TgxEncodesUptoSaid : Prop := tgxEncodesUptoRow.holds Tryz.pinned (OpenSpec.upto tgxEncodesSpec)

/-- 'archipelagolaw20.TgxOdd', WHERE WHAT IT READS IS OF BULK AT MOST 1048576: true; the input reads as it did. -/
def tgxOddUptoRow : OpenClaim := { program := "ytlieaecnllkefaagreat", sum := "2b146ecac5a6a1342fc82c826c6fb3bd75b8c5546d9ae8788afe8db982c89e4b", func := "archipelago/archipelagolaw20.TgxOdd", spec := "tgxOdd", inPlace := ["internal/reflectlite.ValueOf", "internal/reflectlite.Swapper", "(internal/reflectlite.Value).Len"], unfollowed := true, recurses := true, plainKeys := false, apart := false, narrowed := true }
def TgxOddUptoSaid : Prop := tgxOddUptoRow.holds Tryz.pinned (OpenSpec.upto tgxOddSpec)

/-- 'archipelagolaw20.TgxSizes', WHERE WHAT IT READS IS OF BULK AT MOST 1048576: true; the input reads as it did. -/
def tgxSizesUptoRow : OpenClaim := { program := "ytlieaecnllkefaagreat", sum := "2b146ecac5a6a1342fc82c826c6fb3bd75b8c5546d9ae8788afe8db982c89e4b", func := "archipelago/archipelagolaw20.TgxSizes", spec := "tgxSizes", inPlace := ["internal/reflectlite.ValueOf", "internal/reflectlite.Swapper", "(internal/reflectlite.Value).Len"], unfollowed := true, recurses := true, plainKeys := false, apart := false, narrowed := true }
def TgxSizesUptoSaid : Prop := tgxSizesUptoRow.holds Tryz.pinned (OpenSpec.upto tgxSizesSpec)

/-- 'archipelagolaw20.TgxKeys', WHERE WHAT IT READS IS OF BULK AT MOST 1048576: true; the input reads as it did. -/
def tgxKeysUptoRow : OpenClaim := { program := "ytlieaecnllkefaagreat", sum := "2b146ecac5a6a1342fc82c826c6fb3bd75b8c5546d9ae8788afe8db982c89e4b", func := "archipelago/archipelagolaw20.TgxKeys", spec := "tgxKeys", inPlace := ["internal/reflectlite.ValueOf", "internal/reflectlite.Swapper", "(internal/reflectlite.Value).Len"], unfollowed := true, recurses := true, plainKeys := false, apart := false, narrowed := true }
def TgxKeysUptoSaid : Prop := tgxKeysUptoRow.holds Tryz.pinned (OpenSpec.upto tgxKeysSpec)

/-- 'archipelagolaw20.TgxOthers', WHERE WHAT IT READS IS OF BULK AT MOST 1048576: true; the input reads as it did. -/
def tgxOthersUptoRow : OpenClaim := { program := "ytlieaecnllkefaagreat", sum := "2b146ecac5a6a1342fc82c826c6fb3bd75b8c5546d9ae8788afe8db982c89e4b", func := "archipelago/archipelagolaw20.TgxOthers", spec := "tgxOthers", inPlace := ["internal/reflectlite.ValueOf", "internal/reflectlite.Swapper", "(internal/reflectlite.Value).Len"], unfollowed := true, recurses := true, plainKeys := false, apart := false, narrowed := true }
def TgxOthersUptoSaid : Prop := tgxOthersUptoRow.holds Tryz.pinned (OpenSpec.upto tgxOthersSpec)

end Rows
end Go.Proofs.YtlieaecnllkefaaGreat
