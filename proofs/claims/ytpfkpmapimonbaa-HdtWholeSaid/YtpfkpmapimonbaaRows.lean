/-
  No cell of these rows narrows 'for every input' (looked for: loops, veiled, ifaces, maps, wideKeys, modest, calm, conditions, laid).
  DERIVED. THE GIVEN ROWS OF THIS SEAT. 9 by the template 'for every input the law returns true; each argument reads behind the call as it read before'; 0 by the template 'total and deterministic' (their statements: YtpfkpmapimonbaaTotals.lean).
  GIVEN WITH THE SEED: the statements are not yours to turn. If you find one false, say at which input.
  Laid BY PROGRAM, IN A SANDBOX (cutbox-rows.mjs): the forced cells as the released guide's own fill.sh prints them over the translation 4aae7944c11568dc… (all of the seat's roots in one cut). By AI agents, Wed Nov 11 2026. No macro, syntax, notation, axiom, sorry.
-/
import Derived.Test.YtpfkpmapimonbaaChecked
import GoSem.Claim
import GoSem.ClaimJoined
import GoSem.ClaimMapViews
import Derived.JoinedTies
import Derived.KernelRfl
namespace Go.Proofs.Ytpfkpmapimonbaa
/- THE CELL 'sum', in the pinned program and in every row, IS THE sha256 OF THE DUMP (.gsa) THAT YtpfkpmapimonbaaProg.lean LOADS. Nothing in Lean hashes anything: it is a label: what it is worth is what the hold of that sum in a sandbox is worth. -/
noncomputable def Try.pinned : Pinned := { name := "ytpfkpmapimonbaa", sum := "4aae7944c11568dcb2fb69c40eebfa5c6c4d6e1a73e486e0cf59069169bc622d", checked := Try.checked }
namespace Rows
def none {H : Type} : Left H := { results := [], args := [] }

/-- 'archipelagolaw22.TourPlays': WHATEVER THE INPUT: true; the input reads as it did. -/
def tourPlaysSpec : ChangeSpec := { name := "tourPlays", fn := fun _ => fun
  | [d1, d2, d3, d4] => { results := [.lit (.bool true)], args := [d1, d2, d3, d4] }
  | _ => none }
def tourPlaysRow : OpenClaim := { program := "ytpfkpmapimonbaa", sum := "4aae7944c11568dcb2fb69c40eebfa5c6c4d6e1a73e486e0cf59069169bc622d", func := "archipelago/archipelagolaw22.TourPlays", spec := "tourPlays", unfollowed := true, recurses := true, plainKeys := false, apart := false }
def TourPlaysSaid : Prop := tourPlaysRow.holds Try.pinned (OpenSpec.ofChange tourPlaysSpec)

/-- ITS FALSE NEIGHBOUR: 'it returns false'. Refute it at one input. -/
def tourPlaysWrong : ChangeSpec := { name := "tourPlays", fn := fun _ => fun
  | [d1, d2, d3, d4] => { results := [.lit (.bool false)], args := [d1, d2, d3, d4] }
  | _ => none }
def TourPlaysWrongFalsely : Prop := tourPlaysRow.holds Try.pinned (OpenSpec.ofChange tourPlaysWrong)

/-- 'archipelagolaw22.TourLong': WHATEVER THE INPUT: true; the input reads as it did. -/
def tourLongSpec : ChangeSpec := { name := "tourLong", fn := fun _ => fun
  | [d1, d2, d3] => { results := [.lit (.bool true)], args := [d1, d2, d3] }
  | _ => none }
def tourLongRow : OpenClaim := { program := "ytpfkpmapimonbaa", sum := "4aae7944c11568dcb2fb69c40eebfa5c6c4d6e1a73e486e0cf59069169bc622d", func := "archipelago/archipelagolaw22.TourLong", spec := "tourLong", unfollowed := true, recurses := true, plainKeys := false, apart := false }
def TourLongSaid : Prop := tourLongRow.holds Try.pinned (OpenSpec.ofChange tourLongSpec)

/-- ITS FALSE NEIGHBOUR: 'it returns false'. Refute it at one input. -/
def tourLongWrong : ChangeSpec := { name := "tourLong", fn := fun _ => fun
  | [d1, d2, d3] => { results := [.lit (.bool false)], args := [d1, d2, d3] }
  | _ => none }
def TourLongWrongFalsely : Prop := tourLongRow.holds Try.pinned (OpenSpec.ofChange tourLongWrong)

/-- 'archipelagolaw22.TourStars': WHATEVER THE INPUT: true; the input reads as it did. -/
def tourStarsSpec : ChangeSpec := { name := "tourStars", fn := fun _ => fun
  | [d1, d2, d3, d4] => { results := [.lit (.bool true)], args := [d1, d2, d3, d4] }
  | _ => none }
def tourStarsRow : OpenClaim := { program := "ytpfkpmapimonbaa", sum := "4aae7944c11568dcb2fb69c40eebfa5c6c4d6e1a73e486e0cf59069169bc622d", func := "archipelago/archipelagolaw22.TourStars", spec := "tourStars", unfollowed := true, recurses := true, plainKeys := false, apart := false }
def TourStarsSaid : Prop := tourStarsRow.holds Try.pinned (OpenSpec.ofChange tourStarsSpec)

/-- ITS FALSE NEIGHBOUR: 'it returns false'. Refute it at one input. -/
def tourStarsWrong : ChangeSpec := { name := "tourStars", fn := fun _ => fun
  | [d1, d2, d3, d4] => { results := [.lit (.bool false)], args := [d1, d2, d3, d4] }
  | _ => none }
def TourStarsWrongFalsely : Prop := tourStarsRow.holds Try.pinned (OpenSpec.ofChange tourStarsWrong)

/-- 'archipelagolaw22.TourMany': WHATEVER THE INPUT: true; the input reads as it did. -/
def tourManySpec : ChangeSpec := { name := "tourMany", fn := fun _ => fun
  | [d1, d2, d3] => { results := [.lit (.bool true)], args := [d1, d2, d3] }
  | _ => none }
def tourManyRow : OpenClaim := { program := "ytpfkpmapimonbaa", sum := "4aae7944c11568dcb2fb69c40eebfa5c6c4d6e1a73e486e0cf59069169bc622d", func := "archipelago/archipelagolaw22.TourMany", spec := "tourMany", unfollowed := true, recurses := true, plainKeys := false, apart := false }
def TourManySaid : Prop := tourManyRow.holds Try.pinned (OpenSpec.ofChange tourManySpec)

/-- ITS FALSE NEIGHBOUR: 'it returns false'. Refute it at one input. -/
def tourManyWrong : ChangeSpec := { name := "tourMany", fn := fun _ => fun
  | [d1, d2, d3] => { results := [.lit (.bool false)], args := [d1, d2, d3] }
  | _ => none }
def TourManyWrongFalsely : Prop := tourManyRow.holds Try.pinned (OpenSpec.ofChange tourManyWrong)

/-- 'archipelagolaw23.HdtPlays': WHATEVER THE INPUT: true; the input reads as it did. -/
def hdtPlaysSpec : ChangeSpec := { name := "hdtPlays", fn := fun _ => fun
  | [d1, d2, d3, d4] => { results := [.lit (.bool true)], args := [d1, d2, d3, d4] }
  | _ => none }
def hdtPlaysRow : OpenClaim := { program := "ytpfkpmapimonbaa", sum := "4aae7944c11568dcb2fb69c40eebfa5c6c4d6e1a73e486e0cf59069169bc622d", func := "archipelago/archipelagolaw23.HdtPlays", spec := "hdtPlays", unfollowed := true, recurses := true, plainKeys := false, apart := false }
def HdtPlaysSaid : Prop := hdtPlaysRow.holds Try.pinned (OpenSpec.ofChange hdtPlaysSpec)

/-- ITS FALSE NEIGHBOUR: 'it returns false'. Refute it at one input. -/
def hdtPlaysWrong : ChangeSpec := { name := "hdtPlays", fn := fun _ => fun
  | [d1, d2, d3, d4] => { results := [.lit (.bool false)], args := [d1, d2, d3, d4] }
  | _ => none }
def HdtPlaysWrongFalsely : Prop := hdtPlaysRow.holds Try.pinned (OpenSpec.ofChange hdtPlaysWrong)

/-- 'archipelagolaw23.HdtRings': WHATEVER THE INPUT: true; the input reads as it did. -/
def hdtRingsSpec : ChangeSpec := { name := "hdtRings", fn := fun _ => fun
  | [d1, d2, d3] => { results := [.lit (.bool true)], args := [d1, d2, d3] }
  | _ => none }
def hdtRingsRow : OpenClaim := { program := "ytpfkpmapimonbaa", sum := "4aae7944c11568dcb2fb69c40eebfa5c6c4d6e1a73e486e0cf59069169bc622d", func := "archipelago/archipelagolaw23.HdtRings", spec := "hdtRings", unfollowed := true, recurses := true, plainKeys := false, apart := false }
def HdtRingsSaid : Prop := hdtRingsRow.holds Try.pinned (OpenSpec.ofChange hdtRingsSpec)

/-- ITS FALSE NEIGHBOUR: 'it returns false'. Refute it at one input. -/
def hdtRingsWrong : ChangeSpec := { name := "hdtRings", fn := fun _ => fun
  | [d1, d2, d3] => { results := [.lit (.bool false)], args := [d1, d2, d3] }
  | _ => none }
def HdtRingsWrongFalsely : Prop := hdtRingsRow.holds Try.pinned (OpenSpec.ofChange hdtRingsWrong)

/-- 'archipelagolaw23.HdtGrids': WHATEVER THE INPUT: true; the input reads as it did. -/
def hdtGridsSpec : ChangeSpec := { name := "hdtGrids", fn := fun _ => fun
  | [d1, d2, d3] => { results := [.lit (.bool true)], args := [d1, d2, d3] }
  | _ => none }
def hdtGridsRow : OpenClaim := { program := "ytpfkpmapimonbaa", sum := "4aae7944c11568dcb2fb69c40eebfa5c6c4d6e1a73e486e0cf59069169bc622d", func := "archipelago/archipelagolaw23.HdtGrids", spec := "hdtGrids", unfollowed := true, recurses := true, plainKeys := false, apart := false }
def HdtGridsSaid : Prop := hdtGridsRow.holds Try.pinned (OpenSpec.ofChange hdtGridsSpec)

/-- ITS FALSE NEIGHBOUR: 'it returns false'. Refute it at one input. -/
def hdtGridsWrong : ChangeSpec := { name := "hdtGrids", fn := fun _ => fun
  | [d1, d2, d3] => { results := [.lit (.bool false)], args := [d1, d2, d3] }
  | _ => none }
def HdtGridsWrongFalsely : Prop := hdtGridsRow.holds Try.pinned (OpenSpec.ofChange hdtGridsWrong)

/-- 'archipelagolaw23.HdtSeeds': WHATEVER THE INPUT: true; the input reads as it did. -/
def hdtSeedsSpec : ChangeSpec := { name := "hdtSeeds", fn := fun _ => fun
  | [d1, d2, d3] => { results := [.lit (.bool true)], args := [d1, d2, d3] }
  | _ => none }
def hdtSeedsRow : OpenClaim := { program := "ytpfkpmapimonbaa", sum := "4aae7944c11568dcb2fb69c40eebfa5c6c4d6e1a73e486e0cf59069169bc622d", func := "archipelago/archipelagolaw23.HdtSeeds", spec := "hdtSeeds", unfollowed := true, recurses := true, plainKeys := false, apart := false }
def HdtSeedsSaid : Prop := hdtSeedsRow.holds Try.pinned (OpenSpec.ofChange hdtSeedsSpec)

/-- ITS FALSE NEIGHBOUR: 'it returns false'. Refute it at one input. -/
def hdtSeedsWrong : ChangeSpec := { name := "hdtSeeds", fn := fun _ => fun
  | [d1, d2, d3] => { results := [.lit (.bool false)], args := [d1, d2, d3] }
  | _ => none }
def HdtSeedsWrongFalsely : Prop := hdtSeedsRow.holds Try.pinned (OpenSpec.ofChange hdtSeedsWrong)

/-- 'archipelagolaw23.HdtWhole': WHATEVER THE INPUT: true; the input reads as it did. -/
def hdtWholeSpec : ChangeSpec := { name := "hdtWhole", fn := fun _ => fun
  | [d1, d2, d3] => { results := [.lit (.bool true)], args := [d1, d2, d3] }
  | _ => none }
def hdtWholeRow : OpenClaim := { program := "ytpfkpmapimonbaa", sum := "4aae7944c11568dcb2fb69c40eebfa5c6c4d6e1a73e486e0cf59069169bc622d", func := "archipelago/archipelagolaw23.HdtWhole", spec := "hdtWhole", unfollowed := true, recurses := true, plainKeys := false, apart := false }
def HdtWholeSaid : Prop := hdtWholeRow.holds Try.pinned (OpenSpec.ofChange hdtWholeSpec)

/-- ITS FALSE NEIGHBOUR: 'it returns false'. Refute it at one input. -/
def hdtWholeWrong : ChangeSpec := { name := "hdtWhole", fn := fun _ => fun
  | [d1, d2, d3] => { results := [.lit (.bool false)], args := [d1, d2, d3] }
  | _ => none }
def HdtWholeWrongFalsely : Prop := hdtWholeRow.holds Try.pinned (OpenSpec.ofChange hdtWholeWrong)

/- THE SECOND FORM. 'bulk': how many values and letters a reading holds, each counted each time it is reached (what is shared counts as often as it is met; a slice's spare places count too). A statement '..UptoSaid' is the law's where the arguments, and the package variables that the reading takes, are together of bulk at most 1048576: NARROWER than '..Said'. Prove '..Said' where nothing that the law and all that it calls make is longer than what came in: it says more and counts as full. Else prove '..UptoSaid'. A law counts once. -/
mutual
def uptoBulk {H : Type} : DataW H → Nat
  | .lit (.string bytes) => bytes.length + 1
  | .lit _ => 1
  | .nil => 1
  | .ptr d => uptoBulk d + 1
  | .slice elems spare => uptoBulkAll elems + uptoBulkAll spare + 1
  | .agg parts => uptoBulkAll parts + 1
  | .iface _ d => uptoBulk d + 1
  | .map entries => uptoBulkEntries entries + 1
  | .held _ => 1
def uptoBulkAll {H : Type} : List (DataW H) → Nat
  | [] => 0
  | d :: r => uptoBulk d + uptoBulkAll r
def uptoBulkEntries {H : Type} : List (Lit × DataW H) → Nat
  | [] => 0
  | x :: r => uptoBulkEntry x + uptoBulkEntries r
def uptoBulkEntry {H : Type} : Lit × DataW H → Nat
  | (.string bytes, d) => bytes.length + uptoBulk d + 1
  | (_, d) => uptoBulk d + 1
 end
def uptoSmall : (H : Type) → List (DataW H) → Bool := fun _ ds => decide (uptoBulkAll ds ≤ 1048576)
def OpenSpec.upto (s : _root_.Go.ChangeSpec) : _root_.Go.OpenSpec := { _root_.Go.OpenSpec.ofChange s with cond := some uptoSmall }

/-- 'archipelagolaw22.TourPlays', WHERE WHAT IT READS IS OF BULK AT MOST 1048576: true; the input reads as it did. -/
def tourPlaysUptoRow : OpenClaim := { program := "ytpfkpmapimonbaa", sum := "4aae7944c11568dcb2fb69c40eebfa5c6c4d6e1a73e486e0cf59069169bc622d", func := "archipelago/archipelagolaw22.TourPlays", spec := "tourPlays", unfollowed := true, recurses := true, plainKeys := false, apart := false, narrowed := true }
def TourPlaysUptoSaid : Prop := tourPlaysUptoRow.holds Try.pinned (OpenSpec.upto tourPlaysSpec)

/-- 'archipelagolaw22.TourLong', WHERE WHAT IT READS IS OF BULK AT MOST 1048576: true; the input reads as it did. -/
def tourLongUptoRow : OpenClaim := { program := "ytpfkpmapimonbaa", sum := "4aae7944c11568dcb2fb69c40eebfa5c6c4d6e1a73e486e0cf59069169bc622d", func := "archipelago/archipelagolaw22.TourLong", spec := "tourLong", unfollowed := true, recurses := true, plainKeys := false, apart := false, narrowed := true }
def TourLongUptoSaid : Prop := tourLongUptoRow.holds Try.pinned (OpenSpec.upto tourLongSpec)

/-- 'archipelagolaw22.TourStars', WHERE WHAT IT READS IS OF BULK AT MOST 1048576: true; the input reads as it did. -/
def tourStarsUptoRow : OpenClaim := { program := "ytpfkpmapimonbaa", sum := "4aae7944c11568dcb2fb69c40eebfa5c6c4d6e1a73e486e0cf59069169bc622d", func := "archipelago/archipelagolaw22.TourStars", spec := "tourStars", unfollowed := true, recurses := true, plainKeys := false, apart := false, narrowed := true }
def TourStarsUptoSaid : Prop := tourStarsUptoRow.holds Try.pinned (OpenSpec.upto tourStarsSpec)

/-- 'archipelagolaw22.TourMany', WHERE WHAT IT READS IS OF BULK AT MOST 1048576: true; the input reads as it did. -/
def tourManyUptoRow : OpenClaim := { program := "ytpfkpmapimonbaa", sum := "4aae7944c11568dcb2fb69c40eebfa5c6c4d6e1a73e486e0cf59069169bc622d", func := "archipelago/archipelagolaw22.TourMany", spec := "tourMany", unfollowed := true, recurses := true, plainKeys := false, apart := false, narrowed := true }
def TourManyUptoSaid : Prop := tourManyUptoRow.holds Try.pinned (OpenSpec.upto tourManySpec)

/-- 'archipelagolaw23.HdtPlays', WHERE WHAT IT READS IS OF BULK AT MOST 1048576: true; the input reads as it did. -/
def hdtPlaysUptoRow : OpenClaim := { program := "ytpfkpmapimonbaa", sum := "4aae7944c11568dcb2fb69c40eebfa5c6c4d6e1a73e486e0cf59069169bc622d", func := "archipelago/archipelagolaw23.HdtPlays", spec := "hdtPlays", unfollowed := true, recurses := true, plainKeys := false, apart := false, narrowed := true }
def HdtPlaysUptoSaid : Prop := hdtPlaysUptoRow.holds Try.pinned (OpenSpec.upto hdtPlaysSpec)

/-- 'archipelagolaw23.HdtRings', WHERE WHAT IT READS IS OF BULK AT MOST 1048576: true; the input reads as it did. -/
def hdtRingsUptoRow : OpenClaim := { program := "ytpfkpmapimonbaa", sum := "4aae7944c11568dcb2fb69c40eebfa5c6c4d6e1a73e486e0cf59069169bc622d", func := "archipelago/archipelagolaw23.HdtRings", spec := "hdtRings", unfollowed := true, recurses := true, plainKeys := false, apart := false, narrowed := true }
def HdtRingsUptoSaid : Prop := hdtRingsUptoRow.holds Try.pinned (OpenSpec.upto hdtRingsSpec)

/-- 'archipelagolaw23.HdtGrids', WHERE WHAT IT READS IS OF BULK AT MOST 1048576: true; the input reads as it did. -/
def hdtGridsUptoRow : OpenClaim := { program := "ytpfkpmapimonbaa", sum := "4aae7944c11568dcb2fb69c40eebfa5c6c4d6e1a73e486e0cf59069169bc622d", func := "archipelago/archipelagolaw23.HdtGrids", spec := "hdtGrids", unfollowed := true, recurses := true, plainKeys := false, apart := false, narrowed := true }
def HdtGridsUptoSaid : Prop := hdtGridsUptoRow.holds Try.pinned (OpenSpec.upto hdtGridsSpec)

/-- 'archipelagolaw23.HdtSeeds', WHERE WHAT IT READS IS OF BULK AT MOST 1048576: true; the input reads as it did. -/
def hdtSeedsUptoRow : OpenClaim := { program := "ytpfkpmapimonbaa", sum := "4aae7944c11568dcb2fb69c40eebfa5c6c4d6e1a73e486e0cf59069169bc622d", func := "archipelago/archipelagolaw23.HdtSeeds", spec := "hdtSeeds", unfollowed := true, recurses := true, plainKeys := false, apart := false, narrowed := true }
def HdtSeedsUptoSaid : Prop := hdtSeedsUptoRow.holds Try.pinned (OpenSpec.upto hdtSeedsSpec)

/-- 'archipelagolaw23.HdtWhole', WHERE WHAT IT READS IS OF BULK AT MOST 1048576: true; the input reads as it did. -/
def hdtWholeUptoRow : OpenClaim := { program := "ytpfkpmapimonbaa", sum := "4aae7944c11568dcb2fb69c40eebfa5c6c4d6e1a73e486e0cf59069169bc622d", func := "archipelago/archipelagolaw23.HdtWhole", spec := "hdtWhole", unfollowed := true, recurses := true, plainKeys := false, apart := false, narrowed := true }
def HdtWholeUptoSaid : Prop := hdtWholeUptoRow.holds Try.pinned (OpenSpec.upto hdtWholeSpec)

end Rows
end Go.Proofs.Ytpfkpmapimonbaa
