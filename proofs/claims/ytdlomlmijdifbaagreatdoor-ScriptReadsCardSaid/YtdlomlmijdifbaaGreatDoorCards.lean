/-
  DERIVED. GIVEN WITH THE SEED: THE CARDS: each row of YtdlomlmijdifbaaGreatDoorRows.lean that lists a variable, with what it lists TIED to the program's text (the seventh form; the later family's looks); each row that meets fmt, with fmt's text TOLD by the authors' own Lean function (tested against real Go, not proved from fmt's source: count such statements apart). THE CARD IS WHAT COUNTS. Prove the row's statement (the work); the ties are given (YtdlomlmijdifbaaGreatDoorTie.lean); close each card by the builder's one call (the guide's Derived/Test/ToyasCard.lean, 'card_holds'). Laid BY PROGRAM, IN A SANDBOX (cutbox-door.mjs). By AI agents, Wed Nov 11 2026. No macro, syntax, notation, axiom, sorry.
-/
import Derived.Test.YtdlomlmijdifbaaGreatDoorRows
import GoSem.ClaimSeven
namespace Go.Proofs.YtdlomlmijdifbaaGreatDoor
namespace Rows

/-- THE TIED CARD OF 'archipelagolaw27.ScriptReads'. -/
def scriptReadsCard : Claim7 := { stood := { row := scriptReadsRow, standIns := [], harness := (true, "25d3ce348d1fab85bdae7b31d44c7c60021b2b0644bd1f5a86a42f257363a414"), looks := false }, kinds := [], alts := [], laidByText := true, laidKinds := [.data, .data, .data], laidTests := true, laidLooks := .later }
def ScriptReadsCardSaid : Prop := Claim7.holds Tryz.pinned (.plain (OpenSpec.ofChange scriptReadsSpec)) scriptReadsCard

/-- THE TIED CARD OF 'archipelagolaw27.ScriptBack'. -/
def scriptBackCard : Claim7 := { stood := { row := scriptBackRow, standIns := [], harness := (true, "25d3ce348d1fab85bdae7b31d44c7c60021b2b0644bd1f5a86a42f257363a414"), looks := false }, kinds := [], alts := [], laidByText := true, laidKinds := [.data, .data, .data], laidTests := true, laidLooks := .later }
def ScriptBackCardSaid : Prop := Claim7.holds Tryz.pinned (.plain (OpenSpec.ofChange scriptBackSpec)) scriptBackCard

/-- THE TIED CARD OF 'archipelagolaw27.ScriptWords'. -/
def scriptWordsCard : Claim7 := { stood := { row := scriptWordsRow, standIns := [], harness := (true, "25d3ce348d1fab85bdae7b31d44c7c60021b2b0644bd1f5a86a42f257363a414"), looks := false }, kinds := [], alts := [], laidByText := true, laidKinds := [.data, .data, .data], laidTests := true, laidLooks := .later }
def ScriptWordsCardSaid : Prop := Claim7.holds Tryz.pinned (.plain (OpenSpec.ofChange scriptWordsSpec)) scriptWordsCard

/-- THE TIED CARD OF 'archipelagolaw27.ScriptPlaces'. -/
def scriptPlacesCard : Claim7 := { stood := { row := scriptPlacesRow, standIns := [], harness := (true, "25d3ce348d1fab85bdae7b31d44c7c60021b2b0644bd1f5a86a42f257363a414"), looks := false }, kinds := [], alts := [], laidByText := true, laidKinds := [.data, .data, .data], laidTests := true, laidLooks := .later }
def ScriptPlacesCardSaid : Prop := Claim7.holds Tryz.pinned (.plain (OpenSpec.ofChange scriptPlacesSpec)) scriptPlacesCard

/-- THE SECOND FORM's CARD OF 'archipelagolaw27.ScriptReads'. -/
def scriptReadsUptoCard : Claim7 := { stood := { row := scriptReadsUptoRow, standIns := [], harness := (true, "25d3ce348d1fab85bdae7b31d44c7c60021b2b0644bd1f5a86a42f257363a414"), looks := false }, kinds := [], alts := [], laidByText := true, laidKinds := [.data, .data, .data], laidTests := true, laidLooks := .later }
def ScriptReadsUptoCardSaid : Prop := Claim7.holds Tryz.pinned (.plain (OpenSpec.upto scriptReadsSpec)) scriptReadsUptoCard

/-- THE SECOND FORM's CARD OF 'archipelagolaw27.ScriptBack'. -/
def scriptBackUptoCard : Claim7 := { stood := { row := scriptBackUptoRow, standIns := [], harness := (true, "25d3ce348d1fab85bdae7b31d44c7c60021b2b0644bd1f5a86a42f257363a414"), looks := false }, kinds := [], alts := [], laidByText := true, laidKinds := [.data, .data, .data], laidTests := true, laidLooks := .later }
def ScriptBackUptoCardSaid : Prop := Claim7.holds Tryz.pinned (.plain (OpenSpec.upto scriptBackSpec)) scriptBackUptoCard

/-- THE SECOND FORM's CARD OF 'archipelagolaw27.ScriptWords'. -/
def scriptWordsUptoCard : Claim7 := { stood := { row := scriptWordsUptoRow, standIns := [], harness := (true, "25d3ce348d1fab85bdae7b31d44c7c60021b2b0644bd1f5a86a42f257363a414"), looks := false }, kinds := [], alts := [], laidByText := true, laidKinds := [.data, .data, .data], laidTests := true, laidLooks := .later }
def ScriptWordsUptoCardSaid : Prop := Claim7.holds Tryz.pinned (.plain (OpenSpec.upto scriptWordsSpec)) scriptWordsUptoCard

/-- THE SECOND FORM's CARD OF 'archipelagolaw27.ScriptPlaces'. -/
def scriptPlacesUptoCard : Claim7 := { stood := { row := scriptPlacesUptoRow, standIns := [], harness := (true, "25d3ce348d1fab85bdae7b31d44c7c60021b2b0644bd1f5a86a42f257363a414"), looks := false }, kinds := [], alts := [], laidByText := true, laidKinds := [.data, .data, .data], laidTests := true, laidLooks := .later }
def ScriptPlacesUptoCardSaid : Prop := Claim7.holds Tryz.pinned (.plain (OpenSpec.upto scriptPlacesSpec)) scriptPlacesUptoCard
end Rows
end Go.Proofs.YtdlomlmijdifbaaGreatDoor
