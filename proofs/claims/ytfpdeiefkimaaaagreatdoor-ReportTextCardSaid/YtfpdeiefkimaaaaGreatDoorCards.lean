/-
  DERIVED. GIVEN WITH THE SEED: THE CARDS: each row of YtfpdeiefkimaaaaGreatDoorRows.lean that lists a variable, with what it lists TIED to the program's text (the seventh form; the later family's looks); each row that meets fmt, with fmt's text TOLD by the authors' own Lean function (tested against real Go, not proved from fmt's source: count such statements apart). THE CARD IS WHAT COUNTS. Prove the row's statement (the work); the ties are given (YtfpdeiefkimaaaaGreatDoorTie.lean); close each card by the builder's one call (the guide's Derived/Test/ToyasCard.lean, 'card_holds'). Laid BY PROGRAM, IN A SANDBOX (cutbox-door.mjs). By AI agents, Wed Nov 11 2026. No macro, syntax, notation, axiom, sorry.
-/
import Derived.Test.YtfpdeiefkimaaaaGreatDoorRows
import GoSem.ClaimSeven
namespace Go.Proofs.YtfpdeiefkimaaaaGreatDoor
namespace Rows

/-- THE TIED CARD OF 'arbiterlaw25.ReportLoads'. -/
def reportLoadsCard : Claim7 := { stood := { row := reportLoadsRow, standIns := [], harness := (true, "bdaa556598574f4e9d56c8e98c8947ec32c025a9da58f8bd866d738827ced3cf"), looks := true }, kinds := [], alts := [], laidByText := true, laidKinds := [.data, .data, .data, .data, .handle, .sentinel, .sentinel, .pinned], laidTests := true, laidLooks := .later }
def ReportLoadsCardSaid : Prop := Claim7.holds Tryz.pinned (.plain (OpenSpec.ofChange reportLoadsSpec)) reportLoadsCard

/-- THE TIED CARD OF 'arbiterlaw25.ReportText'. -/
def reportTextCard : Claim7 := { stood := { row := reportTextRow, standIns := [], harness := (true, "bdaa556598574f4e9d56c8e98c8947ec32c025a9da58f8bd866d738827ced3cf"), looks := true }, kinds := [], alts := [], laidByText := true, laidKinds := [.data, .data, .data, .data, .handle, .sentinel, .sentinel, .pinned], laidTests := true, laidLooks := .later }
def ReportTextCardSaid : Prop := Claim7.holds Tryz.pinned (.plain (OpenSpec.ofChange reportTextSpec)) reportTextCard

/-- THE SECOND FORM's CARD OF 'arbiterlaw25.ReportLoads'. -/
def reportLoadsUptoCard : Claim7 := { stood := { row := reportLoadsUptoRow, standIns := [], harness := (true, "bdaa556598574f4e9d56c8e98c8947ec32c025a9da58f8bd866d738827ced3cf"), looks := true }, kinds := [], alts := [], laidByText := true, laidKinds := [.data, .data, .data, .data, .handle, .sentinel, .sentinel, .pinned], laidTests := true, laidLooks := .later }
def ReportLoadsUptoCardSaid : Prop := Claim7.holds Tryz.pinned (.plain (OpenSpec.upto reportLoadsSpec)) reportLoadsUptoCard

/-- THE SECOND FORM's CARD OF 'arbiterlaw25.ReportText'. -/
def reportTextUptoCard : Claim7 := { stood := { row := reportTextUptoRow, standIns := [], harness := (true, "bdaa556598574f4e9d56c8e98c8947ec32c025a9da58f8bd866d738827ced3cf"), looks := true }, kinds := [], alts := [], laidByText := true, laidKinds := [.data, .data, .data, .data, .handle, .sentinel, .sentinel, .pinned], laidTests := true, laidLooks := .later }
def ReportTextUptoCardSaid : Prop := Claim7.holds Tryz.pinned (.plain (OpenSpec.upto reportTextSpec)) reportTextUptoCard
end Rows
end Go.Proofs.YtfpdeiefkimaaaaGreatDoor
