/-
  DERIVED. GIVEN WITH THE SEED: THE CARDS: each row of YtjjdlgjofjfgmaaGreatDoorRows.lean that lists a variable, with what it lists TIED to the program's text (the seventh form; the later family's looks); each row that meets fmt, with fmt's text TOLD by the authors' own Lean function (tested against real Go, not proved from fmt's source: count such statements apart). THE CARD IS WHAT COUNTS. Prove the row's statement (the work); the ties are given (YtjjdlgjofjfgmaaGreatDoorTie.lean); close each card by the builder's one call (the guide's Derived/Test/ToyasCard.lean, 'card_holds'). Laid BY PROGRAM, IN A SANDBOX (cutbox-door.mjs). By AI agents, Wed Nov 11 2026. No macro, syntax, notation, axiom, sorry.
-/
import Derived.Test.YtjjdlgjofjfgmaaGreatDoorRows
import GoSem.ClaimSeven
namespace Go.Proofs.YtjjdlgjofjfgmaaGreatDoor
namespace Rows

/-- THE TIED CARD OF 'arbiterlaw05.ShapesPlays'. -/
def shapesPlaysCard : Claim7 := { stood := { row := shapesPlaysRow, standIns := [], harness := (true, "1df4a15037cded00601d525f54b7d775c6c8b771f7522481207545620c6ec280"), looks := true }, kinds := [], alts := [], laidByText := true, laidKinds := [.data, .data, .data, .data, .pinned], laidTests := true, laidLooks := .later }
def ShapesPlaysCardSaid : Prop := Claim7.holds Tryz.pinned (.plain (OpenSpec.ofChange shapesPlaysSpec)) shapesPlaysCard

/-- THE TIED CARD OF 'arbiterlaw04.CodeParse'. -/
def codeParseCard : Claim7 := { stood := { row := codeParseRow, standIns := [], harness := (true, "1df4a15037cded00601d525f54b7d775c6c8b771f7522481207545620c6ec280"), looks := true }, kinds := [], alts := [], laidByText := true, laidKinds := [.data, .data, .data, .data, .sentinel, .sentinel, .pinned], laidTests := true, laidLooks := .later }
def CodeParseCardSaid : Prop := Claim7.holds Tryz.pinned (.plain (OpenSpec.ofChange codeParseSpec)) codeParseCard

/-- THE TIED CARD OF 'arbiterlaw05.ShapesParse'. -/
def shapesParseCard : Claim7 := { stood := { row := shapesParseRow, standIns := [], harness := (true, "1df4a15037cded00601d525f54b7d775c6c8b771f7522481207545620c6ec280"), looks := true }, kinds := [], alts := [], laidByText := true, laidKinds := [.data, .data, .data, .data, .handle, .sentinel, .sentinel, .pinned], laidTests := true, laidLooks := .later }
def ShapesParseCardSaid : Prop := Claim7.holds Tryz.pinned (.plain (OpenSpec.ofChange shapesParseSpec)) shapesParseCard

/-- THE TIED CARD OF 'arbiterlaw05.ShapesBack'. -/
def shapesBackCard : Claim7 := { stood := { row := shapesBackRow, standIns := [], harness := (true, "1df4a15037cded00601d525f54b7d775c6c8b771f7522481207545620c6ec280"), looks := true }, kinds := [], alts := [], laidByText := true, laidKinds := [.data, .data, .data, .data, .handle, .sentinel, .sentinel, .pinned], laidTests := true, laidLooks := .later }
def ShapesBackCardSaid : Prop := Claim7.holds Tryz.pinned (.plain (OpenSpec.ofChange shapesBackSpec)) shapesBackCard

/-- THE TIED CARD OF 'arbiterlaw05.ShapesKeeps'. -/
def shapesKeepsCard : Claim7 := { stood := { row := shapesKeepsRow, standIns := [], harness := (true, "1df4a15037cded00601d525f54b7d775c6c8b771f7522481207545620c6ec280"), looks := true }, kinds := [], alts := [], laidByText := true, laidKinds := [.data, .data, .data, .data, .handle, .sentinel, .sentinel, .pinned], laidTests := true, laidLooks := .later }
def ShapesKeepsCardSaid : Prop := Claim7.holds Tryz.pinned (.plain (OpenSpec.ofChange shapesKeepsSpec)) shapesKeepsCard

/-- THE SECOND FORM's CARD OF 'arbiterlaw05.ShapesPlays'. -/
def shapesPlaysUptoCard : Claim7 := { stood := { row := shapesPlaysUptoRow, standIns := [], harness := (true, "1df4a15037cded00601d525f54b7d775c6c8b771f7522481207545620c6ec280"), looks := true }, kinds := [], alts := [], laidByText := true, laidKinds := [.data, .data, .data, .data, .pinned], laidTests := true, laidLooks := .later }
def ShapesPlaysUptoCardSaid : Prop := Claim7.holds Tryz.pinned (.plain (OpenSpec.upto shapesPlaysSpec)) shapesPlaysUptoCard

/-- THE SECOND FORM's CARD OF 'arbiterlaw04.CodeParse'. -/
def codeParseUptoCard : Claim7 := { stood := { row := codeParseUptoRow, standIns := [], harness := (true, "1df4a15037cded00601d525f54b7d775c6c8b771f7522481207545620c6ec280"), looks := true }, kinds := [], alts := [], laidByText := true, laidKinds := [.data, .data, .data, .data, .sentinel, .sentinel, .pinned], laidTests := true, laidLooks := .later }
def CodeParseUptoCardSaid : Prop := Claim7.holds Tryz.pinned (.plain (OpenSpec.upto codeParseSpec)) codeParseUptoCard

/-- THE SECOND FORM's CARD OF 'arbiterlaw05.ShapesParse'. -/
def shapesParseUptoCard : Claim7 := { stood := { row := shapesParseUptoRow, standIns := [], harness := (true, "1df4a15037cded00601d525f54b7d775c6c8b771f7522481207545620c6ec280"), looks := true }, kinds := [], alts := [], laidByText := true, laidKinds := [.data, .data, .data, .data, .handle, .sentinel, .sentinel, .pinned], laidTests := true, laidLooks := .later }
def ShapesParseUptoCardSaid : Prop := Claim7.holds Tryz.pinned (.plain (OpenSpec.upto shapesParseSpec)) shapesParseUptoCard

/-- THE SECOND FORM's CARD OF 'arbiterlaw05.ShapesBack'. -/
def shapesBackUptoCard : Claim7 := { stood := { row := shapesBackUptoRow, standIns := [], harness := (true, "1df4a15037cded00601d525f54b7d775c6c8b771f7522481207545620c6ec280"), looks := true }, kinds := [], alts := [], laidByText := true, laidKinds := [.data, .data, .data, .data, .handle, .sentinel, .sentinel, .pinned], laidTests := true, laidLooks := .later }
def ShapesBackUptoCardSaid : Prop := Claim7.holds Tryz.pinned (.plain (OpenSpec.upto shapesBackSpec)) shapesBackUptoCard

/-- THE SECOND FORM's CARD OF 'arbiterlaw05.ShapesKeeps'. -/
def shapesKeepsUptoCard : Claim7 := { stood := { row := shapesKeepsUptoRow, standIns := [], harness := (true, "1df4a15037cded00601d525f54b7d775c6c8b771f7522481207545620c6ec280"), looks := true }, kinds := [], alts := [], laidByText := true, laidKinds := [.data, .data, .data, .data, .handle, .sentinel, .sentinel, .pinned], laidTests := true, laidLooks := .later }
def ShapesKeepsUptoCardSaid : Prop := Claim7.holds Tryz.pinned (.plain (OpenSpec.upto shapesKeepsSpec)) shapesKeepsUptoCard
end Rows
end Go.Proofs.YtjjdlgjofjfgmaaGreatDoor
