/-
  DERIVED. GIVEN WITH THE SEED: THE CARDS: each row of YtjjdlgjofjfgmaaDoorRows.lean that lists a variable, with what it lists TIED to the program's text (the seventh form; the later family's looks); each row that meets fmt, with fmt's text TOLD by the authors' own Lean function (tested against real Go, not proved from fmt's source: count such statements apart). THE CARD IS WHAT COUNTS. Prove the row's statement (the work); the ties are given (YtjjdlgjofjfgmaaDoorTie.lean); close each card by the builder's one call (the guide's Derived/Test/ToyasCard.lean, 'card_holds'). Laid BY PROGRAM, IN A SANDBOX (cutbox-door.mjs). By AI agents, Wed Nov 11 2026. No macro, syntax, notation, axiom, sorry.
-/
import Derived.Test.YtjjdlgjofjfgmaaDoorRows
import GoSem.ClaimSeven
namespace Go.Proofs.YtjjdlgjofjfgmaaDoor
namespace Rows

/-- THE TIED CARD OF 'arbiterlaw04.CodePlays'. -/
def codePlaysCard : Claim7 := { stood := { row := codePlaysRow, standIns := [], harness := (true, "847be99cdbca3235d4d3f3ded660163c6f208adde1ae332042bec2e7d7c6d9cf"), looks := true }, kinds := [], alts := [], laidByText := true, laidKinds := [.data, .data, .data, .data, .pinned], laidTests := true, laidLooks := .later }
def CodePlaysCardSaid : Prop := Claim7.holds Tryd.pinned (.plain (OpenSpec.ofChange codePlaysSpec)) codePlaysCard

/-- THE TIED CARD OF 'arbiterlaw04.CodeAlls'. -/
def codeAllsCard : Claim7 := { stood := { row := codeAllsRow, standIns := [], harness := (true, "847be99cdbca3235d4d3f3ded660163c6f208adde1ae332042bec2e7d7c6d9cf"), looks := true }, kinds := [], alts := [], laidByText := true, laidKinds := [.data, .data, .data, .data, .pinned], laidTests := true, laidLooks := .later }
def CodeAllsCardSaid : Prop := Claim7.holds Tryd.pinned (.plain (OpenSpec.ofChange codeAllsSpec)) codeAllsCard

/-- THE TIED CARD OF 'arbiterlaw04.CodeTogether'. -/
def codeTogetherCard : Claim7 := { stood := { row := codeTogetherRow, standIns := [], harness := (true, "847be99cdbca3235d4d3f3ded660163c6f208adde1ae332042bec2e7d7c6d9cf"), looks := true }, kinds := [], alts := [], laidByText := true, laidKinds := [.data, .data, .data, .data, .pinned], laidTests := true, laidLooks := .later }
def CodeTogetherCardSaid : Prop := Claim7.holds Tryd.pinned (.plain (OpenSpec.ofChange codeTogetherSpec)) codeTogetherCard

/-- THE TIED CARD OF 'arbiterlaw04.CodeRefs'. -/
def codeRefsCard : Claim7 := { stood := { row := codeRefsRow, standIns := [], harness := (true, "847be99cdbca3235d4d3f3ded660163c6f208adde1ae332042bec2e7d7c6d9cf"), looks := true }, kinds := [], alts := [], laidByText := true, laidKinds := [.data, .data, .data, .data, .pinned], laidTests := true, laidLooks := .later }
def CodeRefsCardSaid : Prop := Claim7.holds Tryd.pinned (.plain (OpenSpec.ofChange codeRefsSpec)) codeRefsCard

/-- THE TIED CARD OF 'arbiterlaw05.ShapesSound'. -/
def shapesSoundCard : Claim7 := { stood := { row := shapesSoundRow, standIns := [], harness := (true, "847be99cdbca3235d4d3f3ded660163c6f208adde1ae332042bec2e7d7c6d9cf"), looks := true }, kinds := [], alts := [], laidByText := true, laidKinds := [.data, .data, .data, .data, .pinned], laidTests := true, laidLooks := .later }
def ShapesSoundCardSaid : Prop := Claim7.holds Tryd.pinned (.plain (OpenSpec.ofChange shapesSoundSpec)) shapesSoundCard

/-- THE TIED CARD OF 'arbiterlaw04.CodeBack'. -/
def codeBackCard : Claim7 := { stood := { row := codeBackRow, standIns := [], harness := (true, "847be99cdbca3235d4d3f3ded660163c6f208adde1ae332042bec2e7d7c6d9cf"), looks := true }, kinds := [], alts := [], laidByText := true, laidKinds := [.data, .data, .data, .data, .sentinel, .sentinel, .pinned], laidTests := true, laidLooks := .later }
def CodeBackCardSaid : Prop := Claim7.holds Tryd.pinned (.plain (OpenSpec.ofChange codeBackSpec)) codeBackCard

/-- THE SECOND FORM's CARD OF 'arbiterlaw04.CodePlays'. -/
def codePlaysUptoCard : Claim7 := { stood := { row := codePlaysUptoRow, standIns := [], harness := (true, "847be99cdbca3235d4d3f3ded660163c6f208adde1ae332042bec2e7d7c6d9cf"), looks := true }, kinds := [], alts := [], laidByText := true, laidKinds := [.data, .data, .data, .data, .pinned], laidTests := true, laidLooks := .later }
def CodePlaysUptoCardSaid : Prop := Claim7.holds Tryd.pinned (.plain (OpenSpec.upto codePlaysSpec)) codePlaysUptoCard

/-- THE SECOND FORM's CARD OF 'arbiterlaw04.CodeAlls'. -/
def codeAllsUptoCard : Claim7 := { stood := { row := codeAllsUptoRow, standIns := [], harness := (true, "847be99cdbca3235d4d3f3ded660163c6f208adde1ae332042bec2e7d7c6d9cf"), looks := true }, kinds := [], alts := [], laidByText := true, laidKinds := [.data, .data, .data, .data, .pinned], laidTests := true, laidLooks := .later }
def CodeAllsUptoCardSaid : Prop := Claim7.holds Tryd.pinned (.plain (OpenSpec.upto codeAllsSpec)) codeAllsUptoCard

/-- THE SECOND FORM's CARD OF 'arbiterlaw04.CodeTogether'. -/
def codeTogetherUptoCard : Claim7 := { stood := { row := codeTogetherUptoRow, standIns := [], harness := (true, "847be99cdbca3235d4d3f3ded660163c6f208adde1ae332042bec2e7d7c6d9cf"), looks := true }, kinds := [], alts := [], laidByText := true, laidKinds := [.data, .data, .data, .data, .pinned], laidTests := true, laidLooks := .later }
def CodeTogetherUptoCardSaid : Prop := Claim7.holds Tryd.pinned (.plain (OpenSpec.upto codeTogetherSpec)) codeTogetherUptoCard

/-- THE SECOND FORM's CARD OF 'arbiterlaw04.CodeRefs'. -/
def codeRefsUptoCard : Claim7 := { stood := { row := codeRefsUptoRow, standIns := [], harness := (true, "847be99cdbca3235d4d3f3ded660163c6f208adde1ae332042bec2e7d7c6d9cf"), looks := true }, kinds := [], alts := [], laidByText := true, laidKinds := [.data, .data, .data, .data, .pinned], laidTests := true, laidLooks := .later }
def CodeRefsUptoCardSaid : Prop := Claim7.holds Tryd.pinned (.plain (OpenSpec.upto codeRefsSpec)) codeRefsUptoCard

/-- THE SECOND FORM's CARD OF 'arbiterlaw05.ShapesSound'. -/
def shapesSoundUptoCard : Claim7 := { stood := { row := shapesSoundUptoRow, standIns := [], harness := (true, "847be99cdbca3235d4d3f3ded660163c6f208adde1ae332042bec2e7d7c6d9cf"), looks := true }, kinds := [], alts := [], laidByText := true, laidKinds := [.data, .data, .data, .data, .pinned], laidTests := true, laidLooks := .later }
def ShapesSoundUptoCardSaid : Prop := Claim7.holds Tryd.pinned (.plain (OpenSpec.upto shapesSoundSpec)) shapesSoundUptoCard

/-- THE SECOND FORM's CARD OF 'arbiterlaw04.CodeBack'. -/
def codeBackUptoCard : Claim7 := { stood := { row := codeBackUptoRow, standIns := [], harness := (true, "847be99cdbca3235d4d3f3ded660163c6f208adde1ae332042bec2e7d7c6d9cf"), looks := true }, kinds := [], alts := [], laidByText := true, laidKinds := [.data, .data, .data, .data, .sentinel, .sentinel, .pinned], laidTests := true, laidLooks := .later }
def CodeBackUptoCardSaid : Prop := Claim7.holds Tryd.pinned (.plain (OpenSpec.upto codeBackSpec)) codeBackUptoCard
end Rows
end Go.Proofs.YtjjdlgjofjfgmaaDoor
