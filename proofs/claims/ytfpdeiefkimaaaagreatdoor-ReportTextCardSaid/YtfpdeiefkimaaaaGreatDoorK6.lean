/-
  The document's answer on instructions, walked: words, Word, Operand.
-/
import Derived.Test.YtfpdeiefkimaaaaGreatDoorK3
import Derived.Test.YtfpdeiefkimaaaaGreatDoorK5
set_option linter.unusedSimpArgs false
set_option linter.unusedVariables false
namespace Go.Proofs.YtfpdeiefkimaaaaGreatDoor
open Go.RowKit

def wordCells : Array Value := (specT.map fun p => Value.string (bs p.1)).toArray
theorem ret_int {k : IntKind} {a b : Int} (h : a = b) : Ending.returned (.int k a) = .returned (.int k b) := by rw [h]
end Go.Proofs.YtfpdeiefkimaaaaGreatDoor
/-
  The document's answer on instructions, walked: noRef, RefCheck, RefText.
-/
set_option linter.unusedSimpArgs false
set_option linter.unusedVariables false
namespace Go.Proofs.YtfpdeiefkimaaaaGreatDoor
open Go.RowKit

end Go.Proofs.YtfpdeiefkimaaaaGreatDoor
/-
  The document's answer on instructions, walked: Check.
-/
set_option linter.unusedSimpArgs false
set_option linter.unusedVariables false
namespace Go.Proofs.YtfpdeiefkimaaaaGreatDoor
open Go.RowKit

end Go.Proofs.YtfpdeiefkimaaaaGreatDoor
/-
  The document's answer on instructions, walked: Check.
-/
set_option linter.unusedSimpArgs false
set_option linter.unusedVariables false
namespace Go.Proofs.YtfpdeiefkimaaaaGreatDoor
open Go.RowKit

end Go.Proofs.YtfpdeiefkimaaaaGreatDoor
/-
  The document's answer on instructions, walked: Check, whatever the kind.
-/
set_option linter.unusedSimpArgs false
set_option linter.unusedVariables false
namespace Go.Proofs.YtfpdeiefkimaaaaGreatDoor
open Go.RowKit

end Go.Proofs.YtfpdeiefkimaaaaGreatDoor
