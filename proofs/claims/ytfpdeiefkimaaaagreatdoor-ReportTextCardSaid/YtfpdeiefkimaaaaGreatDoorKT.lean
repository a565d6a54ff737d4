/-
  The document's CheckMethod, text, ClassText, MethodText, walked. (Printed by gen_flagsT.py.)
-/
import Derived.Test.YtfpdeiefkimaaaaGreatDoorKA
set_option linter.unusedSimpArgs false
set_option linter.unusedVariables false
namespace Go.Proofs.YtfpdeiefkimaaaaGreatDoor
open Go.RowKit

end Go.Proofs.YtfpdeiefkimaaaaGreatDoor
