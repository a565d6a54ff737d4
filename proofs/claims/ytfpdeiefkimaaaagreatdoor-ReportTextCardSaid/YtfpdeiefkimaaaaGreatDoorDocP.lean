/-
  The document's Parse of a class's text, walked. (Printed by gen_docP.py.)
-/
import Derived.Test.YtfpdeiefkimaaaaGreatDoorKN
import Derived.Test.YtfpdeiefkimaaaaGreatDoorKP
import Derived.Test.YtfpdeiefkimaaaaGreatDoorDocJ
import Derived.Test.YtfpdeiefkimaaaaGreatDoorDocM
import Derived.Test.YtfpdeiefkimaaaaGreatDoorKE
set_option linter.unusedSimpArgs false
set_option linter.unusedVariables false
namespace Go.Proofs.YtfpdeiefkimaaaaGreatDoor
open Go.RowKit Go.Sort

def intNat : Value → Nat
  | .int _ n => n.toNat
  | _ => 0

end Go.Proofs.YtfpdeiefkimaaaaGreatDoor
