/-
  The document's Parse of a class's text: a line in the state 0, 1, 8, walked. (Printed by gen_docP.py.)
-/
import Derived.Test.YtfpdeiefkimaaaaGreatDoorKN
set_option linter.unusedSimpArgs false
set_option linter.unusedVariables false
namespace Go.Proofs.YtfpdeiefkimaaaaGreatDoor
open Go.RowKit Go.Sort

end Go.Proofs.YtfpdeiefkimaaaaGreatDoor
/-
  The document's Parse of a class's text: a line in the state 2, walked. (Printed by gen_docP.py.)
-/
set_option linter.unusedSimpArgs false
set_option linter.unusedVariables false
namespace Go.Proofs.YtfpdeiefkimaaaaGreatDoor
open Go.RowKit Go.Sort

end Go.Proofs.YtfpdeiefkimaaaaGreatDoor
/-
  The document's Parse of a class's text: a line in the state 3, walked. (Printed by gen_docP.py.)
-/
set_option linter.unusedSimpArgs false
set_option linter.unusedVariables false
namespace Go.Proofs.YtfpdeiefkimaaaaGreatDoor
open Go.RowKit Go.Sort

end Go.Proofs.YtfpdeiefkimaaaaGreatDoor
/-
  The document's Parse of a class's text: a line in the state 5, walked. (Printed by gen_docP.py.)
-/
set_option linter.unusedSimpArgs false
set_option linter.unusedVariables false
namespace Go.Proofs.YtfpdeiefkimaaaaGreatDoor
open Go.RowKit Go.Sort

end Go.Proofs.YtfpdeiefkimaaaaGreatDoor
/-
  The document's Parse of a class's text: a line in the state 6, walked. (Printed by gen_docP.py.)
-/
set_option linter.unusedSimpArgs false
set_option linter.unusedVariables false
namespace Go.Proofs.YtfpdeiefkimaaaaGreatDoor
open Go.RowKit Go.Sort

end Go.Proofs.YtfpdeiefkimaaaaGreatDoor
