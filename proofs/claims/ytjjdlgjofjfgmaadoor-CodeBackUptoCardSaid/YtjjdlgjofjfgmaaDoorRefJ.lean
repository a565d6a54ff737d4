/-
  The document's answer on instructions, walked: Check, whatever the kind.
-/
import Derived.Test.YtjjdlgjofjfgmaaDoorRefH
import Derived.Test.YtjjdlgjofjfgmaaDoorRefI
set_option linter.unusedSimpArgs false
set_option linter.unusedVariables false
namespace Go.Proofs.YtjjdlgjofjfgmaaDoor
open Go.RowKit

theorem checkR_any (i : InstL) (w : World) (hi : i.fit) : Calls Tryd.prog 15 #[i.v] w (checkPost i w) := by
  obtain ⟨op, n, tx, r⟩ := i
  rcases kindL_cases op with hk | hk | hk | hk | hk | hk | hk | hk | hk | hk
  · exact checkR_m1 op n tx r w hi hk
  · exact checkR_0 op n tx r w hi hk
  · exact checkR_1 op n tx r w hi hk
  · exact checkR_2 op n tx r w hi hk
  · exact checkR_3 op n tx r w hi hk
  · exact checkR_4 op n tx r w hi hk
  · exact checkR_5 op n tx r w hi hk
  · exact checkR_6 op n tx r w hi hk
  · exact checkR_7 op n tx r w hi hk
  · exact checkR_8 op n tx r w hi hk
end Go.Proofs.YtjjdlgjofjfgmaaDoor
