/-
  shapes.method: what it says (the walk: to come).
-/
import Derived.Test.YtjjdlgjofjfgmaaDoorClassD
import Derived.Test.YtjjdlgjofjfgmaaDoorTypesV
set_option linter.unusedSimpArgs false
set_option linter.unusedVariables false
namespace Go.Proofs.YtjjdlgjofjfgmaaDoor
open Go.RowKit

/-- Is a method sound, in a class or an interface? -/
def methodB (m : MethL) (iface : Bool) : Bool :=
  decide ((descL m.ds).2 = 0) && memberB m.nm && !(decide (m.nm = initB) && !voidL m.ds) && methodF m.fl iface (decide (m.nm = initB)) &&
    if anyF m.fl 1024 then decide (m.lo = 0) && decide (m.st = 0) && decide (m.code.length = 0)
    else decide ((wordsL m.ds m.fl).1 ≤ m.lo) && decide (m.lo ≤ 40) && decide (0 ≤ m.st) && decide (m.st ≤ 40) && allOk m.code m.lo

theorem memberl_any (l : List UInt8) (w : World) (hs : l.length ≤ 9223372036854775807) : Calls Tryd.prog 32 #[.string (bs l)] w fun e w' => e = .returned (.bool (memberB l)) ∧ w = w' := by
  have := member_any (bs l) w (by rw [bs_size]; exact hs)
  rw [bs_data] at this
  exact this
end Go.Proofs.YtjjdlgjofjfgmaaDoor
