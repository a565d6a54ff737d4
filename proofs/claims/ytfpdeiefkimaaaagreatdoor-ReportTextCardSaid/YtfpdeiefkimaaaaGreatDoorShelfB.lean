/-
  The shelf's contract of strings.CutPrefix, laid at this program: lays of ShelfX that Shelf lacks.
-/
import Derived.Shelf.Small.Wraps
import Derived.Test.YtfpdeiefkimaaaaGreatDoorShelf
namespace Go.Proofs
open Go.Shelf
def Tryz.lays210_ren : Go.Shelf.Ren := ⟨fun | 210 => 210 | 206 => 221 | n => n, fun | 9 => 9 | 4 => 4 | 3 => 3 | n => n, fun | n => n⟩
open Go.RowKit in
def Tryz.lays103_ren : Go.Shelf.Ren := ⟨fun | 103 => 188 | 210 => 210 | 206 => 221 | n => n, fun | 9 => 9 | 4 => 4 | 24 => 114 | 3 => 3 | n => n, fun | n => n⟩
theorem Tryz.lays103 : Go.Proofs.Lays.n103 Tryz.prog Tryz.lays103_ren := {
  mixed := by kernel_rfl
  f103 := Tryz.func188.trans (congrArg some (by kernel_rfl))
  f206 := Tryz.func221.trans (congrArg some (by kernel_rfl))
  f210 := Tryz.func210.trans (congrArg some (by kernel_rfl))
  t3 := Tryz.underlying3
  a3 := Tryz.isAgg3
  z3 := Tryz.sizeOf3
  v3 := Tryz.zeroValue3
  t4 := Tryz.underlying4
  a4 := Tryz.isAgg4
  z4 := Tryz.sizeOf4
  v4 := Tryz.zeroValue4
  t9 := Tryz.underlying9
  a9 := Tryz.isAgg9
  z9 := Tryz.sizeOf9
  v9 := Tryz.zeroValue9
  t24 := Tryz.underlying114
  a24 := Tryz.isAgg114
  z24 := Tryz.sizeOf114
  v24 := Tryz.zeroValue114 }
open Go.RowKit in
/-- strings.CutPrefix: "CutPrefix returns s without the provided leading prefix string and reports whether it found the prefix. If s doesn't start with prefix, CutPrefix returns s, false. If prefix is the empty string, CutPrefix returns s, true.": IT RETURNS '(Lib.trimPrefix s p, Lib.hasPrefix s p)'; the world is as it was. (LAID: no walk: one application.) -/
theorem Tryz.strings_CutPrefix (s p : ByteArray) (w : World) :
    Calls Tryz.prog 188 #[.string s, .string p] w fun e w' => e = .returned (.tuple #[.string ⟨(Lib.trimPrefix s.data.toList p.data.toList).toArray⟩, .bool (Lib.hasPrefix s.data.toList p.data.toList)]) ∧ w' = w := Any.strings_CutPrefix Tryz.lays103 s p w
end Go.Proofs
