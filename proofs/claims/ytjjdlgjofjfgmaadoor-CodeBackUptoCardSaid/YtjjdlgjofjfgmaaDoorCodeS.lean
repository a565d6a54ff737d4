/-
  Package code, walked: specs.
-/
import Derived.Test.YtjjdlgjofjfgmaaDoorBytes
import Derived.Deep.WholeRow
set_option linter.unusedSimpArgs false
set_option linter.unusedVariables false
namespace Go.Proofs.YtjjdlgjofjfgmaaDoor
open Go.RowKit

theorem infoSpecs : (Tryd.prog.info? 65).map (·.size) = some 82 := by kernel_rfl
theorem sizeSpecs : (Tryd.prog.info? 65).map (fun i => i.zero.map (·.cells.size)) = some (some 82) := by kernel_rfl
/-- Every instruction's word and kind of operand, by its number. -/
def specT : List (List UInt8 × Nat) := [([], 0), ([105, 99, 111, 110, 115, 116], 1), ([105, 108, 111, 97, 100], 2), ([105, 115, 116, 111, 114, 101], 2), ([97, 108, 111, 97, 100], 2), ([97, 115, 116, 111, 114, 101], 2), ([110, 117, 108, 108], 0), ([105, 97, 100, 100], 0), ([105, 115, 117, 98], 0), ([105, 109, 117, 108], 0), ([105, 100, 105, 118], 0), ([103, 111, 116, 111], 3), ([105, 102, 101, 113], 3), ([105, 102, 110, 101], 3), ([105, 102, 108, 116], 3), ([105, 102, 99, 109, 112, 101, 113], 3), ([105, 102, 99, 109, 112, 108, 116], 3), ([105, 102, 97, 99, 109, 112, 101, 113], 3), ([105, 102, 110, 117, 108, 108], 3), ([112, 111, 112], 0), ([100, 117, 112], 0), ([115, 119, 97, 112], 0), ([110, 101, 119], 4), ([110, 101, 119, 97, 114, 114, 97, 121], 6), ([109, 117, 108, 116, 105, 110, 101, 119], 7), ([97, 114, 114, 97, 121, 108, 101, 110, 103, 116, 104], 0), ([105, 97, 108, 111, 97, 100], 0), ([105, 97, 115, 116, 111, 114, 101], 0), ([97, 97, 108, 111, 97, 100], 0), ([97, 97, 115, 116, 111, 114, 101], 0), ([99, 104, 101, 99, 107, 99, 97, 115, 116], 5), ([105, 110, 115, 116, 97, 110, 99, 101, 111, 102], 5), ([105, 110, 118, 111, 107, 101, 118, 105, 114, 116, 117, 97, 108], 8), ([105, 110, 118, 111, 107, 101, 105, 110, 116, 101, 114, 102, 97, 99, 101], 8), ([105, 110, 118, 111, 107, 101, 115, 112, 101, 99, 105, 97, 108], 8), ([105, 110, 118, 111, 107, 101, 115, 116, 97, 116, 105, 99], 8), ([105, 114, 101, 116, 117, 114, 110], 0), ([97, 114, 101, 116, 117, 114, 110], 0), ([114, 101, 116, 117, 114, 110], 0), ([112, 114, 105, 110, 116], 0), ([112, 114, 105, 110, 116, 99, 108, 97, 115, 115], 0)]
def specCells : Array Value := (specT.flatMap fun p => [Value.string (bs p.1), Value.int .i64 p.2]).toArray
set_option maxRecDepth 100000 in
set_option maxHeartbeats 8000000 in
theorem specs_any (w : World) : Calls Tryd.prog 38 #[] w fun e w' => e = .returned (.agg specCells) ∧ Upd w w' [] := by
  have hi := infoSpecs
  go_enter Tryd.func38, Tryd.ntmps38
  go_wp2
  rw [run_storeCells_new _ _ _ _ (by rw [infoSpecs]; kernel_rfl) (by kernel_rfl) (by kernel_rfl)]
  go_wp2
  have e : ∀ cs : Array Value, cs = specCells → Blk (w.alloc (.cells cs 65)) w.heap.size 65 specCells := by
    rintro cs rfl
    exact Blk.new _ _ _
  refine bodyPost_ret (v := .agg specCells) ?_ rfl ⟨rfl, (Upd.refl _ _).alloc _⟩
  exact results_cell_row Tryd.results38 _ _ w.heap.size 65 specCells (0, 0) (.array 41 64) rfl (e _ (by kernel_rfl)) (by kernel_rfl) rfl (by rw [infoSpecs]; kernel_rfl)
end Go.Proofs.YtjjdlgjofjfgmaaDoor
