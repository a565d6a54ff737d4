/-
  Package names, walked: Member, Parts, Valid.
-/
import Derived.Test.YtjjdlgjofjfgmaaDoorNames
import Derived.Test.YtjjdlgjofjfgmaaDoorSplit
import Derived.Test.YtjjdlgjofjfgmaaDoorShelf
set_option linter.unusedSimpArgs false
set_option linter.unusedVariables false
namespace Go.Proofs.YtjjdlgjofjfgmaaDoor
open Go.RowKit

def initB : List UInt8 := [60, 105, 110, 105, 116, 62]
def memberB (l : List UInt8) : Bool := decide (l = initB) || (decide (l.length ≤ 60) && partB l)
def validB (l : List UInt8) : Bool := decide (l.length ≤ 60) && (splitL 47 l).all partB

/-- What of the package-level variables the library's functions read. -/
def MaxLenAt (w : World) : Prop := ∃ m : Int, w.cell? ⟨0, 0, none⟩ = some (.int .i64 m)

theorem parts_any (s : ByteArray) (w : World) (hs : s.size < 4294967281) (hm : MaxLenAt w) : Calls Tryd.prog 59 #[.string s] w fun e w' =>
    ∃ ps : List ByteArray, e = .returned (.slice (some ⟨w.heap.size, 0, none⟩) ps.length ps.length) ∧ w' = w.alloc (.cells (ps.map Value.string).toArray 9) ∧ ps.map (fun p => p.data.toList) = splitL 47 s.data.toList := by
  obtain ⟨m, hm⟩ := hm
  have hc := Tryd.strings_Split s ⟨#[47]⟩ m w hs hm (by decide)
  have h1 := Lib.splitB_data ⟨#[47]⟩ 0 (Lib.countB s ⟨#[47]⟩) s
  have h2 : Lib.splitK [47] 0 (Lib.countB s ⟨#[47]⟩) s.data.toList = splitL 47 s.data.toList := split_one 47 s.data.toList
  rw [show ((⟨#[47]⟩ : ByteArray).data.toList) = [47] from rfl, h2] at h1
  have h3 : (Lib.splitB ⟨#[47]⟩ 0 (Lib.countB s ⟨#[47]⟩) s).length = Lib.countB s ⟨#[47]⟩ + 1 := by
    have := congrArg List.length h1
    rw [List.length_map, splitL_length] at this
    rw [this]
    congr 1
    exact (count_one 47 s.data.toList).symm
  rw [← h3] at hc
  generalize Lib.splitB ⟨#[47]⟩ 0 (Lib.countB s ⟨#[47]⟩) s = ps at hc h1
  have Hc := hid hc
  have H1 := hid h1
  clear hc h1 h2 h3
  go_enter Tryd.func59, Tryd.ntmps59
  go_wp2_with fail
  refine Hc.out.mono ?_
  rintro e w1 ⟨rfl, rfl⟩
  go_wp2
  go_ret
  exact ⟨ps, rfl, rfl, H1.out⟩
end Go.Proofs.YtjjdlgjofjfgmaaDoor
