/-
  The document's answer on types, walked: read.
-/
import Derived.Deep.DeepCutAuto
import Derived.Test.YtfpdeiefkimaaaaGreatDoorK1
import Derived.Test.YtfpdeiefkimaaaaGreatDoorK2
import Derived.Test.YtfpdeiefkimaaaaGreatDoorK5
set_option linter.unusedSimpArgs false
set_option linter.unusedVariables false
namespace Go.Proofs.YtfpdeiefkimaaaaGreatDoor
open Go.RowKit

/-- What read answers: the type and the place behind it. -/
def readPost (l : List UInt8) (k : Nat) (w : World) (e : Ending) (w' : World) : Prop :=
  ∃ (d : Nat) (nm : List UInt8) (m : Int), e = .returned (.tuple #[ty d nm, .int .i64 m]) ∧ Upd w w' [] ∧
    ((oneL (l.drop k) = none ∧ m = -1) ∨ (∃ j : Nat, m = j ∧ k < j ∧ j ≤ l.length ∧ d = lead (l.drop k) ∧ oneL (l.drop k) = some (nm, l.drop j)))

end Go.Proofs.YtfpdeiefkimaaaaGreatDoor
/-
  The document's answer on types, walked: Parse, ParseRef.
-/
set_option linter.unusedSimpArgs false
set_option linter.unusedVariables false
namespace Go.Proofs.YtfpdeiefkimaaaaGreatDoor
open Go.RowKit

end Go.Proofs.YtfpdeiefkimaaaaGreatDoor
/-
  The document's answer on types, walked: ParseDesc.
-/
set_option linter.unusedSimpArgs false
set_option linter.unusedVariables false
namespace Go.Proofs.YtfpdeiefkimaaaaGreatDoor
open Go.RowKit

/-- What is known behind the result's type. -/
def endRel (l : List UInt8) (n : Nat) (b : Bool) (m : Int) : Prop := descL l = if m = l.length then (if b || decide (20 < n) then ((0, 5) : Nat × Int) else (n, 0)) else (0, 4)

def descInvR (l : List UInt8) (w : World) (s5 s6 : Value) (wr : World) : Prop :=
  ∃ (b : Bool) (k n : Nat) (v : Value) (xs : List Value), s5 = .bool b ∧ s6 = .int .i64 (k : Int) ∧ k ≤ (bs l).size ∧ Hid (descRel l true n b (l.drop k)) ∧ n ≤ 2000 ∧ Blk wr w.heap.size 181 #[.slice none 0 0, .bool false, .int .i64 0, .string ⟨#[]⟩] ∧
    Blk wr (w.heap.size + 1) 181 #[v, .bool false, .int .i64 0, .string ⟨#[]⟩] ∧ wr.ownsRow 0 179 2 v n xs ∧ (∀ q, q ∈ Value.ob v → w.heap.size + 1 < q) ∧ Upd w wr []

end Go.Proofs.YtfpdeiefkimaaaaGreatDoor
