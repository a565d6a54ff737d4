/-
  The document's op and Cut, walked.
-/
import Derived.Test.YtfpdeiefkimaaaaGreatDoorK1
import Derived.Test.YtfpdeiefkimaaaaGreatDoorK6
import Derived.Test.YtfpdeiefkimaaaaGreatDoorK7
import Derived.Test.YtfpdeiefkimaaaaGreatDoorKF
import Derived.Test.YtfpdeiefkimaaaaGreatDoorKG
set_option linter.unusedSimpArgs false
set_option linter.unusedVariables false
namespace Go.Proofs.YtfpdeiefkimaaaaGreatDoor
open Go.RowKit Go.Sort

def opRel2 (hd : List UInt8) (g : Nat) (w : World) (t : Value) (wr : World) : Prop :=
  ∃ k : Nat, t = .int .i64 k ∧ 1 ≤ k ∧ k ≤ 41 ∧ opL hd k = 0 ∧ Hid (Blk wr g 9 wordCells) ∧ Upd w wr []

end Go.Proofs.YtfpdeiefkimaaaaGreatDoor
/-
  The document's Cut, walked.
-/
set_option linter.unusedSimpArgs false
set_option linter.unusedVariables false
namespace Go.Proofs.YtfpdeiefkimaaaaGreatDoor
open Go.RowKit

end Go.Proofs.YtfpdeiefkimaaaaGreatDoor
/-
  The document's Number, walked.
-/
set_option linter.unusedSimpArgs false
set_option linter.unusedVariables false
namespace Go.Proofs.YtfpdeiefkimaaaaGreatDoor
open Go.RowKit Go.Sort

/-- The digits' number, or none where one is not a digit. -/
def foldD : Nat → List UInt8 → Option Nat
  | n, [] => some n
  | n, c :: t => if 48 ≤ c.toNat ∧ c.toNat ≤ 57 then foldD (n * 10 + (c.toNat - 48)) t else none
def numAt (l : List UInt8) : Nat := if l.head? = some 45 then 1 else 0
def numOut (l : List UInt8) : Int × Bool :=
  if l.length = numAt l ∨ numAt l + 10 < l.length then (0, false)
  else match foldD 0 (l.drop (numAt l)) with
    | none => (0, false)
    | some n => ((if numAt l = 1 then -(n : Int) else n), decide (Lib.itoa (if numAt l = 1 then -(n : Int) else n) = l))

def numRel (l : List UInt8) (a : Nat) (w : World) (tn ti : Value) (wr : World) : Prop :=
  ∃ n k : Nat, tn = .int .i64 n ∧ ti = .int .i64 k ∧ a ≤ k ∧ k ≤ l.length ∧ n < 10 ^ (k - a) ∧ Hid (foldD 0 (l.drop a) = foldD n (l.drop k)) ∧ wr = w

end Go.Proofs.YtfpdeiefkimaaaaGreatDoor
/-
  The document's ParseRefText, walked.
-/
set_option linter.unusedSimpArgs false
set_option linter.unusedVariables false
namespace Go.Proofs.YtfpdeiefkimaaaaGreatDoor
open Go.RowKit Go.Sort

def idxP (p : UInt8 → Bool) : List UInt8 → Nat
  | [] => 0
  | c :: t => if p c then 0 else idxP p t + 1
def isMark (c : UInt8) : Bool := c == 46 || c == 58
def markL (l : List UInt8) : Nat := idxP isMark l
def openL (l : List UInt8) : Nat := markL l + idxP (· == 40) (l.drop (markL l))
def docRef (l : List UInt8) : RefL := ⟨decide (l[markL l]? = some 58), l.take (markL l), (l.drop (markL l + 1)).take (openL l - (markL l + 1)), l.drop (openL l)⟩
def docRefOut (l : List UInt8) : RefL × Int := if openL l < l.length then (if (docRef l).ok then (docRef l, 0) else (noRefL, 4)) else (noRefL, 4)

def idxRel (p : UInt8 → Bool) (m : Nat) (l : List UInt8) (w : World) (t : Value) (wr : World) : Prop :=
  ∃ k : Nat, t = .int .i64 k ∧ k ≤ l.length ∧ Hid (m = k + idxP p (l.drop k)) ∧ wr = w

end Go.Proofs.YtfpdeiefkimaaaaGreatDoor
