/-
  The document's flags, walked: Has, known, CheckClass, CheckMethod, text.
-/
import Derived.Test.YtfpdeiefkimaaaaGreatDoorK9
set_option linter.unusedSimpArgs false
set_option linter.unusedVariables false
namespace Go.Proofs.YtfpdeiefkimaaaaGreatDoor
open Go.RowKit

/-! ### Flags as numbers -/
theorem wrap_zero {n : Nat} (h : n < 18446744073709551616) : (IntKind.i64.wrap (n : Int) = 0) ↔ n = 0 := by
  rw [IntKind.wrap_i64]
  omega
theorem outF_iff (f m : Int) : outF f m = true ↔ BitVec.ofInt 64 f &&& ~~~(BitVec.ofInt 64 m) ≠ 0#64 := by
  unfold outF bits
  simp only [IntKind.bits, bne_iff_ne, ne_eq]
  rw [wrap_zero (BitVec.isLt _), ← BitVec.toNat_inj]
  exact Iff.rfl
/-- Where no other flag is set than some below 2048, the number lies from 0 to 2047. -/
theorem outF_small {f : Int} {m : Nat} (h0 : -9223372036854775808 ≤ f) (h1 : f ≤ 9223372036854775807) (hm : m < 2048) (h : outF f m = false) : 0 ≤ f ∧ f < 2048 := by
  have h2 : BitVec.ofInt 64 f &&& ~~~(BitVec.ofInt 64 (m : Int)) = 0#64 := by
    have := outF_iff f m
    rw [h] at this
    simpa using this
  have h3 : BitVec.ofInt 64 f = BitVec.ofInt 64 f &&& BitVec.ofInt 64 (m : Int) := by
    refine BitVec.eq_of_getLsbD_eq fun i hi => ?_
    have := congrArg (fun b => b.getLsbD i) h2
    simp only [BitVec.getLsbD_and, BitVec.getLsbD_not, BitVec.getLsbD_zero, hi, decide_true, Bool.true_and] at this ⊢
    cases h5 : (BitVec.ofInt 64 f).getLsbD i <;> cases h6 : (BitVec.ofInt 64 (m : Int)).getLsbD i <;> simp_all
  have h4 : (BitVec.ofInt 64 f).toNat ≤ m := by
    rw [h3, BitVec.toNat_and]
    refine Nat.le_trans Nat.and_le_right ?_
    rw [BitVec.toNat_ofInt]
    omega
  rw [BitVec.toNat_ofInt] at h4
  omega

/-- The flags of a list that are set, added up. -/
def knownL (f : Int) : List Int → Int
  | [] => 0
  | m :: l => (if anyF f m then m else 0) + knownL f l
def intV (n : Int) : Value := .int .i64 n
def knownRel (f : Int) (l : List Int) (w : World) (t u : Value) (wr : World) : Prop :=
  ∃ k : Nat, ∃ n : Int, u = .int .i64 k ∧ k ≤ l.length ∧ t = .int .i64 n ∧ Hid (n = knownL f (l.take k)) ∧ 0 ≤ n ∧ n ≤ 1024 * k ∧ w = wr

end Go.Proofs.YtfpdeiefkimaaaaGreatDoor
/-
  The document's flags, walked: CheckClass, CheckMethod, text; they answer as package flags.
-/
set_option linter.unusedSimpArgs false
set_option linter.unusedVariables false
namespace Go.Proofs.YtfpdeiefkimaaaaGreatDoor
open Go.RowKit

def clsF : List Int := [1, 16, 32, 512, 1024]
def mthF : List Int := [1, 2, 4, 8, 16, 1024]
def clsW : List (List UInt8) := [[112, 117, 98, 108, 105, 99], [102, 105, 110, 97, 108], [115, 117, 112, 101, 114], [105, 110, 116, 101, 114, 102, 97, 99, 101], [97, 98, 115, 116, 114, 97, 99, 116]]
def mthW : List (List UInt8) := [[112, 117, 98, 108, 105, 99], [112, 114, 105, 118, 97, 116, 101], [112, 114, 111, 116, 101, 99, 116, 101, 100], [115, 116, 97, 116, 105, 99], [102, 105, 110, 97, 108], [97, 98, 115, 116, 114, 97, 99, 116]]
def classRB (f : Int) : Bool := decide (knownL f clsF = f) && !(anyF f 512 && (!anyF f 1024 || anyF f 16 || anyF f 32)) && !(anyF f 16 && anyF f 1024)
def cnt3 (a b c : Bool) : Nat := (if a then 1 else 0) + (if b then 1 else 0) + (if c then 1 else 0)
def methodRB (f : Int) (iface init : Bool) : Bool :=
  decide (knownL f mthF = f) && decide (cnt3 (anyF f 1) (anyF f 2) (anyF f 4) ≤ 1) && !(anyF f 1024 && (anyF f 2 || anyF f 8 || anyF f 16)) &&
    !(iface && (anyF f 4 || anyF f 16 || decide (cnt3 (anyF f 1) (anyF f 2) (anyF f 4) = 0) || init)) && !(init && (anyF f 8 || anyF f 16 || anyF f 1024))
/-- The words of a list's flags that are set, as the document joins them. -/
def textGo (f : Int) : List Int → List (List UInt8) → List UInt8 → List UInt8
  | m :: l, x :: r, s => textGo f l r (if anyF f m then (if s = [] then s else s ++ [32]) ++ x else s)
  | _, _, s => s

section
variable {f : Int} (h0 : -9223372036854775808 ≤ f) (h1 : f ≤ 9223372036854775807)
include h0 h1
end

end Go.Proofs.YtfpdeiefkimaaaaGreatDoor
/-
  The document's text, ClassText, MethodText, walked. (Printed by gen_flagsT.py.)
-/
set_option linter.unusedSimpArgs false
set_option linter.unusedVariables false
namespace Go.Proofs.YtfpdeiefkimaaaaGreatDoor
open Go.RowKit

def textRelR (f : Int) (ms : List Int) (ws : List (List UInt8)) (w : World) (t u : Value) (wr : World) : Prop :=
  ∃ (k : Nat) (s : List UInt8), t = .string (bs s) ∧ u = .int .i64 k ∧ k ≤ ms.length ∧ Hid (textGo f ms ws [] = textGo f (ms.drop k) (ws.drop k) s) ∧ s.length ≤ 20 * k ∧ w = wr

end Go.Proofs.YtfpdeiefkimaaaaGreatDoor
