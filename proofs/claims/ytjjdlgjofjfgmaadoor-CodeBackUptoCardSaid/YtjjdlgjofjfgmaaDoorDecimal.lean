/-
  A number's digits: the document's way of writing them is the library's. No program text.
-/
import Derived.Test.YtjjdlgjofjfgmaaDoorBytes
import Derived.Lib.ItoaLen
set_option linter.unusedSimpArgs false
set_option linter.unusedVariables false
namespace Go.Proofs.YtjjdlgjofjfgmaaDoor
open Go.RowKit

/-- The digits of a number, none of 0. -/
def ddig (a : Nat) : List UInt8 := if a = 0 then [] else Lib.decDigits a
theorem ddig_step (a : Nat) (h : 0 < a) : ddig a = ddig (a / 10) ++ [UInt8.ofNat (48 + a % 10)] := by
  unfold ddig
  rw [if_neg (by omega)]
  by_cases h10 : a < 10
  · rw [Lib.decDigits_one h10, if_pos (by omega), show a % 10 = a by omega]
    rfl
  · rw [if_neg (by omega), Lib.decDigits, dif_neg h10]
theorem ddig_pos (a : Nat) (h : 0 < a) : ddig a = Lib.decDigits a := by unfold ddig; rw [if_neg (by omega)]

/-- What stands of the digits of u when a is left. -/
def decRel (u a : Nat) (s : List UInt8) : Prop := ddig a ++ s = ddig u ∧ a ≤ u
theorem decRel_start (u : Nat) : decRel u u [] := ⟨by simp, Nat.le_refl _⟩
theorem decRel_step {u a : Nat} {s : List UInt8} (h : decRel u a s) (h0 : 0 < a) : decRel u (a / 10) (UInt8.ofNat (48 + a % 10) :: s) := by
  refine ⟨?_, by have := h.2; omega⟩
  rw [← h.1, ddig_step a h0]
  simp
theorem decRel_end {u : Nat} {s : List UInt8} (h : decRel u 0 s) (hu : 0 < u) : s = Lib.decDigits u := by
  have := h.1
  rw [ddig_pos u hu] at this
  simpa [ddig] using this
theorem decRel_len {u a : Nat} {s : List UInt8} (h : decRel u a s) (hu : u ≤ 9223372036854775808) : s.length ≤ 30 := by
  have h1 := congrArg List.length h.1
  rw [List.length_append] at h1
  have h2 : (ddig u).length ≤ 21 := by
    unfold ddig
    split
    · simp
    · have := Lib.itoa_length_le (-(u : Int)) (by omega) (by omega)
      by_cases h0 : 1 ≤ u
      · rw [Lib.itoa_neg u h0, List.length_cons] at this
        omega
      · omega
  omega
end Go.Proofs.YtjjdlgjofjfgmaaDoor
