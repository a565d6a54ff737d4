/-
  The document's Args, Words, Find, method, walked.
-/
import Derived.Test.YtfpdeiefkimaaaaGreatDoorK4
import Derived.Test.YtfpdeiefkimaaaaGreatDoorK8
import Derived.Test.YtfpdeiefkimaaaaGreatDoorKA
import Derived.Test.YtfpdeiefkimaaaaGreatDoorKD
import Derived.Test.YtfpdeiefkimaaaaGreatDoorKT
set_option linter.unusedSimpArgs false
set_option linter.unusedVariables false
namespace Go.Proofs.YtfpdeiefkimaaaaGreatDoor
open Go.RowKit

end Go.Proofs.YtfpdeiefkimaaaaGreatDoor
/-
  The document's Check of a class, walked.
-/
set_option linter.unusedSimpArgs false
set_option linter.unusedVariables false
namespace Go.Proofs.YtfpdeiefkimaaaaGreatDoor
open Go.RowKit Go.Sort

def checkRRel (P : Nat → Prop) (n : Nat) (w : World) (t : Value) (wr : World) : Prop :=
  ∃ k : Nat, t = .int .i64 k ∧ k ≤ n ∧ Hid (∀ i, i < k → P i) ∧ Upd w wr []

/-- An interface may stand at its place. -/
def ifP (nm : List UInt8) (l : List (List UInt8)) (i : Nat) : Prop := ∀ h : i < l.length, ifB nm l[i] (l.take i) = true
/-- An interface is none of those ahead of it. -/
def newP (l : List (List UInt8)) (k j : Nat) : Prop := ∀ (h : j < l.length) (h' : k < l.length), l[k] ≠ l[j]
end Go.Proofs.YtfpdeiefkimaaaaGreatDoor
/-
  The document's Print of a class, walked. (Printed by gen_printR5.py.)
-/
set_option linter.unusedSimpArgs false
set_option linter.unusedVariables false
namespace Go.Proofs.YtfpdeiefkimaaaaGreatDoor
open Go.RowKit Go.Sort

theorem wordT_nil (a : List UInt8) : wordT a [] = a := by
  unfold wordT Lib.trimSuffix Lib.hasSuffix
  rw [List.append_nil, if_pos (by simp)]
  simp
theorem wordT_some (a b : List UInt8) (hb : b ≠ []) (h : b.getLast? ≠ some 32) : wordT a b = a ++ [32] ++ b := by
  unfold wordT Lib.trimSuffix Lib.hasSuffix
  rw [if_neg]
  intro hs
  have h2 := List.isSuffixOf_iff_suffix.1 hs
  obtain ⟨t, ht⟩ := h2
  have h3 : (a ++ [32] ++ b).getLast? = some 32 := by rw [← ht]; simp
  rw [List.getLast?_append] at h3
  cases hb2 : b.getLast? with
  | none => exact hb (List.getLast?_eq_none_iff.1 hb2)
  | some x =>
    rw [hb2] at h3 h
    simp at h3
    exact h (by rw [h3])
theorem text_last : ∀ f : Fin 2048, (flagsText (f.val : Int)).getLast? ≠ some 32 := by decide +kernel
theorem flagText_last {f : Int} {m : Nat} (h0 : -9223372036854775808 ≤ f) (h1 : f ≤ 9223372036854775807) (hm : m < 2048) : (flagText f m).1.getLast? ≠ some 32 := by
  unfold flagText
  cases ho : outF f m with
  | true => simp
  | false =>
    have h := outF_small h0 h1 hm ho
    have := text_last ⟨f.toNat, by omega⟩
    simp only at this
    rw [show ((f.toNat : Nat) : Int) = f by omega] at this
    simpa using this
theorem lastC {f : Int} (h0 : -9223372036854775808 ≤ f) (h1 : f ≤ 9223372036854775807) : (flagText f 1585).1.getLast? ≠ some 32 := flagText_last (m := 1585) h0 h1 (by omega)
theorem lastM {f : Int} (h0 : -9223372036854775808 ≤ f) (h1 : f ≤ 9223372036854775807) : (flagText f 1055).1.getLast? ≠ some 32 := flagText_last (m := 1055) h0 h1 (by omega)
/-- A blank and the words of flags, if there are any. -/
def behT (b : List UInt8) : List UInt8 := if b = [] then [] else [32] ++ b
theorem wordT_beh (a b : List UInt8) (h : b.getLast? ≠ some 32) : wordT a b = a ++ behT b := by
  unfold behT
  by_cases hb : b = []
  · rw [if_pos hb, hb, wordT_nil, List.append_nil]
  · rw [if_neg hb, wordT_some a b hb h, List.append_assoc]

def ifsRelR (pre : List UInt8) (ifs : List (List UInt8)) (w1 : World) (s t : Value) (wr : World) : Prop :=
  ∃ (k : Nat) (l : List UInt8), s = .string (bs l) ∧ t = .int .i64 k ∧ k ≤ ifs.length ∧ Hid (l = pre ++ (ifs.take k).flatMap ifT) ∧ l.length ≤ 200 + k * 100 ∧ Upd w1 wr []
def msRelR (pre : List UInt8) (ms : List MethL) (w1 : World) (s t : Value) (wr : World) : Prop :=
  ∃ (k : Nat) (l : List UInt8), s = .string (bs l) ∧ t = .int .i64 k ∧ k ≤ ms.length ∧ Hid (l = pre ++ (ms.take k).flatMap methT) ∧ l.length ≤ 10000 + k * 3000000 ∧ Upd w1 wr []
def codeRelR (pre : List UInt8) (code : List InstL) (m : Nat) (w1 : World) (s t : Value) (wr : World) : Prop :=
  ∃ (k : Nat) (l : List UInt8), s = .string (bs l) ∧ t = .int .i64 k ∧ k ≤ code.length ∧ Hid (l = pre ++ (code.take k).flatMap instT) ∧ l.length ≤ m + k * 10001 ∧ Upd w1 wr []

end Go.Proofs.YtfpdeiefkimaaaaGreatDoor
