/-
  A text that is cut at each byte c, step by step. No program text.
-/
import Derived.Test.YtjjdlgjofjfgmaaDoorBytes
set_option linter.unusedSimpArgs false
set_option linter.unusedVariables false
namespace Go.Proofs.YtjjdlgjofjfgmaaDoor
open Go.RowKit

/-- The pieces that are cut off up to place k; the next begins at f. -/
def cutRel (c : UInt8) (l : List UInt8) (ps : List (List UInt8)) (f k : Nat) : Prop := f ≤ k ∧ k ≤ l.length ∧ c ∉ (l.drop f).take (k - f) ∧ splitL c l = ps ++ splitL c (l.drop f) ∧ ps.length ≤ k
theorem cutRel_start (c : UInt8) (l : List UInt8) : cutRel c l [] 0 0 := by simp [cutRel]
theorem cutRel_skip {c : UInt8} {l : List UInt8} {ps : List (List UInt8)} {f k : Nat} (h : cutRel c l ps f k) (hk : k < l.length) (hc : l[k] ≠ c) : cutRel c l ps f (k + 1) := by
  obtain ⟨h1, h2, h3, h4, h5⟩ := h
  refine ⟨by omega, by omega, ?_, h4, by omega⟩
  rw [show k + 1 - f = (k - f) + 1 by omega, List.take_succ_eq_append_getElem (by simp; omega)]
  simp only [List.mem_append, not_or]
  refine ⟨h3, ?_⟩
  simp only [List.getElem_drop, List.mem_singleton]
  have : f + (k - f) = k := by omega
  simp only [this]
  exact fun e => hc e.symm
theorem cutRel_cut {c : UInt8} {l : List UInt8} {ps : List (List UInt8)} {f k : Nat} (h : cutRel c l ps f k) (hk : k < l.length) (hc : l[k] = c) : cutRel c l (ps ++ [(l.drop f).take (k - f)]) (k + 1) (k + 1) := by
  obtain ⟨h1, h2, h3, h4, h5⟩ := h
  refine ⟨Nat.le_refl _, by omega, by simp, ?_, by simp; omega⟩
  rw [h4, List.append_assoc]
  congr 1
  have e : l.drop f = (l.drop f).take (k - f) ++ c :: l.drop (k + 1) := by
    conv => lhs; rw [← List.take_append_drop (k - f) (l.drop f)]
    congr 1
    rw [List.drop_drop, show f + (k - f) = k by omega, List.drop_eq_getElem_cons hk, hc]
  conv => lhs; rw [e]
  rw [splitL_cut c _ _ h3]
  rfl
theorem cutRel_end {c : UInt8} {l : List UInt8} {ps : List (List UInt8)} {f : Nat} (h : cutRel c l ps f l.length) : splitL c l = ps ++ [l.drop f] := by
  obtain ⟨h1, h2, h3, h4, h5⟩ := h
  rw [h4]
  congr 1
  apply splitL_none
  rwa [List.take_of_length_le (by simp)] at h3
end Go.Proofs.YtjjdlgjofjfgmaaDoor
