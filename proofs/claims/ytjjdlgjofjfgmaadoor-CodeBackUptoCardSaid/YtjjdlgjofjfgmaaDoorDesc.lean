/-
  The plain reading of a method's descriptor. No program text.
-/
import Derived.Test.YtjjdlgjofjfgmaaDoorTypesD
set_option linter.unusedSimpArgs false
set_option linter.unusedVariables false
namespace Go.Proofs.YtjjdlgjofjfgmaaDoor
open Go.RowKit

theorem cutL_lt {c : UInt8} {l : List UInt8} {p} (h : cutL c l = some p) : p.2.length < l.length := by
  have := cutL_le c l h
  omega
theorem bareL_lt {l : List UInt8} {p} (h : bareL l = some p) : p.2.length < l.length := by
  cases l with
  | nil => simp [bareL] at h
  | cons c t =>
    simp only [bareL] at h
    split at h
    · cases h; simp
    · split at h
      · cases hq : cutL 59 t with
        | none => rw [hq] at h; simp at h
        | some q =>
          rw [hq] at h
          simp only [Option.bind_some] at h
          split at h
          · cases h
            have := cutL_lt hq
            simp
            omega
          · cases h
      · cases h
theorem oneL_lt {l : List UInt8} {p} (h : oneL l = some p) : p.2.length < l.length := by
  have h1 := bareL_lt h
  have h2 : (l.drop (lead l)).length ≤ l.length := by simp
  omega

/-- The arguments up to the closing ): how many, whether one has too many dimensions, what is left. -/
def argsL : Nat → List UInt8 → Option (Nat × Bool × List UInt8)
  | 0, _ => none
  | k + 1, l => if takes 41 l then some (0, false, l.tail) else
    match oneL l with
    | none => none
    | some p => (argsL k p.2).map fun q => (q.1 + 1, wideOr q.2.1 (lead l), q.2.2)
/-- A descriptor: how many arguments, the error. -/
def descL (l : List UInt8) : Nat × Int :=
  if 2000 < l.length then (0, 5) else if takes 40 l then
    match argsL l.length l.tail with
    | none => (0, 4)
    | some (n, wd, r) =>
      if takes 86 r then (if r.tail = [] then (if wd || decide (20 < n) then (0, 5) else (n, 0)) else (0, 4))
      else match oneL r with
        | some (_, []) => if wideOr wd (lead r) || decide (20 < n) then (0, 5) else (n, 0)
        | _ => (0, 4)
  else (0, 4)
end Go.Proofs.YtjjdlgjofjfgmaaDoor
