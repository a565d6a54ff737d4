/-
  Strings as lists of bytes; the plain reading of a type's text. No program text.
-/
import Derived.Test.YtjjdlgjofjfgmaaDoorNamesC
set_option linter.unusedSimpArgs false
set_option linter.unusedVariables false
namespace Go.Proofs.YtjjdlgjofjfgmaaDoor
open Go.RowKit

/-- The string of these bytes. -/
def bs (l : List UInt8) : ByteArray := ⟨l.toArray⟩
theorem bs_data (l : List UInt8) : (bs l).data.toList = l := by simp [bs]
theorem bs_of (s : ByteArray) : bs s.data.toList = s := by cases s; simp [bs]
theorem bs_size (l : List UInt8) : (bs l).size = l.length := by
  show (bs l).data.size = _
  simp [bs]
theorem bs_toList (l : List UInt8) : (bs l).toList = l := by rw [ByteArray.toList_eq, bs_data]
theorem bs_get (l : List UInt8) (i : Nat) (h : i < (bs l).size) : (bs l)[i]'h = l[i]'(by rw [← bs_size]; exact h) := by
  have := bytes_get (bs l) i h
  rw [bs_data] at this
  exact (Option.some.inj ((List.getElem?_eq_getElem (by rw [← bs_size]; exact h)).symm.trans this)).symm
theorem bs_extract (l : List UInt8) (a b : Nat) : (bs l).extract a b = bs ((l.drop a).take (b - a)) := ByteArray.extract_mk l a b
theorem bs_tail (c : UInt8) (l : List UInt8) : (bs (c :: l)).extract 1 (bs (c :: l)).size = bs l := by
  rw [bs_extract, bs_size]
  simp
theorem bs_inj {a b : List UInt8} (h : bs a = bs b) : a = b := by rw [← bs_data a, h, bs_data]
theorem bs_nil : bs [] = ⟨#[]⟩ := rfl

/-- What stands ahead of the first c and behind it, where there is one. -/
def cutL (c : UInt8) : List UInt8 → Option (List UInt8 × List UInt8)
  | [] => none
  | x :: t => if x = c then some ([], t) else (cutL c t).map fun p => (x :: p.1, p.2)
theorem cutL_none (c : UInt8) (l : List UInt8) (h : c ∉ l) : cutL c l = none := by
  induction l with
  | nil => rfl
  | cons x t ih =>
    simp only [List.mem_cons, not_or] at h
    unfold cutL
    rw [if_neg (fun e => h.1 e.symm), ih h.2]
    rfl
theorem cutL_cut (c : UInt8) (a b : List UInt8) (h : c ∉ a) : cutL c (a ++ c :: b) = some (a, b) := by
  induction a with
  | nil => simp [cutL]
  | cons x t ih =>
    simp only [List.mem_cons, not_or] at h
    rw [List.cons_append]
    unfold cutL
    rw [if_neg (fun e => h.1 e.symm), ih h.2]
    rfl
theorem cut_one (c : UInt8) (l : List UInt8) : Lib.cut l [c] = match cutL c l with | some p => (p.1, p.2, true) | none => (l, [], false) := by
  unfold Lib.cut
  rcases index_one c l with ⟨h1, h2⟩ | ⟨a, b, rfl, h2, h3⟩
  · rw [h1, cutL_none c l h2]
    rfl
  · rw [h3, cutL_cut c a b h2]
    simp
theorem cutL_le (c : UInt8) (l : List UInt8) {p} (h : cutL c l = some p) : p.1.length + p.2.length + 1 = l.length := by
  induction l generalizing p with
  | nil => simp [cutL] at h
  | cons x t ih =>
    unfold cutL at h
    split at h
    · cases h; simp
    · cases ht : cutL c t with
      | none => rw [ht] at h; simp at h
      | some q =>
        rw [ht] at h
        simp at h
        subst h
        have := ih ht
        simp
        omega
/-- How many [ it begins with. -/
def lead : List UInt8 → Nat
  | [] => 0
  | c :: t => if c = 91 then lead t + 1 else 0
/-- One type behind its dimensions: its name and what is left. -/
def bareL : List UInt8 → Option (List UInt8 × List UInt8)
  | [] => none
  | c :: t => if c = 73 then some ([], t) else if c = 76 then (cutL 59 t).bind fun p => if validB p.1 then some p else none else none
theorem bareL_else {l : List UInt8} (h1 : ¬ ∃ t, l = 73 :: t) (h2 : ¬ ∃ t, l = 76 :: t) : bareL l = none := by
  cases l with
  | nil => rfl
  | cons c t =>
    show (if c = 73 then some ([], t) else if c = 76 then (cutL 59 t).bind fun p => if validB p.1 then some p else none else none) = none
    rw [if_neg (fun e => h1 ⟨t, by rw [e]⟩), if_neg (fun e => h2 ⟨t, by rw [e]⟩)]
theorem bareL_L (t : List UInt8) : bareL (76 :: t) = (cutL 59 t).bind fun p => if validB p.1 then some p else none := rfl
def oneL (l : List UInt8) : Option (List UInt8 × List UInt8) := bareL (l.drop (lead l))
theorem lead_le (l : List UInt8) : lead l ≤ l.length := by
  induction l with
  | nil => simp [lead]
  | cons c t ih => unfold lead; split <;> simp <;> omega
theorem lead_cons (t : List UInt8) : lead (91 :: t) = lead t + 1 := by simp [lead]
theorem lead_stop {c : UInt8} (t : List UInt8) (h : c ≠ 91) : lead (c :: t) = 0 := by simp [lead, h]
/-- A type's text; a reference type's text: dimensions, name, error. -/
def parseL (l : List UInt8) : Nat × List UInt8 × Int :=
  if 2000 < l.length then (0, [], 5) else
    match oneL l with
    | some (nm, []) => if 255 < lead l then (0, [], 5) else (lead l, nm, 0)
    | _ => (0, [], 4)
def parseRefL (l : List UInt8) : Nat × List UInt8 × Int :=
  if l.head? == some 91 then parseL l else if 2000 < l.length then (0, [], 5) else if validB l then (0, l, 0) else (0, [], 4)
end Go.Proofs.YtjjdlgjofjfgmaaDoor
