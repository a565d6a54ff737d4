/-
  What a sound class is made of: plain facts.
-/
import Derived.Test.YtjjdlgjofjfgmaaDoorClassG
set_option linter.unusedSimpArgs false
set_option linter.unusedVariables false
namespace Go.Proofs.YtjjdlgjofjfgmaaDoor
open Go.RowKit

theorem check_parts {c : ClassL} (h : checkB c = true) : c.ms.length ≤ 40 ∧ c.ifs.length ≤ 20 ∧ headerB c = true ∧ ∀ i (hi : i < c.ms.length), methodB c.ms[i] (anyF c.fl 512) = true ∧ findL c.ms[i].nm c.ms[i].ds c.ms 0 = i := by
  unfold checkB at h
  simp only [Bool.and_eq_true, decide_eq_true_eq, List.all_eq_true] at h
  obtain ⟨⟨⟨h1, h2⟩, h3⟩, h4⟩ := h
  refine ⟨h1, h2, h3, fun i hi => ?_⟩
  have := h4 i (List.mem_range.2 hi)
  unfold goodB at this
  rw [List.getElem?_eq_getElem hi] at this
  simpa using this
theorem header_parts {c : ClassL} (h : headerB c = true) : validB c.nm = true ∧ validB c.sup = true ∧ c.nm ≠ c.sup ∧ classF c.fl = true ∧ ifsB c.nm c.ifs = true ∧ 0 ≤ c.ld ∧ c.ld ≤ 9 := by
  unfold headerB at h
  simp only [Bool.and_eq_true, decide_eq_true_eq, Bool.not_eq_true', decide_eq_false_iff_not] at h
  obtain ⟨⟨⟨⟨⟨⟨⟨h1, h2⟩, h3⟩, h4⟩, h5⟩, h6⟩, h7⟩, h8⟩ := h
  exact ⟨h1, h2, h3, h4, h5, h7, h8⟩
theorem method_parts {m : MethL} {ib : Bool} (h : methodB m ib = true) : (descL m.ds).2 = 0 ∧ memberB m.nm = true ∧ methodF m.fl ib (decide (m.nm = initB)) = true ∧
    (anyF m.fl 1024 = true → m.lo = 0 ∧ m.st = 0 ∧ m.code = []) ∧ (anyF m.fl 1024 = false → (wordsL m.ds m.fl).1 ≤ m.lo ∧ m.lo ≤ 40 ∧ 0 ≤ m.st ∧ m.st ≤ 40 ∧ allOk m.code m.lo = true) := by
  unfold methodB at h
  simp only [Bool.and_eq_true, decide_eq_true_eq] at h
  obtain ⟨⟨⟨⟨h1, h2⟩, _⟩, h4⟩, h5⟩ := h
  refine ⟨h1, h2, h4, fun ha => ?_, fun ha => ?_⟩
  · rw [if_pos ha] at h5
    simp only [Bool.and_eq_true, decide_eq_true_eq] at h5
    exact ⟨h5.1.1, h5.1.2, List.eq_nil_of_length_eq_zero h5.2⟩
  · rw [if_neg (by rw [ha]; decide)] at h5
    simp only [Bool.and_eq_true, decide_eq_true_eq] at h5
    obtain ⟨⟨⟨⟨a, b⟩, c⟩, d⟩, e⟩ := h5
    exact ⟨a, b, c, d, e⟩
theorem wordsL_ok {ds : List UInt8} {fl : Int} (h : (descL ds).2 = 0) : (wordsL ds fl).2 = 0 := by
  unfold wordsL
  rw [if_pos h]
theorem ifsB_le {nm : List UInt8} {l : List (List UInt8)} (h : ifsB nm l = true) : ∀ i (hi : i < l.length), l[i].length ≤ 60 := by
  intro i hi
  unfold ifsB at h
  have := List.all_eq_true.1 h i (List.mem_range.2 hi)
  rw [List.getD_eq_getElem?_getD, List.getElem?_eq_getElem hi] at this
  unfold ifB at this
  simp only [Bool.and_eq_true] at this
  exact validB_le this.1.1
def noSuch : List UInt8 := [110, 111, 32, 115, 117, 99, 104, 47, 110, 97, 109, 101]
theorem find_noSuch {c : ClassL} (h : checkB c = true) : findL noSuch [] c.ms 0 = -1 := by
  refine findL_none _ _ _ _ fun j hj => ?_
  have hm := (method_parts ((check_parts h).2.2.2 j hj).1).2.1
  unfold hitB
  rw [decide_eq_false (fun e => by rw [e] at hm; revert hm; decide)]
  rfl
theorem allOk_each {l : List InstL} {n : Int} (h : allOk l n = true) : l.length ≤ 200 ∧ ∀ i, i ∈ l → i.ok = true := by
  unfold allOk at h
  simp only [Bool.and_eq_true, decide_eq_true_eq, List.all_eq_true] at h
  refine ⟨h.1.2, fun i hi => ?_⟩
  have := h.2 i hi
  unfold badI at this
  simp at this
  exact this.1.1
end Go.Proofs.YtjjdlgjofjfgmaaDoor
