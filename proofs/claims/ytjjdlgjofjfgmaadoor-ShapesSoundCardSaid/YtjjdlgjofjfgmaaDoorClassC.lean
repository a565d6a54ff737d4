/-
  shapes.header, walked.
-/
import Derived.Test.YtjjdlgjofjfgmaaDoorClassB
set_option linter.unusedSimpArgs false
set_option linter.unusedVariables false
namespace Go.Proofs.YtjjdlgjofjfgmaaDoor
open Go.RowKit

/-- A slice at A reads as these strings. -/
def StrsAt (w : World) (A : Option Addr) (l : List (List UInt8)) : Prop :=
  l ≠ [] → ∃ bk off, A = some ⟨bk, off, none⟩ ∧ bk < w.heap.size ∧ ∀ i (h : i < l.length), w.cell? ⟨bk, off + i, none⟩ = some (.string (bs l[i]))
theorem StrsAt.upd {w w' : World} {A : Option Addr} {l : List (List UInt8)} (h : StrsAt w A l) (u : Upd w w' []) : StrsAt w' A l := by
  intro hl
  obtain ⟨bk, off, e, hb, hc⟩ := h hl
  refine ⟨bk, off, e, Nat.lt_of_lt_of_le hb u.size, fun i hi => ?_⟩
  rw [u.cells.1 _ _ hb]
  exact hc i hi

theorem contains_any (A : Option Addr) (cap : Nat) (l : List (List UInt8)) (k : Nat) (x : List UInt8) (w : World) (hA : StrsAt w A l) (hk : k ≤ l.length) (hl : l.length ≤ 9000000000000) :
    Calls Tryd.prog 88 #[.slice A k cap, .string (bs x)] w fun e w' => e = .returned (.bool (decide (x ∈ l.take k))) ∧ w = w' := by
  rcases Nat.eq_zero_or_pos k with rfl | hpos
  · refine (Tryd.slices_Contains_string_empty A cap (bs x) w).mono ?_
    rintro e w' ⟨rfl, rfl⟩
    exact ⟨bool_ret (by simp), rfl⟩
  · have hne : l ≠ [] := by rintro rfl; simp at hk; omega
    obtain ⟨bk, off, rfl, hb, hc⟩ := hA hne
    refine (Tryd.slices_Contains_string bk off k cap (l.map bs) (bs x) w (by simpa using hk) (by omega) (fun j hj => ?_)).mono ?_
    · have hj' : j < l.length := by simpa using hj
      rw [hc j hj']
      simp [List.getD, hj']
    · rintro e w' ⟨rfl, rfl⟩
      refine ⟨bool_ret ?_, rfl⟩
      rw [Bool.eq_iff_iff, Lib.containsS_iff, decide_eq_true_eq, ← List.map_take, List.mem_map]
      exact ⟨fun ⟨a, ha, he⟩ => by rw [← bs_inj he]; exact ha, fun h => ⟨x, h, rfl⟩⟩
end Go.Proofs.YtjjdlgjofjfgmaaDoor
