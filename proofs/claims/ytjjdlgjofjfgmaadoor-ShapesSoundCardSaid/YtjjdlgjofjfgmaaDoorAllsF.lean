/-
  A slice of instructions that comes in, opened.
-/
import Derived.Test.YtjjdlgjofjfgmaaDoorRowOpen
import Derived.Test.YtjjdlgjofjfgmaaDoorAllsA
import Derived.Deep.Slices
import Derived.SizedLaws
import Derived.Carry
set_option linter.unusedSimpArgs false
set_option linter.unusedVariables false
namespace Go.Proofs.YtjjdlgjofjfgmaaDoor
open Go.ChangeShapes Go.WideShapes Go.ChangeAt Go.RowKit Go.Deep

theorem nospot {w : World} {a : Addr} {v : Value} (h : w.cell? a = some v) : a.spot = none := by
  unfold World.cell? at h
  split at h
  · split at h
    · cases h
    · rename_i hs; simpa using hs
  · cases h
theorem add_at {a : Addr} (ha : a.spot = none) (i : Nat) : a.add i = ⟨a.block, a.off + i, none⟩ := by
  obtain ⟨b, o, s⟩ := a
  simp only at ha
  subst ha
  unfold Addr.add
  split
  · rename_i h; simp [h]
  · rfl
theorem pick_each {α : Type} (z : α) {n : Nat} {P : Nat → α → Prop} (h : ∀ i, i < n → ∃ x, P i x) : ∃ f : Nat → α, ∀ i, i < n → P i (f i) :=
  ⟨fun i => if hi : i < n then (h i hi).choose else z, fun i hi => by simp only [hi, dite_true]; exact (h i hi).choose_spec⟩

set_option maxRecDepth 100000 in
theorem open_insts {H : Type} {enc : TypeId × Value → H} {W : World} {base : Nat} {v : Value} {d : DataW H} {p : List MemPlace} (hv : Value.okWide Tryd.prog W .any base 34 v)
    (h : DataW.Trod enc Tryd.prog W 0 (fun _ => true) true 34 v d p) :
    ∃ A l c, v = .slice A l.length c ∧ InstsAt W A l ∧ (∀ i, i ∈ l → i.fit) ∧ (∀ i, i ∈ l → i.num) ∧ (l = [] ∨ ∃ D Pl, d = .slice D Pl ∧ D.length = l.length) := by
  obtain ⟨a0, len0, cap0, rfl⟩ := okWide_slice Tryd.underlying34 hv
  obtain ⟨fuel, hf⟩ := h
  rcases open_slice Tryd.underlying34 hf with ⟨hcs, hx⟩ | ⟨a, len, cap, m, n, D, Pl, hcs, hb, hl, hm, hmm, hx, hi⟩
  · simp [Value.cells] at hcs
    obtain ⟨rfl, rfl, rfl⟩ := hcs
    exact ⟨none, [], 0, rfl, fun h => absurd rfl h, by simp, by simp, .inl rfl⟩
  · simp [Value.cells] at hcs
    obtain ⟨rfl, rfl, rfl⟩ := hcs
    simp only [if_true] at hmm
    subst hmm
    rw [cells_Inst] at hi
    have key : ∀ i, i < len0 → ∃ x : InstL, (∀ j, j < 7 → W.cell? ((a.add (i * 7)).add j) = x.cells[j]?) ∧ x.fit ∧ x.num := by
      intro i hil
      obtain ⟨cs', hc, ht⟩ := hi i (by omega)
      obtain ⟨_, hcl, hat⟩ := World.cells?_some hc
      obtain ⟨x, rfl, hfit, hnum⟩ := inst_of_trod ht
      exact ⟨x, fun j hj => by rw [hat j hj, Array.getElem?_toList], hfit, hnum⟩
    obtain ⟨f, hfx⟩ := pick_each ⟨0, 0, [], noRefL⟩ key
    have hmem : ∀ x, x ∈ (List.range len0).map f → ∃ i, i < len0 ∧ x = f i := by
      intro x hx
      obtain ⟨i, hi, rfl⟩ := List.mem_map.1 hx
      exact ⟨i, List.mem_range.1 hi, rfl⟩
    have hx1 := congrArg Prod.fst hx
    simp only at hx1
    refine ⟨some a, (List.range len0).map f, m, by simp, ?_, fun x hx => ?_, fun x hx => ?_, .inr ⟨_, _, hx1, by simp⟩⟩
    · intro hne
      have hpos : 0 < len0 := by
        rcases Nat.eq_zero_or_pos len0 with h0 | h0
        · subst h0; simp at hne
        · exact h0
      have hs : a.spot = none := by
        have := (hfx 0 hpos).1 0 (by omega)
        simp [Addr.add, InstL.cells] at this
        exact nospot this
      have hcell : ∀ i, i < len0 → ∀ j, j < 7 → W.cell? ⟨a.block, a.off + i * 7 + j, none⟩ = (f i).cells[j]? := by
        intro i hil j hj
        have := (hfx i hil).1 j hj
        rw [add_at hs, add_at rfl] at this
        exact this
      refine ⟨a.block, a.off, ?_, ?_, fun i hi j hj => ?_⟩
      · obtain ⟨b, o, s⟩ := a; simp only at hs; rw [hs]
      · have := hcell 0 hpos 0 (by omega)
        exact World.block_lt_of_cell? W ⟨a.block, _, none⟩ this
      · simp only [List.length_map, List.length_range] at hi
        rw [hcell i hi j hj]
        simp
    · obtain ⟨i, hi, rfl⟩ := hmem x hx
      exact (hfx i hi).2.1
    · obtain ⟨i, hi, rfl⟩ := hmem x hx
      exact (hfx i hi).2.2

theorem bytes_Inst : Tryd.prog.bytesOf 25 = 88 := by kernel_rfl
/-- The list's size, of what the row says of an argument's reach. -/
theorem insts_size {H : Type} {ts : List TypeId} {ds : List (DataW H)} (hsz : (DataW.weightsEach Tryd.prog ts ds).all (· ≤ reachBytes) = true) {j : Nat} {d : DataW H} {l : List InstL} (ht : ts[j]? = some 34) (hd : ds[j]? = some d)
    (h : l = [] ∨ ∃ D Pl, d = .slice D Pl ∧ D.length = l.length) : l.length * 88 ≤ 140737488351232 := by
  rcases h with rfl | ⟨D, Pl, rfl, hD⟩
  · simp
  · have := sized_slice hsz ht hd Tryd.underlying34
    rw [bytes_Inst, hD] at this
    simp only [reachBytes] at this
    omega
end Go.Proofs.YtjjdlgjofjfgmaaDoor
