/-
  The document's answer on instructions, walked: words, Word, Operand.
-/
import Derived.Test.YtjjdlgjofjfgmaaDoorCodeB
set_option linter.unusedSimpArgs false
set_option linter.unusedVariables false
namespace Go.Proofs.YtjjdlgjofjfgmaaDoor
open Go.RowKit

def wordCells : Array Value := (specT.map fun p => Value.string (bs p.1)).toArray
set_option maxHeartbeats 4000000 in
set_option maxRecDepth 100000 in
theorem words_any (w : World) : Calls Tryd.prog 39 #[] w fun e w' => e = .returned (.slice (some ⟨w.heap.size, 0, none⟩) 41 41) ∧ w' = w.alloc (.cells wordCells 9) := by
  have hw : ∀ cs : Array Value, cs = wordCells → w.alloc (.cells cs 9) = w.alloc (.cells wordCells 9) := by rintro cs rfl; rfl
  have Hw := hid hw
  clear hw
  go_enter Tryd.func39, Tryd.ntmps39
  go_wp2
  go_ret
  exact ⟨rfl, Hw.out _ (by kernel_rfl)⟩

theorem wordCells_at (op : Int) (h0 : 0 ≤ op) (h1 : op ≤ 40) : wordCells[op.toNat]? = some (.string (bs (wordL op))) := by
  have hl : op.toNat < specT.length := by show op.toNat < 41; omega
  unfold wordCells wordL
  rw [List.getElem?_toArray, List.getElem?_map, List.getElem?_eq_getElem hl, List.getD_eq_getElem?_getD, List.getElem?_eq_getElem hl]
  rfl

theorem wordR_any (op : Int) (w : World) : Calls Tryd.prog 11 #[.int .i64 op] w (wordPost op w) := by
  by_cases h : 1 ≤ op ∧ op ≤ 40
  · have hp : ∀ {e w'}, (e = .returned (.tuple #[.string (bs (wordL op)), .int .i64 0]) ∧ Upd w w' []) → wordPost op w e w' := fun {e w'} h2 => by unfold wordPost; rw [knownB_yes h]; exact h2
    have Hp := fun e w' => hid (@hp e w')
    have hc := hid (wordCells_at op (by omega) h.2)
    obtain ⟨n, rfl⟩ := Int.eq_ofNat_of_zero_le (show 0 ≤ op by omega)
    rw [Int.toNat_natCast] at hc
    have h1 : ¬ n < 1 := by omega
    have h2 : ¬ 40 < n := by omega
    have h3 : n < 41 := by omega
    generalize wordL (n : Int) = wd at hc Hp
    clear hp h
    go_enter Tryd.func11, Tryd.ntmps11
    go_wp2_with fail
    refine (words_any w).mono ?_
    rintro e w1 ⟨rfl, rfl⟩
    have hcell : (w.alloc (.cells wordCells 9)).cell? ⟨w.heap.size, n, none⟩ = some (.string (bs wd)) := by
      rw [(Blk.new w _ _).cell]
      exact hc.out
    have hU : Upd w (w.alloc (.cells wordCells 9)) [] := (Upd.refl _ _).alloc _
    revert hcell hU
    generalize w.alloc (.cells wordCells 9) = w1
    intro hcell hU
    go_wp2
    go_ret2
    exact (Hp _ _).out ⟨rfl, hU⟩
  · have hp : ∀ {e w'}, (e = .returned (.tuple #[.string (bs []), .int .i64 2]) ∧ Upd w w' []) → wordPost op w e w' := fun {e w'} h2 => by unfold wordPost; rw [knownB_no h]; exact h2
    have Hp := fun e w' => hid (@hp e w')
    clear hp
    by_cases h1 : op < 1
    · clear h
      go_enter Tryd.func11, Tryd.ntmps11
      go_wp2
      go_ret2
      exact (Hp _ _).out ⟨rfl, Upd.refl _ _⟩
    · have h2 : 40 < op := by omega
      clear h
      go_enter Tryd.func11, Tryd.ntmps11
      go_wp2
      go_ret2
      exact (Hp _ _).out ⟨rfl, Upd.refl _ _⟩

theorem ret_int {k : IntKind} {a b : Int} (h : a = b) : Ending.returned (.int k a) = .returned (.int k b) := by rw [h]
theorem kindL_val (op k : Int) (h0 : 1 ≤ op) (h1 : op ≤ 40) (h : (specT.getD op.toNat ([], 0)).2 = k) : kindL op = k := by
  unfold kindL
  rw [if_pos ⟨h0, h1⟩, h]
theorem kindL_zero (op : Int) (h0 : 1 ≤ op) (h1 : op ≤ 40) (h : ¬ (op = 1 ∨ op = 2 ∨ op = 3 ∨ op = 4 ∨ op = 5 ∨ op = 11 ∨ op = 12 ∨ op = 13 ∨ op = 14 ∨ op = 15 ∨ op = 16 ∨ op = 17 ∨ op = 18 ∨ op = 22 ∨ op = 30 ∨ op = 31 ∨ op = 23 ∨ op = 24 ∨ op = 32 ∨ op = 33 ∨ op = 34 ∨ op = 35)) : kindL op = 0 := by
  have hd : ∀ n : Fin 41, (n.val = 0 ∨ n.val = 1 ∨ n.val = 2 ∨ n.val = 3 ∨ n.val = 4 ∨ n.val = 5 ∨ n.val = 11 ∨ n.val = 12 ∨ n.val = 13 ∨ n.val = 14 ∨ n.val = 15 ∨ n.val = 16 ∨ n.val = 17 ∨ n.val = 18 ∨ n.val = 22 ∨ n.val = 30 ∨ n.val = 31 ∨ n.val = 23 ∨ n.val = 24 ∨ n.val = 32 ∨ n.val = 33 ∨ n.val = 34 ∨ n.val = 35) ∨ (specT.getD n.val ([], 0)).2 = 0 := by decide
  have := hd ⟨op.toNat, by omega⟩
  refine kindL_val op 0 h0 h1 ?_
  simp only at this
  omega

set_option maxHeartbeats 4000000 in
set_option maxRecDepth 100000 in
theorem operandR_any (op : Int) (w : World) : Calls Tryd.prog 13 #[.int .i64 op] w fun e w' => e = .returned (.int .i64 (kindL op)) ∧ w = w' := by
  obtain ⟨k, hk⟩ : ∃ k, kindL op = k := ⟨_, rfl⟩
  rw [hk]
  have Hk := hid hk
  clear hk
  go_enter Tryd.func13, Tryd.ntmps13
  go_wp2
  all_goals
    go_ret
    refine ⟨ret_int ?_, rfl⟩
    rw [← Hk.out]
    clear Hk
    try simp only [beq_iff_eq, beq_eq_false_iff_ne] at *
  all_goals first
    | (subst_vars; decide)
    | (unfold kindL; rw [if_neg (by omega)])
    | (symm; exact kindL_zero op (by omega) (by omega) (by omega))
    | trace_state
end Go.Proofs.YtjjdlgjofjfgmaaDoor
