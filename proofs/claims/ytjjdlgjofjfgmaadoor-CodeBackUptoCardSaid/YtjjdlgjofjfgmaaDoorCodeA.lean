/-
  Package code, walked: known, Word, Operand.
-/
import Derived.Test.YtjjdlgjofjfgmaaDoorCodeS
import Derived.Test.YtjjdlgjofjfgmaaDoorTypesE
set_option linter.unusedSimpArgs false
set_option linter.unusedVariables false
namespace Go.Proofs.YtjjdlgjofjfgmaaDoor
open Go.RowKit

/-- The word and the kind of operand of an instruction. -/
def wordL (op : Int) : List UInt8 := (specT.getD op.toNat ([], 0)).1
def kindL (op : Int) : Int := if 1 ≤ op ∧ op ≤ 40 then ((specT.getD op.toNat ([], 0)).2 : Nat) else -1
def knownB (op : Int) : Bool := decide (1 ≤ op ∧ op ≤ 40)

theorem flat_extract (a b : List UInt8 × Nat → Value) : ∀ (L : List (List UInt8 × Nat)) (n : Nat), n < L.length →
    (L.flatMap fun p => [a p, b p]).toArray.extract (n * 2) (n * 2 + 2) = #[a (L.getD n ([], 0)), b (L.getD n ([], 0))] := by
  intro L
  induction L with
  | nil => intro n h; simp at h
  | cons p t ih =>
    intro n h
    cases n with
    | zero => simp
    | succ n =>
      have := ih n (by simpa using h)
      simp only [List.extract_toArray, List.flatMap_cons] at this ⊢
      rw [show (n + 1) * 2 = n * 2 + 2 by omega]
      simpa [List.drop_append, Nat.add_sub_cancel] using this

theorem run_spec (op : Int) (h0 : 0 ≤ op) (h1 : op ≤ 40) (w : World) :
    (Instr.index 65 (.agg specCells) (.int .i64 op)).run Tryd.prog w = .ok (.agg #[.string (bs (wordL op)), .int .i64 ((specT.getD op.toNat ([], 0)).2 : Nat)]) w := by
  have hx : specCells.extract (op.toNat * 2) (op.toNat * 2 + 2) = #[.string (bs (wordL op)), .int .i64 ((specT.getD op.toNat ([], 0)).2 : Nat)] :=
    flat_extract (fun p => Value.string (bs p.1)) (fun p => Value.int .i64 p.2) specT op.toNat (by show op.toNat < 41; omega)
  have hs : ∀ w, (sizeOf 64).run Tryd.prog w = .ok 2 w := fun w => by kernel_rfl
  have ha : ∀ w, (isAgg 64).run Tryd.prog w = .ok true w := fun w => by kernel_rfl
  simp only [Instr.index, asIntOf, Sem.run_bind, Sem.run_pure, Result.andThen, run_underlying (Tryd.underlying65)]
  rw [if_pos ⟨h0, by omega⟩]
  simp [part, Sem.run_bind, Result.andThen, hs, ha, hx]

/-- The table, asked at one place. -/
theorem specs_at (op : Int) (h0 : 0 ≤ op) (h1 : op ≤ 40) (w : World) : Calls Tryd.prog 38 #[] w fun e w' => ∃ S, e = .returned (.agg S) ∧
    (∀ w, (Instr.index 65 (.agg S) (.int .i64 op)).run Tryd.prog w = .ok (.agg #[.string (bs (wordL op)), .int .i64 ((specT.getD op.toNat ([], 0)).2 : Nat)]) w) ∧ Upd w w' [] :=
  (specs_any w).mono fun _ _ h => ⟨specCells, h.1, run_spec op h0 h1, h.2⟩

theorem field_spec0 (a b : Value) (w : World) : (Instr.field 64 (.agg #[a, b]) 0).run Tryd.prog w = .ok a w := by kernel_rfl
theorem field_spec1 (a b : Value) (w : World) : (Instr.field 64 (.agg #[a, b]) 1).run Tryd.prog w = .ok b w := by kernel_rfl

theorem known_any (op : Int) (w : World) : Calls Tryd.prog 37 #[.int .i64 op] w fun e w' => e = .returned (.bool (knownB op)) ∧ Upd w w' [] := by
  have Hs := hid (specs_any w)
  by_cases h : 1 ≤ op
  · go_enter Tryd.func37, Tryd.ntmps37
    go_wp2_with fail
    refine Hs.out.mono ?_
    rintro e w1 ⟨rfl, hU⟩
    go_wp2
    go_ret
    exact ⟨bool_ret (by unfold knownB; rw [decide_eq_decide]; omega), hU⟩
  · go_enter Tryd.func37, Tryd.ntmps37
    go_wp2
    go_ret
    exact ⟨bool_ret (by unfold knownB; rw [eq_comm, decide_eq_false_iff_not]; omega), Upd.refl _ _⟩

theorem knownB_yes {op : Int} (h : 1 ≤ op ∧ op ≤ 40) : knownB op = true := by unfold knownB; exact decide_eq_true h
theorem knownB_no {op : Int} (h : ¬ (1 ≤ op ∧ op ≤ 40)) : knownB op = false := by unfold knownB; exact decide_eq_false h

set_option maxRecDepth 100000 in
theorem operand_any (op : Int) (w : World) : Calls Tryd.prog 12 #[.int .i64 op] w fun e w' => e = .returned (.int .i64 (kindL op)) ∧ Upd w w' [] := by
  have Hk := hid (known_any op w)
  by_cases h : 1 ≤ op ∧ op ≤ 40
  · rw [knownB_yes h] at Hk
    have Hs := fun w => hid (specs_at op (by omega) h.2 w)
    have hk : kindL op = ((specT.getD op.toNat ([], 0)).2 : Nat) := by unfold kindL; rw [if_pos h]
    rw [hk]
    clear hk h
    generalize (specT.getD op.toNat ([], 0)).2 = k at Hs
    generalize wordL op = wd at Hs
    go_enter Tryd.func12, Tryd.ntmps12
    go_wp2_with fail
    refine Hk.out.mono ?_
    rintro e w1 ⟨rfl, hU⟩
    go_wp2_with fail
    refine (Hs _).out.mono ?_
    rintro e w2 ⟨S, rfl, hr, hU2⟩
    have hf := field_spec1
    go_wp2
    go_ret
    exact ⟨rfl, hU.trans hU2⟩
  · rw [knownB_no h] at Hk
    have hk : kindL op = -1 := by unfold kindL; rw [if_neg h]
    rw [hk]
    clear hk h
    go_enter Tryd.func12, Tryd.ntmps12
    go_wp2_with fail
    refine Hk.out.mono ?_
    rintro e w1 ⟨rfl, hU⟩
    go_wp2
    go_ret
    exact ⟨rfl, hU⟩

/-- The word of an instruction and the error. -/
def wordPost (op : Int) (w : World) (e : Ending) (w' : World) : Prop :=
  (e = if knownB op then .returned (.tuple #[.string (bs (wordL op)), .int .i64 0]) else .returned (.tuple #[.string (bs []), .int .i64 2])) ∧ Upd w w' []
set_option maxRecDepth 100000 in
theorem word_any (op : Int) (w : World) : Calls Tryd.prog 10 #[.int .i64 op] w (wordPost op w) := by
  have Hk := hid (known_any op w)
  by_cases h : 1 ≤ op ∧ op ≤ 40
  · rw [knownB_yes h] at Hk
    have Hs := fun w => hid (specs_at op (by omega) h.2 w)
    have hp : ∀ {e w'}, (e = .returned (.tuple #[.string (bs (wordL op)), .int .i64 0]) ∧ Upd w w' []) → wordPost op w e w' := fun {e w'} h2 => by unfold wordPost; rw [knownB_yes h]; exact h2
    clear h
    generalize (specT.getD op.toNat ([], 0)).2 = k at Hs
    generalize wordL op = wd at Hs hp
    have Hp := fun e w' => hid (@hp e w')
    clear hp
    go_enter Tryd.func10, Tryd.ntmps10
    go_wp2_with fail
    refine Hk.out.mono ?_
    rintro e w1 ⟨rfl, hU⟩
    go_wp2_with fail
    refine (Hs _).out.mono ?_
    rintro e w2 ⟨S, rfl, hr, hU2⟩
    have hf := field_spec0
    go_wp2
    go_ret2
    exact (Hp _ _).out ⟨rfl, hU.trans hU2⟩
  · rw [knownB_no h] at Hk
    have hp : ∀ {e w'}, (e = .returned (.tuple #[.string (bs []), .int .i64 2]) ∧ Upd w w' []) → wordPost op w e w' := fun {e w'} h2 => by unfold wordPost; rw [knownB_no h]; exact h2
    have Hp := fun e w' => hid (@hp e w')
    clear hp h
    go_enter Tryd.func10, Tryd.ntmps10
    go_wp2_with fail
    refine Hk.out.mono ?_
    rintro e w1 ⟨rfl, hU⟩
    go_wp2
    go_ret2
    exact (Hp _ _).out ⟨rfl, hU⟩
end Go.Proofs.YtjjdlgjofjfgmaaDoor
