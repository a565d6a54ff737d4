/-
  The laws' own awake: Print of one small class; Print of every class.
-/
import Derived.Test.YtjjdlgjofjfgmaaDoorPrintB
set_option linter.unusedSimpArgs false
set_option linter.unusedVariables false
namespace Go.Proofs.YtjjdlgjofjfgmaaDoor
open Go.RowKit

theorem print5_any (c : ClassL) (w : World) (hf : c.fit w) (hr : Rdy w) :
    Calls Tryd.prog 55 #[c.v] w fun e w' => e = .returned (.tuple #[.string (bs (if checkB c then printL c else [])), .int .i64 (errIf (checkB c))]) ∧ Upd w w' [] := by
  cases hb : checkB c with
  | true => exact print5_ok c w hf hr hb
  | false => exact print5_bad c w hf hr hb

def smallC : ClassL := ⟨[65], [79, 98, 106, 101, 99, 116], none, 0, [], 0, 0, none, 0, []⟩
theorem small_fit (w : World) : smallC.fit w :=
  ⟨by simp [smallC], by simp [smallC], fun h => absurd rfl h, by simp [smallC], by simp [smallC], by simp [smallC], fun h => absurd rfl h, by simp [smallC], by simp [smallC], by simp [smallC], by simp [smallC], by simp [smallC]⟩
theorem small_ok : checkB smallC = true := by decide +kernel
theorem small_text : printL smallC = [99, 108, 97, 115, 115, 32, 65, 10, 115, 117, 112, 101, 114, 32, 79, 98, 106, 101, 99, 116, 10, 102, 108, 97, 103, 115, 10, 108, 111, 97, 100, 101, 114, 32, 48, 10, 101, 110, 100, 10] := by decide +kernel

set_option maxRecDepth 100000 in
theorem awake5_any (w : World) (hr : Rdy w) : Calls Tryd.prog 27 #[] w fun e w' => e = .returned (.bool true) ∧ Upd w w' [] := by
  have Hp := fun w (hr : Rdy w) => hid (print5_ok smallC w (small_fit w) hr small_ok)
  rw [small_text] at Hp
  go_enter Tryd.func27, Tryd.ntmps27
  go_wp2_with fail
  refine (Hp _ hr).out.mono ?_
  rintro e w1 ⟨rfl, hU1⟩
  have HU1 := hid hU1
  clear hU1
  go_wp2
  go_ret
  exact ⟨bool_ret (by rw [bs_toList]; decide), HU1.out⟩
end Go.Proofs.YtjjdlgjofjfgmaaDoor
