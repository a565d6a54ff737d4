/- awake; the nil stack. -/
import Derived.Test.YtgdjhbnnkadjeaaStepF
namespace Go.Proofs.Ytgdjhbnnkadjeaa
open Go.RowKit
theorem pNew (w : World) : Calls Try.prog 8 #[] w fun e w' => e = .returned (.pointer (some ⟨w.heap.size, 0, none⟩)) ∧ ImpP (fun b => b < w.heap.size) w' w.heap.size [] ∧ Fix (fun b => b < w.heap.size) w w' :=
  (iNew w).mono fun e w' ⟨he, hs, hU⟩ => ⟨he, ⟨_, _, hs, rfl, fun b hb => ⟨Nat.lt_of_lt_of_le hb hU.size, by simp [fpI, vb, Value.ob, Value.ownBlock]; omega⟩⟩, Fix.of_upd hU fun b hb => ⟨hb, by simp⟩⟩

theorem awake_any (w : World) : Calls Try.prog 7 #[] w fun e w' => e = .returned (.bool true) ∧ Upd w w' [] := by
  go_enter Try.func7, Try.ntmps7
  go_wp2_with fail
  refine (pNew _).mono ?_
  rintro e w1 ⟨rfl, h1, F1⟩
  go_wp2_with fail
  refine (pEnter h1 2 1).mono ?_
  rintro e w2 ⟨he, h2, F2⟩
  rw [show (sEnter [] 2 1).2 = 0 from rfl] at he
  rw [show (sEnter [] 2 1).1 = [⟨[], [zero2, zero2], 1⟩] from rfl] at h2
  subst he
  have F2' := F1.trans F2
  clear F1 F2 h1
  go_wp2_with fail
  refine (pPut h2 ⟨false, 5⟩).mono ?_
  rintro e w3 ⟨he, h3, F3⟩
  rw [show (sPut [⟨[], [zero2, zero2], 1⟩] ⟨false, 5⟩).2 = 0 from rfl] at he
  rw [show (sPut [⟨[], [zero2, zero2], 1⟩] ⟨false, 5⟩).1 = [⟨[⟨false, 5⟩], [zero2, zero2], 1⟩] from rfl] at h3
  subst he
  have F3' := F2'.trans F3
  clear F2' F3 h2
  go_wp2_with fail
  refine (pWords h3).mono ?_
  rintro e w4 ⟨he, h4, F4⟩
  rw [show msum [⟨[⟨false, 5⟩], [zero2, zero2], 1⟩] = 6 from rfl] at he
  subst he
  have F4' := F3'.trans F4
  clear F3' F4 h3 h4
  go_wp2
  go_ret
  exact ⟨rfl, ⟨F4'.os, F4'.tape, F4'.output, F4'.size, fun b hb _ => F4'.block b hb⟩⟩

set_option maxHeartbeats 1000000 in
theorem nil_walk (w : World) : Calls Try.prog 6 #[] w fun e w' => e = .returned (.bool true) ∧ Below w.heap.size w w' := by
  go_enter Try.func6, Try.ntmps6
  go_wp2_with fail
  refine (awake_any _).mono ?_
  rintro e w1 ⟨rfl, U1⟩
  go_wp2_with fail
  refine (Take_nil _).mono ?_
  rintro e w2 ⟨rfl, U2⟩
  go_wp2_with fail
  refine (Peek_nil _ _).mono ?_
  rintro e w3 ⟨rfl, U3⟩
  go_wp2_with fail
  refine (Local_err _ 0 2 _ (by decide) (fun o => same_drew (local_nil _ _))).mono ?_
  rintro e w4 ⟨rfl, U4⟩
  go_wp2_with fail
  refine (Enter_nil _ _ _).mono ?_
  rintro e w5 ⟨rfl, U5⟩
  go_wp2_with fail
  refine (leave_nil _).mono ?_
  rintro e w6 ⟨rfl, rfl⟩
  go_wp2_with fail
  refine (put_nil zero2 _).mono ?_
  rintro e w7 ⟨rfl, U7⟩
  go_wp2_with fail
  refine (SetLocal_err _ 0 2 zero2 _ (by decide) (fun o => same_drew (local_nil _ _))).mono ?_
  rintro e w8 ⟨rfl, U8⟩
  go_wp2_with fail
  refine (Frames_nil _).mono ?_
  rintro e w9 ⟨rfl, U9⟩
  go_wp2_with fail
  refine (Words_nil _).mono ?_
  rintro e w10 ⟨rfl, U10⟩
  go_wp2_with fail
  refine (Depth_nil _).mono ?_
  rintro e w11 ⟨rfl, U11⟩
  go_wp2
  go_ret
  exact ⟨rfl, ((((((((U1.trans ((U2.alloc _))).trans (U3.alloc _)).trans (U4.alloc _)).trans U5).trans (U7.trans U8)).trans U9).trans U10).trans U11).below⟩
end Go.Proofs.Ytgdjhbnnkadjeaa
