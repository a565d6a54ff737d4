/- The law StackWords, walked. -/
import Derived.Test.YtgdjhbnnkadjeaaLawA
namespace Go.Proofs.Ytgdjhbnnkadjeaa
open Go.RowKit

def mk (l r : Nat) : M := ⟨[], List.replicate l zero2, r⟩
theorem msum_rep (n l r : Nat) : msum (List.replicate n (mk l r)) = n * (l + r + 3) := by
  simp [msum, mk, M.words]
theorem sEnter_rep (n l r : Nat) (hl : l ≤ 40) (hr : r ≤ 40) : sEnter (List.replicate n (mk l r)) l r =
    if 4000 < n * (l + r + 3) + l + r + 3 then (List.replicate n (mk l r), 33) else (List.replicate (n + 1) (mk l r), 0) := by
  unfold sEnter
  rw [if_neg (by omega), msum_rep, List.replicate_succ']
  simp [mk]
theorem sLeave_rep (n l r : Nat) : sLeave (List.replicate (n + 1) (mk l r)) = (List.replicate n (mk l r), 0) := by
  rw [List.replicate_succ']
  simp [sLeave, onTop_snoc]

theorem Fix.upd0 {w w' : World} (h : Fix (fun b => b < w.heap.size) w w') : Upd w w' [] := ⟨h.os, h.tape, h.output, h.size, fun b hb _ => h.block b hb⟩

set_option maxHeartbeats 1000000 in
theorem words_bad (l r : Int) (w : World) (hbad : l < 0 ∨ 40 < l ∨ r < 0 ∨ 40 < r) : Calls Try.prog 3 #[.int .i64 l, .int .i64 r] w fun e w' => e = .returned (.bool true) ∧ Below w.heap.size w w' := by
  have Hb := hid hbad
  clear hbad
  go_enter Try.func3, Try.ntmps3
  go_wp2_with fail
  refine (awake_any _).mono ?_
  rintro e w1 ⟨rfl, U1⟩
  go_wp2_with fail
  refine (pNew _).mono ?_
  rintro e w2 ⟨rfl, h2, F2⟩
  have B2 : Below w.heap.size w w2 := (U1.trans F2.upd0).below
  have hS : w.heap.size ≤ w1.heap.size := U1.size
  go_wp2_with fail
  refine wp_loop_rounds 1 ?_
  rw [rounds_succ]
  go_wp2_with fail
  refine (pEnter h2 l r).mono ?_
  rintro e w3 ⟨he, h3, F3⟩
  rw [show (sEnter [] l r).2 = 2 by simp [sEnter, Hb.out]] at he
  rw [show (sEnter [] l r).1 = [] by simp [sEnter, Hb.out]] at h3
  subst he
  go_wp2_with fail
  refine (pEnter h3 l r).mono ?_
  rintro e w4 ⟨he, h4, F4⟩
  rw [show (sEnter [] l r).2 = 2 by simp [sEnter, Hb.out]] at he
  rw [show (sEnter [] l r).1 = [] by simp [sEnter, Hb.out]] at h4
  subst he
  go_wp2_with fail
  refine (pWords h4).mono ?_
  rintro e w5 ⟨he, h5, F5⟩
  rw [show msum [] = 0 from rfl] at he
  subst he
  have FF := (F3.trans F4).trans F5
  have BB := B2.trans (FF.below (B := w.heap.size) (fun b hb => by omega))
  go_wp2
  go_ret
  exact ⟨rfl, BB⟩

set_option maxHeartbeats 4000000 in
set_option maxRecDepth 100000 in
theorem words_good (l r : Nat) (w : World) (hl : l ≤ 40) (hr : r ≤ 40) : Calls Try.prog 3 #[.int .i64 l, .int .i64 r] w fun e w' => e = .returned (.bool true) ∧ Below w.heap.size w w' := by
  go_enter Try.func3, Try.ntmps3
  go_wp2_with fail
  refine (awake_any _).mono ?_
  rintro e w1 ⟨rfl, U1⟩
  go_wp2_with fail
  refine (pNew _).mono ?_
  rintro e w2 ⟨rfl, h2, F2⟩
  have B2 : Below w.heap.size w w2 := (U1.trans F2.upd0).below
  have hS : w.heap.size ≤ w1.heap.size := U1.size
  clear U1 F2
  go_wp2_with fail
  go_loopw [6] (fun t wr => ∃ n : Nat, t = .int .i64 n ∧ n * (l + r + 3) ≤ 4000 ∧ ImpP (fun b => b < w1.heap.size) wr w1.heap.size (List.replicate n (mk l r)) ∧ Below w.heap.size w wr) (fun t _ => 2000 - (intOf t).toNat)
  case atStart => exact ⟨0, rfl, by omega, h2, B2⟩
  case round =>
    obtain ⟨n, rfl, hn, hI, hB⟩ := hrel
    have hz3 : n * 3 ≤ n * (l + r + 3) := Nat.mul_le_mul_left _ (by omega)
    have hn2 : n < 2000 := by omega
    clear h2 B2
    have Hn := hid hn
    clear hn hz3
    by_cases hgo : n * (l + r + 3) + l + r + 3 ≤ 4000
    · have Hgo := hid hgo
      clear hgo
      go_wp2_with fail
      refine (pEnter hI l r).mono ?_
      rintro e w3 ⟨he, h3, F3⟩
      have hgo := Hgo.out
      rw [sEnter_rep n l r hl hr, if_neg (by omega)] at he h3
      clear hgo
      subst he
      have hB3 := hB.trans (F3.below (B := w.heap.size) (fun b hb => by omega))
      go_wp2
      go_roundw
      case rel => exact ⟨n + 1, by go_num, by have := Hgo.out; rw [Nat.add_mul]; omega, h3, hB3⟩
      case measure => simp [intOf]; omega
    · have Hgo := hid hgo
      clear hgo
      go_wp2_with fail
      refine (pEnter hI l r).mono ?_
      rintro e w3 ⟨he, h3, F3⟩
      have hgo := Hgo.out
      rw [sEnter_rep n l r hl hr, if_pos (by omega)] at he h3
      subst he
      have hB3 := hB.trans (F3.below (B := w.heap.size) (fun b hb => by omega))
      clear hI hB F3
      have hn1 : 1 ≤ n := by
        have := hgo
        rcases Nat.eq_zero_or_pos n with h0 | h0
        · subst h0; omega
        · exact h0
      clear hgo
      obtain ⟨m, hm⟩ : ∃ m : Nat, m = n * (l + r + 3) := ⟨_, rfl⟩
      have hm4 : m ≤ 4000 := by rw [hm]; exact Hn.out
      have hmz : 4000 < m + (l + r + 3) := by have := Hgo.out; rw [hm]; omega
      have em : IntKind.i64.wrap ((n : Int) * ((l : Int) + r + 3)) = m := by
        have e : ((n : Int) * ((l : Int) + r + 3)) = (m : Int) := by rw [hm]; push_cast; rfl
        rw [e]
        exact IntWalk.i64_in _ (by omega)
      have Hm := hid hm
      clear hm
      have hmz2 : ¬ ((m : Int) + ((l : Int) + r + 3) ≤ 4000) := by omega
      have hW : ∀ W : World, ImpP (fun b => b < w1.heap.size) W w1.heap.size (List.replicate n (mk l r)) → Calls Try.prog 10 #[.pointer (some ⟨w1.heap.size, 0, none⟩)] W fun e w' => e = .returned (.int .i64 m) ∧ ImpP (fun b => b < w1.heap.size) w' w1.heap.size (List.replicate n (mk l r)) ∧ Fix (fun b => b < w1.heap.size) W w' := fun W h => by
        have := pWords h
        rw [msum_rep, ← Hm.out] at this
        exact this
      have HW := hid hW
      clear hW
      go_wp2_with fail
      refine (HW.out _ h3).mono ?_
      rintro e w4 ⟨rfl, h4, F4⟩
      go_wp2_with fail
      refine (HW.out _ h4).mono ?_
      rintro e w5 ⟨rfl, h5, F5⟩
      go_wp2_with fail
      refine (HW.out _ h5).mono ?_
      rintro e w6 ⟨rfl, h6, F6⟩
      go_wp2_with fail
      refine (pEnter h6 l r).mono ?_
      rintro e w7 ⟨he, h7, F7⟩
      have hgo := Hgo.out
      rw [sEnter_rep n l r hl hr, if_pos (by omega)] at he h7
      clear hgo
      subst he
      have hB7 := hB3.trans ((((F4.trans F5).trans F6).trans F7).below (B := w.heap.size) (fun b hb => by omega))
      clear h3 h4 h5 h6 F4 F5 F6 F7 hB3 HW em hmz2
      go_wp2_with fail
      go_loopw [8] (fun t wr => ∃ k : Nat, t = .int .i64 k ∧ k ≤ n ∧ ImpP (fun b => b < w1.heap.size) wr w1.heap.size (List.replicate (n - k) (mk l r)) ∧ Below w.heap.size w wr) (fun t _ => n - (intOf t).toNat)
      case atStart => exact ⟨0, rfl, by omega, h7, hB7⟩
      case round =>
        obtain ⟨k, rfl, hk, hI, hB⟩ := hrel
        clear h7 hB7
        by_cases hlt : k < n
        · go_wp2_with fail
          refine (pLeave hI).mono ?_
          rintro e w8 ⟨he, h8, F8⟩
          rw [show n - k = (n - (k + 1)) + 1 by omega, sLeave_rep] at he h8
          subst he
          have hB8 := hB.trans (F8.below (B := w.heap.size) (fun b hb => by omega))
          go_wp2
          go_roundw
          case rel => exact ⟨k + 1, by go_num, by omega, h8, hB8⟩
          case measure => simp [intOf]; omega
        · obtain rfl : k = n := by omega
          rw [Nat.sub_self] at hI
          go_wp2_with fail
          refine (pWords hI).mono ?_
          rintro e w8 ⟨he, h8, F8⟩
          rw [show msum (List.replicate 0 (mk l r)) = 0 from rfl] at he
          subst he
          go_wp2_with fail
          refine (pFrames h8).mono ?_
          rintro e w9 ⟨he, h9, F9⟩
          rw [show (List.replicate 0 (mk l r)).length = 0 from rfl] at he
          subst he
          have hB9 := hB.trans ((F8.trans F9).below (B := w.heap.size) (fun b hb => by omega))
          go_wp2
          go_ret
          exact ⟨rfl, hB9⟩

theorem words_walk (l r : Int) (w : World) : Calls Try.prog 3 #[.int .i64 l, .int .i64 r] w fun e w' => e = .returned (.bool true) ∧ Below w.heap.size w w' := by
  by_cases hbad : l < 0 ∨ 40 < l ∨ r < 0 ∨ 40 < r
  · exact words_bad l r w hbad
  · obtain ⟨ln, rfl⟩ : ∃ n : Nat, l = n := ⟨l.toNat, by omega⟩
    obtain ⟨rn, rfl⟩ : ∃ n : Nat, r = n := ⟨r.toNat, by omega⟩
    exact words_good ln rn w (by omega) (by omega)
end Go.Proofs.Ytgdjhbnnkadjeaa
