/- The law StackPlays, walked. -/
import Derived.Test.YtgdjhbnnkadjeaaLawD
import Derived.Deep.RegionHeld3
namespace Go.Proofs.Ytgdjhbnnkadjeaa
open Go.RowKit

theorem Fix.upd1 {w w' : World} (h : Fix (fun b => b < w.heap.size) w w') : Upd w w' [] := ⟨h.os, h.tape, h.output, h.size, fun b hb _ => h.block b hb⟩

/-- What stands at place i of a script. -/
def OpAt (w : World) (bk off i : Nat) : Prop := ∃ (k a b : Int) (v : V2), w.cell? ⟨bk, off + i * 5, none⟩ = some (.int .i64 k) ∧ w.cell? ⟨bk, off + i * 5 + 1, none⟩ = some (.int .i64 a) ∧
  w.cell? ⟨bk, off + i * 5 + 2, none⟩ = some (.int .i64 b) ∧ w.cell? ⟨bk, off + i * 5 + 3, none⟩ = some (.bool v.ref) ∧ w.cell? ⟨bk, off + i * 5 + 4, none⟩ = some (.int .i64 v.n)

set_option maxHeartbeats 4000000 in
set_option maxRecDepth 100000 in
theorem plays_some (bk off n c : Nat) (w : World) (hn : n ≤ 9223372036854775807) (hbk : bk < w.heap.size) (hs : ∀ i, i < n → OpAt w bk off i) :
    Calls Try.prog 5 #[.slice (some ⟨bk, off, none⟩) n c] w fun e w' => e = .returned (.bool true) ∧ Below w.heap.size w w' := by
  have Hs := hid hs
  clear hs
  go_enter Try.func5, Try.ntmps5
  go_wp2_with fail
  refine (awake_any _).mono ?_
  rintro e w1 ⟨rfl, U1⟩
  go_wp2_with fail
  refine (pNew _).mono ?_
  rintro e w2 ⟨rfl, h2, F2⟩
  have hS : w.heap.size ≤ w1.heap.size := U1.size
  have hB2 := both_start h2 rfl
  have B2 : Below w.heap.size w (w2.alloc (.cells #[.slice none 0 0] 46)) := ((U1.trans F2.upd1).alloc _).below
  clear U1 F2 h2
  go_wp2_with fail
  go_loopw [5] (fun t wr => ∃ i : Nat, t = .int .i64 i ∧ i ≤ n ∧ (∃ s, Both (fun b => b < w1.heap.size) wr w1.heap.size w2.heap.size s s) ∧ Below w.heap.size w wr) (fun t _ => n - (intOf t).toNat)
  case atStart => exact ⟨0, rfl, by omega, ⟨[], hB2⟩, B2⟩
  case round =>
    obtain ⟨i, rfl, hi, ⟨s, hI⟩, hB⟩ := hrel
    clear hB2 B2
    by_cases hlt : i < n
    · obtain ⟨k, a, b, v, x0, x1, x2, x3, x4⟩ := Hs.out i hlt
      have z0 := (hB.cell (p := ⟨bk, off + i * 5, none⟩) hbk).trans x0
      have z1 := (hB.cell (p := ⟨bk, off + i * 5 + 1, none⟩) hbk).trans x1
      have z2 := (hB.cell (p := ⟨bk, off + i * 5 + 2, none⟩) hbk).trans x2
      have z3 := (hB.cell (p := ⟨bk, off + i * 5 + 3, none⟩) hbk).trans x3
      have z4 := (hB.cell (p := ⟨bk, off + i * 5 + 4, none⟩) hbk).trans x4
      clear x0 x1 x2 x3 x4
      go_wp2_with fail
      have hId := hid (hI.grow ((Upd.refl _ _).drewN 1))
      clear hI
      go_region_with (first
        | (go_at_call 18; refine (agrees_any _ a b v _ _ s _ k hId.out).mono ?_; rintro e w3 ⟨rfl, ⟨s', h3⟩, F3⟩; have hB3 := hB.trans (F3.drewN.below (B := w.heap.size) (fun b hb => by omega)); obtain ⟨A3, cap3, q0, ql⟩ := bX h3; have y0 := (F3.drewN.below (B := w.heap.size) (fun b hb => by omega)).cell (p := ⟨bk, off + i * 5, none⟩) hbk |>.trans z0; have y1 := (F3.drewN.below (B := w.heap.size) (fun b hb => by omega)).cell (p := ⟨bk, off + i * 5 + 1, none⟩) hbk |>.trans z1; have y2 := (F3.drewN.below (B := w.heap.size) (fun b hb => by omega)).cell (p := ⟨bk, off + i * 5 + 2, none⟩) hbk |>.trans z2; have y3 := (F3.drewN.below (B := w.heap.size) (fun b hb => by omega)).cell (p := ⟨bk, off + i * 5 + 3, none⟩) hbk |>.trans z3; have y4 := (F3.drewN.below (B := w.heap.size) (fun b hb => by omega)).cell (p := ⟨bk, off + i * 5 + 4, none⟩) hbk |>.trans z4; have h3' := hid h3; clear h3)
        | (go_at_call 12; refine (bFrames h3'.out).mono ?_; rintro e w4 ⟨rfl, rfl⟩)
        | (go_at_call 10; refine (bWords h3'.out).mono ?_; rintro e w4 ⟨rfl, rfl⟩)
        | (go_at_call 19; refine (bRWords h3'.out).mono ?_; rintro e w4 ⟨rfl, d1, rfl⟩)
        | (go_at_call 20; refine (bDepth (h3'.out.grow (by exact (Upd.refl _ _).drewN _))).mono ?_; rintro e w4 ⟨rfl, d2, rfl⟩)
        | (go_at_call 21; refine (bRDepth (h3'.out.grow (by exact (Upd.refl _ _).drewN _))).mono ?_; rintro e w4 ⟨rfl, d3, rfl⟩))
      all_goals
        go_wp2
        go_roundw
        case rel => exact ⟨i + 1, by go_num, by omega, ⟨s', h3'.out.grow ((Upd.refl _ _).drewN _)⟩, below_drewN hB3 _⟩
        case measure => simp [intOf]; omega
    · obtain rfl : i = n := by omega
      go_wp2
      go_ret
      exact ⟨rfl, hB⟩

theorem plays_none (A : Option Addr) (c : Nat) (w : World) :
    Calls Try.prog 5 #[.slice A 0 c] w fun e w' => e = .returned (.bool true) ∧ Below w.heap.size w w' := by
  go_enter Try.func5, Try.ntmps5
  go_wp2_with fail
  refine (awake_any _).mono ?_
  rintro e w1 ⟨rfl, U1⟩
  go_wp2_with fail
  refine (pNew _).mono ?_
  rintro e w2 ⟨rfl, h2, F2⟩
  have B2 : Below w.heap.size w (w2.alloc (.cells #[.slice none 0 0] 46)) := ((U1.trans F2.upd1).alloc _).below
  clear U1 F2 h2
  go_wp2_with fail
  refine wp_loop_rounds 1 ?_
  rw [rounds_succ]
  go_wp2
  go_ret
  exact ⟨rfl, B2⟩
end Go.Proofs.Ytgdjhbnnkadjeaa
