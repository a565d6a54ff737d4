/-
  SameCode at two equal lists, walked.
-/
import Derived.Test.YtjjdlgjofjfgmaaDoorAllsB
import Derived.Test.YtjjdlgjofjfgmaaDoorPlaysA
set_option linter.unusedSimpArgs false
set_option linter.unusedVariables false
namespace Go.Proofs.YtjjdlgjofjfgmaaDoor
open Go.RowKit Go.Sort

def sameCodeRel (l : List InstL) (w : World) (t : Value) (wr : World) : Prop :=
  ∃ k : Nat, t = .int .i64 k ∧ k ≤ l.length ∧ Upd w wr []

set_option maxHeartbeats 8000000 in
set_option maxRecDepth 100000 in
theorem sameCode_any (A B : Option Addr) (c1 c2 : Nat) (l : List InstL) (w : World) (hA : InstsAt w A l) (hB : InstsAt w B l) (hl : l.length ≤ 2000000000000) :
    Calls Tryd.prog 20 #[.slice A l.length c1, .slice B l.length c2] w fun e w' => e = .returned (.bool true) ∧ Upd w w' [] := by
  have HA := hid hA
  have HB := hid hB
  clear hA hB
  go_enter Tryd.func20, Tryd.ntmps20
  go_wp2
  go_loopw [5] (fun t wr => sameCodeRel l w t wr) (fun t _ => l.length - (intOf t).toNat)
  case atStart => exact ⟨0, rfl, Nat.zero_le _, Upd.refl _ _⟩
  case round =>
    obtain ⟨k, rfl, hk, hU⟩ := hrel
    by_cases hlt : k < l.length
    · have hne : l ≠ [] := by rintro rfl; simp at hlt
      obtain ⟨b1, o1, rfl, hb1, hc1⟩ := HA.out hne
      obtain ⟨b2, o2, rfl, hb2, hc2⟩ := HB.out hne
      obtain ⟨op, n, tx, r, e⟩ : ∃ op n tx r, l[k] = InstL.mk op n tx r := ⟨_, _, _, _, rfl⟩
      have hr1 : b1 < wr.heap.size := Nat.lt_of_lt_of_le hb1 hU.size
      have hr2 : b2 < wr.heap.size := Nat.lt_of_lt_of_le hb2 hU.size
      obtain ⟨x0, x1, x2, x3, x4, x5, x6⟩ := InstsAt.seven (w := wr) (fun i hi j hj => by rw [hU.cells.1 _ _ hb1]; exact hc1 i hi j hj) hlt e
      obtain ⟨y0, y1, y2, y3, y4, y5, y6⟩ := InstsAt.seven (w := wr) (fun i hi j hj => by rw [hU.cells.1 _ _ hb2]; exact hc2 i hi j hj) hlt e
      have Hs := fun w => hid (same_any ⟨op, n, tx, r⟩ ⟨op, n, tx, r⟩ w)
      unfold InstL.v InstL.cells at Hs
      rw [decide_eq_true rfl] at Hs
      simp only at Hs
      have cs := fun d os => quiet_of (W := wr) (d := d) (os := os) fun w _ => (Hs w).out
      have HS := hid cs
      clear cs hc1 hc2 HA HB e Hs
      have k0 := cell_regrown x0
      have k1 := cell_regrown x1
      have k2 := cell_regrown x2
      have k3 := cell_regrown x3
      have k4 := cell_regrown x4
      have k5 := cell_regrown x5
      have k6 := cell_regrown x6
      have l0 := cell_regrown y0
      have l1 := cell_regrown y1
      have l2 := cell_regrown y2
      have l3 := cell_regrown y3
      have l4 := cell_regrown y4
      have l5 := cell_regrown y5
      have l6 := cell_regrown y6
      go_wp2
      refine wp_region_quiet_below (by kernel_rfl) (by kernel_rfl) ?_
      repeat (any_goals (first
        | go_big_quiet_step (exact HS.out _ _)
        | quiet_step (exact HS.out _ _)))
      refine wpQuiet_nil ?_
      intro _ hw'
      obtain ⟨⟨dq, osq⟩, hw''⟩ := hw'
      subst hw''
      have hV4 : Upd wr (grow (redrawn wr dq) osq) [] := Upd.of_below (below_regrown wr dq osq) []
      have hV5 := hU.trans hV4
      revert hV5
      generalize grow (redrawn wr dq) osq = w4
      intro hV5
      go_wp2
      go_roundw
      case rel => exact ⟨k + 1, by go_num, by omega, hV5⟩
      case measure => simp [intOf]; omega
    · obtain rfl : k = l.length := by omega
      go_wp2
      go_ret
      exact ⟨rfl, hU⟩
end Go.Proofs.YtjjdlgjofjfgmaaDoor
