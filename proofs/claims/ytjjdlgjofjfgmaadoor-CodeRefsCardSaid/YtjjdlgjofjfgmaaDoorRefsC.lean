/-
  The law CodeRefs, walked.
-/
import Derived.Test.YtjjdlgjofjfgmaaDoorRefsB
import Derived.Test.YtjjdlgjofjfgmaaDoorPlaysA
import Derived.Test.YtjjdlgjofjfgmaaDoorAllsB
set_option linter.unusedSimpArgs false
set_option linter.unusedVariables false
namespace Go.Proofs.YtjjdlgjofjfgmaaDoor
open Go.RowKit Go.Sort

set_option maxHeartbeats 8000000 in
set_option maxRecDepth 1000000 in
theorem codeRefs_walk (r : RefL) (w : World) (hr : r.fit) (hm : Rdy w) : Calls Tryd.prog 6 #[r.v] w fun e w' => e = .returned (.bool true) ∧ Upd w w' [] := by
  have Haw := fun w hm => hid (awake_any w hm)
  have HpA := fun w hm => hid (refText_any r w hr hm)
  have HpB := fun w => hid (refTextR_any r w hr)
  have HcC := fun w hm => hid (refCheck_any r w hr hm)
  have HcD := fun w => hid (refCheckR_any r w hr)
  have HT := fun (h : r.ok = true) w hm => hid (parseRefText_any r w hr h hm)
  have HS := fun w => hid (sameRef_any r r w)
  rw [decide_eq_true rfl] at HS
  unfold refTextPost at HpA HpB
  unfold refPost at HcC HcD
  cases hok : r.ok
  · rw [hok] at HpA HpB HcC HcD
    clear HT
    obtain ⟨ifc, cls, nm, ds⟩ := r
    simp only [errIf, if_true, Bool.false_eq_true, if_false] at HpA HpB HcC HcD
    unfold RefL.v at HpA HpB HcC HcD HS ⊢
    simp only at HpA HpB HcC HcD HS ⊢
    have hU0 : Upd w (w.alloc (.cells #[.bool ifc, .string (bs cls), .string (bs nm), .string (bs ds)] 23)) [] := (Upd.refl _ _).alloc _
    clear hr
    go_enter Tryd.func6, Tryd.ntmps6
    go_wp2_with fail
    refine (Haw _ (hm.upd hU0)).out.mono ?_
    rintro e w1 ⟨rfl, hU1⟩
    obtain ⟨hc1, hf1, hz1⟩ := hU1.cells
    have hz1' : w.heap.size < w1.heap.size := by simp at hz1; omega
    go_wp2_with fail
    refine (HpA _ ((hm.upd hU0).upd hU1).max).out.mono ?_
    rintro e w2 ⟨rfl, hU2⟩
    have hV2 := hU1.trans hU2
    clear hc1 hf1 hz1 hz1'
    obtain ⟨hc1, hf1, hz1⟩ := hV2.cells
    have hz1' : w.heap.size < w2.heap.size := by simp at hz1; omega
    go_wp2_with fail
    refine (HpB _).out.mono ?_
    rintro e w3 ⟨rfl, hU3⟩
    have hV3 := hV2.trans hU3
    clear hc1 hf1 hz1 hz1'
    have hbox := hV3.blk (Blk.new w _ _) (by simp)
    have x0 := hbox.cell 0
    have x1 := hbox.cell 1
    have x2 := hbox.cell 2
    have x3 := hbox.cell 3
    simp at x0 x1 x2 x3
    have k0 := cell_regrown x0
    have k1 := cell_regrown x1
    have k2 := cell_regrown x2
    have k3 := cell_regrown x3
    have mx : MaxLenAt w3 := ((hm.upd hU0).upd hV3).max
    have cC := fun d os => quiet_of (W := w3) (d := d) (os := os) fun w hu => (HcC w (mx.upd hu (by simp))).out
    have cD := fun d os => quiet_of (W := w3) (d := d) (os := os) fun w _ => (HcD w).out
    have HC := hid cC
    have HD := hid cD
    clear cC cD
    go_wp2
    refine wp_region_quiet_below (by kernel_rfl) (by kernel_rfl) ?_
    repeat (any_goals (first
      | go_big_quiet_step (first | exact HC.out _ _ | exact HD.out _ _)
      | quiet_step (first | exact HC.out _ _ | exact HD.out _ _)))
    refine wpQuiet_nil ?_
    intro _ hw'
    obtain ⟨⟨dq, osq⟩, hw''⟩ := hw'
    subst hw''
    have hV4 : Upd w3 (grow (redrawn w3 dq) osq) [] := Upd.of_below (below_regrown w3 dq osq) []
    have hV5 := hV3.trans hV4
    revert hV5
    generalize grow (redrawn w3 dq) osq = w4
    intro hV5
    clear hV4 x0 x1 x2 x3 k0 k1 k2 k3
    go_wp2
    go_ret
    exact ⟨rfl, hU0.trans hV5⟩
  · rw [hok] at HpA HpB HcC HcD
    have HT' := fun w hm => hid (HT hok w hm).out
    clear HT
    obtain ⟨ifc, cls, nm, ds⟩ := r
    simp only [errIf, if_true, Bool.false_eq_true, if_false] at HpA HpB HcC HcD
    unfold RefL.v at HpA HpB HcC HcD HS ⊢
    simp only at HpA HpB HcC HcD HS ⊢
    unfold RefL.v at HT'
    simp only at HT'
    generalize (RefL.mk ifc cls nm ds).text = tx at *
    have hU0 : Upd w (w.alloc (.cells #[.bool ifc, .string (bs cls), .string (bs nm), .string (bs ds)] 23)) [] := (Upd.refl _ _).alloc _
    clear hr
    go_enter Tryd.func6, Tryd.ntmps6
    go_wp2_with fail
    refine (Haw _ (hm.upd hU0)).out.mono ?_
    rintro e w1 ⟨rfl, hU1⟩
    obtain ⟨hc1, hf1, hz1⟩ := hU1.cells
    have hz1' : w.heap.size < w1.heap.size := by simp at hz1; omega
    go_wp2_with fail
    refine (HpA _ ((hm.upd hU0).upd hU1).max).out.mono ?_
    rintro e w2 ⟨rfl, hU2⟩
    have hV2 := hU1.trans hU2
    clear hc1 hf1 hz1 hz1'
    obtain ⟨hc1, hf1, hz1⟩ := hV2.cells
    have hz1' : w.heap.size < w2.heap.size := by simp at hz1; omega
    go_wp2_with fail
    refine (HpB _).out.mono ?_
    rintro e w3 ⟨rfl, hU3⟩
    have hV3 := hV2.trans hU3
    clear hc1 hf1 hz1 hz1'
    have hbox := hV3.blk (Blk.new w _ _) (by simp)
    have x0 := hbox.cell 0
    have x1 := hbox.cell 1
    have x2 := hbox.cell 2
    have x3 := hbox.cell 3
    simp at x0 x1 x2 x3
    have k0 := cell_regrown x0
    have k1 := cell_regrown x1
    have k2 := cell_regrown x2
    have k3 := cell_regrown x3
    have mx : MaxLenAt w3 := ((hm.upd hU0).upd hV3).max
    have cC := fun d os => quiet_of (W := w3) (d := d) (os := os) fun w hu => (HcC w (mx.upd hu (by simp))).out
    have cD := fun d os => quiet_of (W := w3) (d := d) (os := os) fun w _ => (HcD w).out
    have HC := hid cC
    have HD := hid cD
    clear cC cD
    go_wp2
    refine wp_region_quiet_below (by kernel_rfl) (by kernel_rfl) ?_
    repeat (any_goals (first
      | go_big_quiet_step (first | exact HC.out _ _ | exact HD.out _ _)
      | quiet_step (first | exact HC.out _ _ | exact HD.out _ _)))
    refine wpQuiet_nil ?_
    intro _ hw'
    obtain ⟨⟨dq, osq⟩, hw''⟩ := hw'
    subst hw''
    have hV4 : Upd w3 (grow (redrawn w3 dq) osq) [] := Upd.of_below (below_regrown w3 dq osq) []
    have hV5 := hV3.trans hV4
    revert hV5
    generalize grow (redrawn w3 dq) osq = w4
    intro hV5
    clear hV4 x0 x1 x2 x3 k0 k1 k2 k3
    obtain ⟨hc1, hf1, hz1⟩ := hV5.cells
    have hz1' : w.heap.size < w4.heap.size := by simp at hz1; omega
    go_wp2_with fail
    refine (HT' _ ((hm.upd hU0).upd hV5).max).out.mono ?_
    rintro e w5 ⟨rfl, hU5⟩
    have hV6 := hV5.trans hU5
    clear hc1 hf1 hz1 hz1'
    obtain ⟨hc1, hf1, hz1⟩ := hV6.cells
    have hz1' : w.heap.size < w5.heap.size := by simp at hz1; omega
    go_wp2_with fail
    refine (HS _).out.mono ?_
    rintro e w6 ⟨rfl, hU6⟩
    have hV7 := (hV6.alloc _).trans hU6
    go_wp2
    go_ret
    exact ⟨rfl, hU0.trans hV7⟩
end Go.Proofs.YtjjdlgjofjfgmaaDoor
