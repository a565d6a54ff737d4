/-
  The law ShapesPlays, walked.
-/
import Derived.Test.YtjjdlgjofjfgmaaGreatDoorKE
import Derived.Test.YtjjdlgjofjfgmaaGreatDoorKD
import Derived.Test.YtjjdlgjofjfgmaaGreatDoorK8
set_option linter.unusedSimpArgs false
set_option linter.unusedVariables false
namespace Go.Proofs.YtjjdlgjofjfgmaaGreatDoor
open Go.RowKit Go.Sort

theorem printR5_any (c : ClassL) (w : World) (hf : c.fit w) :
    Calls Tryz.prog 16 #[c.v] w fun e w' => e = .returned (.tuple #[.string (bs (if checkB c then printL c else [])), .int .i64 (errIf (checkB c))]) ∧ Upd w w' [] := by
  cases hb : checkB c with
  | true => exact printR5_ok c w hf hb
  | false => exact printR5_bad c w hf hb

def playsRel (n : Nat) (w : World) (t : Value) (wr : World) : Prop := ∃ k : Nat, t = .int .i64 k ∧ k ≤ n ∧ Upd w wr []

set_option maxHeartbeats 8000000 in
set_option maxRecDepth 100000 in
theorem shapesPlays_walk (c : ClassL) (nm ds : List UInt8) (w : World) (hf : c.fit w) (hr : Rdy w) :
    Calls Tryz.prog 3 #[c.v, .string (bs nm), .string (bs ds)] w fun e w' => e = .returned (.bool true) ∧ Upd w w' [] := by
  have HF := hid hf
  have HR := hid hr
  have Haw := fun w hr => hid (awake5_any w hr)
  have Hc1 := fun w (hf : c.fit w) hm => hid (check5_any c w hf hm)
  have Hc2 := fun w (hf : c.fit w) => hid (checkR5_any c w hf)
  have Hf1 := fun w (hf : c.fit w) => hid (find_any c nm ds w hf.ms hf.lenM)
  have Hf2 := fun w (hf : c.fit w) => hid (findR_any c nm ds w hf.ms hf.lenM hf.capM)
  have Hp1 := fun w (hf : c.fit w) (hr : Rdy w) => hid (print5_any c w hf hr)
  have Hp2 := fun w (hf : c.fit w) => hid (printR5_any c w hf)
  have hlenM := hf.lenM
  have hcapM := hf.capM
  generalize (if checkB c then printL c else []) = tp at Hp1 Hp2
  generalize errIf (checkB c) = ek at Hc1 Hc2 Hp1 Hp2
  generalize findL nm ds c.ms 0 = fk at Hf1 Hf2
  clear hf hr
  obtain ⟨cn, cs, AI, cI, ifs, fl, ld, A, cap, ms⟩ := c
  unfold ClassL.v ClassL.cells at Hc1 Hc2 Hf1 Hf2 Hp1 Hp2 ⊢
  simp only at Hc1 Hc2 Hf1 Hf2 Hp1 Hp2 hlenM hcapM ⊢
  have hU0 : Upd w (w.alloc (.cells #[.string (bs cn), .string (bs cs), .slice AI ifs.length cI, .int .i64 fl, .int .i64 ld, .slice A ms.length cap] 25)) [] := (Upd.refl _ _).alloc _
  go_enter Tryz.func3, Tryz.ntmps3
  go_wp2_with fail
  refine (Haw _ (HR.out.upd hU0)).out.mono ?_
  rintro e w1 ⟨rfl, hU1⟩
  have HV1 := hid (hU0.trans hU1)
  have HF1 := hid (HF.out.upd HV1.out)
  have HR1 := hid (HR.out.upd HV1.out)
  have Hbox := hid (hU1.blk (Blk.new w 25 #[.string (bs cn), .string (bs cs), .slice AI ifs.length cI, .int .i64 fl, .int .i64 ld, .slice A ms.length cap]) (by simp))
  have hz1 : w.heap.size < w1.heap.size := Hbox.out.lt
  have y0 := Hbox.out.cell 0
  have y1 := Hbox.out.cell 1
  have y2 := Hbox.out.cell 2
  have y3 := Hbox.out.cell 3
  have y4 := Hbox.out.cell 4
  have y5 := Hbox.out.cell 5
  simp at y0 y1 y2 y3 y4 y5
  have k0 := cell_regrown y0
  have k1 := cell_regrown y1
  have k2 := cell_regrown y2
  have k3 := cell_regrown y3
  have k4 := cell_regrown y4
  have k5 := cell_regrown y5
  have q1 := fun d os => quiet_of (W := w1) (d := d) (os := os) fun w u => (Hc1 w (HF1.out.upd u) (HR1.out.upd u).max).out
  have q2 := fun d os => quiet_of (W := w1) (d := d) (os := os) fun w u => (Hc2 w (HF1.out.upd u)).out
  have q3 := fun d os => quiet_of (W := w1) (d := d) (os := os) fun w u => (Hf1 w (HF1.out.upd u)).out
  have q4 := fun d os => quiet_of (W := w1) (d := d) (os := os) fun w u => (Hf2 w (HF1.out.upd u)).out
  have Q1 := hid q1
  have Q2 := hid q2
  have Q3 := hid q3
  have Q4 := hid q4
  have e1 : (ek != ek) = false := by simp
  have e2 : (fk != fk) = false := by simp
  clear q1 q2 q3 q4 hU1 HF HR hU0
  go_wp2
  refine wp_region_quiet_below (by kernel_rfl) (by kernel_rfl) ?_
  repeat (any_goals (first
    | go_big_quiet_step (first | (with_reducible exact Q1.out _ _) | (with_reducible exact Q2.out _ _) | (with_reducible exact Q3.out _ _) | (with_reducible exact Q4.out _ _))
    | quiet_step (first | (with_reducible exact Q1.out _ _) | (with_reducible exact Q2.out _ _) | (with_reducible exact Q3.out _ _) | (with_reducible exact Q4.out _ _))))
  refine wpQuiet_nil ?_
  intro _ hw'
  obtain ⟨⟨dq, osq⟩, hw''⟩ := hw'
  subst hw''
  have HU2 := hid (Upd.of_below (below_regrown w1 dq osq) [])
  revert HU2
  generalize grow (redrawn w1 dq) osq = w2
  intro HU2
  clear k0 k1 k2 k3 k4 k5 y0 y1 y2 y3 y4 y5 Q1 Q2 Q3 Q4
  have HF2 := hid (HF1.out.upd HU2.out)
  have Hb2 := hid (HU2.out.blk Hbox.out (by simp))
  have hz2 : w.heap.size < w2.heap.size := Hb2.out.lt
  go_wp2
  go_loopw [7] (fun t wr => playsRel ms.length w2 t wr) (fun t _ => ms.length - (intOf t).toNat)
  case atStart => exact ⟨0, rfl, Nat.zero_le _, Upd.refl _ _⟩
  case round =>
    obtain ⟨k, rfl, hk, hU⟩ := hrel
    have hbx := hU.blk Hb2.out (by simp)
    have hzr : w.heap.size < wr.heap.size := hbx.lt
    have y0 := hbx.cell 0
    have y1 := hbx.cell 1
    have y2 := hbx.cell 2
    have y3 := hbx.cell 3
    have y4 := hbx.cell 4
    have y5 := hbx.cell 5
    simp at y0 y1 y2 y3 y4 y5
    have HU := hid hU
    by_cases hlt : k < ms.length
    · have hne : ms ≠ [] := by rintro rfl; simp at hlt
      obtain ⟨bk, off, hAe, hbk, hc⟩ := HF2.out.ms hne
      simp only at hAe hc
      subst hAe
      have hbr : bk < wr.heap.size := Nat.lt_of_lt_of_le hbk hU.size
      obtain ⟨mn, md, mf, lo, st, A', cap', code, e⟩ : ∃ a b c d f g h i, ms[k] = MethL.mk a b c d f g h i := ⟨_, _, _, _, _, _, _, _, rfl⟩
      have Hsix : Hid (∀ w', Upd w2 w' [] → _) := hid (fun w' u => MethsAt.six (w := w') (fun i hi j hj => by rw [u.cells.1 _ _ hbk]; exact hc i hi j hj) hlt e)
      obtain ⟨x0, x1, x2, x3, x4, x5⟩ := Hsix.out wr hU
      have hmem : ms[k] ∈ ms := List.getElem_mem hlt
      rw [e] at hmem
      have Hmf := hid (HF2.out.meths _ hmem)
      have hdn : (descL md).1 ≤ 1000000 := Nat.le_trans (descL_few md) (by omega)
      have Hw1 := fun w hm => hid (words5_any ⟨mn, md, mf, lo, st, A', cap', code⟩ w Hmf.out.ds hdn hm)
      have Hw2 := fun w => hid (wordsR_any ⟨mn, md, mf, lo, st, A', cap', code⟩ w Hmf.out.ds hdn)
      unfold MethL.v MethL.cells at Hw1 Hw2
      simp only at Hw1 Hw2
      generalize wordsL md mf = wl at Hw1 Hw2
      obtain ⟨wq, we⟩ := wl
      have e3 : (wq != wq) = false := by simp
      have e4 : (we != we) = false := by simp
      have hkc : k < cap := by omega
      have hki : (k : Int) < ms.length := by omega
      have hRr := (HR1.out.upd HU2.out).upd hU
      have HRr := hid hRr
      clear hc hU hmem e hbx hRr
      go_wp2_with fail
      refine (Hw1 _ HRr.out.max).out.mono ?_
      rintro e w3 ⟨rfl, hU3⟩
      have HU3 := hid (HU.out.trans hU3)
      obtain ⟨x0, x1, x2, x3, x4, x5⟩ := Hsix.out w3 HU3.out
      have hbx3 := HU3.out.blk Hb2.out (by simp)
      have z5 := hbx3.cell 5
      simp at z5
      have hz3 : w.heap.size < w3.heap.size := hbx3.lt
      have hbr3 : bk < w3.heap.size := Nat.lt_of_lt_of_le hbr hU3.size
      clear hU3 hbx3
      go_wp2_with fail
      refine (Hw2 _).out.mono ?_
      rintro e w4 ⟨rfl, hU4⟩
      have HU4 := hid (HU3.out.trans hU4)
      clear hU4 x0 x1 x2 x3 x4 x5 y0 y1 y2 y3 y4 y5 z5
      go_wp2
      go_roundw
      case rel => exact ⟨k + 1, by go_num, by omega, HU4.out⟩
      case measure => simp [intOf]; omega
    · obtain rfl : k = ms.length := by omega
      have HW := hid ((HV1.out.trans HU2.out).trans HU.out)
      have HFr := hid (HF2.out.upd HU.out)
      have HRr := hid ((HR1.out.upd HU2.out).upd HU.out)
      clear hU
      go_wp2_with fail
      refine (Hp1 _ HFr.out HRr.out).out.mono ?_
      rintro e w3 ⟨rfl, hU3⟩
      have HU3 := hid hU3
      have hbx3 := hU3.blk hbx (by simp)
      have z0 := hbx3.cell 0
      have z1 := hbx3.cell 1
      have z2 := hbx3.cell 2
      have z3 := hbx3.cell 3
      have z4 := hbx3.cell 4
      have z5 := hbx3.cell 5
      simp at z0 z1 z2 z3 z4 z5
      have hz3 : w.heap.size < w3.heap.size := hbx3.lt
      clear hU3 hbx3 hbx y0 y1 y2 y3 y4 y5
      go_wp2_with fail
      refine (Hp2 _ (HFr.out.upd HU3.out)).out.mono ?_
      rintro e w4 ⟨rfl, hU4⟩
      have HU4 := hid hU4
      clear hU4
      have e5 : ((bs tp).toList == (bs tp).toList) = true := by simp
      have e6 : (ek == ek) = true := by simp
      go_wp2
      go_ret
      exact ⟨rfl, HW.out.trans (HU3.out.trans HU4.out)⟩
end Go.Proofs.YtjjdlgjofjfgmaaGreatDoor
