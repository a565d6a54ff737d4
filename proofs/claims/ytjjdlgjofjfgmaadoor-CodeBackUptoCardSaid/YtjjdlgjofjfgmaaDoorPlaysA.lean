/-
  The law CodePlays, walked.
-/
import Derived.Test.YtjjdlgjofjfgmaaDoorRefK
import Derived.Lib.QuietBelow
set_option linter.unusedSimpArgs false
set_option linter.unusedVariables false
namespace Go.Proofs.YtjjdlgjofjfgmaaDoor
open Go.RowKit Go.Sort

theorem awake_ok : (InstL.mk 1 (-5) [] noRefL).ok = true := by decide
theorem awake_text : (InstL.mk 1 (-5) [] noRefL).text = [105, 99, 111, 110, 115, 116, 32, 45, 53] := by
  have h : Lib.itoa (-5) = [45, 53] := by
    have := Lib.itoa_neg 5 (by omega)
    rw [show (-((5 : Nat) : Int)) = -5 from rfl] at this
    rw [this, Lib.decDigits_one (by omega)]
    rfl
  have hp : (InstL.mk 1 (-5) [] noRefL).parts = [[105, 99, 111, 110, 115, 116], [45, 53]] := by
    unfold InstL.parts
    simp only [h]
    rfl
  unfold InstL.text
  rw [hp, join2]
  rfl

theorem awake_any (w : World) (hm : Rdy w) : Calls Tryd.prog 9 #[] w fun e w' => e = .returned (.bool true) ∧ Upd w w' [] := by
  have Hp := hid (print_any ⟨1, -5, [], noRefL⟩ w ⟨by simp, by simp [RefL.fit, noRefL]⟩ ⟨by decide, by decide⟩ hm)
  unfold printPost at Hp
  rw [awake_ok, awake_text] at Hp
  unfold InstL.v InstL.cells at Hp
  simp only [noRefL, bs_nil, if_true, errIf] at Hp
  go_enter Tryd.func9, Tryd.ntmps9
  go_wp2_with fail
  refine Hp.out.mono ?_
  rintro e w1 ⟨rfl, hU⟩
  have he : (bs [105, 99, 111, 110, 115, 116, 32, 45, 53]).toList = [105, 99, 111, 110, 115, 116, 32, 45, 53] := bs_toList _
  go_wp2
  go_ret
  exact ⟨rfl, hU⟩

theorem quiet_of {f : FuncId} {args : Array Value} {W : World} {d : Nat} {os : Array Obj} {v : Value} (h : ∀ w, Upd W w [] → Calls Tryd.prog f args w fun e w' => e = .returned v ∧ Upd w w' []) :
    Calls Tryd.prog f args (grow (redrawn W d) os) fun e w'' => e = .returned v ∧ ∃ p : Regrown, w'' = grow (redrawn W p.d) p.os :=
  Calls.regrown_of ((h _ (Upd.of_below (below_regrown W d os) [])).mono fun _ _ h => ⟨h.1, h.2.below⟩)

theorem word_pure (op : Int) : ∃ (sx : ByteArray) (ex : Int), ∀ w, (∀ {e w'}, wordPost op w e w' → e = .returned (.tuple #[.string sx, .int .i64 ex]) ∧ Upd w w' []) := by
  unfold wordPost
  cases knownB op
  · exact ⟨bs [], 2, fun w e w' h => by simpa using h⟩
  · exact ⟨bs (wordL op), 0, fun w e w' h => by simpa using h⟩

set_option maxHeartbeats 8000000 in
set_option maxRecDepth 1000000 in
theorem codePlays_walk (i : InstL) (w : World) (hi : i.fit) (hn : i.num) (hm : Rdy w) : Calls Tryd.prog 3 #[i.v] w fun e w' => e = .returned (.bool true) ∧ Upd w w' [] := by
  obtain ⟨op, n, tx, r⟩ := i
  have Haw := fun w hm => hid (awake_any w hm)
  obtain ⟨sx, ex, hw⟩ := word_pure op
  have Hw1 := fun w => hid ((word_any op w).mono fun _ _ h => hw w h)
  have Hw2 := fun w => hid ((wordR_any op w).mono fun _ _ h => hw w h)
  clear hw
  have HcA := fun w => hid (operand_any op w)
  have HcB := fun w => hid (operandR_any op w)
  have HcC := fun w hm => hid (check_any ⟨op, n, tx, r⟩ w hi hm)
  have HcD := fun w => hid (checkR_any ⟨op, n, tx, r⟩ w hi)
  have HpA := fun w hm => hid (print_any ⟨op, n, tx, r⟩ w hi hn hm)
  have HpB := fun w => hid (printR_any ⟨op, n, tx, r⟩ w hi hn)
  unfold checkPost at HcC HcD
  unfold printPost at HpA HpB
  generalize (if (InstL.mk op n tx r).ok then (InstL.mk op n tx r).text else []) = tp at HpA HpB
  generalize errIf (InstL.mk op n tx r).ok = ek at HcC HcD HpA HpB
  generalize kindL op = kk at HcA HcB
  have hU0 : Upd w (w.alloc (.cells #[.int .i64 op, .int .i64 n, .string (bs tx), .bool r.ifc, .string (bs r.cls), .string (bs r.nm), .string (bs r.ds)] 25)) [] := (Upd.refl _ _).alloc _
  unfold InstL.v InstL.cells at HcC HcD HpA HpB ⊢
  simp only at HcC HcD HpA HpB ⊢
  clear hi hn
  go_enter Tryd.func3, Tryd.ntmps3
  go_wp2_with fail
  refine (Haw _ (hm.upd hU0)).out.mono ?_
  rintro e w1 ⟨rfl, hU1⟩
  obtain ⟨hc1, hf1, hz1⟩ := hU1.cells
  have hz1' : w.heap.size < w1.heap.size := by simp at hz1; omega
  go_wp2_with fail
  refine (Hw1 _).out.mono ?_
  rintro e w2 ⟨rfl, hU2⟩
  have hV2 := hU1.trans hU2
  clear hc1 hf1 hz1 hz1'
  obtain ⟨hc1, hf1, hz1⟩ := hV2.cells
  have hz1' : w.heap.size < w2.heap.size := by simp at hz1; omega
  go_wp2_with fail
  refine (Hw2 _).out.mono ?_
  rintro e w3 ⟨rfl, hU3⟩
  have hV3 := hV2.trans hU3
  clear hc1 hf1 hz1 hz1'
  have hbox := hV3.blk (Blk.new w _ _) (by simp)
  have x0 := hbox.cell 0
  have x1 := hbox.cell 1
  have x2 := hbox.cell 2
  have x3 := hbox.cell 3
  have x4 := hbox.cell 4
  have x5 := hbox.cell 5
  have x6 := hbox.cell 6
  simp at x0 x1 x2 x3 x4 x5 x6
  have k0 := cell_regrown x0
  have k1 := cell_regrown x1
  have k2 := cell_regrown x2
  have k3 := cell_regrown x3
  have k4 := cell_regrown x4
  have k5 := cell_regrown x5
  have k6 := cell_regrown x6
  have mx : MaxLenAt w3 := ((hm.upd hU0).upd hV3).max
  have cA : ∀ d os, Calls Tryd.prog 12 #[.int .i64 op] (grow (redrawn w3 d) os) fun e w'' => e = .returned (.int .i64 kk) ∧ ∃ p : Regrown, w'' = grow (redrawn w3 p.d) p.os := fun d os => quiet_of fun w _ => (HcA w).out
  have cB : ∀ d os, Calls Tryd.prog 13 #[.int .i64 op] (grow (redrawn w3 d) os) fun e w'' => e = .returned (.int .i64 kk) ∧ ∃ p : Regrown, w'' = grow (redrawn w3 p.d) p.os := fun d os => quiet_of fun w _ => ((HcB w).out).mono fun _ _ h => ⟨h.1, by rw [h.2]; exact Upd.refl _ _⟩
  have cC := fun d os => quiet_of (W := w3) (d := d) (os := os) fun w hu => (HcC w (mx.upd hu (by simp))).out
  have cD := fun d os => quiet_of (W := w3) (d := d) (os := os) fun w _ => (HcD w).out
  have HA := hid cA
  have HB := hid cB
  have HC := hid cC
  have HD := hid cD
  clear cA cB cC cD
  go_wp2
  refine wp_region_quiet_below (by kernel_rfl) (by kernel_rfl) ?_
  repeat (any_goals (first
    | go_big_quiet_step (first | exact HA.out _ _ | exact HB.out _ _ | exact HC.out _ _ | exact HD.out _ _)
    | quiet_step (first | exact HA.out _ _ | exact HB.out _ _ | exact HC.out _ _ | exact HD.out _ _)))
  refine wpQuiet_nil ?_
  intro _ hw'
  obtain ⟨⟨dq, osq⟩, hw''⟩ := hw'
  subst hw''
  have hV4 : Upd w3 (grow (redrawn w3 dq) osq) [] := Upd.of_below (below_regrown w3 dq osq) []
  have hV5 := hV3.trans hV4
  revert hV5
  generalize grow (redrawn w3 dq) osq = w4
  intro hV5
  clear hV4 x0 x1 x2 x3 x4 x5 x6 k0 k1 k2 k3 k4 k5 k6
  obtain ⟨hc1, hf1, hz1⟩ := hV5.cells
  have hz1' : w.heap.size < w4.heap.size := by simp at hz1; omega
  go_wp2_with fail
  refine (HpA _ ((hm.upd hU0).upd hV5)).out.mono ?_
  rintro e w5 ⟨rfl, hU5⟩
  have hV6 := hV5.trans hU5
  clear hc1 hf1 hz1 hz1'
  obtain ⟨hc1, hf1, hz1⟩ := hV6.cells
  have hz1' : w.heap.size < w5.heap.size := by simp at hz1; omega
  go_wp2_with fail
  refine (HpB _).out.mono ?_
  rintro e w6 ⟨rfl, hU6⟩
  have hV7 := hV6.trans hU6
  clear hc1 hf1 hz1 hz1'
  go_wp2
  go_ret
  exact ⟨rfl, hU0.trans hV7⟩
end Go.Proofs.YtjjdlgjofjfgmaaDoor
