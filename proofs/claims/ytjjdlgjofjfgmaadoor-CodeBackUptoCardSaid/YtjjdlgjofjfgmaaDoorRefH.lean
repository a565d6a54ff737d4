/-
  The document's answer on instructions, walked: Check.
-/
import Derived.Test.YtjjdlgjofjfgmaaDoorRefG
set_option linter.unusedSimpArgs false
set_option linter.unusedVariables false
namespace Go.Proofs.YtjjdlgjofjfgmaaDoor
open Go.RowKit

set_option maxHeartbeats 4000000 in
set_option maxRecDepth 100000 in
theorem checkR_m1 (op n : Int) (tx : List UInt8) (r : RefL) (w : World) (hi : (InstL.mk op n tx r).fit) (hk : kindL op = -1) : Calls Tryd.prog 15 #[(InstL.mk op n tx r).v] w (checkPost ⟨op, n, tx, r⟩ w) := by
  obtain ⟨h1, h2⟩ := hi
  simp only at h1 h2
  obtain ⟨br, hbr⟩ : ∃ br, decide (r = noRefL) = br := ⟨_, rfl⟩
  obtain ⟨bn, hbn⟩ : ∃ bn, decide (n = 0) = bn := ⟨_, rfl⟩
  obtain ⟨bt, hbt⟩ : ∃ bt, decide (tx = []) = bt := ⟨_, rfl⟩
  have hok : (InstL.mk op n tx r).ok = (br && bn && bt && false) := by
    have hb : (InstL.mk op n tx r).bare = ⟨op, 0, [], noRefL⟩ := by unfold InstL.bare; simp [hk]
    have e : decide ((InstL.mk op n tx r).bare = ⟨op, n, tx, r⟩) = (decide (r = noRefL) && decide (n = 0) && decide (tx = [])) := by
      rw [hb, Bool.eq_iff_iff]
      simp only [InstL.mk.injEq, true_and, and_true, Bool.and_eq_true, decide_eq_true_eq]
      exact ⟨fun ⟨n, t, r⟩ => ⟨⟨r.symm, n.symm⟩, t.symm⟩, fun ⟨⟨r, n⟩, t⟩ => ⟨n.symm, t.symm, r.symm⟩⟩
    unfold InstL.ok
    rw [e, hbr, hbn, hbt]
    unfold InstL.fine
    simp only [hk]
    simp
  unfold checkPost
  have hn0 : (n != 0) = !bn := by rw [← hbn]; by_cases h : n = 0 <;> simp [h]
  have ht0 : (bs tx).toList.isEmpty = bt := by rw [← hbt, bs_toList]; cases tx <;> simp
  have ht1 : ((bs tx).toList = []) = (bt = true) := by rw [← hbt, bs_toList]; simp
  have Hno := fun w => hid (noRefR_any r w)
  rw [hbr] at Hno
  have Hop := fun w => hid (operandR_any op w)
  rw [hk] at Hop
  have Hok := hid hok
  clear hok hbr hbn hbt hk
  have hU0 : Upd w (w.alloc (.cells #[.int .i64 op, .int .i64 n, .string (bs tx), .bool r.ifc, .string (bs r.cls), .string (bs r.nm), .string (bs r.ds)] 25)) [] := (Upd.refl _ _).alloc _
  unfold RefL.v at Hno
  unfold InstL.v InstL.cells
  simp only
  cases br <;> cases bn <;> cases bt
  all_goals
    try simp only [Bool.not_true, Bool.not_false, Bool.false_eq_true] at hn0 ht1
    go_enter Tryd.func15, Tryd.ntmps15
    go_wp2_with fail
    refine (Hop _).out.mono ?_
    rintro e w0 ⟨rfl, rfl⟩
    go_wp2_with fail
    refine (Hno _).out.mono ?_
    rintro e w1 ⟨rfl, hU1⟩
    obtain ⟨hc1, hf1, hz1⟩ := hU1.cells
    have hz1' : w.heap.size < w1.heap.size := by simp at hz1; omega
    have hU2 := hU0.trans hU1
    try (go_wp2; go_ret; exact ⟨by rw [Hok.out]; simp [errIf], hU2⟩; done)

set_option maxHeartbeats 4000000 in
set_option maxRecDepth 100000 in
theorem checkR_0 (op n : Int) (tx : List UInt8) (r : RefL) (w : World) (hi : (InstL.mk op n tx r).fit) (hk : kindL op = 0) : Calls Tryd.prog 15 #[(InstL.mk op n tx r).v] w (checkPost ⟨op, n, tx, r⟩ w) := by
  obtain ⟨h1, h2⟩ := hi
  simp only at h1 h2
  obtain ⟨br, hbr⟩ : ∃ br, decide (r = noRefL) = br := ⟨_, rfl⟩
  obtain ⟨bn, hbn⟩ : ∃ bn, decide (n = 0) = bn := ⟨_, rfl⟩
  obtain ⟨bt, hbt⟩ : ∃ bt, decide (tx = []) = bt := ⟨_, rfl⟩
  have hok : (InstL.mk op n tx r).ok = (br && bn && bt && true) := by
    have hb : (InstL.mk op n tx r).bare = ⟨op, 0, [], noRefL⟩ := by unfold InstL.bare; simp [hk]
    have e : decide ((InstL.mk op n tx r).bare = ⟨op, n, tx, r⟩) = (decide (r = noRefL) && decide (n = 0) && decide (tx = [])) := by
      rw [hb, Bool.eq_iff_iff]
      simp only [InstL.mk.injEq, true_and, and_true, Bool.and_eq_true, decide_eq_true_eq]
      exact ⟨fun ⟨n, t, r⟩ => ⟨⟨r.symm, n.symm⟩, t.symm⟩, fun ⟨⟨r, n⟩, t⟩ => ⟨n.symm, t.symm, r.symm⟩⟩
    unfold InstL.ok
    rw [e, hbr, hbn, hbt]
    unfold InstL.fine
    simp only [hk]
    simp
  unfold checkPost
  have hn0 : (n != 0) = !bn := by rw [← hbn]; by_cases h : n = 0 <;> simp [h]
  have ht0 : (bs tx).toList.isEmpty = bt := by rw [← hbt, bs_toList]; cases tx <;> simp
  have ht1 : ((bs tx).toList = []) = (bt = true) := by rw [← hbt, bs_toList]; simp
  have Hno := fun w => hid (noRefR_any r w)
  rw [hbr] at Hno
  have Hop := fun w => hid (operandR_any op w)
  rw [hk] at Hop
  have Hok := hid hok
  clear hok hbr hbn hbt hk
  have hU0 : Upd w (w.alloc (.cells #[.int .i64 op, .int .i64 n, .string (bs tx), .bool r.ifc, .string (bs r.cls), .string (bs r.nm), .string (bs r.ds)] 25)) [] := (Upd.refl _ _).alloc _
  unfold RefL.v at Hno
  unfold InstL.v InstL.cells
  simp only
  cases br <;> cases bn <;> cases bt
  all_goals
    try simp only [Bool.not_true, Bool.not_false, Bool.false_eq_true] at hn0 ht1
    go_enter Tryd.func15, Tryd.ntmps15
    go_wp2_with fail
    refine (Hop _).out.mono ?_
    rintro e w0 ⟨rfl, rfl⟩
    go_wp2_with fail
    refine (Hno _).out.mono ?_
    rintro e w1 ⟨rfl, hU1⟩
    obtain ⟨hc1, hf1, hz1⟩ := hU1.cells
    have hz1' : w.heap.size < w1.heap.size := by simp at hz1; omega
    have hU2 := hU0.trans hU1
    try (go_wp2; go_ret; exact ⟨by rw [Hok.out]; simp [errIf], hU2⟩; done)

set_option maxHeartbeats 4000000 in
set_option maxRecDepth 100000 in
theorem checkR_1 (op n : Int) (tx : List UInt8) (r : RefL) (w : World) (hi : (InstL.mk op n tx r).fit) (hk : kindL op = 1) : Calls Tryd.prog 15 #[(InstL.mk op n tx r).v] w (checkPost ⟨op, n, tx, r⟩ w) := by
  obtain ⟨h1, h2⟩ := hi
  simp only at h1 h2
  obtain ⟨br, hbr⟩ : ∃ br, decide (r = noRefL) = br := ⟨_, rfl⟩
  obtain ⟨bn, hbn⟩ : ∃ bn, decide (n = 0) = bn := ⟨_, rfl⟩
  obtain ⟨bt, hbt⟩ : ∃ bt, decide (tx = []) = bt := ⟨_, rfl⟩
  have hok : (InstL.mk op n tx r).ok = (br && bt && withinB (-2147483648) 2147483647 n) := by
    have hb : (InstL.mk op n tx r).bare = ⟨op, n, [], noRefL⟩ := by unfold InstL.bare; simp [hk]
    have e : decide ((InstL.mk op n tx r).bare = ⟨op, n, tx, r⟩) = (decide (r = noRefL) && decide (tx = [])) := by
      rw [hb, Bool.eq_iff_iff]
      simp only [InstL.mk.injEq, true_and, and_true, Bool.and_eq_true, decide_eq_true_eq]
      exact ⟨fun ⟨t, r⟩ => ⟨r.symm, t.symm⟩, fun ⟨r, t⟩ => ⟨t.symm, r.symm⟩⟩
    unfold InstL.ok
    rw [e, hbr, hbt]
    unfold InstL.fine
    simp only [hk]
    simp
  unfold checkPost
  have hn0 : (n != 0) = !bn := by rw [← hbn]; by_cases h : n = 0 <;> simp [h]
  have ht0 : (bs tx).toList.isEmpty = bt := by rw [← hbt, bs_toList]; cases tx <;> simp
  have ht1 : ((bs tx).toList = []) = (bt = true) := by rw [← hbt, bs_toList]; simp
  have Hno := fun w => hid (noRefR_any r w)
  rw [hbr] at Hno
  have Hop := fun w => hid (operandR_any op w)
  rw [hk] at Hop
  have Hok := hid hok
  clear hok hbr hbn hbt hk
  have hU0 : Upd w (w.alloc (.cells #[.int .i64 op, .int .i64 n, .string (bs tx), .bool r.ifc, .string (bs r.cls), .string (bs r.nm), .string (bs r.ds)] 25)) [] := (Upd.refl _ _).alloc _
  unfold RefL.v at Hno
  unfold InstL.v InstL.cells
  simp only
  cases br <;> cases bt
  all_goals
    try simp only [Bool.not_true, Bool.not_false, Bool.false_eq_true] at hn0 ht1
    go_enter Tryd.func15, Tryd.ntmps15
    go_wp2_with fail
    refine (Hop _).out.mono ?_
    rintro e w0 ⟨rfl, rfl⟩
    go_wp2_with fail
    refine (Hno _).out.mono ?_
    rintro e w1 ⟨rfl, hU1⟩
    obtain ⟨hc1, hf1, hz1⟩ := hU1.cells
    have hz1' : w.heap.size < w1.heap.size := by simp at hz1; omega
    have hU2 := hU0.trans hU1
    try (go_wp2; go_ret; exact ⟨by rw [Hok.out]; simp [errIf], hU2⟩; done)
  go_wp2
  all_goals
    go_ret
    refine ⟨ret_int ?_, hU2⟩
    rw [Hok.out]
    try simp only [Bool.not_eq_eq_eq_not, Bool.not_false, Bool.not_true, decide_eq_true_eq, decide_eq_false_iff_not] at *
    first
      | (rw [show withinB (-2147483648) 2147483647 n = true from decide_eq_true (by omega)]; simp [errIf]; done)
      | (rw [show withinB (-2147483648) 2147483647 n = false from decide_eq_false (by omega)]; simp [errIf]; done)

set_option maxHeartbeats 4000000 in
set_option maxRecDepth 100000 in
theorem checkR_2 (op n : Int) (tx : List UInt8) (r : RefL) (w : World) (hi : (InstL.mk op n tx r).fit) (hk : kindL op = 2) : Calls Tryd.prog 15 #[(InstL.mk op n tx r).v] w (checkPost ⟨op, n, tx, r⟩ w) := by
  obtain ⟨h1, h2⟩ := hi
  simp only at h1 h2
  obtain ⟨br, hbr⟩ : ∃ br, decide (r = noRefL) = br := ⟨_, rfl⟩
  obtain ⟨bn, hbn⟩ : ∃ bn, decide (n = 0) = bn := ⟨_, rfl⟩
  obtain ⟨bt, hbt⟩ : ∃ bt, decide (tx = []) = bt := ⟨_, rfl⟩
  have hok : (InstL.mk op n tx r).ok = (br && bt && withinB 0 39 n) := by
    have hb : (InstL.mk op n tx r).bare = ⟨op, n, [], noRefL⟩ := by unfold InstL.bare; simp [hk]
    have e : decide ((InstL.mk op n tx r).bare = ⟨op, n, tx, r⟩) = (decide (r = noRefL) && decide (tx = [])) := by
      rw [hb, Bool.eq_iff_iff]
      simp only [InstL.mk.injEq, true_and, and_true, Bool.and_eq_true, decide_eq_true_eq]
      exact ⟨fun ⟨t, r⟩ => ⟨r.symm, t.symm⟩, fun ⟨r, t⟩ => ⟨t.symm, r.symm⟩⟩
    unfold InstL.ok
    rw [e, hbr, hbt]
    unfold InstL.fine
    simp only [hk]
    simp
  unfold checkPost
  have hn0 : (n != 0) = !bn := by rw [← hbn]; by_cases h : n = 0 <;> simp [h]
  have ht0 : (bs tx).toList.isEmpty = bt := by rw [← hbt, bs_toList]; cases tx <;> simp
  have ht1 : ((bs tx).toList = []) = (bt = true) := by rw [← hbt, bs_toList]; simp
  have Hno := fun w => hid (noRefR_any r w)
  rw [hbr] at Hno
  have Hop := fun w => hid (operandR_any op w)
  rw [hk] at Hop
  have Hok := hid hok
  clear hok hbr hbn hbt hk
  have hU0 : Upd w (w.alloc (.cells #[.int .i64 op, .int .i64 n, .string (bs tx), .bool r.ifc, .string (bs r.cls), .string (bs r.nm), .string (bs r.ds)] 25)) [] := (Upd.refl _ _).alloc _
  unfold RefL.v at Hno
  unfold InstL.v InstL.cells
  simp only
  cases br <;> cases bt
  all_goals
    try simp only [Bool.not_true, Bool.not_false, Bool.false_eq_true] at hn0 ht1
    go_enter Tryd.func15, Tryd.ntmps15
    go_wp2_with fail
    refine (Hop _).out.mono ?_
    rintro e w0 ⟨rfl, rfl⟩
    go_wp2_with fail
    refine (Hno _).out.mono ?_
    rintro e w1 ⟨rfl, hU1⟩
    obtain ⟨hc1, hf1, hz1⟩ := hU1.cells
    have hz1' : w.heap.size < w1.heap.size := by simp at hz1; omega
    have hU2 := hU0.trans hU1
    try (go_wp2; go_ret; exact ⟨by rw [Hok.out]; simp [errIf], hU2⟩; done)
  go_wp2
  all_goals
    go_ret
    refine ⟨ret_int ?_, hU2⟩
    rw [Hok.out]
    try simp only [Bool.not_eq_eq_eq_not, Bool.not_false, Bool.not_true, decide_eq_true_eq, decide_eq_false_iff_not] at *
    first
      | (rw [show withinB 0 39 n = true from decide_eq_true (by omega)]; simp [errIf]; done)
      | (rw [show withinB 0 39 n = false from decide_eq_false (by omega)]; simp [errIf]; done)

set_option maxHeartbeats 4000000 in
set_option maxRecDepth 100000 in
theorem checkR_3 (op n : Int) (tx : List UInt8) (r : RefL) (w : World) (hi : (InstL.mk op n tx r).fit) (hk : kindL op = 3) : Calls Tryd.prog 15 #[(InstL.mk op n tx r).v] w (checkPost ⟨op, n, tx, r⟩ w) := by
  obtain ⟨h1, h2⟩ := hi
  simp only at h1 h2
  obtain ⟨br, hbr⟩ : ∃ br, decide (r = noRefL) = br := ⟨_, rfl⟩
  obtain ⟨bn, hbn⟩ : ∃ bn, decide (n = 0) = bn := ⟨_, rfl⟩
  obtain ⟨bt, hbt⟩ : ∃ bt, decide (tx = []) = bt := ⟨_, rfl⟩
  have hok : (InstL.mk op n tx r).ok = (br && bt && withinB 0 199 n) := by
    have hb : (InstL.mk op n tx r).bare = ⟨op, n, [], noRefL⟩ := by unfold InstL.bare; simp [hk]
    have e : decide ((InstL.mk op n tx r).bare = ⟨op, n, tx, r⟩) = (decide (r = noRefL) && decide (tx = [])) := by
      rw [hb, Bool.eq_iff_iff]
      simp only [InstL.mk.injEq, true_and, and_true, Bool.and_eq_true, decide_eq_true_eq]
      exact ⟨fun ⟨t, r⟩ => ⟨r.symm, t.symm⟩, fun ⟨r, t⟩ => ⟨t.symm, r.symm⟩⟩
    unfold InstL.ok
    rw [e, hbr, hbt]
    unfold InstL.fine
    simp only [hk]
    simp
  unfold checkPost
  have hn0 : (n != 0) = !bn := by rw [← hbn]; by_cases h : n = 0 <;> simp [h]
  have ht0 : (bs tx).toList.isEmpty = bt := by rw [← hbt, bs_toList]; cases tx <;> simp
  have ht1 : ((bs tx).toList = []) = (bt = true) := by rw [← hbt, bs_toList]; simp
  have Hno := fun w => hid (noRefR_any r w)
  rw [hbr] at Hno
  have Hop := fun w => hid (operandR_any op w)
  rw [hk] at Hop
  have Hok := hid hok
  clear hok hbr hbn hbt hk
  have hU0 : Upd w (w.alloc (.cells #[.int .i64 op, .int .i64 n, .string (bs tx), .bool r.ifc, .string (bs r.cls), .string (bs r.nm), .string (bs r.ds)] 25)) [] := (Upd.refl _ _).alloc _
  unfold RefL.v at Hno
  unfold InstL.v InstL.cells
  simp only
  cases br <;> cases bt
  all_goals
    try simp only [Bool.not_true, Bool.not_false, Bool.false_eq_true] at hn0 ht1
    go_enter Tryd.func15, Tryd.ntmps15
    go_wp2_with fail
    refine (Hop _).out.mono ?_
    rintro e w0 ⟨rfl, rfl⟩
    go_wp2_with fail
    refine (Hno _).out.mono ?_
    rintro e w1 ⟨rfl, hU1⟩
    obtain ⟨hc1, hf1, hz1⟩ := hU1.cells
    have hz1' : w.heap.size < w1.heap.size := by simp at hz1; omega
    have hU2 := hU0.trans hU1
    try (go_wp2; go_ret; exact ⟨by rw [Hok.out]; simp [errIf], hU2⟩; done)
  go_wp2
  all_goals
    go_ret
    refine ⟨ret_int ?_, hU2⟩
    rw [Hok.out]
    try simp only [Bool.not_eq_eq_eq_not, Bool.not_false, Bool.not_true, decide_eq_true_eq, decide_eq_false_iff_not] at *
    first
      | (rw [show withinB 0 199 n = true from decide_eq_true (by omega)]; simp [errIf]; done)
      | (rw [show withinB 0 199 n = false from decide_eq_false (by omega)]; simp [errIf]; done)

end Go.Proofs.YtjjdlgjofjfgmaaDoor
