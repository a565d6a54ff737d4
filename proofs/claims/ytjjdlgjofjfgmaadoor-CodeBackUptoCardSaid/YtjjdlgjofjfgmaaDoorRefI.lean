/-
  The document's answer on instructions, walked: Check.
-/
import Derived.Test.YtjjdlgjofjfgmaaDoorRefG
set_option linter.unusedSimpArgs false
set_option linter.unusedVariables false
namespace Go.Proofs.YtjjdlgjofjfgmaaDoor
open Go.RowKit

set_option maxHeartbeats 4000000 in
set_option maxRecDepth 100000 in
theorem checkR_4 (op n : Int) (tx : List UInt8) (r : RefL) (w : World) (hi : (InstL.mk op n tx r).fit) (hk : kindL op = 4) : Calls Tryd.prog 15 #[(InstL.mk op n tx r).v] w (checkPost ⟨op, n, tx, r⟩ w) := by
  obtain ⟨h1, h2⟩ := hi
  simp only at h1 h2
  obtain ⟨br, hbr⟩ : ∃ br, decide (r = noRefL) = br := ⟨_, rfl⟩
  obtain ⟨bn, hbn⟩ : ∃ bn, decide (n = 0) = bn := ⟨_, rfl⟩
  obtain ⟨bt, hbt⟩ : ∃ bt, decide (tx = []) = bt := ⟨_, rfl⟩
  have hok : (InstL.mk op n tx r).ok = (br && bn && validB tx) := by
    have hb : (InstL.mk op n tx r).bare = ⟨op, 0, tx, noRefL⟩ := by unfold InstL.bare; simp [hk]
    have e : decide ((InstL.mk op n tx r).bare = ⟨op, n, tx, r⟩) = (decide (r = noRefL) && decide (n = 0)) := by
      rw [hb, Bool.eq_iff_iff]
      simp only [InstL.mk.injEq, true_and, and_true, Bool.and_eq_true, decide_eq_true_eq]
      exact ⟨fun ⟨n, r⟩ => ⟨r.symm, n.symm⟩, fun ⟨r, n⟩ => ⟨n.symm, r.symm⟩⟩
    unfold InstL.ok
    rw [e, hbr, hbn]
    unfold InstL.fine
    simp only [hk]
    simp
  unfold checkPost
  have hn0 : (n != 0) = !bn := by rw [← hbn]; by_cases h : n = 0 <;> simp [h]
  have ht0 : (bs tx).toList.isEmpty = bt := by rw [← hbt, bs_toList]; cases tx <;> simp
  have ht1 : ((bs tx).toList = []) = (bt = true) := by rw [← hbt, bs_toList]; simp
  have Hno := fun w => hid (noRefR_any r w)
  rw [hbr] at Hno
  have Hop := fun w => hid (operandR_any op w)
  rw [hk] at Hop
  have Hv := fun w => hid (validR_any tx w (by omega))
  obtain ⟨vb, hvb⟩ : ∃ vb, validB tx = vb := ⟨_, rfl⟩
  rw [hvb] at Hv hok
  clear hvb
  have Hok := hid hok
  clear hok hbr hbn hbt hk
  have hU0 : Upd w (w.alloc (.cells #[.int .i64 op, .int .i64 n, .string (bs tx), .bool r.ifc, .string (bs r.cls), .string (bs r.nm), .string (bs r.ds)] 25)) [] := (Upd.refl _ _).alloc _
  unfold RefL.v at Hno
  unfold InstL.v InstL.cells
  simp only
  cases br <;> cases bn
  all_goals
    try simp only [Bool.not_true, Bool.not_false, Bool.false_eq_true] at hn0 ht1
    go_enter Tryd.func15, Tryd.ntmps15
    go_wp2_with fail
    refine (Hop _).out.mono ?_
    rintro e w0 ⟨rfl, rfl⟩
    go_wp2_with fail
    refine (Hno _).out.mono ?_
    rintro e w1 ⟨rfl, hU1⟩
    obtain ⟨hc1, hf1, hz1⟩ := hU1.cells
    have hz1' : w.heap.size < w1.heap.size := by simp at hz1; omega
    have hU2 := hU0.trans hU1
    try (go_wp2; go_ret; exact ⟨by rw [Hok.out]; simp [errIf], hU2⟩; done)
  go_wp2_with fail
  refine (Hv _).out.mono ?_
  rintro e w2 ⟨rfl, hU3⟩
  have Hok := Hok
  cases vb
  all_goals
    go_wp2
    go_ret
    exact ⟨by rw [Hok.out]; simp [errIf], hU2.trans hU3⟩

set_option maxHeartbeats 4000000 in
set_option maxRecDepth 100000 in
theorem checkR_5 (op n : Int) (tx : List UInt8) (r : RefL) (w : World) (hi : (InstL.mk op n tx r).fit) (hk : kindL op = 5) : Calls Tryd.prog 15 #[(InstL.mk op n tx r).v] w (checkPost ⟨op, n, tx, r⟩ w) := by
  obtain ⟨h1, h2⟩ := hi
  simp only at h1 h2
  obtain ⟨br, hbr⟩ : ∃ br, decide (r = noRefL) = br := ⟨_, rfl⟩
  obtain ⟨bn, hbn⟩ : ∃ bn, decide (n = 0) = bn := ⟨_, rfl⟩
  obtain ⟨bt, hbt⟩ : ∃ bt, decide (tx = []) = bt := ⟨_, rfl⟩
  have hok : (InstL.mk op n tx r).ok = (br && bn && decide ((parseRefL tx).2.2 = 0)) := by
    have hb : (InstL.mk op n tx r).bare = ⟨op, 0, tx, noRefL⟩ := by unfold InstL.bare; simp [hk]
    have e : decide ((InstL.mk op n tx r).bare = ⟨op, n, tx, r⟩) = (decide (r = noRefL) && decide (n = 0)) := by
      rw [hb, Bool.eq_iff_iff]
      simp only [InstL.mk.injEq, true_and, and_true, Bool.and_eq_true, decide_eq_true_eq]
      exact ⟨fun ⟨n, r⟩ => ⟨r.symm, n.symm⟩, fun ⟨r, n⟩ => ⟨n.symm, r.symm⟩⟩
    unfold InstL.ok
    rw [e, hbr, hbn]
    unfold InstL.fine
    simp only [hk]
    simp
  unfold checkPost
  have hn0 : (n != 0) = !bn := by rw [← hbn]; by_cases h : n = 0 <;> simp [h]
  have ht0 : (bs tx).toList.isEmpty = bt := by rw [← hbt, bs_toList]; cases tx <;> simp
  have ht1 : ((bs tx).toList = []) = (bt = true) := by rw [← hbt, bs_toList]; simp
  have Hno := fun w => hid (noRefR_any r w)
  rw [hbr] at Hno
  have Hop := fun w => hid (operandR_any op w)
  rw [hk] at Hop
  have Ha := fun w => hid (parseRefR_any tx w (by omega))
  obtain ⟨p, hp⟩ : ∃ p, parseRefL tx = p := ⟨_, rfl⟩
  rw [hp] at Ha hok
  obtain ⟨pn, pl, pe⟩ := p
  clear hp
  simp only at hok
  have Hok := hid hok
  clear hok hbr hbn hbt hk
  have hU0 : Upd w (w.alloc (.cells #[.int .i64 op, .int .i64 n, .string (bs tx), .bool r.ifc, .string (bs r.cls), .string (bs r.nm), .string (bs r.ds)] 25)) [] := (Upd.refl _ _).alloc _
  unfold RefL.v at Hno
  unfold InstL.v InstL.cells
  simp only
  cases br <;> cases bn
  all_goals
    try simp only [Bool.not_true, Bool.not_false, Bool.false_eq_true] at hn0 ht1
    go_enter Tryd.func15, Tryd.ntmps15
    go_wp2_with fail
    refine (Hop _).out.mono ?_
    rintro e w0 ⟨rfl, rfl⟩
    go_wp2_with fail
    refine (Hno _).out.mono ?_
    rintro e w1 ⟨rfl, hU1⟩
    obtain ⟨hc1, hf1, hz1⟩ := hU1.cells
    have hz1' : w.heap.size < w1.heap.size := by simp at hz1; omega
    have hU2 := hU0.trans hU1
    try (go_wp2; go_ret; exact ⟨by rw [Hok.out]; simp [errIf], hU2⟩; done)
  go_wp2_with fail
  refine (Ha _).out.mono ?_
  rintro e w2 ⟨rfl, hU3⟩
  obtain ⟨hc2, hf2, hz2⟩ := hU3.cells
  have hz2' : w.heap.size < w2.heap.size := by omega
  have hU4 := (hU2.trans hU3).alloc (.cells #[.int .i64 pn, .string (bs pl)] 69)
  unfold ty
  by_cases hpe : pe = 0
  · subst hpe
    go_wp2
    all_goals
      go_ret
      refine ⟨ret_int ?_, hU4⟩
      rw [Hok.out]
      try simp only [Bool.not_eq_eq_eq_not, Bool.not_false, Bool.not_true, decide_eq_true_eq, decide_eq_false_iff_not] at *
      simp [errIf]
  · have hpe2 : (pe == 0) = false := by simpa using hpe
    go_wp2
    go_ret
    exact ⟨by rw [Hok.out]; simp [errIf, hpe], hU4⟩

set_option maxHeartbeats 4000000 in
set_option maxRecDepth 100000 in
theorem checkR_6 (op n : Int) (tx : List UInt8) (r : RefL) (w : World) (hi : (InstL.mk op n tx r).fit) (hk : kindL op = 6) : Calls Tryd.prog 15 #[(InstL.mk op n tx r).v] w (checkPost ⟨op, n, tx, r⟩ w) := by
  obtain ⟨h1, h2⟩ := hi
  simp only at h1 h2
  obtain ⟨br, hbr⟩ : ∃ br, decide (r = noRefL) = br := ⟨_, rfl⟩
  obtain ⟨bn, hbn⟩ : ∃ bn, decide (n = 0) = bn := ⟨_, rfl⟩
  obtain ⟨bt, hbt⟩ : ∃ bt, decide (tx = []) = bt := ⟨_, rfl⟩
  have hok : (InstL.mk op n tx r).ok = (br && bn && (decide ((parseL tx).2.2 = 0) && decide ((parseL tx).1 < 255))) := by
    have hb : (InstL.mk op n tx r).bare = ⟨op, 0, tx, noRefL⟩ := by unfold InstL.bare; simp [hk]
    have e : decide ((InstL.mk op n tx r).bare = ⟨op, n, tx, r⟩) = (decide (r = noRefL) && decide (n = 0)) := by
      rw [hb, Bool.eq_iff_iff]
      simp only [InstL.mk.injEq, true_and, and_true, Bool.and_eq_true, decide_eq_true_eq]
      exact ⟨fun ⟨n, r⟩ => ⟨r.symm, n.symm⟩, fun ⟨r, n⟩ => ⟨n.symm, r.symm⟩⟩
    unfold InstL.ok
    rw [e, hbr, hbn]
    unfold InstL.fine
    simp only [hk]
    simp
  unfold checkPost
  have hn0 : (n != 0) = !bn := by rw [← hbn]; by_cases h : n = 0 <;> simp [h]
  have ht0 : (bs tx).toList.isEmpty = bt := by rw [← hbt, bs_toList]; cases tx <;> simp
  have ht1 : ((bs tx).toList = []) = (bt = true) := by rw [← hbt, bs_toList]; simp
  have Hno := fun w => hid (noRefR_any r w)
  rw [hbr] at Hno
  have Hop := fun w => hid (operandR_any op w)
  rw [hk] at Hop
  have Ha := fun w => hid (parseR_any tx w (by omega))
  obtain ⟨p, hp⟩ : ∃ p, parseL tx = p := ⟨_, rfl⟩
  rw [hp] at Ha hok
  obtain ⟨pn, pl, pe⟩ := p
  clear hp
  simp only at hok
  have Hok := hid hok
  clear hok hbr hbn hbt hk
  have hU0 : Upd w (w.alloc (.cells #[.int .i64 op, .int .i64 n, .string (bs tx), .bool r.ifc, .string (bs r.cls), .string (bs r.nm), .string (bs r.ds)] 25)) [] := (Upd.refl _ _).alloc _
  unfold RefL.v at Hno
  unfold InstL.v InstL.cells
  simp only
  cases br <;> cases bn
  all_goals
    try simp only [Bool.not_true, Bool.not_false, Bool.false_eq_true] at hn0 ht1
    go_enter Tryd.func15, Tryd.ntmps15
    go_wp2_with fail
    refine (Hop _).out.mono ?_
    rintro e w0 ⟨rfl, rfl⟩
    go_wp2_with fail
    refine (Hno _).out.mono ?_
    rintro e w1 ⟨rfl, hU1⟩
    obtain ⟨hc1, hf1, hz1⟩ := hU1.cells
    have hz1' : w.heap.size < w1.heap.size := by simp at hz1; omega
    have hU2 := hU0.trans hU1
    try (go_wp2; go_ret; exact ⟨by rw [Hok.out]; simp [errIf], hU2⟩; done)
  go_wp2_with fail
  refine (Ha _).out.mono ?_
  rintro e w2 ⟨rfl, hU3⟩
  obtain ⟨hc2, hf2, hz2⟩ := hU3.cells
  have hz2' : w.heap.size < w2.heap.size := by omega
  have hU4 := (hU2.trans hU3).alloc (.cells #[.int .i64 pn, .string (bs pl)] 69)
  unfold ty
  by_cases hpe : pe = 0
  · subst hpe
    go_wp2
    all_goals
      go_ret
      refine ⟨ret_int ?_, hU4⟩
      rw [Hok.out]
      try simp only [Bool.not_eq_eq_eq_not, Bool.not_false, Bool.not_true, decide_eq_true_eq, decide_eq_false_iff_not] at *
      first
          | (rw [show decide (pn < 255) = true from decide_eq_true (by omega)]; simp [errIf]; done)
          | (rw [show decide (pn < 255) = false from decide_eq_false (by omega)]; simp [errIf]; done)
  · have hpe2 : (pe == 0) = false := by simpa using hpe
    go_wp2
    go_ret
    exact ⟨by rw [Hok.out]; simp [errIf, hpe], hU4⟩

set_option maxHeartbeats 4000000 in
set_option maxRecDepth 100000 in
theorem checkR_7 (op n : Int) (tx : List UInt8) (r : RefL) (w : World) (hi : (InstL.mk op n tx r).fit) (hk : kindL op = 7) : Calls Tryd.prog 15 #[(InstL.mk op n tx r).v] w (checkPost ⟨op, n, tx, r⟩ w) := by
  obtain ⟨h1, h2⟩ := hi
  simp only at h1 h2
  obtain ⟨br, hbr⟩ : ∃ br, decide (r = noRefL) = br := ⟨_, rfl⟩
  obtain ⟨bn, hbn⟩ : ∃ bn, decide (n = 0) = bn := ⟨_, rfl⟩
  obtain ⟨bt, hbt⟩ : ∃ bt, decide (tx = []) = bt := ⟨_, rfl⟩
  have hok : (InstL.mk op n tx r).ok = (br && (decide ((parseRefL tx).2.2 = 0) && withinB 1 (parseRefL tx).1 n)) := by
    have hb : (InstL.mk op n tx r).bare = ⟨op, n, tx, noRefL⟩ := by unfold InstL.bare; simp [hk]
    have e : decide ((InstL.mk op n tx r).bare = ⟨op, n, tx, r⟩) = (decide (r = noRefL)) := by
      rw [hb, Bool.eq_iff_iff]
      simp only [InstL.mk.injEq, true_and, and_true, Bool.and_eq_true, decide_eq_true_eq]
      exact eq_comm
    unfold InstL.ok
    rw [e, hbr]
    unfold InstL.fine
    simp only [hk]
    simp
  unfold checkPost
  have hn0 : (n != 0) = !bn := by rw [← hbn]; by_cases h : n = 0 <;> simp [h]
  have ht0 : (bs tx).toList.isEmpty = bt := by rw [← hbt, bs_toList]; cases tx <;> simp
  have ht1 : ((bs tx).toList = []) = (bt = true) := by rw [← hbt, bs_toList]; simp
  have Hno := fun w => hid (noRefR_any r w)
  rw [hbr] at Hno
  have Hop := fun w => hid (operandR_any op w)
  rw [hk] at Hop
  have Ha := fun w => hid (parseRefR_any tx w (by omega))
  obtain ⟨p, hp⟩ : ∃ p, parseRefL tx = p := ⟨_, rfl⟩
  rw [hp] at Ha hok
  obtain ⟨pn, pl, pe⟩ := p
  clear hp
  simp only at hok
  have Hok := hid hok
  clear hok hbr hbn hbt hk
  have hU0 : Upd w (w.alloc (.cells #[.int .i64 op, .int .i64 n, .string (bs tx), .bool r.ifc, .string (bs r.cls), .string (bs r.nm), .string (bs r.ds)] 25)) [] := (Upd.refl _ _).alloc _
  unfold RefL.v at Hno
  unfold InstL.v InstL.cells
  simp only
  cases br
  all_goals
    try simp only [Bool.not_true, Bool.not_false, Bool.false_eq_true] at hn0 ht1
    go_enter Tryd.func15, Tryd.ntmps15
    go_wp2_with fail
    refine (Hop _).out.mono ?_
    rintro e w0 ⟨rfl, rfl⟩
    go_wp2_with fail
    refine (Hno _).out.mono ?_
    rintro e w1 ⟨rfl, hU1⟩
    obtain ⟨hc1, hf1, hz1⟩ := hU1.cells
    have hz1' : w.heap.size < w1.heap.size := by simp at hz1; omega
    have hU2 := hU0.trans hU1
    try (go_wp2; go_ret; exact ⟨by rw [Hok.out]; simp [errIf], hU2⟩; done)
  go_wp2_with fail
  refine (Ha _).out.mono ?_
  rintro e w2 ⟨rfl, hU3⟩
  obtain ⟨hc2, hf2, hz2⟩ := hU3.cells
  have hz2' : w.heap.size < w2.heap.size := by omega
  have hU4 := (hU2.trans hU3).alloc (.cells #[.int .i64 pn, .string (bs pl)] 69)
  unfold ty
  by_cases hpe : pe = 0
  · subst hpe
    go_wp2
    all_goals
      go_ret
      refine ⟨ret_int ?_, hU4⟩
      rw [Hok.out]
      try simp only [Bool.not_eq_eq_eq_not, Bool.not_false, Bool.not_true, decide_eq_true_eq, decide_eq_false_iff_not] at *
      first
          | (rw [show withinB 1 (pn : Int) n = true from decide_eq_true (by omega)]; simp [errIf]; done)
          | (rw [show withinB 1 (pn : Int) n = false from decide_eq_false (by omega)]; simp [errIf]; done)
  · have hpe2 : (pe == 0) = false := by simpa using hpe
    go_wp2
    go_ret
    exact ⟨by rw [Hok.out]; simp [errIf, hpe], hU4⟩

set_option maxHeartbeats 4000000 in
set_option maxRecDepth 100000 in
theorem checkR_8 (op n : Int) (tx : List UInt8) (r : RefL) (w : World) (hi : (InstL.mk op n tx r).fit) (hk : kindL op = 8) : Calls Tryd.prog 15 #[(InstL.mk op n tx r).v] w (checkPost ⟨op, n, tx, r⟩ w) := by
  obtain ⟨h1, h2⟩ := hi
  simp only at h1 h2
  obtain ⟨br, hbr⟩ : ∃ br, decide (r = noRefL) = br := ⟨_, rfl⟩
  obtain ⟨bn, hbn⟩ : ∃ bn, decide (n = 0) = bn := ⟨_, rfl⟩
  obtain ⟨bt, hbt⟩ : ∃ bt, decide (tx = []) = bt := ⟨_, rfl⟩
  have hok : (InstL.mk op n tx r).ok = (bn && bt && r.ok) := by
    have hb : (InstL.mk op n tx r).bare = ⟨op, 0, [], r⟩ := by unfold InstL.bare; simp [hk]
    have e : decide ((InstL.mk op n tx r).bare = ⟨op, n, tx, r⟩) = (decide (n = 0) && decide (tx = [])) := by
      rw [hb, Bool.eq_iff_iff]
      simp only [InstL.mk.injEq, true_and, and_true, Bool.and_eq_true, decide_eq_true_eq]
      exact ⟨fun ⟨n, t⟩ => ⟨n.symm, t.symm⟩, fun ⟨n, t⟩ => ⟨n.symm, t.symm⟩⟩
    unfold InstL.ok
    rw [e, hbn, hbt]
    unfold InstL.fine
    simp only [hk]
    simp
  unfold checkPost
  have hn0 : (n != 0) = !bn := by rw [← hbn]; by_cases h : n = 0 <;> simp [h]
  have ht0 : (bs tx).toList.isEmpty = bt := by rw [← hbt, bs_toList]; cases tx <;> simp
  have ht1 : ((bs tx).toList = []) = (bt = true) := by rw [← hbt, bs_toList]; simp
  have Hno := fun w => hid (noRefR_any r w)
  rw [hbr] at Hno
  have Hop := fun w => hid (operandR_any op w)
  rw [hk] at Hop
  have Hr := fun w => hid (refCheckR_any r w h2)
  unfold refPost RefL.v at Hr
  have Hok := hid hok
  clear hok hbr hbn hbt hk
  have hU0 : Upd w (w.alloc (.cells #[.int .i64 op, .int .i64 n, .string (bs tx), .bool r.ifc, .string (bs r.cls), .string (bs r.nm), .string (bs r.ds)] 25)) [] := (Upd.refl _ _).alloc _
  unfold RefL.v at Hno
  unfold InstL.v InstL.cells
  simp only
  cases bn <;> cases bt
  all_goals
    try simp only [Bool.not_true, Bool.not_false, Bool.false_eq_true] at hn0 ht1
    go_enter Tryd.func15, Tryd.ntmps15
    go_wp2_with fail
    refine (Hop _).out.mono ?_
    rintro e w0 ⟨rfl, rfl⟩
    have hU2 := hU0
    try (go_wp2; go_ret; exact ⟨by rw [Hok.out]; simp [errIf], hU2⟩; done)
  go_wp2_with fail
  refine (Hr _).out.mono ?_
  rintro e w2 ⟨rfl, hU3⟩
  cases hx : r.ok
  all_goals
    simp only [errIf]
    go_wp2
    go_ret
    exact ⟨by rw [Hok.out, hx]; simp [errIf], hU2.trans hU3⟩

end Go.Proofs.YtjjdlgjofjfgmaaDoor
