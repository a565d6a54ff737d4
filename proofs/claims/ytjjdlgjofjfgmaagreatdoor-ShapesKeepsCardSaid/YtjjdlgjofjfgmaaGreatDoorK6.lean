/-
 The document's answer on instructions, walked: words, Word, Operand.
-/
import Derived.Test.YtjjdlgjofjfgmaaGreatDoorK3
import Derived.Test.YtjjdlgjofjfgmaaGreatDoorK5
set_option linter.unusedSimpArgs false
set_option linter.unusedVariables false
namespace Go.Proofs.YtjjdlgjofjfgmaaGreatDoor
open Go.RowKit
def wordCells : Array Value := (specT.map fun p => Value.string (bs p.1)).toArray
set_option maxHeartbeats 4000000 in
set_option maxRecDepth 100000 in
theorem words_any (w : World) : Calls Tryz.prog 100 #[] w fun e w' => e = .returned (.slice (some ⟨w.heap.size, 0, none⟩) 41 41) ∧ w' = w.alloc (.cells wordCells 9) := by
 have hw : ∀ cs : Array Value, cs = wordCells → w.alloc (.cells cs 9) = w.alloc (.cells wordCells 9) := by rintro cs rfl; rfl
 have Hw := hid hw
 clear hw
 go_enter Tryz.func100, Tryz.ntmps100
 go_wp2
 go_ret
 exact ⟨rfl, Hw.out _ (by kernel_rfl)⟩
theorem wordCells_at (op : Int) (h0 : 0 ≤ op) (h1 : op ≤ 40) : wordCells[op.toNat]? = some (.string (bs (wordL op))) := by
 have hl : op.toNat < specT.length := by show op.toNat < 41; omega
 unfold wordCells wordL
 rw [List.getElem?_toArray, List.getElem?_map, List.getElem?_eq_getElem hl, List.getD_eq_getElem?_getD, List.getElem?_eq_getElem hl]
 rfl
theorem ret_int {k : IntKind} {a b : Int} (h : a = b) : Ending.returned (.int k a) = .returned (.int k b) := by rw [h]
theorem kindL_val (op k : Int) (h0 : 1 ≤ op) (h1 : op ≤ 40) (h : (specT.getD op.toNat ([], 0)).2 = k) : kindL op = k := by
 unfold kindL
 rw [if_pos ⟨h0, h1⟩, h]
theorem kindL_zero (op : Int) (h0 : 1 ≤ op) (h1 : op ≤ 40) (h : ¬ (op = 1 ∨ op = 2 ∨ op = 3 ∨ op = 4 ∨ op = 5 ∨ op = 11 ∨ op = 12 ∨ op = 13 ∨ op = 14 ∨ op = 15 ∨ op = 16 ∨ op = 17 ∨ op = 18 ∨ op = 22 ∨ op = 30 ∨ op = 31 ∨ op = 23 ∨ op = 24 ∨ op = 32 ∨ op = 33 ∨ op = 34 ∨ op = 35)) : kindL op = 0 := by
 have hd : ∀ n : Fin 41, (n.val = 0 ∨ n.val = 1 ∨ n.val = 2 ∨ n.val = 3 ∨ n.val = 4 ∨ n.val = 5 ∨ n.val = 11 ∨ n.val = 12 ∨ n.val = 13 ∨ n.val = 14 ∨ n.val = 15 ∨ n.val = 16 ∨ n.val = 17 ∨ n.val = 18 ∨ n.val = 22 ∨ n.val = 30 ∨ n.val = 31 ∨ n.val = 23 ∨ n.val = 24 ∨ n.val = 32 ∨ n.val = 33 ∨ n.val = 34 ∨ n.val = 35) ∨ (specT.getD n.val ([], 0)).2 = 0 := by decide
 have := hd ⟨op.toNat, by omega⟩
 refine kindL_val op 0 h0 h1 ?_
 simp only at this
 omega
set_option maxHeartbeats 4000000 in
set_option maxRecDepth 100000 in
theorem operandR_any (op : Int) (w : World) : Calls Tryz.prog 59 #[.int .i64 op] w fun e w' => e = .returned (.int .i64 (kindL op)) ∧ w = w' := by
 obtain ⟨k, hk⟩ : ∃ k, kindL op = k := ⟨_, rfl⟩
 rw [hk]
 have Hk := hid hk
 clear hk
 go_enter Tryz.func59, Tryz.ntmps59
 go_wp2
 all_goals
  go_ret
  refine ⟨ret_int ?_, rfl⟩
  rw [← Hk.out]
  clear Hk
  try simp only [beq_iff_eq, beq_eq_false_iff_ne] at *
 all_goals first
  | (subst_vars; decide)
  | (unfold kindL; rw [if_neg (by omega)])
  | (symm; exact kindL_zero op (by omega) (by omega) (by omega))
  | trace_state
end Go.Proofs.YtjjdlgjofjfgmaaGreatDoor
/-
 The document's answer on instructions, walked: noRef, RefCheck, RefText.
-/
set_option linter.unusedSimpArgs false
set_option linter.unusedVariables false
namespace Go.Proofs.YtjjdlgjofjfgmaaGreatDoor
open Go.RowKit
set_option maxHeartbeats 1000000 in
theorem noRefR_any (r : RefL) (w : World) : Calls Tryz.prog 106 #[r.v] w fun e w' => e = .returned (.bool (decide (r = noRefL))) ∧ Upd w w' [] := by
 obtain ⟨a, c, n, d⟩ := r
 have e : decide (RefL.mk a c n d = noRefL) = (!a && decide (c = []) && decide (n = []) && decide (d = [])) := by
  rw [Bool.eq_iff_iff]
  simp [noRefL, and_assoc]
 rw [e]
 clear e
 have hc : (bs c).toList.isEmpty = decide (c = []) := by rw [bs_toList]; cases c <;> simp
 have hn : (bs n).toList.isEmpty = decide (n = []) := by rw [bs_toList]; cases n <;> simp
 have hd : (bs d).toList.isEmpty = decide (d = []) := by rw [bs_toList]; cases d <;> simp
 have hc2 : ((bs c).toList = []) = (c = []) := by rw [bs_toList]
 have hn2 : ((bs n).toList = []) = (n = []) := by rw [bs_toList]
 have hd2 : ((bs d).toList = []) = (d = []) := by rw [bs_toList]
 unfold RefL.v
 simp only
 cases a
 all_goals
  go_enter Tryz.func106, Tryz.ntmps106
  go_wp2
  all_goals
   go_ret
   refine ⟨bool_ret ?_, (Upd.refl _ _).alloc _⟩
   simp_all
set_option maxHeartbeats 1000000 in
theorem refCheckR_any (r : RefL) (w : World) (hr : r.fit) : Calls Tryz.prog 65 #[r.v] w (refPost r w) := by
 obtain ⟨ifc, cls, nm, ds⟩ := r
 obtain ⟨h1, h2, h3⟩ := hr
 simp only at h1 h2 h3
 have h2s : (bs nm).size ≤ 9223372036854775807 := by rw [bs_size]; omega
 have hx : (RefL.mk ifc cls nm ds).ok = (decide ((parseRefL cls).2.2 = 0) && decide ((descL ds).2 = 0) && memberB nm) := rfl
 obtain ⟨x, ex⟩ : ∃ x, (RefL.mk ifc cls nm ds).ok = x := ⟨_, rfl⟩
 unfold refPost RefL.v
 rw [ex]
 rw [ex] at hx
 clear ex
 have Ha := fun w => hid (parseRefR_any cls w (by omega))
 have Hb := fun w => hid (parseDescR_any ds w (by omega))
 have Hc := fun w => hid (memberR_any (bs nm) w h2s)
 simp only [bs_data] at Hc
 generalize parseRefL cls = p at Ha hx
 generalize descL ds = q at Hb hx
 generalize memberB nm = m at Hc hx
 obtain ⟨pn, pl, pe⟩ := p
 obtain ⟨qn, qe⟩ := q
 simp only at hx
 have Hx := hid hx
 clear hx h1 h2 h3 h2s
 have hU0 : Upd w (w.alloc (.cells #[.bool ifc, .string (bs cls), .string (bs nm), .string (bs ds)] 39)) [] := (Upd.refl _ _).alloc _
 by_cases hpe : pe = 0
 ·subst hpe
  cases m with
  | false =>
   go_enter Tryz.func65, Tryz.ntmps65
   go_wp2_with fail
   refine (Ha _).out.mono ?_
   rintro e w1 ⟨rfl, hU1⟩
   obtain ⟨hc1, hf1, hz1⟩ := hU1.cells
   have hz1' : w.heap.size < w1.heap.size := by simp at hz1; omega
   have hU2 := (hU0.trans hU1).alloc (.cells #[.int .i64 pn, .string (bs pl)] 111)
   unfold ty
   go_wp2_with (refine (Hc _).out.mono ?_; rintro e w3 ⟨rfl, rfl⟩)
   go_ret
   exact ⟨by rw [Hx.out]; simp [errIf], hU2⟩
  | true =>
   go_enter Tryz.func65, Tryz.ntmps65
   go_wp2_with fail
   refine (Ha _).out.mono ?_
   rintro e w1 ⟨rfl, hU1⟩
   obtain ⟨hc1, hf1, hz1⟩ := hU1.cells
   have hz1' : w.heap.size < w1.heap.size := by simp at hz1; omega
   have hU2 := (hU0.trans hU1).alloc (.cells #[.int .i64 pn, .string (bs pl)] 111)
   unfold ty
   go_wp2_with fail
   refine (Hc _).out.mono ?_
   rintro e w3 ⟨rfl, rfl⟩
   go_wp2_with fail
   refine (Hb _).out.mono ?_
   rintro e w2 ⟨⟨A, cap, vd, d, nm', rfl⟩, hU3⟩
   have hU4 := (hU2.trans hU3).alloc (.cells #[.slice A qn cap, .bool vd, .int .i64 d, .string (bs nm')] 113)
   go_wp2
   all_goals
    go_ret
    refine ⟨?_, hU4⟩
    rw [Hx.out]
    simp_all [errIf]
 ·have hpe2 : (pe != 0) = true := by simpa using hpe
  go_enter Tryz.func65, Tryz.ntmps65
  go_wp2_with fail
  refine (Ha _).out.mono ?_
  rintro e w1 ⟨rfl, hU1⟩
  have hU2 := (hU0.trans hU1).alloc (.cells #[.int .i64 pn, .string (bs pl)] 111)
  unfold ty
  go_wp2
  go_ret
  exact ⟨by rw [Hx.out]; simp [errIf, hpe], hU2⟩
set_option maxHeartbeats 1000000 in
theorem refTextR_any (r : RefL) (w : World) (hr : r.fit) : Calls Tryz.prog 101 #[r.v] w (refTextPost r w) := by
 have Hc := fun w => hid (refCheckR_any r w hr)
 have hle := fun h => RefL.ok_le (r := r) h
 have hfin : ∀ w', Upd w w' [] → refTextPost r w (.returned (.tuple #[.string (bs (if r.ok then r.text else [])), .int .i64 (errIf r.ok)])) w' := fun w' h => ⟨rfl, h⟩
 obtain ⟨x, ex⟩ : ∃ x, r.ok = x := ⟨_, rfl⟩
 unfold refPost at Hc
 rw [ex] at Hc hle hfin
 have Hfin := hid hfin
 clear ex hfin
 have hU0 : Upd w (w.alloc (.cells #[.bool r.ifc, .string (bs r.cls), .string (bs r.nm), .string (bs r.ds)] 39)) [] := (Upd.refl _ _).alloc _
 unfold RefL.v at Hc ⊢
 cases x with
 | false =>
  clear hle
  go_enter Tryz.func101, Tryz.ntmps101
  go_wp2_with fail
  refine (Hc _).out.mono ?_
  rintro e w1 ⟨rfl, hU1⟩
  have hU2 := hU0.trans hU1
  simp only [errIf]
  go_wp2
  go_ret2
  exact Hfin.out _ hU2
 | true =>
  obtain ⟨l1, l2, l3⟩ := hle rfl
  have s1 : (bs r.cls).size ≤ 2000 := by rw [bs_size]; exact l1
  have s2 : (bs r.nm).size ≤ 60 := by rw [bs_size]; exact l2
  have s3 : (bs r.ds).size ≤ 2000 := by rw [bs_size]; exact l3
  clear hle l1 l2 l3
  cases hi : r.ifc
  all_goals
   rw [hi] at Hc hU0
   have Hi := hid hi
   clear hi
   go_enter Tryz.func101, Tryz.ntmps101
   go_wp2_with fail
   refine (Hc _).out.mono ?_
   rintro e w1 ⟨rfl, hU1⟩
   obtain ⟨hc1, hf1, hz1⟩ := hU1.cells
   have hz1' : w.heap.size < w1.heap.size := by simp at hz1; omega
   have hU2 := hU0.trans hU1
   simp only [errIf]
   go_wp2
   go_ret2
   have hq := Hfin.out _ hU2
   first | rw [show (⟨#[46]⟩ : ByteArray) = bs [46] from rfl] | rw [show (⟨#[58]⟩ : ByteArray) = bs [58] from rfl]
   rw [bs_append, bs_append, bs_append]
   simpa [RefL.text, Hi.out, errIf] using hq
end Go.Proofs.YtjjdlgjofjfgmaaGreatDoor
/-
 The document's answer on instructions, walked: Check.
-/
set_option linter.unusedSimpArgs false
set_option linter.unusedVariables false
namespace Go.Proofs.YtjjdlgjofjfgmaaGreatDoor
open Go.RowKit
set_option maxHeartbeats 4000000 in
set_option maxRecDepth 100000 in
theorem checkR_m1 (op n : Int) (tx : List UInt8) (r : RefL) (w : World) (hi : (InstL.mk op n tx r).fit) (hk : kindL op = -1) : Calls Tryz.prog 61 #[(InstL.mk op n tx r).v] w (checkPost ⟨op, n, tx, r⟩ w) := by
 obtain ⟨h1, h2⟩ := hi
 simp only at h1 h2
 obtain ⟨br, hbr⟩ : ∃ br, decide (r = noRefL) = br := ⟨_, rfl⟩
 obtain ⟨bn, hbn⟩ : ∃ bn, decide (n = 0) = bn := ⟨_, rfl⟩
 obtain ⟨bt, hbt⟩ : ∃ bt, decide (tx = []) = bt := ⟨_, rfl⟩
 have hok : (InstL.mk op n tx r).ok = (br && bn && bt && false) := by
  have hb : (InstL.mk op n tx r).bare = ⟨op, 0, [], noRefL⟩ := by unfold InstL.bare; simp [hk]
  have e : decide ((InstL.mk op n tx r).bare = ⟨op, n, tx, r⟩) = (decide (r = noRefL) && decide (n = 0) && decide (tx = [])) := by
   rw [hb, Bool.eq_iff_iff]
   simp only [InstL.mk.injEq, true_and, and_true, Bool.and_eq_true, decide_eq_true_eq]
   exact ⟨fun ⟨n, t, r⟩ => ⟨⟨r.symm, n.symm⟩, t.symm⟩, fun ⟨⟨r, n⟩, t⟩ => ⟨n.symm, t.symm, r.symm⟩⟩
  unfold InstL.ok
  rw [e, hbr, hbn, hbt]
  unfold InstL.fine
  simp only [hk]
  simp
 unfold checkPost
 have hn0 : (n != 0) = !bn := by rw [← hbn]; by_cases h : n = 0 <;> simp [h]
 have ht0 : (bs tx).toList.isEmpty = bt := by rw [← hbt, bs_toList]; cases tx <;> simp
 have ht1 : ((bs tx).toList = []) = (bt = true) := by rw [← hbt, bs_toList]; simp
 have Hno := fun w => hid (noRefR_any r w)
 rw [hbr] at Hno
 have Hop := fun w => hid (operandR_any op w)
 rw [hk] at Hop
 have Hok := hid hok
 clear hok hbr hbn hbt hk
 have hU0 : Upd w (w.alloc (.cells #[.int .i64 op, .int .i64 n, .string (bs tx), .bool r.ifc, .string (bs r.cls), .string (bs r.nm), .string (bs r.ds)] 41)) [] := (Upd.refl _ _).alloc _
 unfold RefL.v at Hno
 unfold InstL.v InstL.cells
 simp only
 cases br <;> cases bn <;> cases bt
 all_goals
  try simp only [Bool.not_true, Bool.not_false, Bool.false_eq_true] at hn0 ht1
  go_enter Tryz.func61, Tryz.ntmps61
  go_wp2_with fail
  refine (Hop _).out.mono ?_
  rintro e w0 ⟨rfl, rfl⟩
  go_wp2_with fail
  refine (Hno _).out.mono ?_
  rintro e w1 ⟨rfl, hU1⟩
  obtain ⟨hc1, hf1, hz1⟩ := hU1.cells
  have hz1' : w.heap.size < w1.heap.size := by simp at hz1; omega
  have hU2 := hU0.trans hU1
  try (go_wp2; go_ret; exact ⟨by rw [Hok.out]; simp [errIf], hU2⟩; done)
set_option maxHeartbeats 4000000 in
set_option maxRecDepth 100000 in
theorem checkR_0 (op n : Int) (tx : List UInt8) (r : RefL) (w : World) (hi : (InstL.mk op n tx r).fit) (hk : kindL op = 0) : Calls Tryz.prog 61 #[(InstL.mk op n tx r).v] w (checkPost ⟨op, n, tx, r⟩ w) := by
 obtain ⟨h1, h2⟩ := hi
 simp only at h1 h2
 obtain ⟨br, hbr⟩ : ∃ br, decide (r = noRefL) = br := ⟨_, rfl⟩
 obtain ⟨bn, hbn⟩ : ∃ bn, decide (n = 0) = bn := ⟨_, rfl⟩
 obtain ⟨bt, hbt⟩ : ∃ bt, decide (tx = []) = bt := ⟨_, rfl⟩
 have hok : (InstL.mk op n tx r).ok = (br && bn && bt && true) := by
  have hb : (InstL.mk op n tx r).bare = ⟨op, 0, [], noRefL⟩ := by unfold InstL.bare; simp [hk]
  have e : decide ((InstL.mk op n tx r).bare = ⟨op, n, tx, r⟩) = (decide (r = noRefL) && decide (n = 0) && decide (tx = [])) := by
   rw [hb, Bool.eq_iff_iff]
   simp only [InstL.mk.injEq, true_and, and_true, Bool.and_eq_true, decide_eq_true_eq]
   exact ⟨fun ⟨n, t, r⟩ => ⟨⟨r.symm, n.symm⟩, t.symm⟩, fun ⟨⟨r, n⟩, t⟩ => ⟨n.symm, t.symm, r.symm⟩⟩
  unfold InstL.ok
  rw [e, hbr, hbn, hbt]
  unfold InstL.fine
  simp only [hk]
  simp
 unfold checkPost
 have hn0 : (n != 0) = !bn := by rw [← hbn]; by_cases h : n = 0 <;> simp [h]
 have ht0 : (bs tx).toList.isEmpty = bt := by rw [← hbt, bs_toList]; cases tx <;> simp
 have ht1 : ((bs tx).toList = []) = (bt = true) := by rw [← hbt, bs_toList]; simp
 have Hno := fun w => hid (noRefR_any r w)
 rw [hbr] at Hno
 have Hop := fun w => hid (operandR_any op w)
 rw [hk] at Hop
 have Hok := hid hok
 clear hok hbr hbn hbt hk
 have hU0 : Upd w (w.alloc (.cells #[.int .i64 op, .int .i64 n, .string (bs tx), .bool r.ifc, .string (bs r.cls), .string (bs r.nm), .string (bs r.ds)] 41)) [] := (Upd.refl _ _).alloc _
 unfold RefL.v at Hno
 unfold InstL.v InstL.cells
 simp only
 cases br <;> cases bn <;> cases bt
 all_goals
  try simp only [Bool.not_true, Bool.not_false, Bool.false_eq_true] at hn0 ht1
  go_enter Tryz.func61, Tryz.ntmps61
  go_wp2_with fail
  refine (Hop _).out.mono ?_
  rintro e w0 ⟨rfl, rfl⟩
  go_wp2_with fail
  refine (Hno _).out.mono ?_
  rintro e w1 ⟨rfl, hU1⟩
  obtain ⟨hc1, hf1, hz1⟩ := hU1.cells
  have hz1' : w.heap.size < w1.heap.size := by simp at hz1; omega
  have hU2 := hU0.trans hU1
  try (go_wp2; go_ret; exact ⟨by rw [Hok.out]; simp [errIf], hU2⟩; done)
set_option maxHeartbeats 4000000 in
set_option maxRecDepth 100000 in
theorem checkR_1 (op n : Int) (tx : List UInt8) (r : RefL) (w : World) (hi : (InstL.mk op n tx r).fit) (hk : kindL op = 1) : Calls Tryz.prog 61 #[(InstL.mk op n tx r).v] w (checkPost ⟨op, n, tx, r⟩ w) := by
 obtain ⟨h1, h2⟩ := hi
 simp only at h1 h2
 obtain ⟨br, hbr⟩ : ∃ br, decide (r = noRefL) = br := ⟨_, rfl⟩
 obtain ⟨bn, hbn⟩ : ∃ bn, decide (n = 0) = bn := ⟨_, rfl⟩
 obtain ⟨bt, hbt⟩ : ∃ bt, decide (tx = []) = bt := ⟨_, rfl⟩
 have hok : (InstL.mk op n tx r).ok = (br && bt && withinB (-2147483648) 2147483647 n) := by
  have hb : (InstL.mk op n tx r).bare = ⟨op, n, [], noRefL⟩ := by unfold InstL.bare; simp [hk]
  have e : decide ((InstL.mk op n tx r).bare = ⟨op, n, tx, r⟩) = (decide (r = noRefL) && decide (tx = [])) := by
   rw [hb, Bool.eq_iff_iff]
   simp only [InstL.mk.injEq, true_and, and_true, Bool.and_eq_true, decide_eq_true_eq]
   exact ⟨fun ⟨t, r⟩ => ⟨r.symm, t.symm⟩, fun ⟨r, t⟩ => ⟨t.symm, r.symm⟩⟩
  unfold InstL.ok
  rw [e, hbr, hbt]
  unfold InstL.fine
  simp only [hk]
  simp
 unfold checkPost
 have hn0 : (n != 0) = !bn := by rw [← hbn]; by_cases h : n = 0 <;> simp [h]
 have ht0 : (bs tx).toList.isEmpty = bt := by rw [← hbt, bs_toList]; cases tx <;> simp
 have ht1 : ((bs tx).toList = []) = (bt = true) := by rw [← hbt, bs_toList]; simp
 have Hno := fun w => hid (noRefR_any r w)
 rw [hbr] at Hno
 have Hop := fun w => hid (operandR_any op w)
 rw [hk] at Hop
 have Hok := hid hok
 clear hok hbr hbn hbt hk
 have hU0 : Upd w (w.alloc (.cells #[.int .i64 op, .int .i64 n, .string (bs tx), .bool r.ifc, .string (bs r.cls), .string (bs r.nm), .string (bs r.ds)] 41)) [] := (Upd.refl _ _).alloc _
 unfold RefL.v at Hno
 unfold InstL.v InstL.cells
 simp only
 cases br <;> cases bt
 all_goals
  try simp only [Bool.not_true, Bool.not_false, Bool.false_eq_true] at hn0 ht1
  go_enter Tryz.func61, Tryz.ntmps61
  go_wp2_with fail
  refine (Hop _).out.mono ?_
  rintro e w0 ⟨rfl, rfl⟩
  go_wp2_with fail
  refine (Hno _).out.mono ?_
  rintro e w1 ⟨rfl, hU1⟩
  obtain ⟨hc1, hf1, hz1⟩ := hU1.cells
  have hz1' : w.heap.size < w1.heap.size := by simp at hz1; omega
  have hU2 := hU0.trans hU1
  try (go_wp2; go_ret; exact ⟨by rw [Hok.out]; simp [errIf], hU2⟩; done)
 go_wp2
 all_goals
  go_ret
  refine ⟨ret_int ?_, hU2⟩
  rw [Hok.out]
  try simp only [Bool.not_eq_eq_eq_not, Bool.not_false, Bool.not_true, decide_eq_true_eq, decide_eq_false_iff_not] at *
  first
   | (rw [show withinB (-2147483648) 2147483647 n = true from decide_eq_true (by omega)]; simp [errIf]; done)
   | (rw [show withinB (-2147483648) 2147483647 n = false from decide_eq_false (by omega)]; simp [errIf]; done)
set_option maxHeartbeats 4000000 in
set_option maxRecDepth 100000 in
theorem checkR_2 (op n : Int) (tx : List UInt8) (r : RefL) (w : World) (hi : (InstL.mk op n tx r).fit) (hk : kindL op = 2) : Calls Tryz.prog 61 #[(InstL.mk op n tx r).v] w (checkPost ⟨op, n, tx, r⟩ w) := by
 obtain ⟨h1, h2⟩ := hi
 simp only at h1 h2
 obtain ⟨br, hbr⟩ : ∃ br, decide (r = noRefL) = br := ⟨_, rfl⟩
 obtain ⟨bn, hbn⟩ : ∃ bn, decide (n = 0) = bn := ⟨_, rfl⟩
 obtain ⟨bt, hbt⟩ : ∃ bt, decide (tx = []) = bt := ⟨_, rfl⟩
 have hok : (InstL.mk op n tx r).ok = (br && bt && withinB 0 39 n) := by
  have hb : (InstL.mk op n tx r).bare = ⟨op, n, [], noRefL⟩ := by unfold InstL.bare; simp [hk]
  have e : decide ((InstL.mk op n tx r).bare = ⟨op, n, tx, r⟩) = (decide (r = noRefL) && decide (tx = [])) := by
   rw [hb, Bool.eq_iff_iff]
   simp only [InstL.mk.injEq, true_and, and_true, Bool.and_eq_true, decide_eq_true_eq]
   exact ⟨fun ⟨t, r⟩ => ⟨r.symm, t.symm⟩, fun ⟨r, t⟩ => ⟨t.symm, r.symm⟩⟩
  unfold InstL.ok
  rw [e, hbr, hbt]
  unfold InstL.fine
  simp only [hk]
  simp
 unfold checkPost
 have hn0 : (n != 0) = !bn := by rw [← hbn]; by_cases h : n = 0 <;> simp [h]
 have ht0 : (bs tx).toList.isEmpty = bt := by rw [← hbt, bs_toList]; cases tx <;> simp
 have ht1 : ((bs tx).toList = []) = (bt = true) := by rw [← hbt, bs_toList]; simp
 have Hno := fun w => hid (noRefR_any r w)
 rw [hbr] at Hno
 have Hop := fun w => hid (operandR_any op w)
 rw [hk] at Hop
 have Hok := hid hok
 clear hok hbr hbn hbt hk
 have hU0 : Upd w (w.alloc (.cells #[.int .i64 op, .int .i64 n, .string (bs tx), .bool r.ifc, .string (bs r.cls), .string (bs r.nm), .string (bs r.ds)] 41)) [] := (Upd.refl _ _).alloc _
 unfold RefL.v at Hno
 unfold InstL.v InstL.cells
 simp only
 cases br <;> cases bt
 all_goals
  try simp only [Bool.not_true, Bool.not_false, Bool.false_eq_true] at hn0 ht1
  go_enter Tryz.func61, Tryz.ntmps61
  go_wp2_with fail
  refine (Hop _).out.mono ?_
  rintro e w0 ⟨rfl, rfl⟩
  go_wp2_with fail
  refine (Hno _).out.mono ?_
  rintro e w1 ⟨rfl, hU1⟩
  obtain ⟨hc1, hf1, hz1⟩ := hU1.cells
  have hz1' : w.heap.size < w1.heap.size := by simp at hz1; omega
  have hU2 := hU0.trans hU1
  try (go_wp2; go_ret; exact ⟨by rw [Hok.out]; simp [errIf], hU2⟩; done)
 go_wp2
 all_goals
  go_ret
  refine ⟨ret_int ?_, hU2⟩
  rw [Hok.out]
  try simp only [Bool.not_eq_eq_eq_not, Bool.not_false, Bool.not_true, decide_eq_true_eq, decide_eq_false_iff_not] at *
  first
   | (rw [show withinB 0 39 n = true from decide_eq_true (by omega)]; simp [errIf]; done)
   | (rw [show withinB 0 39 n = false from decide_eq_false (by omega)]; simp [errIf]; done)
set_option maxHeartbeats 4000000 in
set_option maxRecDepth 100000 in
theorem checkR_3 (op n : Int) (tx : List UInt8) (r : RefL) (w : World) (hi : (InstL.mk op n tx r).fit) (hk : kindL op = 3) : Calls Tryz.prog 61 #[(InstL.mk op n tx r).v] w (checkPost ⟨op, n, tx, r⟩ w) := by
 obtain ⟨h1, h2⟩ := hi
 simp only at h1 h2
 obtain ⟨br, hbr⟩ : ∃ br, decide (r = noRefL) = br := ⟨_, rfl⟩
 obtain ⟨bn, hbn⟩ : ∃ bn, decide (n = 0) = bn := ⟨_, rfl⟩
 obtain ⟨bt, hbt⟩ : ∃ bt, decide (tx = []) = bt := ⟨_, rfl⟩
 have hok : (InstL.mk op n tx r).ok = (br && bt && withinB 0 199 n) := by
  have hb : (InstL.mk op n tx r).bare = ⟨op, n, [], noRefL⟩ := by unfold InstL.bare; simp [hk]
  have e : decide ((InstL.mk op n tx r).bare = ⟨op, n, tx, r⟩) = (decide (r = noRefL) && decide (tx = [])) := by
   rw [hb, Bool.eq_iff_iff]
   simp only [InstL.mk.injEq, true_and, and_true, Bool.and_eq_true, decide_eq_true_eq]
   exact ⟨fun ⟨t, r⟩ => ⟨r.symm, t.symm⟩, fun ⟨r, t⟩ => ⟨t.symm, r.symm⟩⟩
  unfold InstL.ok
  rw [e, hbr, hbt]
  unfold InstL.fine
  simp only [hk]
  simp
 unfold checkPost
 have hn0 : (n != 0) = !bn := by rw [← hbn]; by_cases h : n = 0 <;> simp [h]
 have ht0 : (bs tx).toList.isEmpty = bt := by rw [← hbt, bs_toList]; cases tx <;> simp
 have ht1 : ((bs tx).toList = []) = (bt = true) := by rw [← hbt, bs_toList]; simp
 have Hno := fun w => hid (noRefR_any r w)
 rw [hbr] at Hno
 have Hop := fun w => hid (operandR_any op w)
 rw [hk] at Hop
 have Hok := hid hok
 clear hok hbr hbn hbt hk
 have hU0 : Upd w (w.alloc (.cells #[.int .i64 op, .int .i64 n, .string (bs tx), .bool r.ifc, .string (bs r.cls), .string (bs r.nm), .string (bs r.ds)] 41)) [] := (Upd.refl _ _).alloc _
 unfold RefL.v at Hno
 unfold InstL.v InstL.cells
 simp only
 cases br <;> cases bt
 all_goals
  try simp only [Bool.not_true, Bool.not_false, Bool.false_eq_true] at hn0 ht1
  go_enter Tryz.func61, Tryz.ntmps61
  go_wp2_with fail
  refine (Hop _).out.mono ?_
  rintro e w0 ⟨rfl, rfl⟩
  go_wp2_with fail
  refine (Hno _).out.mono ?_
  rintro e w1 ⟨rfl, hU1⟩
  obtain ⟨hc1, hf1, hz1⟩ := hU1.cells
  have hz1' : w.heap.size < w1.heap.size := by simp at hz1; omega
  have hU2 := hU0.trans hU1
  try (go_wp2; go_ret; exact ⟨by rw [Hok.out]; simp [errIf], hU2⟩; done)
 go_wp2
 all_goals
  go_ret
  refine ⟨ret_int ?_, hU2⟩
  rw [Hok.out]
  try simp only [Bool.not_eq_eq_eq_not, Bool.not_false, Bool.not_true, decide_eq_true_eq, decide_eq_false_iff_not] at *
  first
   | (rw [show withinB 0 199 n = true from decide_eq_true (by omega)]; simp [errIf]; done)
   | (rw [show withinB 0 199 n = false from decide_eq_false (by omega)]; simp [errIf]; done)
end Go.Proofs.YtjjdlgjofjfgmaaGreatDoor
/-
 The document's answer on instructions, walked: Check.
-/
set_option linter.unusedSimpArgs false
set_option linter.unusedVariables false
namespace Go.Proofs.YtjjdlgjofjfgmaaGreatDoor
open Go.RowKit
set_option maxHeartbeats 4000000 in
set_option maxRecDepth 100000 in
theorem checkR_4 (op n : Int) (tx : List UInt8) (r : RefL) (w : World) (hi : (InstL.mk op n tx r).fit) (hk : kindL op = 4) : Calls Tryz.prog 61 #[(InstL.mk op n tx r).v] w (checkPost ⟨op, n, tx, r⟩ w) := by
 obtain ⟨h1, h2⟩ := hi
 simp only at h1 h2
 obtain ⟨br, hbr⟩ : ∃ br, decide (r = noRefL) = br := ⟨_, rfl⟩
 obtain ⟨bn, hbn⟩ : ∃ bn, decide (n = 0) = bn := ⟨_, rfl⟩
 obtain ⟨bt, hbt⟩ : ∃ bt, decide (tx = []) = bt := ⟨_, rfl⟩
 have hok : (InstL.mk op n tx r).ok = (br && bn && validB tx) := by
  have hb : (InstL.mk op n tx r).bare = ⟨op, 0, tx, noRefL⟩ := by unfold InstL.bare; simp [hk]
  have e : decide ((InstL.mk op n tx r).bare = ⟨op, n, tx, r⟩) = (decide (r = noRefL) && decide (n = 0)) := by
   rw [hb, Bool.eq_iff_iff]
   simp only [InstL.mk.injEq, true_and, and_true, Bool.and_eq_true, decide_eq_true_eq]
   exact ⟨fun ⟨n, r⟩ => ⟨r.symm, n.symm⟩, fun ⟨r, n⟩ => ⟨n.symm, r.symm⟩⟩
  unfold InstL.ok
  rw [e, hbr, hbn]
  unfold InstL.fine
  simp only [hk]
  simp
 unfold checkPost
 have hn0 : (n != 0) = !bn := by rw [← hbn]; by_cases h : n = 0 <;> simp [h]
 have ht0 : (bs tx).toList.isEmpty = bt := by rw [← hbt, bs_toList]; cases tx <;> simp
 have ht1 : ((bs tx).toList = []) = (bt = true) := by rw [← hbt, bs_toList]; simp
 have Hno := fun w => hid (noRefR_any r w)
 rw [hbr] at Hno
 have Hop := fun w => hid (operandR_any op w)
 rw [hk] at Hop
 have Hv := fun w => hid (validR_any tx w (by omega))
 obtain ⟨vb, hvb⟩ : ∃ vb, validB tx = vb := ⟨_, rfl⟩
 rw [hvb] at Hv hok
 clear hvb
 have Hok := hid hok
 clear hok hbr hbn hbt hk
 have hU0 : Upd w (w.alloc (.cells #[.int .i64 op, .int .i64 n, .string (bs tx), .bool r.ifc, .string (bs r.cls), .string (bs r.nm), .string (bs r.ds)] 41)) [] := (Upd.refl _ _).alloc _
 unfold RefL.v at Hno
 unfold InstL.v InstL.cells
 simp only
 cases br <;> cases bn
 all_goals
  try simp only [Bool.not_true, Bool.not_false, Bool.false_eq_true] at hn0 ht1
  go_enter Tryz.func61, Tryz.ntmps61
  go_wp2_with fail
  refine (Hop _).out.mono ?_
  rintro e w0 ⟨rfl, rfl⟩
  go_wp2_with fail
  refine (Hno _).out.mono ?_
  rintro e w1 ⟨rfl, hU1⟩
  obtain ⟨hc1, hf1, hz1⟩ := hU1.cells
  have hz1' : w.heap.size < w1.heap.size := by simp at hz1; omega
  have hU2 := hU0.trans hU1
  try (go_wp2; go_ret; exact ⟨by rw [Hok.out]; simp [errIf], hU2⟩; done)
 go_wp2_with fail
 refine (Hv _).out.mono ?_
 rintro e w2 ⟨rfl, hU3⟩
 have Hok := Hok
 cases vb
 all_goals
  go_wp2
  go_ret
  exact ⟨by rw [Hok.out]; simp [errIf], hU2.trans hU3⟩
set_option maxHeartbeats 4000000 in
set_option maxRecDepth 100000 in
theorem checkR_5 (op n : Int) (tx : List UInt8) (r : RefL) (w : World) (hi : (InstL.mk op n tx r).fit) (hk : kindL op = 5) : Calls Tryz.prog 61 #[(InstL.mk op n tx r).v] w (checkPost ⟨op, n, tx, r⟩ w) := by
 obtain ⟨h1, h2⟩ := hi
 simp only at h1 h2
 obtain ⟨br, hbr⟩ : ∃ br, decide (r = noRefL) = br := ⟨_, rfl⟩
 obtain ⟨bn, hbn⟩ : ∃ bn, decide (n = 0) = bn := ⟨_, rfl⟩
 obtain ⟨bt, hbt⟩ : ∃ bt, decide (tx = []) = bt := ⟨_, rfl⟩
 have hok : (InstL.mk op n tx r).ok = (br && bn && decide ((parseRefL tx).2.2 = 0)) := by
  have hb : (InstL.mk op n tx r).bare = ⟨op, 0, tx, noRefL⟩ := by unfold InstL.bare; simp [hk]
  have e : decide ((InstL.mk op n tx r).bare = ⟨op, n, tx, r⟩) = (decide (r = noRefL) && decide (n = 0)) := by
   rw [hb, Bool.eq_iff_iff]
   simp only [InstL.mk.injEq, true_and, and_true, Bool.and_eq_true, decide_eq_true_eq]
   exact ⟨fun ⟨n, r⟩ => ⟨r.symm, n.symm⟩, fun ⟨r, n⟩ => ⟨n.symm, r.symm⟩⟩
  unfold InstL.ok
  rw [e, hbr, hbn]
  unfold InstL.fine
  simp only [hk]
  simp
 unfold checkPost
 have hn0 : (n != 0) = !bn := by rw [← hbn]; by_cases h : n = 0 <;> simp [h]
 have ht0 : (bs tx).toList.isEmpty = bt := by rw [← hbt, bs_toList]; cases tx <;> simp
 have ht1 : ((bs tx).toList = []) = (bt = true) := by rw [← hbt, bs_toList]; simp
 have Hno := fun w => hid (noRefR_any r w)
 rw [hbr] at Hno
 have Hop := fun w => hid (operandR_any op w)
 rw [hk] at Hop
 have Ha := fun w => hid (parseRefR_any tx w (by omega))
 obtain ⟨p, hp⟩ : ∃ p, parseRefL tx = p := ⟨_, rfl⟩
 rw [hp] at Ha hok
 obtain ⟨pn, pl, pe⟩ := p
 clear hp
 simp only at hok
 have Hok := hid hok
 clear hok hbr hbn hbt hk
 have hU0 : Upd w (w.alloc (.cells #[.int .i64 op, .int .i64 n, .string (bs tx), .bool r.ifc, .string (bs r.cls), .string (bs r.nm), .string (bs r.ds)] 41)) [] := (Upd.refl _ _).alloc _
 unfold RefL.v at Hno
 unfold InstL.v InstL.cells
 simp only
 cases br <;> cases bn
 all_goals
  try simp only [Bool.not_true, Bool.not_false, Bool.false_eq_true] at hn0 ht1
  go_enter Tryz.func61, Tryz.ntmps61
  go_wp2_with fail
  refine (Hop _).out.mono ?_
  rintro e w0 ⟨rfl, rfl⟩
  go_wp2_with fail
  refine (Hno _).out.mono ?_
  rintro e w1 ⟨rfl, hU1⟩
  obtain ⟨hc1, hf1, hz1⟩ := hU1.cells
  have hz1' : w.heap.size < w1.heap.size := by simp at hz1; omega
  have hU2 := hU0.trans hU1
  try (go_wp2; go_ret; exact ⟨by rw [Hok.out]; simp [errIf], hU2⟩; done)
 go_wp2_with fail
 refine (Ha _).out.mono ?_
 rintro e w2 ⟨rfl, hU3⟩
 obtain ⟨hc2, hf2, hz2⟩ := hU3.cells
 have hz2' : w.heap.size < w2.heap.size := by omega
 have hU4 := (hU2.trans hU3).alloc (.cells #[.int .i64 pn, .string (bs pl)] 111)
 unfold ty
 by_cases hpe : pe = 0
 ·subst hpe
  go_wp2
  all_goals
   go_ret
   refine ⟨ret_int ?_, hU4⟩
   rw [Hok.out]
   try simp only [Bool.not_eq_eq_eq_not, Bool.not_false, Bool.not_true, decide_eq_true_eq, decide_eq_false_iff_not] at *
   simp [errIf]
 ·have hpe2 : (pe == 0) = false := by simpa using hpe
  go_wp2
  go_ret
  exact ⟨by rw [Hok.out]; simp [errIf, hpe], hU4⟩
set_option maxHeartbeats 4000000 in
set_option maxRecDepth 100000 in
theorem checkR_6 (op n : Int) (tx : List UInt8) (r : RefL) (w : World) (hi : (InstL.mk op n tx r).fit) (hk : kindL op = 6) : Calls Tryz.prog 61 #[(InstL.mk op n tx r).v] w (checkPost ⟨op, n, tx, r⟩ w) := by
 obtain ⟨h1, h2⟩ := hi
 simp only at h1 h2
 obtain ⟨br, hbr⟩ : ∃ br, decide (r = noRefL) = br := ⟨_, rfl⟩
 obtain ⟨bn, hbn⟩ : ∃ bn, decide (n = 0) = bn := ⟨_, rfl⟩
 obtain ⟨bt, hbt⟩ : ∃ bt, decide (tx = []) = bt := ⟨_, rfl⟩
 have hok : (InstL.mk op n tx r).ok = (br && bn && (decide ((parseL tx).2.2 = 0) && decide ((parseL tx).1 < 255))) := by
  have hb : (InstL.mk op n tx r).bare = ⟨op, 0, tx, noRefL⟩ := by unfold InstL.bare; simp [hk]
  have e : decide ((InstL.mk op n tx r).bare = ⟨op, n, tx, r⟩) = (decide (r = noRefL) && decide (n = 0)) := by
   rw [hb, Bool.eq_iff_iff]
   simp only [InstL.mk.injEq, true_and, and_true, Bool.and_eq_true, decide_eq_true_eq]
   exact ⟨fun ⟨n, r⟩ => ⟨r.symm, n.symm⟩, fun ⟨r, n⟩ => ⟨n.symm, r.symm⟩⟩
  unfold InstL.ok
  rw [e, hbr, hbn]
  unfold InstL.fine
  simp only [hk]
  simp
 unfold checkPost
 have hn0 : (n != 0) = !bn := by rw [← hbn]; by_cases h : n = 0 <;> simp [h]
 have ht0 : (bs tx).toList.isEmpty = bt := by rw [← hbt, bs_toList]; cases tx <;> simp
 have ht1 : ((bs tx).toList = []) = (bt = true) := by rw [← hbt, bs_toList]; simp
 have Hno := fun w => hid (noRefR_any r w)
 rw [hbr] at Hno
 have Hop := fun w => hid (operandR_any op w)
 rw [hk] at Hop
 have Ha := fun w => hid (parseR_any tx w (by omega))
 obtain ⟨p, hp⟩ : ∃ p, parseL tx = p := ⟨_, rfl⟩
 rw [hp] at Ha hok
 obtain ⟨pn, pl, pe⟩ := p
 clear hp
 simp only at hok
 have Hok := hid hok
 clear hok hbr hbn hbt hk
 have hU0 : Upd w (w.alloc (.cells #[.int .i64 op, .int .i64 n, .string (bs tx), .bool r.ifc, .string (bs r.cls), .string (bs r.nm), .string (bs r.ds)] 41)) [] := (Upd.refl _ _).alloc _
 unfold RefL.v at Hno
 unfold InstL.v InstL.cells
 simp only
 cases br <;> cases bn
 all_goals
  try simp only [Bool.not_true, Bool.not_false, Bool.false_eq_true] at hn0 ht1
  go_enter Tryz.func61, Tryz.ntmps61
  go_wp2_with fail
  refine (Hop _).out.mono ?_
  rintro e w0 ⟨rfl, rfl⟩
  go_wp2_with fail
  refine (Hno _).out.mono ?_
  rintro e w1 ⟨rfl, hU1⟩
  obtain ⟨hc1, hf1, hz1⟩ := hU1.cells
  have hz1' : w.heap.size < w1.heap.size := by simp at hz1; omega
  have hU2 := hU0.trans hU1
  try (go_wp2; go_ret; exact ⟨by rw [Hok.out]; simp [errIf], hU2⟩; done)
 go_wp2_with fail
 refine (Ha _).out.mono ?_
 rintro e w2 ⟨rfl, hU3⟩
 obtain ⟨hc2, hf2, hz2⟩ := hU3.cells
 have hz2' : w.heap.size < w2.heap.size := by omega
 have hU4 := (hU2.trans hU3).alloc (.cells #[.int .i64 pn, .string (bs pl)] 111)
 unfold ty
 by_cases hpe : pe = 0
 ·subst hpe
  go_wp2
  all_goals
   go_ret
   refine ⟨ret_int ?_, hU4⟩
   rw [Hok.out]
   try simp only [Bool.not_eq_eq_eq_not, Bool.not_false, Bool.not_true, decide_eq_true_eq, decide_eq_false_iff_not] at *
   first
     | (rw [show decide (pn < 255) = true from decide_eq_true (by omega)]; simp [errIf]; done)
     | (rw [show decide (pn < 255) = false from decide_eq_false (by omega)]; simp [errIf]; done)
 ·have hpe2 : (pe == 0) = false := by simpa using hpe
  go_wp2
  go_ret
  exact ⟨by rw [Hok.out]; simp [errIf, hpe], hU4⟩
set_option maxHeartbeats 4000000 in
set_option maxRecDepth 100000 in
theorem checkR_7 (op n : Int) (tx : List UInt8) (r : RefL) (w : World) (hi : (InstL.mk op n tx r).fit) (hk : kindL op = 7) : Calls Tryz.prog 61 #[(InstL.mk op n tx r).v] w (checkPost ⟨op, n, tx, r⟩ w) := by
 obtain ⟨h1, h2⟩ := hi
 simp only at h1 h2
 obtain ⟨br, hbr⟩ : ∃ br, decide (r = noRefL) = br := ⟨_, rfl⟩
 obtain ⟨bn, hbn⟩ : ∃ bn, decide (n = 0) = bn := ⟨_, rfl⟩
 obtain ⟨bt, hbt⟩ : ∃ bt, decide (tx = []) = bt := ⟨_, rfl⟩
 have hok : (InstL.mk op n tx r).ok = (br && (decide ((parseRefL tx).2.2 = 0) && withinB 1 (parseRefL tx).1 n)) := by
  have hb : (InstL.mk op n tx r).bare = ⟨op, n, tx, noRefL⟩ := by unfold InstL.bare; simp [hk]
  have e : decide ((InstL.mk op n tx r).bare = ⟨op, n, tx, r⟩) = (decide (r = noRefL)) := by
   rw [hb, Bool.eq_iff_iff]
   simp only [InstL.mk.injEq, true_and, and_true, Bool.and_eq_true, decide_eq_true_eq]
   exact eq_comm
  unfold InstL.ok
  rw [e, hbr]
  unfold InstL.fine
  simp only [hk]
  simp
 unfold checkPost
 have hn0 : (n != 0) = !bn := by rw [← hbn]; by_cases h : n = 0 <;> simp [h]
 have ht0 : (bs tx).toList.isEmpty = bt := by rw [← hbt, bs_toList]; cases tx <;> simp
 have ht1 : ((bs tx).toList = []) = (bt = true) := by rw [← hbt, bs_toList]; simp
 have Hno := fun w => hid (noRefR_any r w)
 rw [hbr] at Hno
 have Hop := fun w => hid (operandR_any op w)
 rw [hk] at Hop
 have Ha := fun w => hid (parseRefR_any tx w (by omega))
 obtain ⟨p, hp⟩ : ∃ p, parseRefL tx = p := ⟨_, rfl⟩
 rw [hp] at Ha hok
 obtain ⟨pn, pl, pe⟩ := p
 clear hp
 simp only at hok
 have Hok := hid hok
 clear hok hbr hbn hbt hk
 have hU0 : Upd w (w.alloc (.cells #[.int .i64 op, .int .i64 n, .string (bs tx), .bool r.ifc, .string (bs r.cls), .string (bs r.nm), .string (bs r.ds)] 41)) [] := (Upd.refl _ _).alloc _
 unfold RefL.v at Hno
 unfold InstL.v InstL.cells
 simp only
 cases br
 all_goals
  try simp only [Bool.not_true, Bool.not_false, Bool.false_eq_true] at hn0 ht1
  go_enter Tryz.func61, Tryz.ntmps61
  go_wp2_with fail
  refine (Hop _).out.mono ?_
  rintro e w0 ⟨rfl, rfl⟩
  go_wp2_with fail
  refine (Hno _).out.mono ?_
  rintro e w1 ⟨rfl, hU1⟩
  obtain ⟨hc1, hf1, hz1⟩ := hU1.cells
  have hz1' : w.heap.size < w1.heap.size := by simp at hz1; omega
  have hU2 := hU0.trans hU1
  try (go_wp2; go_ret; exact ⟨by rw [Hok.out]; simp [errIf], hU2⟩; done)
 go_wp2_with fail
 refine (Ha _).out.mono ?_
 rintro e w2 ⟨rfl, hU3⟩
 obtain ⟨hc2, hf2, hz2⟩ := hU3.cells
 have hz2' : w.heap.size < w2.heap.size := by omega
 have hU4 := (hU2.trans hU3).alloc (.cells #[.int .i64 pn, .string (bs pl)] 111)
 unfold ty
 by_cases hpe : pe = 0
 ·subst hpe
  go_wp2
  all_goals
   go_ret
   refine ⟨ret_int ?_, hU4⟩
   rw [Hok.out]
   try simp only [Bool.not_eq_eq_eq_not, Bool.not_false, Bool.not_true, decide_eq_true_eq, decide_eq_false_iff_not] at *
   first
     | (rw [show withinB 1 (pn : Int) n = true from decide_eq_true (by omega)]; simp [errIf]; done)
     | (rw [show withinB 1 (pn : Int) n = false from decide_eq_false (by omega)]; simp [errIf]; done)
 ·have hpe2 : (pe == 0) = false := by simpa using hpe
  go_wp2
  go_ret
  exact ⟨by rw [Hok.out]; simp [errIf, hpe], hU4⟩
set_option maxHeartbeats 4000000 in
set_option maxRecDepth 100000 in
theorem checkR_8 (op n : Int) (tx : List UInt8) (r : RefL) (w : World) (hi : (InstL.mk op n tx r).fit) (hk : kindL op = 8) : Calls Tryz.prog 61 #[(InstL.mk op n tx r).v] w (checkPost ⟨op, n, tx, r⟩ w) := by
 obtain ⟨h1, h2⟩ := hi
 simp only at h1 h2
 obtain ⟨br, hbr⟩ : ∃ br, decide (r = noRefL) = br := ⟨_, rfl⟩
 obtain ⟨bn, hbn⟩ : ∃ bn, decide (n = 0) = bn := ⟨_, rfl⟩
 obtain ⟨bt, hbt⟩ : ∃ bt, decide (tx = []) = bt := ⟨_, rfl⟩
 have hok : (InstL.mk op n tx r).ok = (bn && bt && r.ok) := by
  have hb : (InstL.mk op n tx r).bare = ⟨op, 0, [], r⟩ := by unfold InstL.bare; simp [hk]
  have e : decide ((InstL.mk op n tx r).bare = ⟨op, n, tx, r⟩) = (decide (n = 0) && decide (tx = [])) := by
   rw [hb, Bool.eq_iff_iff]
   simp only [InstL.mk.injEq, true_and, and_true, Bool.and_eq_true, decide_eq_true_eq]
   exact ⟨fun ⟨n, t⟩ => ⟨n.symm, t.symm⟩, fun ⟨n, t⟩ => ⟨n.symm, t.symm⟩⟩
  unfold InstL.ok
  rw [e, hbn, hbt]
  unfold InstL.fine
  simp only [hk]
  simp
 unfold checkPost
 have hn0 : (n != 0) = !bn := by rw [← hbn]; by_cases h : n = 0 <;> simp [h]
 have ht0 : (bs tx).toList.isEmpty = bt := by rw [← hbt, bs_toList]; cases tx <;> simp
 have ht1 : ((bs tx).toList = []) = (bt = true) := by rw [← hbt, bs_toList]; simp
 have Hno := fun w => hid (noRefR_any r w)
 rw [hbr] at Hno
 have Hop := fun w => hid (operandR_any op w)
 rw [hk] at Hop
 have Hr := fun w => hid (refCheckR_any r w h2)
 unfold refPost RefL.v at Hr
 have Hok := hid hok
 clear hok hbr hbn hbt hk
 have hU0 : Upd w (w.alloc (.cells #[.int .i64 op, .int .i64 n, .string (bs tx), .bool r.ifc, .string (bs r.cls), .string (bs r.nm), .string (bs r.ds)] 41)) [] := (Upd.refl _ _).alloc _
 unfold RefL.v at Hno
 unfold InstL.v InstL.cells
 simp only
 cases bn <;> cases bt
 all_goals
  try simp only [Bool.not_true, Bool.not_false, Bool.false_eq_true] at hn0 ht1
  go_enter Tryz.func61, Tryz.ntmps61
  go_wp2_with fail
  refine (Hop _).out.mono ?_
  rintro e w0 ⟨rfl, rfl⟩
  have hU2 := hU0
  try (go_wp2; go_ret; exact ⟨by rw [Hok.out]; simp [errIf], hU2⟩; done)
 go_wp2_with fail
 refine (Hr _).out.mono ?_
 rintro e w2 ⟨rfl, hU3⟩
 cases hx : r.ok
 all_goals
  simp only [errIf]
  go_wp2
  go_ret
  exact ⟨by rw [Hok.out, hx]; simp [errIf], hU2.trans hU3⟩
end Go.Proofs.YtjjdlgjofjfgmaaGreatDoor
/-
 The document's answer on instructions, walked: Check, whatever the kind.
-/
set_option linter.unusedSimpArgs false
set_option linter.unusedVariables false
namespace Go.Proofs.YtjjdlgjofjfgmaaGreatDoor
open Go.RowKit
theorem checkR_any (i : InstL) (w : World) (hi : i.fit) : Calls Tryz.prog 61 #[i.v] w (checkPost i w) := by
 obtain ⟨op, n, tx, r⟩ := i
 rcases kindL_cases op with hk | hk | hk | hk | hk | hk | hk | hk | hk | hk
 ·exact checkR_m1 op n tx r w hi hk
 ·exact checkR_0 op n tx r w hi hk
 ·exact checkR_1 op n tx r w hi hk
 ·exact checkR_2 op n tx r w hi hk
 ·exact checkR_3 op n tx r w hi hk
 ·exact checkR_4 op n tx r w hi hk
 ·exact checkR_5 op n tx r w hi hk
 ·exact checkR_6 op n tx r w hi hk
 ·exact checkR_7 op n tx r w hi hk
 ·exact checkR_8 op n tx r w hi hk
end Go.Proofs.YtjjdlgjofjfgmaaGreatDoor
