/-
  The document's answer on instructions, walked: noRef, RefCheck, RefText.
-/
import Derived.Test.YtjjdlgjofjfgmaaDoorRefF
import Derived.Test.YtjjdlgjofjfgmaaDoorRefE
import Derived.Test.YtjjdlgjofjfgmaaDoorCodeD
set_option linter.unusedSimpArgs false
set_option linter.unusedVariables false
namespace Go.Proofs.YtjjdlgjofjfgmaaDoor
open Go.RowKit

set_option maxHeartbeats 1000000 in
theorem noRefR_any (r : RefL) (w : World) : Calls Tryd.prog 41 #[r.v] w fun e w' => e = .returned (.bool (decide (r = noRefL))) ∧ Upd w w' [] := by
  obtain ⟨a, c, n, d⟩ := r
  have e : decide (RefL.mk a c n d = noRefL) = (!a && decide (c = []) && decide (n = []) && decide (d = [])) := by
    rw [Bool.eq_iff_iff]
    simp [noRefL, and_assoc]
  rw [e]
  clear e
  have hc : (bs c).toList.isEmpty = decide (c = []) := by rw [bs_toList]; cases c <;> simp
  have hn : (bs n).toList.isEmpty = decide (n = []) := by rw [bs_toList]; cases n <;> simp
  have hd : (bs d).toList.isEmpty = decide (d = []) := by rw [bs_toList]; cases d <;> simp
  have hc2 : ((bs c).toList = []) = (c = []) := by rw [bs_toList]
  have hn2 : ((bs n).toList = []) = (n = []) := by rw [bs_toList]
  have hd2 : ((bs d).toList = []) = (d = []) := by rw [bs_toList]
  unfold RefL.v
  simp only
  cases a
  all_goals
    go_enter Tryd.func41, Tryd.ntmps41
    go_wp2
    all_goals
      go_ret
      refine ⟨bool_ret ?_, (Upd.refl _ _).alloc _⟩
      simp_all

set_option maxHeartbeats 1000000 in
theorem refCheckR_any (r : RefL) (w : World) (hr : r.fit) : Calls Tryd.prog 24 #[r.v] w (refPost r w) := by
  obtain ⟨ifc, cls, nm, ds⟩ := r
  obtain ⟨h1, h2, h3⟩ := hr
  simp only at h1 h2 h3
  have h2s : (bs nm).size ≤ 9223372036854775807 := by rw [bs_size]; omega
  have hx : (RefL.mk ifc cls nm ds).ok = (decide ((parseRefL cls).2.2 = 0) && decide ((descL ds).2 = 0) && memberB nm) := rfl
  obtain ⟨x, ex⟩ : ∃ x, (RefL.mk ifc cls nm ds).ok = x := ⟨_, rfl⟩
  unfold refPost RefL.v
  rw [ex]
  rw [ex] at hx
  clear ex
  have Ha := fun w => hid (parseRefR_any cls w (by omega))
  have Hb := fun w => hid (parseDescR_any ds w (by omega))
  have Hc := fun w => hid (memberR_any (bs nm) w h2s)
  simp only [bs_data] at Hc
  generalize parseRefL cls = p at Ha hx
  generalize descL ds = q at Hb hx
  generalize memberB nm = m at Hc hx
  obtain ⟨pn, pl, pe⟩ := p
  obtain ⟨qn, qe⟩ := q
  simp only at hx
  have Hx := hid hx
  clear hx h1 h2 h3 h2s
  have hU0 : Upd w (w.alloc (.cells #[.bool ifc, .string (bs cls), .string (bs nm), .string (bs ds)] 23)) [] := (Upd.refl _ _).alloc _
  by_cases hpe : pe = 0
  · subst hpe
    cases m with
    | false =>
      go_enter Tryd.func24, Tryd.ntmps24
      go_wp2_with fail
      refine (Ha _).out.mono ?_
      rintro e w1 ⟨rfl, hU1⟩
      obtain ⟨hc1, hf1, hz1⟩ := hU1.cells
      have hz1' : w.heap.size < w1.heap.size := by simp at hz1; omega
      have hU2 := (hU0.trans hU1).alloc (.cells #[.int .i64 pn, .string (bs pl)] 69)
      unfold ty
      go_wp2_with (refine (Hc _).out.mono ?_; rintro e w3 ⟨rfl, rfl⟩)
      go_ret
      exact ⟨by rw [Hx.out]; simp [errIf], hU2⟩
    | true =>
      go_enter Tryd.func24, Tryd.ntmps24
      go_wp2_with fail
      refine (Ha _).out.mono ?_
      rintro e w1 ⟨rfl, hU1⟩
      obtain ⟨hc1, hf1, hz1⟩ := hU1.cells
      have hz1' : w.heap.size < w1.heap.size := by simp at hz1; omega
      have hU2 := (hU0.trans hU1).alloc (.cells #[.int .i64 pn, .string (bs pl)] 69)
      unfold ty
      go_wp2_with fail
      refine (Hc _).out.mono ?_
      rintro e w3 ⟨rfl, rfl⟩
      go_wp2_with fail
      refine (Hb _).out.mono ?_
      rintro e w2 ⟨⟨A, cap, vd, d, nm', rfl⟩, hU3⟩
      have hU4 := (hU2.trans hU3).alloc (.cells #[.slice A qn cap, .bool vd, .int .i64 d, .string (bs nm')] 77)
      go_wp2
      all_goals
        go_ret
        refine ⟨?_, hU4⟩
        rw [Hx.out]
        simp_all [errIf]
  · have hpe2 : (pe != 0) = true := by simpa using hpe
    go_enter Tryd.func24, Tryd.ntmps24
    go_wp2_with fail
    refine (Ha _).out.mono ?_
    rintro e w1 ⟨rfl, hU1⟩
    have hU2 := (hU0.trans hU1).alloc (.cells #[.int .i64 pn, .string (bs pl)] 69)
    unfold ty
    go_wp2
    go_ret
    exact ⟨by rw [Hx.out]; simp [errIf, hpe], hU2⟩

set_option maxHeartbeats 1000000 in
theorem refTextR_any (r : RefL) (w : World) (hr : r.fit) : Calls Tryd.prog 22 #[r.v] w (refTextPost r w) := by
  have Hc := fun w => hid (refCheckR_any r w hr)
  have hle := fun h => RefL.ok_le (r := r) h
  have hfin : ∀ w', Upd w w' [] → refTextPost r w (.returned (.tuple #[.string (bs (if r.ok then r.text else [])), .int .i64 (errIf r.ok)])) w' := fun w' h => ⟨rfl, h⟩
  obtain ⟨x, ex⟩ : ∃ x, r.ok = x := ⟨_, rfl⟩
  unfold refPost at Hc
  rw [ex] at Hc hle hfin
  have Hfin := hid hfin
  clear ex hfin
  have hU0 : Upd w (w.alloc (.cells #[.bool r.ifc, .string (bs r.cls), .string (bs r.nm), .string (bs r.ds)] 23)) [] := (Upd.refl _ _).alloc _
  unfold RefL.v at Hc ⊢
  cases x with
  | false =>
    clear hle
    go_enter Tryd.func22, Tryd.ntmps22
    go_wp2_with fail
    refine (Hc _).out.mono ?_
    rintro e w1 ⟨rfl, hU1⟩
    have hU2 := hU0.trans hU1
    simp only [errIf]
    go_wp2
    go_ret2
    exact Hfin.out _ hU2
  | true =>
    obtain ⟨l1, l2, l3⟩ := hle rfl
    have s1 : (bs r.cls).size ≤ 2000 := by rw [bs_size]; exact l1
    have s2 : (bs r.nm).size ≤ 60 := by rw [bs_size]; exact l2
    have s3 : (bs r.ds).size ≤ 2000 := by rw [bs_size]; exact l3
    clear hle l1 l2 l3
    cases hi : r.ifc
    all_goals
      rw [hi] at Hc hU0
      have Hi := hid hi
      clear hi
      go_enter Tryd.func22, Tryd.ntmps22
      go_wp2_with fail
      refine (Hc _).out.mono ?_
      rintro e w1 ⟨rfl, hU1⟩
      obtain ⟨hc1, hf1, hz1⟩ := hU1.cells
      have hz1' : w.heap.size < w1.heap.size := by simp at hz1; omega
      have hU2 := hU0.trans hU1
      simp only [errIf]
      go_wp2
      go_ret2
      have hq := Hfin.out _ hU2
      first | rw [show (⟨#[46]⟩ : ByteArray) = bs [46] from rfl] | rw [show (⟨#[58]⟩ : ByteArray) = bs [58] from rfl]
      rw [bs_append, bs_append, bs_append]
      simpa [RefL.text, Hi.out, errIf] using hq
end Go.Proofs.YtjjdlgjofjfgmaaDoor
