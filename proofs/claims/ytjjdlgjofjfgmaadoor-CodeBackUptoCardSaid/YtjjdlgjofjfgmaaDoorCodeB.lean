/-
  Package code, walked: within, RefCheck, RefText.
-/
import Derived.Test.YtjjdlgjofjfgmaaDoorCodeA
set_option linter.unusedSimpArgs false
set_option linter.unusedVariables false
namespace Go.Proofs.YtjjdlgjofjfgmaaDoor
open Go.RowKit

/-- What a call that only makes new memory leaves, as rules of the walk. -/
theorem Upd.cells {w w' : World} (h : Upd w w' []) : (∀ b o, b < w.heap.size → w'.cell? ⟨b, o, none⟩ = w.cell? ⟨b, o, none⟩) ∧ (∀ b o, b < w.heap.size → w'.frozen? ⟨b, o, none⟩ = w.frozen? ⟨b, o, none⟩) ∧ w.heap.size ≤ w'.heap.size :=
  ⟨fun b o hb => World.cell?_of_block (h.block b hb (by simp)), fun b o hb => h.below.frozen (p := ⟨b, o, none⟩) hb, h.size⟩

/-- Does n lie from lo to hi? -/
def withinB (lo hi n : Int) : Bool := decide (lo ≤ n ∧ n ≤ hi)
theorem within_any (n lo hi : Int) (w : World) : Calls Tryd.prog 48 #[.int .i64 n, .int .i64 lo, .int .i64 hi] w fun e w' => e = .returned (.bool (withinB lo hi n)) ∧ w = w' := by
  by_cases h : lo ≤ n
  · go_enter Tryd.func48, Tryd.ntmps48
    go_wp2
    go_ret
    exact ⟨bool_ret (by unfold withinB; rw [decide_eq_decide]; omega), rfl⟩
  · go_enter Tryd.func48, Tryd.ntmps48
    go_wp2
    go_ret
    exact ⟨bool_ret (by unfold withinB; symm; apply decide_eq_false; omega), rfl⟩

/-- A reference, and whether it is sound. -/
structure RefL where
  ifc : Bool
  cls : List UInt8
  nm : List UInt8
  ds : List UInt8
  deriving DecidableEq
def RefL.v (r : RefL) : Value := .agg #[.bool r.ifc, .string (bs r.cls), .string (bs r.nm), .string (bs r.ds)]
def RefL.fit (r : RefL) : Prop := r.cls.length ≤ 9223372036854775807 ∧ r.nm.length ≤ 9223372036854775807 ∧ r.ds.length ≤ 9223372036854775807
def RefL.ok (r : RefL) : Bool := decide ((parseRefL r.cls).2.2 = 0) && decide ((descL r.ds).2 = 0) && memberB r.nm
def errIf (b : Bool) : Int := if b then 0 else 1
def refPost (r : RefL) (w : World) (e : Ending) (w' : World) : Prop := e = .returned (.int .i64 (errIf r.ok)) ∧ Upd w w' []

set_option maxHeartbeats 1000000 in
theorem refCheck_any (r : RefL) (w : World) (hr : r.fit) (hm : MaxLenAt w) : Calls Tryd.prog 23 #[r.v] w (refPost r w) := by
  obtain ⟨ifc, cls, nm, ds⟩ := r
  obtain ⟨h1, h2, h3⟩ := hr
  simp only at h1 h2 h3
  have h2s : (bs nm).size ≤ 9223372036854775807 := by rw [bs_size]; omega
  have hx : (RefL.mk ifc cls nm ds).ok = (decide ((parseRefL cls).2.2 = 0) && decide ((descL ds).2 = 0) && memberB nm) := rfl
  obtain ⟨x, ex⟩ : ∃ x, (RefL.mk ifc cls nm ds).ok = x := ⟨_, rfl⟩
  unfold refPost RefL.v
  rw [ex]
  rw [ex] at hx
  clear ex
  have Ha := fun w hm => hid (parseRef_any cls w (by omega) hm)
  have Hb := fun w hm => hid (parseDesc_any ds w (by omega) hm)
  have Hc := fun w => hid (member_any (bs nm) w h2s)
  simp only [bs_data] at Hc
  generalize parseRefL cls = p at Ha hx
  generalize descL ds = q at Hb hx
  generalize memberB nm = m at Hc hx
  obtain ⟨pn, pl, pe⟩ := p
  obtain ⟨qn, qe⟩ := q
  simp only at hx
  have Hx := hid hx
  clear hx h1 h2 h3 h2s
  have hU0 : Upd w (w.alloc (.cells #[.bool ifc, .string (bs cls), .string (bs nm), .string (bs ds)] 23)) [] := (Upd.refl _ _).alloc _
  have hm0 := hm.upd hU0 (by simp)
  go_enter Tryd.func23, Tryd.ntmps23
  go_wp2_with fail
  refine (Ha _ hm0).out.mono ?_
  rintro e w1 ⟨rfl, hU1⟩
  obtain ⟨hc1, hf1, hz1⟩ := hU1.cells
  have hz1' : w.heap.size < w1.heap.size := by simp at hz1; omega
  have hU2 := (hU0.trans hU1).alloc (.cells #[.int .i64 pn, .string (bs pl)] 69)
  have hm2 := hm.upd hU2 (by simp)
  unfold ty
  go_wp2_with fail
  refine (Hb _ hm2).out.mono ?_
  rintro e w2 ⟨⟨A, cap, vd, d, nm', rfl⟩, hU3⟩
  obtain ⟨hc2, hf2, hz2⟩ := hU3.cells
  have hz2' : w1.heap.size < w2.heap.size := by simp at hz2; omega
  have hz3 : w.heap.size < w2.heap.size := by omega
  have hU4 := (hU2.trans hU3).alloc (.cells #[.slice A qn cap, .bool vd, .int .i64 d, .string (bs nm')] 77)
  clear hU0 hU1 hU2 hU3 hm0 hm2 hm
  cases m
  all_goals
    go_wp2_with (refine (Hc _).out.mono ?_; rintro e w3 ⟨rfl, rfl⟩)
    all_goals
      go_ret
      refine ⟨?_, hU4⟩
      rw [Hx.out]
      simp_all [errIf]

theorem parseL_le {l : List UInt8} (h : (parseL l).2.2 = 0) : l.length ≤ 2000 := by
  unfold parseL at h
  split at h
  · simp at h
  · omega
theorem validB_le {l : List UInt8} (h : validB l = true) : l.length ≤ 60 := by
  unfold validB at h
  simp at h
  exact h.1
theorem memberB_le {l : List UInt8} (h : memberB l = true) : l.length ≤ 60 := by
  unfold memberB at h
  simp [initB] at h
  rcases h with h | h
  · rw [of_decide_eq_true h]; decide
  · exact h.1
theorem parseRefL_le {l : List UInt8} (h : (parseRefL l).2.2 = 0) : l.length ≤ 2000 := by
  unfold parseRefL at h
  split at h
  · exact parseL_le h
  · split at h
    · simp at h
    · omega
theorem descL_le {l : List UInt8} (h : (descL l).2 = 0) : l.length ≤ 2000 := by
  unfold descL at h
  split at h
  · simp at h
  · omega
theorem RefL.ok_le {r : RefL} (h : r.ok = true) : r.cls.length ≤ 2000 ∧ r.nm.length ≤ 60 ∧ r.ds.length ≤ 2000 := by
  unfold RefL.ok at h
  simp at h
  exact ⟨parseRefL_le h.1.1, memberB_le h.2, descL_le h.1.2⟩

theorem bs_append (a b : List UInt8) : bs a ++ bs b = bs (a ++ b) := by
  apply ByteArray.ext
  simp [bs, ByteArray.data_append]

/-- The text of a reference and the error. -/
def RefL.text (r : RefL) : List UInt8 := r.cls ++ (if r.ifc then [58] else [46]) ++ r.nm ++ r.ds
def refTextPost (r : RefL) (w : World) (e : Ending) (w' : World) : Prop :=
  e = .returned (.tuple #[.string (bs (if r.ok then r.text else [])), .int .i64 (errIf r.ok)]) ∧ Upd w w' []

set_option maxHeartbeats 1000000 in
theorem refText_any (r : RefL) (w : World) (hr : r.fit) (hm : MaxLenAt w) : Calls Tryd.prog 21 #[r.v] w (refTextPost r w) := by
  have Hc := fun w hm => hid (refCheck_any r w hr hm)
  have hle := fun h => RefL.ok_le (r := r) h
  have hfin : ∀ w', Upd w w' [] → refTextPost r w (.returned (.tuple #[.string (bs (if r.ok then r.text else [])), .int .i64 (errIf r.ok)])) w' := fun w' h => ⟨rfl, h⟩
  obtain ⟨x, ex⟩ : ∃ x, r.ok = x := ⟨_, rfl⟩
  unfold refPost at Hc
  rw [ex] at Hc hle hfin
  have Hfin := hid hfin
  clear ex hfin
  have hU0 : Upd w (w.alloc (.cells #[.bool r.ifc, .string (bs r.cls), .string (bs r.nm), .string (bs r.ds)] 23)) [] := (Upd.refl _ _).alloc _
  have hm0 := hm.upd hU0 (by simp)
  unfold RefL.v at Hc ⊢
  cases x with
  | false =>
    clear hle
    go_enter Tryd.func21, Tryd.ntmps21
    go_wp2_with fail
    refine (Hc _ hm0).out.mono ?_
    rintro e w1 ⟨rfl, hU1⟩
    have hU2 := hU0.trans hU1
    simp only [errIf]
    go_wp2
    go_ret2
    exact Hfin.out _ hU2
  | true =>
    obtain ⟨l1, l2, l3⟩ := hle rfl
    have s1 : (bs r.cls).size ≤ 2000 := by rw [bs_size]; exact l1
    have s2 : (bs r.nm).size ≤ 60 := by rw [bs_size]; exact l2
    have s3 : (bs r.ds).size ≤ 2000 := by rw [bs_size]; exact l3
    clear hle l1 l2 l3
    cases hi : r.ifc
    all_goals
      rw [hi] at Hc hU0 hm0
      have Hi := hid hi
      clear hi
      go_enter Tryd.func21, Tryd.ntmps21
      go_wp2_with fail
      refine (Hc _ hm0).out.mono ?_
      rintro e w1 ⟨rfl, hU1⟩
      obtain ⟨hc1, hf1, hz1⟩ := hU1.cells
      have hz1' : w.heap.size < w1.heap.size := by simp at hz1; omega
      have hU2 := hU0.trans hU1
      simp only [errIf]
      go_wp2
      go_ret2
      have hq := Hfin.out _ hU2
      first | rw [show (⟨#[46]⟩ : ByteArray) = bs [46] from rfl] | rw [show (⟨#[58]⟩ : ByteArray) = bs [58] from rfl]
      rw [bs_append, bs_append, bs_append]
      simpa [RefL.text, Hi.out, errIf] using hq
end Go.Proofs.YtjjdlgjofjfgmaaDoor
