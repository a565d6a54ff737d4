/-
  Package code, walked: operand.
-/
import Derived.Test.YtjjdlgjofjfgmaaDoorCodeB
set_option linter.unusedSimpArgs false
set_option linter.unusedVariables false
namespace Go.Proofs.YtjjdlgjofjfgmaaDoor
open Go.RowKit

/-- An instruction. -/
structure InstL where
  op : Int
  n : Int
  ty : List UInt8
  ref : RefL
  deriving DecidableEq
def InstL.cells (i : InstL) : Array Value := #[.int .i64 i.op, .int .i64 i.n, .string (bs i.ty), .bool i.ref.ifc, .string (bs i.ref.cls), .string (bs i.ref.nm), .string (bs i.ref.ds)]
def InstL.v (i : InstL) : Value := .agg i.cells
def InstL.fit (i : InstL) : Prop := i.ty.length ≤ 9223372036854775807 ∧ i.ref.fit

/-- Is what the operand has fine? -/
def InstL.fine (i : InstL) : Bool :=
  if kindL i.op = 0 then true
  else if kindL i.op = 1 then withinB (-2147483648) 2147483647 i.n
  else if kindL i.op = 2 then withinB 0 39 i.n
  else if kindL i.op = 3 then withinB 0 199 i.n
  else if kindL i.op = 4 then validB i.ty
  else if kindL i.op = 5 then decide ((parseRefL i.ty).2.2 = 0)
  else if kindL i.op = 6 then decide ((parseL i.ty).2.2 = 0) && decide ((parseL i.ty).1 < 255)
  else if kindL i.op = 7 then decide ((parseRefL i.ty).2.2 = 0) && withinB 1 (parseRefL i.ty).1 i.n
  else if kindL i.op = 8 then i.ref.ok
  else false

theorem spec_kinds : ∀ n : Nat, (specT.getD n ([], 0)).2 ≤ 8 := by
  intro n
  by_cases h : n < 41
  · have : ∀ n : Fin 41, (specT.getD n.val ([], 0)).2 ≤ 8 := by decide
    exact this ⟨n, h⟩
  · have hl : specT.length = 41 := rfl
    rw [List.getD_eq_getElem?_getD, List.getElem?_eq_none (by omega)]
    decide
theorem kindL_cases (op : Int) : kindL op = -1 ∨ kindL op = 0 ∨ kindL op = 1 ∨ kindL op = 2 ∨ kindL op = 3 ∨ kindL op = 4 ∨ kindL op = 5 ∨ kindL op = 6 ∨ kindL op = 7 ∨ kindL op = 8 := by
  unfold kindL
  have := spec_kinds op.toNat
  split <;> omega

def finePost (i : InstL) (w : World) (e : Ending) (w' : World) : Prop := e = .returned (.bool i.fine) ∧ Upd w w' []

set_option maxHeartbeats 2000000 in
set_option maxRecDepth 100000 in
theorem operandIn_any (i : InstL) (w : World) (hi : i.fit) (hm : MaxLenAt w) : Calls Tryd.prog 40 #[i.v] w (finePost i w) := by
  obtain ⟨op, n, tx, r⟩ := i
  obtain ⟨h1, h2⟩ := hi
  simp only at h1 h2
  have h1s : (bs tx).size ≤ 9223372036854775807 := by rw [bs_size]; omega
  have hU0 : Upd w (w.alloc (.cells #[.int .i64 op, .int .i64 n, .string (bs tx), .bool r.ifc, .string (bs r.cls), .string (bs r.nm), .string (bs r.ds)] 25)) [] := (Upd.refl _ _).alloc _
  have hm0 := hm.upd hU0 (by simp)
  have Hop := hid (operand_any op (w.alloc (.cells #[.int .i64 op, .int .i64 n, .string (bs tx), .bool r.ifc, .string (bs r.cls), .string (bs r.nm), .string (bs r.ds)] 25)))
  unfold finePost InstL.v InstL.cells
  simp only
  rcases kindL_cases op with hk | hk | hk | hk | hk | hk | hk | hk | hk | hk
  · have hf : ∀ b, b = (false) → InstL.fine ⟨op, n, tx, r⟩ = b := fun b hb => by unfold InstL.fine; simp only [hk]; simp [hb]
    rw [hk] at Hop
    rw [hf _ rfl]
    clear hf
    skip
    go_enter Tryd.func40, Tryd.ntmps40
    go_wp2_with fail
    refine Hop.out.mono ?_
    rintro e w1 ⟨rfl, hU1⟩
    obtain ⟨hc1, hf1, hz1⟩ := hU1.cells
    have hz1' : w.heap.size < w1.heap.size := by simp at hz1; omega
    have hU2 := hU0.trans hU1
    have hm2 := hm.upd hU2 (by simp)
    go_wp2
    go_ret
    exact ⟨rfl, hU2⟩
  · have hf : ∀ b, b = (true) → InstL.fine ⟨op, n, tx, r⟩ = b := fun b hb => by unfold InstL.fine; simp only [hk]; simp [hb]
    rw [hk] at Hop
    rw [hf _ rfl]
    clear hf
    skip
    go_enter Tryd.func40, Tryd.ntmps40
    go_wp2_with fail
    refine Hop.out.mono ?_
    rintro e w1 ⟨rfl, hU1⟩
    obtain ⟨hc1, hf1, hz1⟩ := hU1.cells
    have hz1' : w.heap.size < w1.heap.size := by simp at hz1; omega
    have hU2 := hU0.trans hU1
    have hm2 := hm.upd hU2 (by simp)
    go_wp2
    go_ret
    exact ⟨rfl, hU2⟩
  · have hf : ∀ b, b = (withinB (-2147483648) 2147483647 n) → InstL.fine ⟨op, n, tx, r⟩ = b := fun b hb => by unfold InstL.fine; simp only [hk]; simp [hb]
    rw [hk] at Hop
    rw [hf _ rfl]
    clear hf
    skip
    go_enter Tryd.func40, Tryd.ntmps40
    go_wp2_with fail
    refine Hop.out.mono ?_
    rintro e w1 ⟨rfl, hU1⟩
    obtain ⟨hc1, hf1, hz1⟩ := hU1.cells
    have hz1' : w.heap.size < w1.heap.size := by simp at hz1; omega
    have hU2 := hU0.trans hU1
    have hm2 := hm.upd hU2 (by simp)
    go_wp2_with fail
    refine (within_any _ _ _ _).mono ?_
    rintro e w2 ⟨rfl, rfl⟩
    go_wp2
    go_ret
    exact ⟨rfl, hU2⟩
  · have hf : ∀ b, b = (withinB 0 39 n) → InstL.fine ⟨op, n, tx, r⟩ = b := fun b hb => by unfold InstL.fine; simp only [hk]; simp [hb]
    rw [hk] at Hop
    rw [hf _ rfl]
    clear hf
    skip
    go_enter Tryd.func40, Tryd.ntmps40
    go_wp2_with fail
    refine Hop.out.mono ?_
    rintro e w1 ⟨rfl, hU1⟩
    obtain ⟨hc1, hf1, hz1⟩ := hU1.cells
    have hz1' : w.heap.size < w1.heap.size := by simp at hz1; omega
    have hU2 := hU0.trans hU1
    have hm2 := hm.upd hU2 (by simp)
    go_wp2_with fail
    refine (within_any _ _ _ _).mono ?_
    rintro e w2 ⟨rfl, rfl⟩
    go_wp2
    go_ret
    exact ⟨rfl, hU2⟩
  · have hf : ∀ b, b = (withinB 0 199 n) → InstL.fine ⟨op, n, tx, r⟩ = b := fun b hb => by unfold InstL.fine; simp only [hk]; simp [hb]
    rw [hk] at Hop
    rw [hf _ rfl]
    clear hf
    skip
    go_enter Tryd.func40, Tryd.ntmps40
    go_wp2_with fail
    refine Hop.out.mono ?_
    rintro e w1 ⟨rfl, hU1⟩
    obtain ⟨hc1, hf1, hz1⟩ := hU1.cells
    have hz1' : w.heap.size < w1.heap.size := by simp at hz1; omega
    have hU2 := hU0.trans hU1
    have hm2 := hm.upd hU2 (by simp)
    go_wp2_with fail
    refine (within_any _ _ _ _).mono ?_
    rintro e w2 ⟨rfl, rfl⟩
    go_wp2
    go_ret
    exact ⟨rfl, hU2⟩
  · have hf : ∀ b, b = (validB tx) → InstL.fine ⟨op, n, tx, r⟩ = b := fun b hb => by unfold InstL.fine; simp only [hk]; simp [hb]
    rw [hk] at Hop
    rw [hf _ rfl]
    clear hf
    have Hc := fun w hm => hid (valid_any (bs tx) w h1s hm)
    simp only [bs_data] at Hc
    go_enter Tryd.func40, Tryd.ntmps40
    go_wp2_with fail
    refine Hop.out.mono ?_
    rintro e w1 ⟨rfl, hU1⟩
    obtain ⟨hc1, hf1, hz1⟩ := hU1.cells
    have hz1' : w.heap.size < w1.heap.size := by simp at hz1; omega
    have hU2 := hU0.trans hU1
    have hm2 := hm.upd hU2 (by simp)
    go_wp2_with fail
    refine ((Hc _ hm2).out).mono ?_
    rintro e w2 ⟨rfl, hU3⟩
    go_wp2
    go_ret
    exact ⟨rfl, hU2.trans hU3⟩
  · have hf : ∀ b, b = (decide ((parseRefL tx).2.2 = 0)) → InstL.fine ⟨op, n, tx, r⟩ = b := fun b hb => by unfold InstL.fine; simp only [hk]; simp [hb]
    rw [hk] at Hop
    rw [hf _ rfl]
    clear hf
    have Ha := fun w hm => hid (parseRef_any tx w (by omega) hm)
    obtain ⟨p, hp⟩ : ∃ p, parseRefL tx = p := ⟨_, rfl⟩
    rw [hp] at Ha ⊢
    obtain ⟨pn, pl, pe⟩ := p
    clear hp
    go_enter Tryd.func40, Tryd.ntmps40
    go_wp2_with fail
    refine Hop.out.mono ?_
    rintro e w1 ⟨rfl, hU1⟩
    obtain ⟨hc1, hf1, hz1⟩ := hU1.cells
    have hz1' : w.heap.size < w1.heap.size := by simp at hz1; omega
    have hU2 := hU0.trans hU1
    have hm2 := hm.upd hU2 (by simp)
    go_wp2_with fail
    refine ((Ha _ hm2).out).mono ?_
    rintro e w2 ⟨rfl, hU3⟩
    obtain ⟨hc2, hf2, hz2⟩ := hU3.cells
    have hz2' : w.heap.size < w2.heap.size := by omega
    have hU4 := (hU2.trans hU3).alloc (.cells #[.int .i64 pn, .string (bs pl)] 69)
    unfold ty
    
    go_wp2
    go_ret
    exact ⟨bool_ret (by first | rfl | simp), hU4⟩
  · have hf : ∀ b, b = (decide ((parseL tx).2.2 = 0) && decide ((parseL tx).1 < 255)) → InstL.fine ⟨op, n, tx, r⟩ = b := fun b hb => by unfold InstL.fine; simp only [hk]; simp [hb]
    rw [hk] at Hop
    rw [hf _ rfl]
    clear hf
    have Ha := fun w hm => hid (parse_any tx w (by omega) hm)
    obtain ⟨p, hp⟩ : ∃ p, parseL tx = p := ⟨_, rfl⟩
    rw [hp] at Ha ⊢
    obtain ⟨pn, pl, pe⟩ := p
    clear hp
    go_enter Tryd.func40, Tryd.ntmps40
    go_wp2_with fail
    refine Hop.out.mono ?_
    rintro e w1 ⟨rfl, hU1⟩
    obtain ⟨hc1, hf1, hz1⟩ := hU1.cells
    have hz1' : w.heap.size < w1.heap.size := by simp at hz1; omega
    have hU2 := hU0.trans hU1
    have hm2 := hm.upd hU2 (by simp)
    go_wp2_with fail
    refine ((Ha _ hm2).out).mono ?_
    rintro e w2 ⟨rfl, hU3⟩
    obtain ⟨hc2, hf2, hz2⟩ := hU3.cells
    have hz2' : w.heap.size < w2.heap.size := by omega
    have hU4 := (hU2.trans hU3).alloc (.cells #[.int .i64 pn, .string (bs pl)] 69)
    unfold ty
    
    go_wp2
    all_goals
      go_ret
      exact ⟨bool_ret (by first | (simp_all; done) | (simp_all; omega)), hU4⟩
  · have hf : ∀ b, b = (decide ((parseRefL tx).2.2 = 0) && withinB 1 (parseRefL tx).1 n) → InstL.fine ⟨op, n, tx, r⟩ = b := fun b hb => by unfold InstL.fine; simp only [hk]; simp [hb]
    rw [hk] at Hop
    rw [hf _ rfl]
    clear hf
    have Ha := fun w hm => hid (parseRef_any tx w (by omega) hm)
    obtain ⟨p, hp⟩ : ∃ p, parseRefL tx = p := ⟨_, rfl⟩
    rw [hp] at Ha ⊢
    obtain ⟨pn, pl, pe⟩ := p
    clear hp
    go_enter Tryd.func40, Tryd.ntmps40
    go_wp2_with fail
    refine Hop.out.mono ?_
    rintro e w1 ⟨rfl, hU1⟩
    obtain ⟨hc1, hf1, hz1⟩ := hU1.cells
    have hz1' : w.heap.size < w1.heap.size := by simp at hz1; omega
    have hU2 := hU0.trans hU1
    have hm2 := hm.upd hU2 (by simp)
    go_wp2_with fail
    refine ((Ha _ hm2).out).mono ?_
    rintro e w2 ⟨rfl, hU3⟩
    obtain ⟨hc2, hf2, hz2⟩ := hU3.cells
    have hz2' : w.heap.size < w2.heap.size := by omega
    have hU4 := (hU2.trans hU3).alloc (.cells #[.int .i64 pn, .string (bs pl)] 69)
    unfold ty
    
    go_wp2_with (refine (within_any _ _ _ _).mono ?_; rintro e w3 ⟨rfl, rfl⟩)
    all_goals
      go_ret
      exact ⟨bool_ret (by simp_all), hU4⟩
  · have hf : ∀ b, b = (r.ok) → InstL.fine ⟨op, n, tx, r⟩ = b := fun b hb => by unfold InstL.fine; simp only [hk]; simp [hb]
    rw [hk] at Hop
    rw [hf _ rfl]
    clear hf
    have Hc := fun w hm => hid (refCheck_any r w h2 hm)
    unfold RefL.v refPost at Hc
    go_enter Tryd.func40, Tryd.ntmps40
    go_wp2_with fail
    refine Hop.out.mono ?_
    rintro e w1 ⟨rfl, hU1⟩
    obtain ⟨hc1, hf1, hz1⟩ := hU1.cells
    have hz1' : w.heap.size < w1.heap.size := by simp at hz1; omega
    have hU2 := hU0.trans hU1
    have hm2 := hm.upd hU2 (by simp)
    go_wp2_with fail
    refine ((Hc _ hm2).out).mono ?_
    rintro e w2 ⟨rfl, hU3⟩
    cases hx : r.ok
    all_goals
      simp only [errIf]
      go_wp2
      go_ret
      exact ⟨bool_ret (by simp [hx]), hU2.trans hU3⟩
end Go.Proofs.YtjjdlgjofjfgmaaDoor
