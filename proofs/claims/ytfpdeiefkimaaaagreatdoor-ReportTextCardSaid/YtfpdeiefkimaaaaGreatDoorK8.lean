/-
  The document's answer on instructions, walked: Print.
-/
import Derived.Lib.QuietBelow
import Derived.Test.YtfpdeiefkimaaaaGreatDoorK6
import Derived.Test.YtfpdeiefkimaaaaGreatDoorK7
set_option linter.unusedSimpArgs false
set_option linter.unusedVariables false
namespace Go.Proofs.YtfpdeiefkimaaaaGreatDoor
open Go.RowKit

end Go.Proofs.YtfpdeiefkimaaaaGreatDoor
/-
  The law CodePlays, walked.
-/
set_option linter.unusedSimpArgs false
set_option linter.unusedVariables false
namespace Go.Proofs.YtfpdeiefkimaaaaGreatDoor
open Go.RowKit Go.Sort

end Go.Proofs.YtfpdeiefkimaaaaGreatDoor
/-
  Lists of instructions in memory; CheckAll, walked on both sides.
-/
set_option linter.unusedSimpArgs false
set_option linter.unusedVariables false
namespace Go.Proofs.YtfpdeiefkimaaaaGreatDoor
open Go.RowKit

/-- A slice at A reads as these instructions. -/
def InstsAt (w : World) (A : Option Addr) (l : List InstL) : Prop :=
  l ≠ [] → ∃ bk off, A = some ⟨bk, off, none⟩ ∧ bk < w.heap.size ∧ ∀ i (h : i < l.length), ∀ j, j < 7 → w.cell? ⟨bk, off + i * 7 + j, none⟩ = l[i].cells[j]?
theorem InstsAt.upd {w w' : World} {A : Option Addr} {l : List InstL} (h : InstsAt w A l) (u : Upd w w' []) : InstsAt w' A l := by
  intro hl
  obtain ⟨bk, off, e, hb, hc⟩ := h hl
  refine ⟨bk, off, e, Nat.lt_of_lt_of_le hb u.size, fun i hi j hj => ?_⟩
  rw [u.cells.1 _ _ hb]
  exact hc i hi j hj
theorem InstsAt.seven {w : World} {bk off : Nat} {l : List InstL} (hc : ∀ i (h : i < l.length), ∀ j, j < 7 → w.cell? ⟨bk, off + i * 7 + j, none⟩ = l[i].cells[j]?) {i : Nat} (h : i < l.length) {op n : Int} {tx : List UInt8} {r : RefL} (e : l[i] = ⟨op, n, tx, r⟩) :
    w.cell? ⟨bk, off + i * 7, none⟩ = some (.int .i64 op) ∧ w.cell? ⟨bk, off + i * 7 + 1, none⟩ = some (.int .i64 n) ∧ w.cell? ⟨bk, off + i * 7 + 2, none⟩ = some (.string (bs tx)) ∧ w.cell? ⟨bk, off + i * 7 + 3, none⟩ = some (.bool r.ifc) ∧
      w.cell? ⟨bk, off + i * 7 + 4, none⟩ = some (.string (bs r.cls)) ∧ w.cell? ⟨bk, off + i * 7 + 5, none⟩ = some (.string (bs r.nm)) ∧ w.cell? ⟨bk, off + i * 7 + 6, none⟩ = some (.string (bs r.ds)) := by
  have q := fun j hj => hc i h j hj
  rw [e] at q
  exact ⟨q 0 (by omega), q 1 (by omega), q 2 (by omega), q 3 (by omega), q 4 (by omega), q 5 (by omega), q 6 (by omega)⟩

/-- Does an instruction not go with so many locals and instructions? -/
def badI (i : InstL) (locals : Int) (n : Nat) : Bool := !i.ok || (decide (kindL i.op = 2) && decide (locals ≤ i.n)) || (decide (kindL i.op = 3) && decide ((n : Int) ≤ i.n))
def allOk (l : List InstL) (locals : Int) : Bool := decide (1 ≤ l.length ∧ l.length ≤ 200) && l.all fun i => !badI i locals l.length
theorem allOk_bad {l : List InstL} {locals : Int} {i : Nat} (h : i < l.length) (hb : badI l[i] locals l.length = true) : allOk l locals = false := by
  unfold allOk
  rw [Bool.and_eq_false_iff]
  right
  rw [List.all_eq_false]
  exact ⟨l[i], List.getElem_mem h, by simp [hb]⟩
theorem allOk_size {l : List InstL} {locals : Int} (h : ¬ (1 ≤ l.length ∧ l.length ≤ 200)) : allOk l locals = false := by
  unfold allOk
  rw [decide_eq_false h]
  rfl
theorem allOk_all {l : List InstL} {locals : Int} (h : 1 ≤ l.length ∧ l.length ≤ 200) (ha : ∀ i (hi : i < l.length), badI l[i] locals l.length = false) : allOk l locals = true := by
  unfold allOk
  rw [decide_eq_true h, Bool.true_and, List.all_eq_true]
  intro x hx
  obtain ⟨i, hi, rfl⟩ := List.getElem_of_mem hx
  simp [ha i hi]

def checkAll_anyRel (l : List InstL) (locals : Int) (w : World) (t : Value) (wr : World) : Prop :=
  ∃ k : Nat, t = .int .i64 k ∧ k ≤ l.length ∧ Hid (∀ i (hi : i < l.length), i < k → badI l[i] locals l.length = false) ∧ Upd w wr []

set_option maxHeartbeats 8000000 in
set_option maxRecDepth 100000 in
theorem checkAll_any (A : Option Addr) (cap : Nat) (l : List InstL) (locals : Int) (w : World) (hA : InstsAt w A l) (hl : l.length ≤ 2000000000000) (hfit : ∀ i, i ∈ l → i.fit) (hm : MaxLenAt w) :
    Calls Tryz.prog 129 #[.slice A l.length cap, .int .i64 locals] w fun e w' => e = .returned (.int .i64 (errIf (allOk l locals))) ∧ Upd w w' [] := by
  by_cases hsz : 1 ≤ l.length ∧ l.length ≤ 200
  · have hne : l ≠ [] := by rintro rfl; simp at hsz
    obtain ⟨bk, off, rfl, hbk, hc⟩ := hA hne
    have Hc := hid hc
    obtain ⟨hs1, hs2⟩ := hsz
    have hlen : l.length ≤ 200 := hs2
    have hpos : ¬ l.length < 1 := by omega
    have hpos2 : ¬ 200 < l.length := by omega
    clear hc hA hl hne
    have Hw := fun w => hid (within_any l.length 1 200 w)
    rw [show withinB 1 200 l.length = true from decide_eq_true (by omega)] at Hw
    go_enter Tryz.func129, Tryz.ntmps129
    go_wp2_with fail
    refine (Hw _).out.mono ?_
    rintro e w0 ⟨rfl, rfl⟩
    go_wp2
    go_loopw [14] (fun t wr => checkAll_anyRel l locals w t wr) (fun t _ => l.length - (intOf t).toNat)
    case atStart => exact ⟨0, rfl, Nat.zero_le _, hid (fun i _ h => absurd h (Nat.not_lt_zero _)), Upd.refl _ _⟩
    case round =>
      obtain ⟨k, rfl, hk, hgood, hU⟩ := hrel
      by_cases hlt : k < l.length
      · obtain ⟨op, n, tx, r, e⟩ : ∃ op n tx r, l[k] = InstL.mk op n tx r := ⟨_, _, _, _, rfl⟩
        have hf := hfit _ (List.getElem_mem hlt)
        rw [e] at hf
        have hbr : bk < wr.heap.size := Nat.lt_of_lt_of_le hbk hU.size
        obtain ⟨x0, x1, x2, x3, x4, x5, x6⟩ := InstsAt.seven (w := wr) (fun i hi j hj => by rw [hU.cells.1 _ _ hbk]; exact Hc.out i hi j hj) hlt e
        have Hop := fun w => hid (operand_any op w)
        have Hck := fun w hm => hid (check_any ⟨op, n, tx, r⟩ w hf hm)
        unfold checkPost InstL.v InstL.cells at Hck
        simp only at Hck
        have hUa : Upd wr (wr.alloc (.cells #[.int .i64 op, .int .i64 n, .string (bs tx), .bool r.ifc, .string (bs r.cls), .string (bs r.nm), .string (bs r.ds)] 90)) [] := (Upd.refl _ _).alloc _
        have hbad : badI l[k] locals l.length = (!(InstL.mk op n tx r).ok || (decide (kindL op = 2) && decide (locals ≤ n)) || (decide (kindL op = 3) && decide ((l.length : Int) ≤ n))) := by rw [e]; rfl
        have Hb := hid hbad
        have Hgd : badI l[k] locals l.length = false → Hid (∀ i (hi : i < l.length), i < k + 1 → badI l[i] locals l.length = false) := fun h => hid (fun i hi h2 => by
          rcases Nat.lt_or_ge i k with h3 | h3
          · exact hgood.out i hi h3
          · have : i = k := by omega
            subst this
            exact h)
        have Hgd' := hid Hgd
        have Hbd := hid (fun h => allOk_bad (locals := locals) hlt h)
        generalize (InstL.mk op n tx r).ok = bo at Hck Hb
        generalize kindL op = kk at Hop Hb
        clear hbad Hgd hgood e hf
        cases bo with
        | false =>
          have Hbad := hid (Hbd.out (by rw [Hb.out]; rfl))
          go_wp2_with fail
          refine (Hop _).out.mono ?_
          rintro e w1 ⟨rfl, hU1⟩
          obtain ⟨hc1, hf1, hz1⟩ := hU1.cells
          have hz1' : wr.heap.size < w1.heap.size := by simp at hz1; omega
          have hz2' : bk < w1.heap.size := by omega
          have hV1 := hU.trans ((hUa).trans hU1)
          go_wp2_with fail
          refine (Hck _ (hm.upd hV1 (by simp))).out.mono ?_
          rintro e w2 ⟨rfl, hU2⟩
          obtain ⟨hc2, hf2, hz3⟩ := hU2.cells
          have hz2 : wr.heap.size < w2.heap.size := by omega
          have hV2 := hV1.trans hU2
          clear hU1 hU2 hz1 hz3
          simp only [errIf]
          go_wp2
          go_ret
          exact ⟨ret_int (by rw [Hbad.out]; rfl), hV2⟩
        | true =>
          by_cases h2 : kk = 2
          · subst h2
            by_cases hl2 : locals ≤ n
            · have Hbad := hid (Hbd.out (by rw [Hb.out, decide_eq_true hl2]; rfl))
              go_wp2_with fail
              refine (Hop _).out.mono ?_
              rintro e w1 ⟨rfl, hU1⟩
              obtain ⟨hc1, hf1, hz1⟩ := hU1.cells
              have hz1' : wr.heap.size < w1.heap.size := by simp at hz1; omega
              have hz2' : bk < w1.heap.size := by omega
              have hV1 := hU.trans ((hUa).trans hU1)
              go_wp2_with fail
              refine (Hck _ (hm.upd hV1 (by simp))).out.mono ?_
              rintro e w2 ⟨rfl, hU2⟩
              obtain ⟨hc2, hf2, hz3⟩ := hU2.cells
              have hz2 : wr.heap.size < w2.heap.size := by omega
              have hV2 := hV1.trans hU2
              clear hU1 hU2 hz1 hz3
              simp only [errIf]
              go_wp2
              go_ret
              exact ⟨ret_int (by rw [Hbad.out]; rfl), hV2⟩
            · have hl3 : n < locals := by omega
              have Hgood := hid (Hgd'.out (by rw [Hb.out, decide_eq_false hl2]; rfl))
              go_wp2_with fail
              refine (Hop _).out.mono ?_
              rintro e w1 ⟨rfl, hU1⟩
              obtain ⟨hc1, hf1, hz1⟩ := hU1.cells
              have hz1' : wr.heap.size < w1.heap.size := by simp at hz1; omega
              have hz2' : bk < w1.heap.size := by omega
              have hV1 := hU.trans ((hUa).trans hU1)
              go_wp2_with fail
              refine (Hck _ (hm.upd hV1 (by simp))).out.mono ?_
              rintro e w2 ⟨rfl, hU2⟩
              obtain ⟨hc2, hf2, hz3⟩ := hU2.cells
              have hz2 : wr.heap.size < w2.heap.size := by omega
              have hV2 := hV1.trans hU2
              clear hU1 hU2 hz1 hz3
              simp only [errIf]
              go_wp2
              go_roundw
              case rel => exact ⟨k + 1, by go_num, by omega, Hgood.out, hV2⟩
              case measure => simp [intOf]; omega
          · have h2b : (kk == 2) = false := by simpa using h2
            by_cases h3 : kk = 3
            · subst h3
              by_cases hc2 : (l.length : Int) ≤ n
              · have Hbad := hid (Hbd.out (by rw [Hb.out, decide_eq_true hc2]; rfl))
                go_wp2_with fail
                refine (Hop _).out.mono ?_
                rintro e w1 ⟨rfl, hU1⟩
                obtain ⟨hc1, hf1, hz1⟩ := hU1.cells
                have hz1' : wr.heap.size < w1.heap.size := by simp at hz1; omega
                have hz2' : bk < w1.heap.size := by omega
                have hV1 := hU.trans ((hUa).trans hU1)
                go_wp2_with fail
                refine (Hck _ (hm.upd hV1 (by simp))).out.mono ?_
                rintro e w2 ⟨rfl, hU2⟩
                obtain ⟨hc2, hf2, hz3⟩ := hU2.cells
                have hz2 : wr.heap.size < w2.heap.size := by omega
                have hV2 := hV1.trans hU2
                clear hU1 hU2 hz1 hz3
                simp only [errIf]
                go_wp2
                go_ret
                exact ⟨ret_int (by rw [Hbad.out]; rfl), hV2⟩
              · have hc3 : n < (l.length : Int) := by omega
                have Hgood := hid (Hgd'.out (by rw [Hb.out, decide_eq_false hc2]; rfl))
                go_wp2_with fail
                refine (Hop _).out.mono ?_
                rintro e w1 ⟨rfl, hU1⟩
                obtain ⟨hc1, hf1, hz1⟩ := hU1.cells
                have hz1' : wr.heap.size < w1.heap.size := by simp at hz1; omega
                have hz2' : bk < w1.heap.size := by omega
                have hV1 := hU.trans ((hUa).trans hU1)
                go_wp2_with fail
                refine (Hck _ (hm.upd hV1 (by simp))).out.mono ?_
                rintro e w2 ⟨rfl, hU2⟩
                obtain ⟨hc2, hf2, hz3⟩ := hU2.cells
                have hz2 : wr.heap.size < w2.heap.size := by omega
                have hV2 := hV1.trans hU2
                clear hU1 hU2 hz1 hz3
                simp only [errIf]
                go_wp2
                go_roundw
                case rel => exact ⟨k + 1, by go_num, by omega, Hgood.out, hV2⟩
                case measure => simp [intOf]; omega
            · have h3b : (kk == 3) = false := by simpa using h3
              have Hgood := hid (Hgd'.out (by rw [Hb.out, decide_eq_false h2, decide_eq_false h3]; rfl))
              go_wp2_with fail
              refine (Hop _).out.mono ?_
              rintro e w1 ⟨rfl, hU1⟩
              obtain ⟨hc1, hf1, hz1⟩ := hU1.cells
              have hz1' : wr.heap.size < w1.heap.size := by simp at hz1; omega
              have hz2' : bk < w1.heap.size := by omega
              have hV1 := hU.trans ((hUa).trans hU1)
              go_wp2_with fail
              refine (Hck _ (hm.upd hV1 (by simp))).out.mono ?_
              rintro e w2 ⟨rfl, hU2⟩
              obtain ⟨hc2, hf2, hz3⟩ := hU2.cells
              have hz2 : wr.heap.size < w2.heap.size := by omega
              have hV2 := hV1.trans hU2
              clear hU1 hU2 hz1 hz3
              simp only [errIf]
              go_wp2
              go_roundw
              case rel => exact ⟨k + 1, by go_num, by omega, Hgood.out, hV2⟩
              case measure => simp [intOf]; omega
      · obtain rfl : k = l.length := by omega
        have Hall := hid (allOk_all (l := l) (locals := locals) ⟨hs1, hs2⟩ (fun i hi => hgood.out i hi hi))
        clear hgood
        go_wp2
        go_ret
        exact ⟨ret_int (by rw [Hall.out]; rfl), hU⟩
  · have hall := allOk_size (l := l) (locals := locals) hsz
    have Hall := hid hall
    clear hall
    have Hw := fun w => hid (within_any l.length 1 200 w)
    rw [show withinB 1 200 l.length = false from decide_eq_false (by omega)] at Hw
    clear hsz
    go_enter Tryz.func129, Tryz.ntmps129
    go_wp2_with fail
    refine (Hw _).out.mono ?_
    rintro e w0 ⟨rfl, rfl⟩
    go_wp2
    go_ret
    exact ⟨ret_int (by rw [Hall.out]; rfl), Upd.refl _ _⟩

def checkAllR_anyRel (l : List InstL) (locals : Int) (w : World) (t : Value) (wr : World) : Prop :=
  ∃ k : Nat, t = .int .i64 k ∧ k ≤ l.length ∧ Hid (∀ i (hi : i < l.length), i < k → badI l[i] locals l.length = false) ∧ Upd w wr []

end Go.Proofs.YtfpdeiefkimaaaaGreatDoor
