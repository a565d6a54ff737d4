/-
  shapes.Check, walked.
-/
import Derived.Test.YtjjdlgjofjfgmaaDoorClassF
import Derived.Test.YtjjdlgjofjfgmaaDoorOpenC
set_option linter.unusedSimpArgs false
set_option linter.unusedVariables false
namespace Go.Proofs.YtjjdlgjofjfgmaaDoor
open Go.RowKit

/-- Is the method at this place sound, and the first of its name and descriptor? -/
def goodB (c : ClassL) (i : Nat) : Bool := match c.ms[i]? with
  | some m => methodB m (anyF c.fl 512) && decide (findL m.nm m.ds c.ms 0 = i)
  | none => true
/-- Is a class sound? -/
def checkB (c : ClassL) : Bool := decide (c.ms.length ≤ 40) && decide (c.ifs.length ≤ 20) && headerB c && (List.range c.ms.length).all (goodB c)

theorem checkB_bad {c : ClassL} {k : Nat} (h : k < c.ms.length) (hb : goodB c k = false) : checkB c = false := by
  unfold checkB
  rw [List.all_eq_false.2 ⟨k, List.mem_range.2 h, by simp [hb]⟩]
  simp
theorem checkB_all {c : ClassL} (h1 : c.ms.length ≤ 40) (h2 : c.ifs.length ≤ 20) (h3 : headerB c = true) (ha : ∀ i, i < c.ms.length → goodB c i = true) : checkB c = true := by
  unfold checkB
  rw [List.all_eq_true.2 (fun i hi => ha i (List.mem_range.1 hi)), h3, decide_eq_true h1, decide_eq_true h2]
  rfl

def check5Rel (c : ClassL) (w : World) (t : Value) (wr : World) : Prop :=
  ∃ k : Nat, t = .int .i64 k ∧ k ≤ c.ms.length ∧ Hid (∀ i, i < k → goodB c i = true) ∧ Upd w wr []

set_option maxHeartbeats 8000000 in
set_option maxRecDepth 100000 in
theorem check5_any (c : ClassL) (w : World) (hf : c.fit w) (hm : MaxLenAt w) :
    Calls Tryd.prog 28 #[c.v] w fun e w' => e = .returned (.int .i64 (errIf (checkB c))) ∧ Upd w w' [] := by
  have HC := hid (show c = c from rfl)
  have Hh := fun w (hf : c.fit w) hm => hid (header_any c w hf.ifs hf.capI hf.lenI hf.nm hf.sup hf.strs hm)
  have Hbd := hid (fun k h hb => checkB_bad (c := c) (k := k) h hb)
  have Hall := hid (fun h1 h2 h3 ha => checkB_all (c := c) h1 h2 h3 ha)
  have Hfi := hid (fun nm ds w hA => find_any c nm ds w hA hf.lenM)
  have HF := hid hf
  have hlenM := hf.lenM
  have hcapM := hf.capM
  have hsz1 : checkB c = (decide (c.ms.length ≤ 40) && decide (c.ifs.length ≤ 20) && headerB c && (List.range c.ms.length).all (goodB c)) := rfl
  have Hsz := hid hsz1
  have Hgood : Hid (∀ i, goodB c i = match c.ms[i]? with
    | some m => methodB m (anyF c.fl 512) && decide (findL m.nm m.ds c.ms 0 = i)
    | none => true) := hid (fun _ => rfl)
  clear hsz1
  have hcr : ∃ cb, checkB c = cb := ⟨_, rfl⟩
  obtain ⟨cb, hcb⟩ := hcr
  rw [hcb] at Hbd Hall Hsz ⊢
  clear hcb
  generalize hg : goodB c = gb at Hbd Hall Hsz Hgood
  generalize hh : headerB c = hb at Hh Hall Hsz
  clear hh HC
  have Hrel : ∀ w t wr, check5Rel c w t wr = ∃ k : Nat, t = .int .i64 k ∧ k ≤ c.ms.length ∧ Hid (∀ i, i < k → gb i = true) ∧ Upd w wr [] := by
    intro w t wr
    unfold check5Rel
    rw [hg]
  have HR := hid Hrel
  clear Hrel hg
  have HM := fun m hm w (u : Upd _ w []) => hid ((HF.out.meths m hm).upd u)
  obtain ⟨cn, cs, AI, cI, ifs, fl, ld, A, cap, ms⟩ := c
  unfold ClassL.v ClassL.cells at Hh Hfi ⊢
  simp only at Hh Hfi Hbd Hall Hsz Hgood HR HM hlenM hcapM ⊢
  have hU0 : Upd w (w.alloc (.cells #[.string (bs cn), .string (bs cs), .slice AI ifs.length cI, .int .i64 fl, .int .i64 ld, .slice A ms.length cap] 47)) [] := (Upd.refl _ _).alloc _
  have hb512 : (bits BinOp.and IntKind.i64 fl 512 != 0) = anyF fl 512 := rfl
  go_enter Tryd.func28, Tryd.ntmps28
  by_cases g1 : ms.length ≤ 40
  · have g1i : ¬ (40 < (ms.length : Int)) := by omega
    have g1n : ¬ (40 < ms.length) := by omega
    by_cases g2 : ifs.length ≤ 20
    · have g2i : ¬ (20 < (ifs.length : Int)) := by omega
      have g2n : ¬ (20 < ifs.length) := by omega
      cases hb with
      | false =>
        go_wp2_with fail
        refine (Hh _ (HF.out.upd hU0) (hm.upd hU0 (by simp))).out.mono ?_
        rintro e w1 ⟨rfl, hU1⟩
        go_wp2
        go_ret
        exact ⟨ret_int (by rw [Hsz.out]; simp [errIf]), hU0.trans hU1⟩
      | true =>
        go_wp2_with fail
        refine (Hh _ (HF.out.upd hU0) (hm.upd hU0 (by simp))).out.mono ?_
        rintro e w1 ⟨rfl, hU1⟩
        have hV1 := hU0.trans hU1
        have HF1 := hid (HF.out.upd hV1)
        have hm1 := hm.upd hV1 (by simp)
        have hz1 : w.heap.size < w1.heap.size := by have := hU1.size; simp at this; omega
        have Hbox := hid (hU1.blk (Blk.new w 47 #[.string (bs cn), .string (bs cs), .slice AI ifs.length cI, .int .i64 fl, .int .i64 ld, .slice A ms.length cap]) (by simp))
        have z5 := Hbox.out.cell 5
        simp at z5
        clear hU1
        go_wp2
        go_loopw [23] (fun t wr => check5Rel ⟨cn, cs, AI, cI, ifs, fl, ld, A, cap, ms⟩ w1 t wr) (fun t _ => ms.length - (intOf t).toNat)
        case atStart => rw [HR.out]; exact ⟨0, rfl, Nat.zero_le _, hid (fun i h => absurd h (Nat.not_lt_zero _)), Upd.refl _ _⟩
        case round =>
          rw [HR.out] at hrel
          obtain ⟨k, rfl, hk, hgood, hU⟩ := hrel
          have hbx := hU.blk Hbox.out (by simp)
          have y0 := hbx.cell 0
          have y1 := hbx.cell 1
          have y2 := hbx.cell 2
          have y3 := hbx.cell 3
          have y4 := hbx.cell 4
          have y5 := hbx.cell 5
          simp at y0 y1 y2 y3 y4 y5
          have hzr : w.heap.size < wr.heap.size := by have := hU.size; omega
          by_cases hlt : k < ms.length
          · have hne : ms ≠ [] := by rintro rfl; simp at hlt
            obtain ⟨bk, off, hAe, hbk, hc⟩ := HF1.out.ms hne
            simp only at hAe hc
            subst hAe
            have hbr : bk < wr.heap.size := Nat.lt_of_lt_of_le hbk hU.size
            obtain ⟨mn, md, mf, lo, st, A', cap', code, e⟩ : ∃ a b c d f g h i, ms[k] = MethL.mk a b c d f g h i := ⟨_, _, _, _, _, _, _, _, rfl⟩
            obtain ⟨x0, x1, x2, x3, x4, x5⟩ := MethsAt.six (w := wr) (fun i hi j hj => by rw [hU.cells.1 _ _ hbk]; exact hc i hi j hj) hlt e
            have hmem : ms[k] ∈ ms := List.getElem_mem hlt
            have hgk := Hgood.out k
            rw [List.getElem?_eq_getElem hlt] at hgk
            rw [e] at hmem hgk
            simp only at hgk
            have Hmf := hid ((HF1.out.meths _ hmem).upd hU)
            have Hmt := fun w (u : Upd wr w []) hm => hid (method_any ⟨mn, md, mf, lo, st, A', cap', code⟩ (anyF fl 512) w (Hmf.out.upd u).at_ Hmf.out.len Hmf.out.fits Hmf.out.nm Hmf.out.ds hm)
            have Hfd := fun w (u : Upd wr w []) => hid (Hfi.out mn md w ((HF1.out.upd (hU.trans u)).ms))
            have Hgk := hid hgk
            have Hgd : Hid (gb k = true → Hid (∀ i, i < k + 1 → gb i = true)) := hid (fun h => hid (fun i h2 => by
              rcases Nat.lt_or_ge i k with h3 | h3
              · exact hgood.out i h3
              · have : i = k := by omega
                subst this
                exact h))
            have Hbk := hid (fun h => Hbd.out k hlt h)
            have hmr := hm1.upd hU (by simp)
            have hUa : Upd wr (wr.alloc (.cells #[.string (bs mn), .string (bs md), .int .i64 mf, .int .i64 lo, .int .i64 st, .slice A' code.length cap'] 52)) [] := (Upd.refl _ _).alloc _
            unfold MethL.v MethL.cells at Hmt
            simp only at Hmt
            generalize methodB ⟨mn, md, mf, lo, st, A', cap', code⟩ (anyF fl 512) = mb at Hmt Hgk
            generalize anyF fl 512 = ib at Hmt hb512
            clear hgk hgood hc hmem e
            cases mb with
            | false =>
              have Hb := hid (Hbk.out (by rw [Hgk.out]; rfl))
              go_wp2_with fail
              refine (Hmt _ hUa (hmr.upd hUa (by simp))).out.mono ?_
              rintro e w2 ⟨rfl, hU2⟩
              have hV2 := hV1.trans (hU.trans (hUa.trans hU2))
              clear hU2
              go_wp2
              go_ret
              exact ⟨ret_int (by rw [Hb.out]; rfl), hV2⟩
            | true =>
              by_cases hfe : findL mn md ms 0 = (k : Int)
              · rw [hfe] at Hfd
                have Hg := Hgd.out (by rw [Hgk.out, decide_eq_true hfe]; rfl)
                clear hfe Hgk
                go_wp2_with fail
                refine (Hmt _ hUa (hmr.upd hUa (by simp))).out.mono ?_
                rintro e w2 ⟨rfl, hU2⟩
                obtain ⟨hc2, hf2, hz2⟩ := hU2.cells
                have hz2' : wr.heap.size < w2.heap.size := by simp at hz2; omega
                have hz2'' : w.heap.size < w2.heap.size := by omega
                have hW2 := hUa.trans hU2
                clear hU2 hz2
                go_wp2_with fail
                refine (Hfd _ hW2).out.mono ?_
                rintro e w3 ⟨rfl, hU3⟩
                have hV3 := hU.trans (hW2.trans hU3)
                clear hU3
                go_wp2
                go_roundw
                case rel => rw [HR.out]; exact ⟨k + 1, by go_num, by omega, Hg, hV3⟩
                case measure => simp [intOf]; omega
              · have Hb := hid (Hbk.out (by rw [Hgk.out, decide_eq_false hfe]; rfl))
                generalize findL mn md ms 0 = fi at Hfd hfe
                have hne : (fi != (k : Int)) = true := by simpa using hfe
                clear hfe Hgk
                go_wp2_with fail
                refine (Hmt _ hUa (hmr.upd hUa (by simp))).out.mono ?_
                rintro e w2 ⟨rfl, hU2⟩
                obtain ⟨hc2, hf2, hz2⟩ := hU2.cells
                have hz2' : wr.heap.size < w2.heap.size := by simp at hz2; omega
                have hz2'' : w.heap.size < w2.heap.size := by omega
                have hW2 := hUa.trans hU2
                clear hU2 hz2
                go_wp2_with fail
                refine (Hfd _ hW2).out.mono ?_
                rintro e w3 ⟨rfl, hU3⟩
                have hV3 := hV1.trans (hU.trans (hW2.trans hU3))
                clear hU3
                go_wp2
                go_ret
                exact ⟨ret_int (by rw [Hb.out]; rfl), hV3⟩
          · obtain rfl : k = ms.length := by omega
            have Ha := hid (Hall.out g1 g2 (by simp) (fun i hi => hgood.out i hi))
            clear hgood
            go_wp2
            go_ret
            exact ⟨ret_int (by rw [Ha.out]; rfl), hV1.trans hU⟩
    · have g2i : 20 < (ifs.length : Int) := by omega
      have g2n : 20 < ifs.length := by omega
      go_wp2
      go_ret
      exact ⟨ret_int (by rw [Hsz.out]; simp [g2, errIf]), hU0⟩
  · have g1i : 40 < (ms.length : Int) := by omega
    have g1n : 40 < ms.length := by omega
    go_wp2
    go_ret
    exact ⟨ret_int (by rw [Hsz.out]; simp [g1, errIf]), hU0⟩
end Go.Proofs.YtjjdlgjofjfgmaaDoor
