/-
  shapes.Check, walked.
-/
import Derived.Lib.ItoaLen
import Derived.Test.YtfpdeiefkimaaaaGreatDoorK7
import Derived.Test.YtfpdeiefkimaaaaGreatDoorK9
import Derived.Test.YtfpdeiefkimaaaaGreatDoorKB
import Derived.Test.YtfpdeiefkimaaaaGreatDoorKC
set_option linter.unusedSimpArgs false
set_option linter.unusedVariables false
namespace Go.Proofs.YtfpdeiefkimaaaaGreatDoor
open Go.RowKit

/-- Is the method at this place sound, and the first of its name and descriptor? -/
def goodB (c : ClassL) (i : Nat) : Bool := match c.ms[i]? with
  | some m => methodB m (anyF c.fl 512) && decide (findL m.nm m.ds c.ms 0 = i)
  | none => true
/-- Is a class sound? -/
def checkB (c : ClassL) : Bool := decide (c.ms.length ≤ 40) && decide (c.ifs.length ≤ 20) && headerB c && (List.range c.ms.length).all (goodB c)

theorem checkB_bad {c : ClassL} {k : Nat} (h : k < c.ms.length) (hb : goodB c k = false) : checkB c = false := by
  unfold checkB
  rw [List.all_eq_false.2 ⟨k, List.mem_range.2 h, by simp [hb]⟩]
  simp
theorem checkB_all {c : ClassL} (h1 : c.ms.length ≤ 40) (h2 : c.ifs.length ≤ 20) (h3 : headerB c = true) (ha : ∀ i, i < c.ms.length → goodB c i = true) : checkB c = true := by
  unfold checkB
  rw [List.all_eq_true.2 (fun i hi => ha i (List.mem_range.1 hi)), h3, decide_eq_true h1, decide_eq_true h2]
  rfl

def check5Rel (c : ClassL) (w : World) (t : Value) (wr : World) : Prop :=
  ∃ k : Nat, t = .int .i64 k ∧ k ≤ c.ms.length ∧ Hid (∀ i, i < k → goodB c i = true) ∧ Upd w wr []

set_option maxHeartbeats 8000000 in
set_option maxRecDepth 100000 in
theorem check5_any (c : ClassL) (w : World) (hf : c.fit w) (hm : MaxLenAt w) :
    Calls Tryz.prog 35 #[c.v] w fun e w' => e = .returned (.int .i64 (errIf (checkB c))) ∧ Upd w w' [] := by
  have HC := hid (show c = c from rfl)
  have Hh := fun w (hf : c.fit w) hm => hid (header_any c w hf.ifs hf.capI hf.lenI hf.nm hf.sup hf.strs hm)
  have Hbd := hid (fun k h hb => checkB_bad (c := c) (k := k) h hb)
  have Hall := hid (fun h1 h2 h3 ha => checkB_all (c := c) h1 h2 h3 ha)
  have Hfi := hid (fun nm ds w hA => find_any c nm ds w hA hf.lenM)
  have HF := hid hf
  have hlenM := hf.lenM
  have hcapM := hf.capM
  have hsz1 : checkB c = (decide (c.ms.length ≤ 40) && decide (c.ifs.length ≤ 20) && headerB c && (List.range c.ms.length).all (goodB c)) := rfl
  have Hsz := hid hsz1
  have Hgood : Hid (∀ i, goodB c i = match c.ms[i]? with
    | some m => methodB m (anyF c.fl 512) && decide (findL m.nm m.ds c.ms 0 = i)
    | none => true) := hid (fun _ => rfl)
  clear hsz1
  have hcr : ∃ cb, checkB c = cb := ⟨_, rfl⟩
  obtain ⟨cb, hcb⟩ := hcr
  rw [hcb] at Hbd Hall Hsz ⊢
  clear hcb
  generalize hg : goodB c = gb at Hbd Hall Hsz Hgood
  generalize hh : headerB c = hb at Hh Hall Hsz
  clear hh HC
  have Hrel : ∀ w t wr, check5Rel c w t wr = ∃ k : Nat, t = .int .i64 k ∧ k ≤ c.ms.length ∧ Hid (∀ i, i < k → gb i = true) ∧ Upd w wr [] := by
    intro w t wr
    unfold check5Rel
    rw [hg]
  have HR := hid Hrel
  clear Hrel hg
  have HM := fun m hm w (u : Upd _ w []) => hid ((HF.out.meths m hm).upd u)
  obtain ⟨cn, cs, AI, cI, ifs, fl, ld, A, cap, ms⟩ := c
  unfold ClassL.v ClassL.cells at Hh Hfi ⊢
  simp only at Hh Hfi Hbd Hall Hsz Hgood HR HM hlenM hcapM ⊢
  have hU0 : Upd w (w.alloc (.cells #[.string (bs cn), .string (bs cs), .slice AI ifs.length cI, .int .i64 fl, .int .i64 ld, .slice A ms.length cap] 46)) [] := (Upd.refl _ _).alloc _
  have hb512 : (bits BinOp.and IntKind.i64 fl 512 != 0) = anyF fl 512 := rfl
  go_enter Tryz.func35, Tryz.ntmps35
  by_cases g1 : ms.length ≤ 40
  · have g1i : ¬ (40 < (ms.length : Int)) := by omega
    have g1n : ¬ (40 < ms.length) := by omega
    by_cases g2 : ifs.length ≤ 20
    · have g2i : ¬ (20 < (ifs.length : Int)) := by omega
      have g2n : ¬ (20 < ifs.length) := by omega
      cases hb with
      | false =>
        go_wp2_with fail
        refine (Hh _ (HF.out.upd hU0) (hm.upd hU0 (by simp))).out.mono ?_
        rintro e w1 ⟨rfl, hU1⟩
        go_wp2
        go_ret
        exact ⟨ret_int (by rw [Hsz.out]; simp [errIf]), hU0.trans hU1⟩
      | true =>
        go_wp2_with fail
        refine (Hh _ (HF.out.upd hU0) (hm.upd hU0 (by simp))).out.mono ?_
        rintro e w1 ⟨rfl, hU1⟩
        have hV1 := hU0.trans hU1
        have HF1 := hid (HF.out.upd hV1)
        have hm1 := hm.upd hV1 (by simp)
        have hz1 : w.heap.size < w1.heap.size := by have := hU1.size; simp at this; omega
        have Hbox := hid (hU1.blk (Blk.new w 46 #[.string (bs cn), .string (bs cs), .slice AI ifs.length cI, .int .i64 fl, .int .i64 ld, .slice A ms.length cap]) (by simp))
        have z5 := Hbox.out.cell 5
        simp at z5
        clear hU1
        go_wp2
        go_loopw [23] (fun t wr => check5Rel ⟨cn, cs, AI, cI, ifs, fl, ld, A, cap, ms⟩ w1 t wr) (fun t _ => ms.length - (intOf t).toNat)
        case atStart => rw [HR.out]; exact ⟨0, rfl, Nat.zero_le _, hid (fun i h => absurd h (Nat.not_lt_zero _)), Upd.refl _ _⟩
        case round =>
          rw [HR.out] at hrel
          obtain ⟨k, rfl, hk, hgood, hU⟩ := hrel
          have hbx := hU.blk Hbox.out (by simp)
          have y0 := hbx.cell 0
          have y1 := hbx.cell 1
          have y2 := hbx.cell 2
          have y3 := hbx.cell 3
          have y4 := hbx.cell 4
          have y5 := hbx.cell 5
          simp at y0 y1 y2 y3 y4 y5
          have hzr : w.heap.size < wr.heap.size := by have := hU.size; omega
          by_cases hlt : k < ms.length
          · have hne : ms ≠ [] := by rintro rfl; simp at hlt
            obtain ⟨bk, off, hAe, hbk, hc⟩ := HF1.out.ms hne
            simp only at hAe hc
            subst hAe
            have hbr : bk < wr.heap.size := Nat.lt_of_lt_of_le hbk hU.size
            obtain ⟨mn, md, mf, lo, st, A', cap', code, e⟩ : ∃ a b c d f g h i, ms[k] = MethL.mk a b c d f g h i := ⟨_, _, _, _, _, _, _, _, rfl⟩
            obtain ⟨x0, x1, x2, x3, x4, x5⟩ := MethsAt.six (w := wr) (fun i hi j hj => by rw [hU.cells.1 _ _ hbk]; exact hc i hi j hj) hlt e
            have hmem : ms[k] ∈ ms := List.getElem_mem hlt
            have hgk := Hgood.out k
            rw [List.getElem?_eq_getElem hlt] at hgk
            rw [e] at hmem hgk
            simp only at hgk
            have Hmf := hid ((HF1.out.meths _ hmem).upd hU)
            have Hmt := fun w (u : Upd wr w []) hm => hid (method_any ⟨mn, md, mf, lo, st, A', cap', code⟩ (anyF fl 512) w (Hmf.out.upd u).at_ Hmf.out.len Hmf.out.fits Hmf.out.nm Hmf.out.ds hm)
            have Hfd := fun w (u : Upd wr w []) => hid (Hfi.out mn md w ((HF1.out.upd (hU.trans u)).ms))
            have Hgk := hid hgk
            have Hgd : Hid (gb k = true → Hid (∀ i, i < k + 1 → gb i = true)) := hid (fun h => hid (fun i h2 => by
              rcases Nat.lt_or_ge i k with h3 | h3
              · exact hgood.out i h3
              · have : i = k := by omega
                subst this
                exact h))
            have Hbk := hid (fun h => Hbd.out k hlt h)
            have hmr := hm1.upd hU (by simp)
            have hUa : Upd wr (wr.alloc (.cells #[.string (bs mn), .string (bs md), .int .i64 mf, .int .i64 lo, .int .i64 st, .slice A' code.length cap'] 86)) [] := (Upd.refl _ _).alloc _
            unfold MethL.v MethL.cells at Hmt
            simp only at Hmt
            generalize methodB ⟨mn, md, mf, lo, st, A', cap', code⟩ (anyF fl 512) = mb at Hmt Hgk
            generalize anyF fl 512 = ib at Hmt hb512
            clear hgk hgood hc hmem e
            cases mb with
            | false =>
              have Hb := hid (Hbk.out (by rw [Hgk.out]; rfl))
              go_wp2_with fail
              refine (Hmt _ hUa (hmr.upd hUa (by simp))).out.mono ?_
              rintro e w2 ⟨rfl, hU2⟩
              have hV2 := hV1.trans (hU.trans (hUa.trans hU2))
              clear hU2
              go_wp2
              go_ret
              exact ⟨ret_int (by rw [Hb.out]; rfl), hV2⟩
            | true =>
              by_cases hfe : findL mn md ms 0 = (k : Int)
              · rw [hfe] at Hfd
                have Hg := Hgd.out (by rw [Hgk.out, decide_eq_true hfe]; rfl)
                clear hfe Hgk
                go_wp2_with fail
                refine (Hmt _ hUa (hmr.upd hUa (by simp))).out.mono ?_
                rintro e w2 ⟨rfl, hU2⟩
                obtain ⟨hc2, hf2, hz2⟩ := hU2.cells
                have hz2' : wr.heap.size < w2.heap.size := by simp at hz2; omega
                have hz2'' : w.heap.size < w2.heap.size := by omega
                have hW2 := hUa.trans hU2
                clear hU2 hz2
                go_wp2_with fail
                refine (Hfd _ hW2).out.mono ?_
                rintro e w3 ⟨rfl, hU3⟩
                have hV3 := hU.trans (hW2.trans hU3)
                clear hU3
                go_wp2
                go_roundw
                case rel => rw [HR.out]; exact ⟨k + 1, by go_num, by omega, Hg, hV3⟩
                case measure => simp [intOf]; omega
              · have Hb := hid (Hbk.out (by rw [Hgk.out, decide_eq_false hfe]; rfl))
                generalize findL mn md ms 0 = fi at Hfd hfe
                have hne : (fi != (k : Int)) = true := by simpa using hfe
                clear hfe Hgk
                go_wp2_with fail
                refine (Hmt _ hUa (hmr.upd hUa (by simp))).out.mono ?_
                rintro e w2 ⟨rfl, hU2⟩
                obtain ⟨hc2, hf2, hz2⟩ := hU2.cells
                have hz2' : wr.heap.size < w2.heap.size := by simp at hz2; omega
                have hz2'' : w.heap.size < w2.heap.size := by omega
                have hW2 := hUa.trans hU2
                clear hU2 hz2
                go_wp2_with fail
                refine (Hfd _ hW2).out.mono ?_
                rintro e w3 ⟨rfl, hU3⟩
                have hV3 := hV1.trans (hU.trans (hW2.trans hU3))
                clear hU3
                go_wp2
                go_ret
                exact ⟨ret_int (by rw [Hb.out]; rfl), hV3⟩
          · obtain rfl : k = ms.length := by omega
            have Ha := hid (Hall.out g1 g2 (by simp) (fun i hi => hgood.out i hi))
            clear hgood
            go_wp2
            go_ret
            exact ⟨ret_int (by rw [Ha.out]; rfl), hV1.trans hU⟩
    · have g2i : 20 < (ifs.length : Int) := by omega
      have g2n : 20 < ifs.length := by omega
      go_wp2
      go_ret
      exact ⟨ret_int (by rw [Hsz.out]; simp [g2, errIf]), hU0⟩
  · have g1i : 40 < (ms.length : Int) := by omega
    have g1n : 40 < ms.length := by omega
    go_wp2
    go_ret
    exact ⟨ret_int (by rw [Hsz.out]; simp [g1, errIf]), hU0⟩
end Go.Proofs.YtfpdeiefkimaaaaGreatDoor
/-
  What a sound class is made of: plain facts.
-/
set_option linter.unusedSimpArgs false
set_option linter.unusedVariables false
namespace Go.Proofs.YtfpdeiefkimaaaaGreatDoor
open Go.RowKit

theorem check_parts {c : ClassL} (h : checkB c = true) : c.ms.length ≤ 40 ∧ c.ifs.length ≤ 20 ∧ headerB c = true ∧ ∀ i (hi : i < c.ms.length), methodB c.ms[i] (anyF c.fl 512) = true ∧ findL c.ms[i].nm c.ms[i].ds c.ms 0 = i := by
  unfold checkB at h
  simp only [Bool.and_eq_true, decide_eq_true_eq, List.all_eq_true] at h
  obtain ⟨⟨⟨h1, h2⟩, h3⟩, h4⟩ := h
  refine ⟨h1, h2, h3, fun i hi => ?_⟩
  have := h4 i (List.mem_range.2 hi)
  unfold goodB at this
  rw [List.getElem?_eq_getElem hi] at this
  simpa using this
theorem header_parts {c : ClassL} (h : headerB c = true) : validB c.nm = true ∧ validB c.sup = true ∧ c.nm ≠ c.sup ∧ classF c.fl = true ∧ ifsB c.nm c.ifs = true ∧ 0 ≤ c.ld ∧ c.ld ≤ 9 := by
  unfold headerB at h
  simp only [Bool.and_eq_true, decide_eq_true_eq, Bool.not_eq_true', decide_eq_false_iff_not] at h
  obtain ⟨⟨⟨⟨⟨⟨⟨h1, h2⟩, h3⟩, h4⟩, h5⟩, h6⟩, h7⟩, h8⟩ := h
  exact ⟨h1, h2, h3, h4, h5, h7, h8⟩
theorem method_parts {m : MethL} {ib : Bool} (h : methodB m ib = true) : (descL m.ds).2 = 0 ∧ memberB m.nm = true ∧ methodF m.fl ib (decide (m.nm = initB)) = true ∧
    (anyF m.fl 1024 = true → m.lo = 0 ∧ m.st = 0 ∧ m.code = []) ∧ (anyF m.fl 1024 = false → (wordsL m.ds m.fl).1 ≤ m.lo ∧ m.lo ≤ 40 ∧ 0 ≤ m.st ∧ m.st ≤ 40 ∧ allOk m.code m.lo = true) := by
  unfold methodB at h
  simp only [Bool.and_eq_true, decide_eq_true_eq] at h
  obtain ⟨⟨⟨⟨h1, h2⟩, _⟩, h4⟩, h5⟩ := h
  refine ⟨h1, h2, h4, fun ha => ?_, fun ha => ?_⟩
  · rw [if_pos ha] at h5
    simp only [Bool.and_eq_true, decide_eq_true_eq] at h5
    exact ⟨h5.1.1, h5.1.2, List.eq_nil_of_length_eq_zero h5.2⟩
  · rw [if_neg (by rw [ha]; decide)] at h5
    simp only [Bool.and_eq_true, decide_eq_true_eq] at h5
    obtain ⟨⟨⟨⟨a, b⟩, c⟩, d⟩, e⟩ := h5
    exact ⟨a, b, c, d, e⟩
theorem ifsB_le {nm : List UInt8} {l : List (List UInt8)} (h : ifsB nm l = true) : ∀ i (hi : i < l.length), l[i].length ≤ 60 := by
  intro i hi
  unfold ifsB at h
  have := List.all_eq_true.1 h i (List.mem_range.2 hi)
  rw [List.getD_eq_getElem?_getD, List.getElem?_eq_getElem hi] at this
  unfold ifB at this
  simp only [Bool.and_eq_true] at this
  exact validB_le this.1.1
def noSuch : List UInt8 := [110, 111, 32, 115, 117, 99, 104, 47, 110, 97, 109, 101]
theorem allOk_each {l : List InstL} {n : Int} (h : allOk l n = true) : l.length ≤ 200 ∧ ∀ i, i ∈ l → i.ok = true := by
  unfold allOk at h
  simp only [Bool.and_eq_true, decide_eq_true_eq, List.all_eq_true] at h
  refine ⟨h.1.2, fun i hi => ?_⟩
  have := h.2 i hi
  unfold badI at this
  simp at this
  exact this.1.1
end Go.Proofs.YtfpdeiefkimaaaaGreatDoor
/-
  shapes.Print: what it writes; Print of a sound class, walked. (Printed by gen_print5.py.)
-/
set_option linter.unusedSimpArgs false
set_option linter.unusedVariables false
namespace Go.Proofs.YtfpdeiefkimaaaaGreatDoor
open Go.RowKit

def clsWd : List UInt8 := [99, 108, 97, 115, 115]
def supB : List UInt8 := [115, 117, 112, 101, 114]
def ifaceB : List UInt8 := [105, 102, 97, 99, 101]
def flagsB : List UInt8 := [102, 108, 97, 103, 115]
def loaderB : List UInt8 := [108, 111, 97, 100, 101, 114]
def methB : List UInt8 := [109, 101, 116, 104, 111, 100, 32]
def localsB : List UInt8 := [108, 111, 99, 97, 108, 115]
def stackB : List UInt8 := [115, 116, 97, 99, 107]
def endB : List UInt8 := [101, 110, 100]
/-- A line of these words. -/
def lineT (ps : List (List UInt8)) : List UInt8 := Lib.join ps [32] ++ [10]
def ifT (s : List UInt8) : List UInt8 := lineT [ifaceB, s]
def instT (i : InstL) : List UInt8 := lineT [i.text]
/-- A method's lines ahead of its code. -/
def mheadT (m : MethL) : List UInt8 := lineT [wordT (methB ++ m.nm ++ [32] ++ m.ds) (flagText m.fl 1055).1] ++ lineT [localsB, Lib.itoa m.lo] ++ lineT [stackB, Lib.itoa m.st]
def methT (m : MethL) : List UInt8 := mheadT m ++ m.code.flatMap instT
def headT (c : ClassL) : List UInt8 := lineT [clsWd, c.nm] ++ lineT [supB, c.sup]
def midT (c : ClassL) : List UInt8 := headT c ++ c.ifs.flatMap ifT ++ lineT [wordT flagsB (flagText c.fl 1585).1] ++ lineT [loaderB, Lib.itoa c.ld]
/-- A sound class's text. -/
def printL (c : ClassL) : List UInt8 := midT c ++ c.ms.flatMap methT ++ lineT [endB]

theorem lineT_le1 (x : List UInt8) : (lineT [x]).length = x.length + 1 := by simp [lineT, Lib.join, List.intercalate, List.intersperse]
theorem lineT_le2 (x y : List UInt8) : (lineT [x, y]).length = x.length + y.length + 2 := by simp [lineT, Lib.join, List.intercalate, List.intersperse]; omega
theorem wordT_le (a b : List UInt8) : (wordT a b).length ≤ a.length + b.length + 1 := by
  unfold wordT Lib.trimSuffix
  split <;> simp <;> omega
theorem flagText_le (f m : Int) : (flagText f m).1.length ≤ 80 := by
  unfold flagText
  split
  · simp
  · exact flagsText_le f
theorem flatMap_take {α : Type} (f : α → List UInt8) (l : List α) (k : Nat) (h : k < l.length) : (l.take (k + 1)).flatMap f = (l.take k).flatMap f ++ f l[k] := by
  rw [List.take_succ_eq_append_getElem h, List.flatMap_append]
  simp

theorem line1_at (b g : Nat) (l x : List UInt8) (wB wx : World) (hg : g = wx.heap.size) (hb : BldAt b l wx) (hU : Upd wB wx []) (hbB : b = wB.heap.size) (hl : l.length ≤ 1000000000) (hx : x.length ≤ 1000000) :
    Calls Tryz.prog 44 #[.slice (some ⟨g, 0, none⟩) 1 1, .pointer (some ⟨b, 0, none⟩)] (wx.alloc (.cells #[.string (bs x)] 9)) fun e w' => e = .returned (.tuple #[]) ∧ BldAt b (l ++ lineT [x]) w' ∧ Upd wB w' [] ∧ Keep b wx w' := by
  subst hg
  have h := line_any b l [x] wx.heap.size (wx.alloc (.cells #[.string (bs x)] 9)) (hb.upd ((Upd.refl _ _).alloc _)) (Blk.new _ _ _) (by simp) (by have := lineT_le1 x; unfold lineT at this; simp only [List.length_append, List.length_cons, List.length_nil] at this; omega) (by omega)
  refine h.mono ?_
  rintro e w' ⟨rfl, h1, h2⟩
  exact ⟨rfl, h1, (hU.alloc _).keep h2 hbB, (Keep.of_upd ((Upd.refl _ _).alloc _)).trans h2⟩
theorem line2_at (b g : Nat) (l x y : List UInt8) (wB wx : World) (hg : g = wx.heap.size) (hb : BldAt b l wx) (hU : Upd wB wx []) (hbB : b = wB.heap.size) (hl : l.length ≤ 1000000000) (hx : x.length + y.length ≤ 1000000) :
    Calls Tryz.prog 44 #[.slice (some ⟨g, 0, none⟩) 2 2, .pointer (some ⟨b, 0, none⟩)] (wx.alloc (.cells #[.string (bs x), .string (bs y)] 9)) fun e w' => e = .returned (.tuple #[]) ∧ BldAt b (l ++ lineT [x, y]) w' ∧ Upd wB w' [] ∧ Keep b wx w' := by
  subst hg
  have h := line_any b l [x, y] wx.heap.size (wx.alloc (.cells #[.string (bs x), .string (bs y)] 9)) (hb.upd ((Upd.refl _ _).alloc _)) (Blk.new _ _ _) (by simp) (by have := lineT_le2 x y; unfold lineT at this; simp only [List.length_append, List.length_cons, List.length_nil] at this; omega) (by omega)
  refine h.mono ?_
  rintro e w' ⟨rfl, h1, h2⟩
  exact ⟨rfl, h1, (hU.alloc _).keep h2 hbB, (Keep.of_upd ((Upd.refl _ _).alloc _)).trans h2⟩

def ifsRel (pre : List UInt8) (ifs : List (List UInt8)) (b : Nat) (w1 : World) (t : Value) (wr : World) : Prop :=
  ∃ (k : Nat) (l : List UInt8), t = .int .i64 k ∧ k ≤ ifs.length ∧ Hid (l = pre ++ (ifs.take k).flatMap ifT) ∧ BldAt b l wr ∧ l.length ≤ 200 + k * 100 ∧ Upd w1 wr []
def msRel (pre : List UInt8) (ms : List MethL) (b : Nat) (w1 : World) (t : Value) (wr : World) : Prop :=
  ∃ (k : Nat) (l : List UInt8), t = .int .i64 k ∧ k ≤ ms.length ∧ Hid (l = pre ++ (ms.take k).flatMap methT) ∧ BldAt b l wr ∧ l.length ≤ 10000 + k * 3000000 ∧ Upd w1 wr []
def codeRel (pre : List UInt8) (code : List InstL) (m b : Nat) (w1 : World) (t : Value) (wr : World) : Prop :=
  ∃ (k : Nat) (l : List UInt8), t = .int .i64 k ∧ k ≤ code.length ∧ Hid (l = pre ++ (code.take k).flatMap instT) ∧ BldAt b l wr ∧ l.length ≤ m + k * 10001 ∧ Upd w1 wr []

theorem print5_bad (c : ClassL) (w : World) (hf : c.fit w) (hr : Rdy w) (hb : checkB c = false) :
    Calls Tryz.prog 21 #[c.v] w fun e w' => e = .returned (.tuple #[.string (bs []), .int .i64 1]) ∧ Upd w w' [] := by
  have Hck := fun w (hf : c.fit w) hm => hid (check5_any c w hf hm)
  rw [hb, show errIf false = 1 from rfl] at Hck
  have HF := hid hf
  have HR := hid hr
  clear hb hf hr
  obtain ⟨cn, cs, AI, cI, ifs, fl, ld, A, cap, ms⟩ := c
  unfold ClassL.v ClassL.cells at Hck ⊢
  simp only at Hck ⊢
  have hU0 : Upd w (w.alloc (.cells #[.string (bs cn), .string (bs cs), .slice AI ifs.length cI, .int .i64 fl, .int .i64 ld, .slice A ms.length cap] 46)) [] := (Upd.refl _ _).alloc _
  go_enter Tryz.func21, Tryz.ntmps21
  go_wp2_with fail
  refine (Hck _ (HF.out.upd hU0) (HR.out.upd hU0).max).out.mono ?_
  rintro e w1 ⟨rfl, hU1⟩
  go_wp2
  go_ret2
  exact ⟨rfl, hU0.trans hU1⟩

set_option maxHeartbeats 16000000 in
set_option maxRecDepth 100000 in
theorem print5_ok (c : ClassL) (w : World) (hf : c.fit w) (hr : Rdy w) (hcb : checkB c = true) :
    Calls Tryz.prog 21 #[c.v] w fun e w' => e = .returned (.tuple #[.string (bs (printL c)), .int .i64 0]) ∧ Upd w w' [] := by
  have Hck := fun w (hf : c.fit w) hm => hid (check5_any c w hf hm)
  rw [hcb, show errIf true = 0 from rfl] at Hck
  have HF := hid hf
  have HR := hid hr
  obtain ⟨hn40, hn20, hhd, hms⟩ := check_parts hcb
  obtain ⟨hv1, hv2, -, -, hv5, hld1, hld2⟩ := header_parts hhd
  have hnm := validB_le hv1
  have hsup := validB_le hv2
  have Hif := hid (ifsB_le hv5)
  have HMS := hid hms
  have Hft := hid (flagText_le c.fl 1585)
  have HP : Hid (printL c = midT c ++ c.ms.flatMap methT ++ lineT [endB]) := hid rfl
  have HM : Hid (midT c = headT c ++ c.ifs.flatMap ifT ++ lineT [wordT flagsB (flagText c.fl 1585).1] ++ lineT [loaderB, Lib.itoa c.ld]) := hid rfl
  have HH : Hid (headT c = lineT [clsWd, c.nm] ++ lineT [supB, c.sup]) := hid rfl
  have Hct := fun w => hid (classText_any c.fl w)
  clear hcb hf hr hhd hms hv1 hv2 hv5
  generalize printL c = PL at HP ⊢
  generalize midT c = MT at HP HM
  generalize headT c = HT at HM HH
  obtain ⟨cn, cs, AI, cI, ifs, fl, ld, A, cap, ms⟩ := c
  unfold ClassL.v ClassL.cells at Hck ⊢
  simp only at Hck Hct Hif HMS Hft HP HM HH hn40 hn20 hnm hsup hld1 hld2 ⊢
  obtain ⟨ftx, hft⟩ : ∃ p, flagText fl 1585 = p := ⟨_, rfl⟩
  rw [hft] at Hft HM Hct
  obtain ⟨fx, fe⟩ := ftx
  simp only at Hft HM Hct
  clear hft
  have hU0 : Upd w (w.alloc (.cells #[.string (bs cn), .string (bs cs), .slice AI ifs.length cI, .int .i64 fl, .int .i64 ld, .slice A ms.length cap] 46)) [] := (Upd.refl _ _).alloc _
  go_enter Tryz.func21, Tryz.ntmps21
  go_wp2_with fail
  refine (Hck _ (HF.out.upd hU0) (HR.out.upd hU0).max).out.mono ?_
  rintro e w1 ⟨rfl, hU1⟩
  have HV1 := hid (hU0.trans hU1)
  have HF1 := hid (HF.out.upd HV1.out)
  have HR1 := hid (HR.out.upd HV1.out)
  have Hbox := hid (hU1.blk (Blk.new w 46 #[.string (bs cn), .string (bs cs), .slice AI ifs.length cI, .int .i64 fl, .int .i64 ld, .slice A ms.length cap]) (by simp))
  have hz1 : w.heap.size < w1.heap.size := Hbox.out.lt
  have HBx := hid (BldAt.new w1)
  have y0 := Hbox.out.cell 0
  simp at y0
  clear hU1 HF HR Hck
  have HUx := hid ((Upd.refl w1 []).alloc (.cells #[.pointer none, .slice none 0 0] 53))
  have Hcn := hid hnm
  have Hcs := hid hsup
  clear hnm hsup
  go_wp2_with fail
  refine (line2_at w1.heap.size _ [] clsWd cn w1 _ (by simp) HBx.out HUx.out rfl (by simp) (by have := Hcn.out; simp [clsWd]; omega)).mono ?_
  rintro e w2 ⟨rfl, hB2, hU2, -⟩
  have HB2 := hid hB2
  have HU2 := hid hU2
  have hbx := hU2.blk Hbox.out (by simp)
  have hz2 : w.heap.size < w2.heap.size := hbx.lt
  have y1 := hbx.cell 1
  simp at y1
  clear hB2 hU2 hbx y0 HBx HUx
  go_wp2_with fail
  refine (line2_at w1.heap.size _ _ supB cs w1 _ rfl HB2.out HU2.out rfl (by have := Hcn.out; rw [List.nil_append, lineT_le2]; simp [clsWd]; omega) (by have := Hcs.out; simp [supB]; omega)).mono ?_
  rintro e w3 ⟨rfl, hB3, hU3, -⟩
  rw [List.nil_append, ← HH.out] at hB3
  have hHTl : HT.length ≤ 200 := by
    have h1 := Hcn.out
    have h2 := Hcs.out
    rw [HH.out, List.length_append, lineT_le2, lineT_le2]
    simp [clsWd, supB]
    omega
  have HHTl := hid hHTl
  have HB3 := hid hB3
  have HU3 := hid hU3
  have hbx := hU3.blk Hbox.out (by simp)
  have hz3 : w.heap.size < w3.heap.size := hbx.lt
  have y2 := hbx.cell 2
  simp at y2
  clear hB3 hU3 hbx y1 HB2 HU2 hz2 hHTl
  have hcapI := HF1.out.capI
  have hlenI := HF1.out.lenI
  have hlenM := HF1.out.lenM
  have hcapM := HF1.out.capM
  simp only at hcapI hlenI hlenM hcapM
  go_wp2
  go_loopw [38] (fun t wr => ifsRel HT ifs w1.heap.size w1 t wr) (fun t _ => ifs.length - (intOf t).toNat)
  case atStart => exact ⟨0, HT, rfl, Nat.zero_le _, hid (by simp), HB3.out, by have := HHTl.out; omega, HU3.out⟩
  case round =>
    obtain ⟨k, l, rfl, hk, hl, hB, hll, hU⟩ := hrel
    have HBr := hid hB
    have HUr := hid hU
    have Hll := hid hll
    have hbx := hU.blk Hbox.out (by simp)
    have hzr : w.heap.size < wr.heap.size := hbx.lt
    have hzq : w1.heap.size ≤ wr.heap.size := hU.size
    clear hB hll
    by_cases hlt : k < ifs.length
    · have hne : ifs ≠ [] := by rintro rfl; simp at hlt
      obtain ⟨bk, off, hAe, hbk, hc⟩ := HF1.out.ifs hne
      simp only at hAe hc
      subst hAe
      have hbr : bk < wr.heap.size := Nat.lt_of_lt_of_le hbk hU.size
      have x0 : wr.cell? ⟨bk, off + k, none⟩ = some (.string (bs ifs[k])) := by rw [hU.cells.1 _ _ hbk]; exact hc k hlt
      have Hxl := hid (Hif.out k hlt)
      have Hst : Hid (l ++ lineT [ifaceB, ifs[k]] = HT ++ (ifs.take (k + 1)).flatMap ifT) := hid (by rw [hl.out, flatMap_take _ _ _ hlt, List.append_assoc]; rfl)
      generalize ifs[k] = x at x0 Hxl Hst
      clear hc hU hbx
      go_wp2_with fail
      refine (line2_at w1.heap.size _ l ifaceB x w1 _ rfl HBr.out HUr.out rfl (by have := Hll.out; omega) (by have := Hxl.out; simp [ifaceB]; omega)).mono ?_
      rintro e w4 ⟨rfl, hB4, hU4, -⟩
      rw [Hst.out] at hB4
      have HB4 := hid hB4
      have HU4 := hid hU4
      have Hl4 := hid (show (HT ++ (ifs.take (k + 1)).flatMap ifT).length ≤ 200 + (k + 1) * 100 by
        have h1 := Hll.out
        have h2 := Hxl.out
        rw [← Hst.out, List.length_append, lineT_le2]
        simp [ifaceB]
        omega)
      clear hB4 hU4 x0 Hst
      go_wp2
      go_roundw
      case rel => exact ⟨k + 1, _, by go_num, by omega, hid rfl, HB4.out, Hl4.out, HU4.out⟩
      case measure => simp [intOf]; omega
    · obtain rfl : k = ifs.length := by omega
      have hl' : l = HT ++ ifs.flatMap ifT := by rw [hl.out, List.take_length]
      have y3 := hbx.cell 3
      simp at y3
      have HL := hid hl'
      clear hl hbx hU hl'
      go_wp2_with fail
      refine (Hct _).out.mono ?_
      rintro e w4 ⟨rfl, hU4⟩
      have HU4 := hid (HUr.out.trans hU4)
      have HB4 := hid (HBr.out.upd hU4)
      have hz4 : w1.heap.size ≤ w4.heap.size := HU4.out.size
      clear hU4 y3 HUr HBr
      go_wp2_with fail
      refine (words86_any flagsB fx _ (by simp [flagsB]) (by have := Hft.out; omega)).mono ?_
      rintro e w5 ⟨rfl, rfl⟩
      have Hwl := hid (show (wordT flagsB fx).length ≤ 5 + fx.length + 1 from wordT_le flagsB fx)
      go_wp2_with fail
      refine (line1_at w1.heap.size _ l (wordT flagsB fx) w1 _ rfl HB4.out HU4.out rfl (by have := Hll.out; omega) (by have := Hft.out; have := Hwl.out; omega)).mono ?_
      rintro e w5 ⟨rfl, hB5, hU5, -⟩
      have HB5 := hid hB5
      have HU5 := hid hU5
      have hbx := hU5.blk Hbox.out (by simp)
      have hz5 : w.heap.size < w5.heap.size := hbx.lt
      have y4 := hbx.cell 4
      simp at y4
      have Hl5 := hid (show (l ++ lineT [wordT flagsB fx]).length ≤ 3000 by
        have h1 := Hll.out
        have h2 := Hft.out
        have h3 := Hwl.out
        rw [List.length_append, lineT_le1]
        omega)
      clear hB5 hU5 hbx HB4 HU4 hz4
      have hle := Lib.itoa_length_le ld HF1.out.ldN.1 HF1.out.ldN.2
      have Hle := hid hle
      clear hle
      go_wp2_with fail
      refine (itoa_any ld _ HF1.out.ldN.1 HF1.out.ldN.2 (HR1.out.upd HU5.out).tab).mono ?_
      rintro e w6 ⟨rfl, hU6⟩
      have HU6 := hid (HU5.out.trans hU6)
      have HB6 := hid (HB5.out.upd hU6)
      clear hU6 y4 hz5 HU5 HB5
      go_wp2_with fail
      refine (line2_at w1.heap.size _ _ loaderB (Lib.itoa ld) w1 _ rfl HB6.out HU6.out rfl (by have := Hl5.out; omega) (by have := Hle.out; simp [loaderB]; omega)).mono ?_
      rintro e w7 ⟨rfl, hB7, hU7, -⟩
      rw [HL.out, ← HM.out] at hB7
      have Hl7 := hid (show MT.length ≤ 10000 by
        have h1 := Hl5.out
        have h2 := Hle.out
        rw [HL.out] at h1
        rw [HM.out, List.length_append, lineT_le2, show loaderB.length = 6 from rfl]
        omega)
      have HB7 := hid hB7
      have HU7 := hid hU7
      have hbx := hU7.blk Hbox.out (by simp)
      have hz7 : w.heap.size < w7.heap.size := hbx.lt
      have y5 := hbx.cell 5
      simp at y5
      clear hB7 hU7 hbx HB6 HU6 HL HM HH Hl5
      go_wp2
      go_loopw [67] (fun t wr => msRel MT ms w1.heap.size w1 t wr) (fun t _ => ms.length - (intOf t).toNat)
      case atStart => exact ⟨0, MT, rfl, Nat.zero_le _, hid (by simp), HB7.out, by have := Hl7.out; omega, HU7.out⟩
      case round =>
        obtain ⟨k, l, rfl, hk, hl, hB, hll, hU⟩ := hrel
        have HBr := hid hB
        have HUr := hid hU
        have Hll := hid hll
        have hzq : w1.heap.size < wr.heap.size := hB.lt
        clear hB hll
        by_cases hlt : k < ms.length
        · have hne : ms ≠ [] := by rintro rfl; simp at hlt
          obtain ⟨bk, off, hAe, hbk, hc⟩ := HF1.out.ms hne
          simp only at hAe hc
          subst hAe
          have hbr : bk < wr.heap.size := Nat.lt_of_lt_of_le hbk hU.size
          obtain ⟨mn, md, mf, lo, st, A', cap', code, e⟩ : ∃ a b c d f g h i, ms[k] = MethL.mk a b c d f g h i := ⟨_, _, _, _, _, _, _, _, rfl⟩
          obtain ⟨x0, x1, x2, x3, x4, x5⟩ := MethsAt.six (w := wr) (fun i hi j hj => by rw [hU.cells.1 _ _ hbk]; exact hc i hi j hj) hlt e
          have hmem : ms[k] ∈ ms := List.getElem_mem hlt
          have hgk := (HMS.out k hlt).1
          have hst := flatMap_take methT ms k hlt
          rw [e] at hmem hgk hst
          have Hmf := hid ((HF1.out.meths _ hmem))
          obtain ⟨hp1, hp2, -, hp4, hp5⟩ := method_parts hgk
          have hok : ∀ i, i ∈ code → i.ok = true := by
            intro i hi
            cases hab : anyF mf 1024 with
            | true => have := (hp4 hab).2.2; simp only at this; subst this; cases hi
            | false => exact (allOk_each (hp5 hab).2.2.2.2).2 i hi
          have hclen : code.length ≤ 200 := by
            cases hab : anyF mf 1024 with
            | true => have := (hp4 hab).2.2; simp only at this; subst this; simp
            | false => exact (allOk_each (hp5 hab).2.2.2.2).1
          have Hok := hid hok
          have Hclen := hid hclen
          have Hmn := hid (memberB_le hp2)
          have Hmd := hid (descL_le hp1)
          have Hst : Hid (l ++ methT ⟨mn, md, mf, lo, st, A', cap', code⟩ = MT ++ (ms.take (k + 1)).flatMap methT) := hid (by rw [hl.out, hst, List.append_assoc])
          have HMt : Hid (methT ⟨mn, md, mf, lo, st, A', cap', code⟩ = mheadT ⟨mn, md, mf, lo, st, A', cap', code⟩ ++ code.flatMap instT) := hid rfl
          have Hmt := fun w => hid (methodText_any mf w)
          have Hft2 := hid (flagText_le mf 1055)
          have HMh : Hid (mheadT ⟨mn, md, mf, lo, st, A', cap', code⟩ = lineT [wordT (methB ++ mn ++ [32] ++ md) (flagText mf 1055).1] ++ lineT [localsB, Lib.itoa lo] ++ lineT [stackB, Lib.itoa st]) := hid rfl
          generalize methT ⟨mn, md, mf, lo, st, A', cap', code⟩ = mT at Hst HMt
          generalize mheadT ⟨mn, md, mf, lo, st, A', cap', code⟩ = hT at HMt HMh
          obtain ⟨ftx, hft⟩ : ∃ p, flagText mf 1055 = p := ⟨_, rfl⟩
          rw [hft] at Hft2 HMh Hmt
          obtain ⟨gx, ge⟩ := ftx
          simp only at Hft2 HMh Hmt Hmn Hmd
          have hUa : Upd wr (wr.alloc (.cells #[.string (bs mn), .string (bs md), .int .i64 mf, .int .i64 lo, .int .i64 st, .slice A' code.length cap'] 86)) [] := (Upd.refl _ _).alloc _
          have HUa := hid hUa
          have hn1 : (bs mn).size ≤ 60 := by rw [bs_size]; exact Hmn.out
          have hn2 : (bs md).size ≤ 2000 := by rw [bs_size]; exact Hmd.out
          clear hft hst hc hU hmem hgk hp1 hp2 hp4 hp5 hok hclen e hUa hl
          go_wp2_with fail
          refine (Hmt _).out.mono ?_
          rintro e w8 ⟨rfl, hU8⟩
          have HW8 := hid (HUa.out.trans hU8)
          have Hmx := hid (hU8.blk (Blk.new wr 86 #[.string (bs mn), .string (bs md), .int .i64 mf, .int .i64 lo, .int .i64 st, .slice A' code.length cap']) (by simp))
          have v0 := Hmx.out.cell 0
          have v1 := Hmx.out.cell 1
          simp at v0 v1
          have hz8 : wr.heap.size < w8.heap.size := Hmx.out.lt
          have HU8 := hid (HUr.out.trans HW8.out)
          have HB8 := hid (HBr.out.upd HW8.out)
          have Hcat := hid (show (⟨#[109, 101, 116, 104, 111, 100, 32]⟩ : ByteArray) ++ bs mn ++ ⟨#[32]⟩ ++ bs md = bs (methB ++ mn ++ [32] ++ md) by
            rw [show (⟨#[109, 101, 116, 104, 111, 100, 32]⟩ : ByteArray) = bs methB from rfl, show (⟨#[32]⟩ : ByteArray) = bs [32] from rfl, bs_append, bs_append, bs_append])
          have Hw86 := fun w => hid (words86_any (methB ++ mn ++ [32] ++ md) gx w (by have := Hmn.out; have := Hmd.out; simp [methB]; omega) (by have := Hft2.out; omega))
          rw [← Hcat.out] at Hw86
          have Hwl := hid (show (wordT (methB ++ mn ++ [32] ++ md) gx).length ≤ 2200 by
            have h1 := wordT_le (methB ++ mn ++ [32] ++ md) gx
            have h2 := Hmn.out
            have h3 := Hmd.out
            have h4 := Hft2.out
            simp only [List.length_append, List.length_cons, List.length_nil, show methB.length = 7 from rfl] at h1
            omega)
          generalize wordT (methB ++ mn ++ [32] ++ md) gx = wt at Hw86 HMh Hwl
          clear hU8 x0 x1 x2 x3 x4 x5 HW8 HBr HUr Hcat
          go_wp2_with fail
          refine (Hw86 _).out.mono ?_
          rintro e w9 ⟨rfl, rfl⟩
          clear hn1 hn2 v0 v1 Hw86
          go_wp2_with fail
          refine (line1_at w1.heap.size _ l wt w1 _ rfl HB8.out HU8.out rfl (by have := Hll.out; omega) (by have := Hwl.out; omega)).mono ?_
          rintro e w9 ⟨rfl, hB9, hU9, hK9⟩
          have HB9 := hid hB9
          have HU9 := hid hU9
          have Hl9 := hid (show (l ++ lineT [wt]).length ≤ 10000 + k * 3000000 + 2300 by
            have h1 := Hll.out
            have h2 := Hwl.out
            rw [List.length_append, lineT_le1]
            omega)
          have Hmy := hid (hK9.blk Hmx.out (by decide) (by omega))
          have v3 := Hmy.out.cell 3
          simp at v3
          have hz9 : wr.heap.size < w9.heap.size := Hmy.out.lt
          have Hmf9 := hid (Hmf.out.num)
          unfold MethL.num at Hmf9
          simp only at Hmf9
          have Hlo := hid (Lib.itoa_length_le lo Hmf9.out.2.1.1 Hmf9.out.2.1.2)
          have Hst2 := hid (Lib.itoa_length_le st Hmf9.out.2.2.1 Hmf9.out.2.2.2)
          clear hB9 hU9 hK9 HB8 HU8 hz8 Hmx
          go_wp2_with fail
          refine (itoa_any lo _ Hmf9.out.2.1.1 Hmf9.out.2.1.2 (HR1.out.upd HU9.out).tab).mono ?_
          rintro e w10 ⟨rfl, hU10⟩
          have HU10 := hid (HU9.out.trans hU10)
          have HB10 := hid (HB9.out.upd hU10)
          have Hmz := hid (hU10.blk Hmy.out (by simp))
          have hz10 : wr.heap.size < w10.heap.size := Hmz.out.lt
          clear hU10 v3 HU9 HB9 hz9 Hmy
          go_wp2_with fail
          refine (line2_at w1.heap.size _ _ localsB (Lib.itoa lo) w1 _ rfl HB10.out HU10.out rfl (by have := Hl9.out; omega) (by have := Hlo.out; simp [localsB]; omega)).mono ?_
          rintro e w11 ⟨rfl, hB11, hU11, hK11⟩
          have HB11 := hid hB11
          have HU11 := hid hU11
          have Hl11 := hid (show (l ++ lineT [wt] ++ lineT [localsB, Lib.itoa lo]).length ≤ 10000 + k * 3000000 + 2400 by
            have h1 := Hl9.out
            have h2 := Hlo.out
            rw [List.length_append, lineT_le2, show localsB.length = 6 from rfl]
            omega)
          have Hmy := hid (hK11.blk Hmz.out (by decide) (by omega))
          have v4 := Hmy.out.cell 4
          simp at v4
          have hz11 : wr.heap.size < w11.heap.size := Hmy.out.lt
          clear hB11 hU11 hK11 HB10 HU10 hz10 Hmz
          go_wp2_with fail
          refine (itoa_any st _ Hmf9.out.2.2.1 Hmf9.out.2.2.2 (HR1.out.upd HU11.out).tab).mono ?_
          rintro e w12 ⟨rfl, hU12⟩
          have HU12 := hid (HU11.out.trans hU12)
          have HB12 := hid (HB11.out.upd hU12)
          have Hmz := hid (hU12.blk Hmy.out (by simp))
          have hz12 : wr.heap.size < w12.heap.size := Hmz.out.lt
          clear hU12 v4 HU11 HB11 hz11 Hmy
          go_wp2_with fail
          refine (line2_at w1.heap.size _ _ stackB (Lib.itoa st) w1 _ rfl HB12.out HU12.out rfl (by have := Hl11.out; omega) (by have := Hst2.out; simp [stackB]; omega)).mono ?_
          rintro e w13 ⟨rfl, hB13, hU13, hK13⟩
          have HL13 := hid (show l ++ lineT [wt] ++ lineT [localsB, Lib.itoa lo] ++ lineT [stackB, Lib.itoa st] = l ++ hT by
            rw [HMh.out]
            simp only [List.append_assoc])
          have Hl13 := hid (show (l ++ hT).length ≤ 10000 + k * 3000000 + 2500 by
            have h1 := Hl11.out
            have h2 := Hst2.out
            rw [← HL13.out, List.length_append, lineT_le2, show stackB.length = 5 from rfl]
            omega)
          rw [HL13.out] at hB13
          have HB13 := hid hB13
          have HU13 := hid hU13
          have Hmy := hid (hK13.blk Hmz.out (by decide) (by omega))
          have v5 := Hmy.out.cell 5
          simp at v5
          have hz13 : wr.heap.size < w13.heap.size := Hmy.out.lt
          have hcl := Hmf.out.cap
          have hcl2 := Hmf.out.len
          simp only at hcl hcl2
          clear hB13 hU13 hK13 HB12 HU12 hz12 Hmz HL13 Hl11 Hl9 Hst2 Hlo HMh
          go_wp2
          go_loopw [104] (fun t wx => codeRel (l ++ hT) code (10000 + k * 3000000 + 2500) w1.heap.size w1 t wx) (fun t _ => code.length - (intOf t).toNat)
          case atStart => exact ⟨0, l ++ hT, rfl, Nat.zero_le _, hid (by simp), HB13.out, by have := Hl13.out; omega, HU13.out⟩
          case round =>
            obtain ⟨j, q, rfl, hj, hq, hB, hql, hU⟩ := hrel
            have HBs := hid hB
            have HUs := hid hU
            have Hql := hid hql
            have hzs : w1.heap.size ≤ wr.heap.size := hU.size
            clear hB hql
            by_cases hjl : j < code.length
            · have hne2 : code ≠ [] := by rintro rfl; simp at hjl
              obtain ⟨ck, co, hCe, hck, hcc⟩ := Hmf.out.at_ hne2
              simp only at hCe hcc
              subst hCe
              have hcr : ck < wr.heap.size := Nat.lt_of_lt_of_le hck hU.size
              obtain ⟨op, n, tx, r, e⟩ : ∃ op n tx r, code[j] = InstL.mk op n tx r := ⟨_, _, _, _, rfl⟩
              obtain ⟨z0, z1, z2, z3, z4, z5, z6⟩ := InstsAt.seven (w := wr) (fun i hi j hj => by rw [hU.cells.1 _ _ hck]; exact hcc i hi j hj) hjl e
              have hmi : code[j] ∈ code := List.getElem_mem hjl
              have hsq := flatMap_take instT code j hjl
              have hoi := Hok.out _ hmi
              have hfi := Hmf.out.fits _ hmi
              have hni := Hmf.out.nums _ hmi
              rw [e] at hmi hsq hoi hfi hni
              have Hpr := fun w hm => hid (print_any ⟨op, n, tx, r⟩ w hfi hni hm)
              have Htl := hid (InstL.text_le hoi hni).1
              have Hsq : Hid (q ++ lineT [(InstL.mk op n tx r).text] = l ++ hT ++ (code.take (j + 1)).flatMap instT) := hid (by rw [hq.out, hsq, List.append_assoc]; rfl)
              unfold printPost InstL.v InstL.cells at Hpr
              rw [hoi] at Hpr
              simp only [if_true, errIf] at Hpr
              generalize (InstL.mk op n tx r).text = it at Hpr Htl Hsq
              have hUa : Upd wr (wr.alloc (.cells #[.int .i64 op, .int .i64 n, .string (bs tx), .bool r.ifc, .string (bs r.cls), .string (bs r.nm), .string (bs r.ds)] 90)) [] := (Upd.refl _ _).alloc _
              have HUa := hid hUa
              clear hq hsq hcc hU hmi hoi hfi hni e hUa
              go_wp2_with fail
              refine (Hpr _ (HR1.out.upd (HUs.out.trans HUa.out))).out.mono ?_
              rintro e w14 ⟨rfl, hU14⟩
              have hW14 := HUa.out.trans hU14
              have HB14 := hid (HBs.out.upd hW14)
              have HU14 := hid (HUs.out.trans hW14)
              clear hU14 hW14 z0 z1 z2 z3 z4 z5 z6 Hpr HUa HBs HUs
              go_wp2_with fail
              refine (line1_at w1.heap.size _ q it w1 _ rfl HB14.out HU14.out rfl (by have := Hql.out; have := Hclen.out; omega) (by have := Htl.out; omega)).mono ?_
              rintro e w15 ⟨rfl, hB15, hU15, -⟩
              rw [Hsq.out] at hB15
              have HB15 := hid hB15
              have HU15 := hid hU15
              have Hl15 := hid (show (l ++ hT ++ (code.take (j + 1)).flatMap instT).length ≤ 10000 + k * 3000000 + 2500 + (j + 1) * 10001 by
                have h1 := Hql.out
                have h2 := Htl.out
                rw [← Hsq.out, List.length_append, lineT_le1]
                omega)
              clear hB15 hU15 Hsq
              go_wp2
              go_roundw
              case rel => exact ⟨j + 1, _, by go_num, by omega, hid rfl, HB15.out, Hl15.out, HU15.out⟩
              case measure => simp [intOf]; omega
            · obtain rfl : j = code.length := by omega
              have HQ := hid (show q = MT ++ (ms.take (k + 1)).flatMap methT by rw [hq.out, List.take_length, ← Hst.out, HMt.out, List.append_assoc])
              have Hl16 := hid (show q.length ≤ 10000 + (k + 1) * 3000000 by
                have h1 := Hql.out
                have h2 := Hclen.out
                omega)
              clear hq hU
              go_wp2
              go_roundw
              case rel => exact ⟨k + 1, q, by go_num, by omega, HQ, HBs.out, Hl16.out, HUs.out⟩
              case measure => simp [intOf]; omega
        · obtain rfl : k = ms.length := by omega
          have hl' : l = MT ++ ms.flatMap methT := by rw [hl.out, List.take_length]
          have HL := hid hl'
          clear hl hU hl'
          go_wp2_with fail
          refine (line1_at w1.heap.size _ l endB w1 _ rfl HBr.out HUr.out rfl (by have := Hll.out; omega) (by simp [endB])).mono ?_
          rintro e w8 ⟨rfl, hB8, hU8, -⟩
          rw [HL.out, ← HP.out] at hB8
          have HB8 := hid hB8
          have HU8 := hid hU8
          clear hB8 hU8
          go_wp2_with fail
          refine (bldString_any w1.heap.size PL _ HB8.out).mono ?_
          rintro e w9 ⟨rfl, hL9⟩
          have hU9 := HU8.out.low hL9
          go_wp2
          go_ret2
          exact ⟨rfl, HV1.out.trans hU9⟩
end Go.Proofs.YtfpdeiefkimaaaaGreatDoor
/-
  The laws' own awake: Print of one small class; Print of every class.
-/
set_option linter.unusedSimpArgs false
set_option linter.unusedVariables false
namespace Go.Proofs.YtfpdeiefkimaaaaGreatDoor
open Go.RowKit

theorem print5_any (c : ClassL) (w : World) (hf : c.fit w) (hr : Rdy w) :
    Calls Tryz.prog 21 #[c.v] w fun e w' => e = .returned (.tuple #[.string (bs (if checkB c then printL c else [])), .int .i64 (errIf (checkB c))]) ∧ Upd w w' [] := by
  cases hb : checkB c with
  | true => exact print5_ok c w hf hr hb
  | false => exact print5_bad c w hf hr hb

def smallC : ClassL := ⟨[65], [79, 98, 106, 101, 99, 116], none, 0, [], 0, 0, none, 0, []⟩
end Go.Proofs.YtfpdeiefkimaaaaGreatDoor
