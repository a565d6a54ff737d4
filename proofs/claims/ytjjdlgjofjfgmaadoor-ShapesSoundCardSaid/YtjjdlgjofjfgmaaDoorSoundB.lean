/-
  The law ShapesSound, walked.
-/
import Derived.Test.YtjjdlgjofjfgmaaDoorSoundA
import Derived.Test.YtjjdlgjofjfgmaaDoorPrintAwake
set_option linter.unusedSimpArgs false
set_option linter.unusedVariables false
namespace Go.Proofs.YtjjdlgjofjfgmaaDoor
open Go.RowKit

def soundRel (n : Nat) (w : World) (t : Value) (wr : World) : Prop := ∃ k : Nat, t = .int .i64 k ∧ k ≤ n ∧ Upd w wr []

set_option maxHeartbeats 8000000 in
set_option maxRecDepth 100000 in
theorem shapesSound_walk (c : ClassL) (w : World) (hf : c.fit w) (hr : Rdy w) :
    Calls Tryd.prog 7 #[c.v] w fun e w' => e = .returned (.bool true) ∧ Upd w w' [] := by
  have HF := hid hf
  have HR := hid hr
  have Haw := fun w hr => hid (awake5_any w hr)
  have Hck := fun w (hf : c.fit w) hm => hid (check5_any c w hf hm)
  have Hfi := hid (fun nm ds w hA => find_any c nm ds w hA hf.lenM)
  have hlenM := hf.lenM
  have hcapM := hf.capM
  have hcnm := hf.nm
  have hcsup := hf.sup
  cases hcb : checkB c with
  | false =>
    rw [hcb, show errIf false = 1 from rfl] at Hck
    clear hcb Hfi
    obtain ⟨cn, cs, AI, cI, ifs, fl, ld, A, cap, ms⟩ := c
    unfold ClassL.v ClassL.cells at Hck ⊢
    simp only at Hck hlenM hcapM ⊢
    have hU0 : Upd w (w.alloc (.cells #[.string (bs cn), .string (bs cs), .slice AI ifs.length cI, .int .i64 fl, .int .i64 ld, .slice A ms.length cap] 47)) [] := (Upd.refl _ _).alloc _
    go_enter Tryd.func7, Tryd.ntmps7
    go_wp2_with fail
    refine (Haw _ (HR.out.upd hU0)).out.mono ?_
    rintro e w1 ⟨rfl, hU1⟩
    obtain ⟨hc1, hf1, hz1⟩ := hU1.cells
    have hz1' : w.heap.size < w1.heap.size := by simp at hz1; omega
    have hV1 := hU0.trans hU1
    go_wp2_with fail
    refine (Hck _ (HF.out.upd hV1) (HR.out.upd hV1).max).out.mono ?_
    rintro e w2 ⟨rfl, hU2⟩
    go_wp2
    go_ret
    exact ⟨rfl, hV1.trans hU2⟩
  | true =>
    rw [hcb, show errIf true = 0 from rfl] at Hck
    obtain ⟨hn40, hn20, hhd, hms⟩ := check_parts hcb
    obtain ⟨hv1, hv2, -, hcf, -, -, -⟩ := header_parts hhd
    have Hns := hid (find_noSuch hcb)
    have HMS := hid hms
    have Hv1 := fun w hm => hid (validl_any c.nm w hcnm hm)
    have Hv2 := fun w hm => hid (validl_any c.sup w hcsup hm)
    have Hcf := fun w => hid (checkClass_any c.fl w)
    rw [hv1] at Hv1
    rw [hv2] at Hv2
    rw [hcf, show errIf true = 0 from rfl] at Hcf
    clear hcb hhd hms hv1 hv2 hcf hn20
    obtain ⟨cn, cs, AI, cI, ifs, fl, ld, A, cap, ms⟩ := c
    unfold ClassL.v ClassL.cells at Hck Hfi ⊢
    simp only at Hck Hfi Hns HMS Hv1 Hv2 Hcf hlenM hcapM hn40 ⊢
    have hU0 : Upd w (w.alloc (.cells #[.string (bs cn), .string (bs cs), .slice AI ifs.length cI, .int .i64 fl, .int .i64 ld, .slice A ms.length cap] 47)) [] := (Upd.refl _ _).alloc _
    have hb512 : (bits BinOp.and IntKind.i64 fl 512 != 0) = anyF fl 512 := rfl
    generalize anyF fl 512 = ib at hb512 HMS
    go_enter Tryd.func7, Tryd.ntmps7
    go_wp2_with fail
    refine (Haw _ (HR.out.upd hU0)).out.mono ?_
    rintro e w1 ⟨rfl, hU1⟩
    obtain ⟨hc1, hf1, hz1⟩ := hU1.cells
    have hz1' : w.heap.size < w1.heap.size := by simp at hz1; omega
    have hV1 := hU0.trans hU1
    go_wp2_with fail
    refine (Hck _ (HF.out.upd hV1) (HR.out.upd hV1).max).out.mono ?_
    rintro e w2 ⟨rfl, hU2⟩
    have hV2 := hU1.trans hU2
    clear hc1 hf1 hz1 hz1' hU1 hU2
    obtain ⟨hc2, hf2, hz2⟩ := hV2.cells
    have hz2' : w.heap.size < w2.heap.size := by simp at hz2; omega
    go_wp2_with fail
    refine (Hv1 _ (HR.out.upd (hU0.trans hV2)).max).out.mono ?_
    rintro e w3 ⟨rfl, hU3⟩
    have hV3 := hV2.trans hU3
    clear hc2 hf2 hz2 hz2' hU3 hV2
    obtain ⟨hc2, hf2, hz2⟩ := hV3.cells
    have hz2' : w.heap.size < w3.heap.size := by simp at hz2; omega
    go_wp2_with fail
    refine (Hv2 _ (HR.out.upd (hU0.trans hV3)).max).out.mono ?_
    rintro e w4 ⟨rfl, hU4⟩
    have hV4 := hV3.trans hU4
    clear hc2 hf2 hz2 hz2' hU4 hV3
    obtain ⟨hc2, hf2, hz2⟩ := hV4.cells
    have hz2' : w.heap.size < w4.heap.size := by simp at hz2; omega
    go_wp2_with fail
    refine (Hcf _).out.mono ?_
    rintro e w5 ⟨rfl, rfl⟩
    have HW4 := hid (hU0.trans hV4)
    have Hbox := hid (hV4.blk (Blk.new w 47 #[.string (bs cn), .string (bs cs), .slice AI ifs.length cI, .int .i64 fl, .int .i64 ld, .slice A ms.length cap]) (by simp))
    have HF4 := hid (HF.out.upd HW4.out)
    have HR4 := hid (HR.out.upd HW4.out)
    have z3 := Hbox.out.cell 3
    have z5 := Hbox.out.cell 5
    simp at z3 z5
    have hz0 := hz2'
    clear hc2 hf2 hz2 hz2' hV4
    go_wp2
    go_loopw [4] (fun t wr => soundRel ms.length w4 t wr) (fun t _ => ms.length - (intOf t).toNat)
    case atStart => exact ⟨0, rfl, Nat.zero_le _, Upd.refl _ _⟩
    case round =>
      obtain ⟨k, rfl, hk, hU⟩ := hrel
      have hbx := hU.blk Hbox.out (by simp)
      have y0 := hbx.cell 0
      have y1 := hbx.cell 1
      have y2 := hbx.cell 2
      have y3 := hbx.cell 3
      have y4 := hbx.cell 4
      have y5 := hbx.cell 5
      simp at y0 y1 y2 y3 y4 y5
      have hzr : w.heap.size < wr.heap.size := by have := hU.size; omega
      by_cases hlt : k < ms.length
      · have hne : ms ≠ [] := by rintro rfl; simp at hlt
        obtain ⟨bk, off, hAe, hbk, hc⟩ := HF4.out.ms hne
        simp only at hAe hc
        subst hAe
        have hbr : bk < wr.heap.size := Nat.lt_of_lt_of_le hbk hU.size
        obtain ⟨mn, md, mf, lo, st, A', cap', code, e⟩ : ∃ a b c d f g h i, ms[k] = MethL.mk a b c d f g h i := ⟨_, _, _, _, _, _, _, _, rfl⟩
        obtain ⟨x0, x1, x2, x3, x4, x5⟩ := MethsAt.six (w := wr) (fun i hi j hj => by rw [hU.cells.1 _ _ hbk]; exact hc i hi j hj) hlt e
        have hmem : ms[k] ∈ ms := List.getElem_mem hlt
        have hgk := HMS.out k hlt
        rw [e] at hmem hgk
        obtain ⟨hgm, hgf⟩ := hgk
        obtain ⟨hp1, hp2, hp3, hp4, hp5⟩ := method_parts hgm
        simp only at hgf hp1 hp2 hp3 hp4 hp5
        have Hmf := hid ((HF4.out.meths _ hmem).upd hU)
        have hwe := wordsL_ok (fl := mf) hp1
        have hdn : (descL md).1 ≤ 1000000 := Nat.le_trans (descL_few md) (by omega)
        have Hwd := fun w hm => hid (words5_any ⟨mn, md, mf, lo, st, A', cap', code⟩ w Hmf.out.ds hdn hm)
        have Hmb := fun w => hid (memberl_any mn w Hmf.out.nm)
        have Hcm := fun w => hid (checkMethod_any mf ib mn w)
        have Hfd := fun w (u : Upd wr w []) => hid (Hfi.out mn md w ((HF4.out.upd (hU.trans u)).ms))
        have Hca := fun w (u : Upd wr w []) hm => hid (checkAll_any A' cap' code lo w ((Hmf.out.upd u).at_) Hmf.out.len Hmf.out.fits hm)
        unfold MethL.v MethL.cells at Hwd
        simp only at Hwd
        rw [hp2] at Hmb
        rw [hp3, show errIf true = 0 from rfl] at Hcm
        rw [hgf] at Hfd
        generalize hwl : wordsL md mf = wl at Hwd hwe hp5
        obtain ⟨wq, we⟩ := wl
        simp only at hwe Hwd hp5
        subst hwe
        have hb1024 : (bits BinOp.and IntKind.i64 mf 1024 != 0) = anyF mf 1024 := rfl
        have hUa : Upd wr (wr.alloc (.cells #[.string (bs mn), .string (bs md), .int .i64 mf, .int .i64 lo, .int .i64 st, .slice A' code.length cap'] 52)) [] := (Upd.refl _ _).alloc _
        have HRr := hid (HR4.out.upd hU)
        clear hc hmem e hgm hgf hp1 hp2 hp3 hdn hwl
        cases hab : anyF mf 1024 with
        | true =>
          obtain ⟨-, -, rfl⟩ := hp4 hab
          rw [hab] at hb1024
          clear hp4 hp5 hab Hca
          go_wp2_with fail
          refine (Hwd _ (HRr.out.upd hUa).max).out.mono ?_
          rintro e w5 ⟨rfl, hU5⟩
          obtain ⟨hc5, hf5, hz5⟩ := hU5.cells
          have hz5' : wr.heap.size < w5.heap.size := by simp at hz5; omega
          have hz5'' : w.heap.size < w5.heap.size := by omega
          go_wp2_with fail
          refine (Hmb _).out.mono ?_
          rintro e w6 ⟨rfl, rfl⟩
          go_wp2_with fail
          refine (Hcm _).out.mono ?_
          rintro e w6 ⟨rfl, rfl⟩
          go_wp2_with fail
          refine (Hfd _ (hUa.trans hU5)).out.mono ?_
          rintro e w6 ⟨rfl, hU6⟩
          have hV6 := hU5.trans hU6
          clear hc5 hf5 hz5 hz5' hz5'' hU6
          obtain ⟨hc5, hf5, hz5⟩ := hV6.cells
          have hz5' : wr.heap.size < w6.heap.size := by simp at hz5; omega
          have hW := hU.trans (hUa.trans hV6)
          go_wp2
          go_roundw
          case rel => exact ⟨k + 1, by go_num, by omega, hW⟩
          case measure => simp [intOf]; omega
        | false =>
          obtain ⟨hq1, -, -, -, hq5⟩ := hp5 hab
          rw [hab] at hb1024
          rw [hq5, show errIf true = 0 from rfl] at Hca
          have hq2 : ¬ (lo < wq) := by omega
          clear hp4 hp5 hab hq5
          go_wp2_with fail
          refine (Hwd _ (HRr.out.upd hUa).max).out.mono ?_
          rintro e w5 ⟨rfl, hU5⟩
          obtain ⟨hc5, hf5, hz5⟩ := hU5.cells
          have hz5' : wr.heap.size < w5.heap.size := by simp at hz5; omega
          have hz5'' : w.heap.size < w5.heap.size := by omega
          go_wp2_with fail
          refine (Hmb _).out.mono ?_
          rintro e w6 ⟨rfl, rfl⟩
          go_wp2_with fail
          refine (Hcm _).out.mono ?_
          rintro e w6 ⟨rfl, rfl⟩
          go_wp2_with fail
          refine (Hfd _ (hUa.trans hU5)).out.mono ?_
          rintro e w6 ⟨rfl, hU6⟩
          have hV6 := hU5.trans hU6
          clear hc5 hf5 hz5 hz5' hz5'' hU6
          obtain ⟨hc5, hf5, hz5⟩ := hV6.cells
          have hz5' : wr.heap.size < w6.heap.size := by simp at hz5; omega
          have hW6 := hUa.trans hV6
          go_wp2_with fail
          refine (Hca _ hW6 (HRr.out.upd hW6).max).out.mono ?_
          rintro e w7 ⟨rfl, hU7⟩
          have hV7 := hV6.trans hU7
          clear hc5 hf5 hz5 hz5' hU7 hV6
          obtain ⟨hc5, hf5, hz5⟩ := hV7.cells
          have hz5' : wr.heap.size < w7.heap.size := by simp at hz5; omega
          have hW := hU.trans (hUa.trans hV7)
          go_wp2
          go_roundw
          case rel => exact ⟨k + 1, by go_num, by omega, hW⟩
          case measure => simp [intOf]; omega
      · obtain rfl : k = ms.length := by omega
        have Hfd := fun w hA => hid (Hfi.out noSuch [] w hA)
        rw [Hns.out] at Hfd
        go_wp2_with fail
        refine (Hfd _ (HF4.out.upd hU).ms).out.mono ?_
        rintro e w5 ⟨rfl, hU5⟩
        go_wp2
        go_ret
        exact ⟨rfl, HW4.out.trans (hU.trans hU5)⟩
end Go.Proofs.YtjjdlgjofjfgmaaDoor
