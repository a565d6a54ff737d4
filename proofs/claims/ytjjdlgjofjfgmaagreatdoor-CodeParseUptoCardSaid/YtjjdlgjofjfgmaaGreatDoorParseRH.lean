/-
  The law CodeParse, walked.
-/
import Derived.Test.YtjjdlgjofjfgmaaGreatDoorParseRG
import Derived.Test.YtjjdlgjofjfgmaaGreatDoorKG
import Derived.Test.YtjjdlgjofjfgmaaGreatDoorK8
import Derived.Test.YtjjdlgjofjfgmaaGreatDoorAllsB
set_option linter.unusedSimpArgs false
set_option linter.unusedVariables false
namespace Go.Proofs.YtjjdlgjofjfgmaaGreatDoor
open Go.RowKit Go.Sort

set_option maxHeartbeats 8000000 in
set_option maxRecDepth 1000000 in
theorem codeParse_walk (l : List UInt8) (w : World) (hl : l.length ≤ 100000000) (hm : Rdy w) (he : ErrsAt w) : Calls Tryz.prog 4 #[.string (bs l)] w fun e w' => e = .returned (.bool true) ∧ Upd w w' [] := by
  have Haw := fun w hm => hid (awake_any w hm)
  have Hpi := fun w hm he => hid (parseI_any l w (by omega) hm he)
  have Hpd := fun w => hid (parseRI_any l w hl)
  rw [docOut_eq] at Hpd
  have Hri := fun w hm => hid (parseRefV_any l w (by omega) hm)
  have Hrd := fun w => hid (parseRefTextR_any l w (by omega))
  rw [docRefOut_eq] at Hrd
  generalize parseOut l = PO at Hpi Hpd
  generalize refOut l = RO at Hri Hrd
  obtain ⟨⟨po, pn, pt, ⟨pi, pc, pm, pd⟩⟩, pe⟩ := PO
  obtain ⟨⟨ri, rc, rn, rd⟩, re⟩ := RO
  have Hsa := fun w => hid (same_any ⟨po, pn, pt, ⟨pi, pc, pm, pd⟩⟩ ⟨po, pn, pt, ⟨pi, pc, pm, pd⟩⟩ w)
  rw [decide_eq_true rfl] at Hsa
  have Hsr := fun w => hid (sameRef_any ⟨ri, rc, rn, rd⟩ ⟨ri, rc, rn, rd⟩ w)
  rw [decide_eq_true rfl] at Hsr
  unfold InstL.v InstL.cells at Hpi Hpd Hsa
  unfold RefL.v at Hri Hrd Hsr
  simp only at Hpi Hpd Hsa Hri Hrd Hsr
  have HM := hid hm
  have HE := hid he
  clear hm he hl
  go_enter Tryz.func4, Tryz.ntmps4
  go_wp2_with fail
  refine (Haw _ HM.out).out.mono ?_
  rintro e w1 ⟨rfl, hU⟩
  have HU1 := hid hU
  clear hU
  go_wp2_with fail
  refine (Hpi _ (HM.out.upd HU1.out) (HE.out.upd HU1.out)).out.mono ?_
  rintro e w2 ⟨rfl, hU⟩
  have HU2 := hid ((HU1.out.trans hU).alloc (.cells #[.int .i64 po, .int .i64 pn, .string (bs pt), .bool pi, .string (bs pc), .string (bs pm), .string (bs pd)] 41))
  have HB2 := hid (Blk.new w2 41 #[.int .i64 po, .int .i64 pn, .string (bs pt), .bool pi, .string (bs pc), .string (bs pm), .string (bs pd)])
  clear hU
  go_wp2_with fail
  refine (Hpd _).out.mono ?_
  rintro e w3 ⟨rfl, hU⟩
  have HB3 := hid ((hU.blk HB2.out (by simp)).alloc (.cells #[.int .i64 po, .int .i64 pn, .string (bs pt), .bool pi, .string (bs pc), .string (bs pm), .string (bs pd)] 41))
  have HU3 := hid ((HU2.out.trans hU).alloc (.cells #[.int .i64 po, .int .i64 pn, .string (bs pt), .bool pi, .string (bs pc), .string (bs pm), .string (bs pd)] 41))
  have hz3 : w2.heap.size < w3.heap.size := (hU.blk HB2.out (by simp)).lt
  clear hU
  have x0 := HB3.out.cell 0
  have x1 := HB3.out.cell 1
  have x2 := HB3.out.cell 2
  have x3 := HB3.out.cell 3
  have x4 := HB3.out.cell 4
  have x5 := HB3.out.cell 5
  have x6 := HB3.out.cell 6
  simp at x0 x1 x2 x3 x4 x5 x6
  go_wp2_with fail
  refine (Hsa _).out.mono ?_
  rintro e w4 ⟨rfl, hU⟩
  have HU4 := hid (HU3.out.trans hU)
  clear hU x0 x1 x2 x3 x4 x5 x6
  go_wp2_with fail
  refine (Hri _ (HM.out.upd HU4.out).max).out.mono ?_
  rintro e w5 ⟨rfl, hU⟩
  have HU5 := hid ((HU4.out.trans hU).alloc (.cells #[.bool ri, .string (bs rc), .string (bs rn), .string (bs rd)] 39))
  have HB5 := hid (Blk.new w5 39 #[.bool ri, .string (bs rc), .string (bs rn), .string (bs rd)])
  clear hU
  go_wp2_with fail
  refine (Hrd _).out.mono ?_
  rintro e w6 ⟨rfl, hU⟩
  have HB6 := hid ((hU.blk HB5.out (by simp)).alloc (.cells #[.bool ri, .string (bs rc), .string (bs rn), .string (bs rd)] 39))
  have HU6 := hid ((HU5.out.trans hU).alloc (.cells #[.bool ri, .string (bs rc), .string (bs rn), .string (bs rd)] 39))
  have hz6 : w5.heap.size < w6.heap.size := (hU.blk HB5.out (by simp)).lt
  clear hU
  have y0 := HB6.out.cell 0
  have y1 := HB6.out.cell 1
  have y2 := HB6.out.cell 2
  have y3 := HB6.out.cell 3
  simp at y0 y1 y2 y3
  go_wp2_with fail
  refine (Hsr _).out.mono ?_
  rintro e w7 ⟨rfl, hU⟩
  have HU7 := hid (HU6.out.trans hU)
  clear hU
  go_wp2
  go_ret
  exact ⟨by simp, HU7.out⟩
end Go.Proofs.YtjjdlgjofjfgmaaGreatDoor
