/-
  The law CodeBack, walked.
-/
import Derived.Test.YtjjdlgjofjfgmaaDoorParseC
import Derived.Test.YtjjdlgjofjfgmaaDoorPlaysA
import Derived.Test.YtjjdlgjofjfgmaaDoorAllsB
set_option linter.unusedSimpArgs false
set_option linter.unusedVariables false
namespace Go.Proofs.YtjjdlgjofjfgmaaDoor
open Go.RowKit Go.Sort

theorem join_take (p : List UInt8) (ps : List (List UInt8)) : (Lib.join (p :: ps) [32]).take p.length = p := by
  cases ps with
  | nil => simp [Lib.join]
  | cons q qs => simp [Lib.join, List.append_assoc]
theorem text_take (i : InstL) : i.text.take (wordL i.op).length = wordL i.op := by
  unfold InstL.text InstL.parts
  exact join_take _ _
theorem text_known {i : InstL} (h : i.ok = true) : knownB i.op = true := by
  have h1 := (InstL.ok_ty h).2.2.1
  unfold kindL at h1
  by_cases h2 : 1 ≤ i.op ∧ i.op ≤ 40
  · exact knownB_yes h2
  · rw [if_neg h2] at h1
    exact absurd rfl h1

set_option maxHeartbeats 8000000 in
set_option maxRecDepth 1000000 in
theorem codeBack_walk (i : InstL) (l : List UInt8) (w : World) (hi : i.fit) (hn : i.num) (ht : i.ok = true → i.text.length ≤ 4000000000) (hl : l.length ≤ 4000000000) (hm : Rdy w) (he : ErrsAt w) : Calls Tryd.prog 8 #[i.v, .string (bs l)] w fun e w' => e = .returned (.bool true) ∧ Upd w w' [] := by
  have Haw := fun w hm => hid (awake_any w hm)
  have Hpr := fun w hm => hid (print_any i w hi hn hm)
  have Hck := fun w hm => hid (check_any i w hi hm)
  have Hpl := fun w hm he => hid (parseI_any l w hl hm he)
  obtain ⟨hpfit0, hpnum0⟩ := parseJ_fit l (by omega)
  have Hpt : Hid (i.ok = true → ∀ w, Rdy w → ErrsAt w → Hid (Calls Tryd.prog 35 #[.string (bs i.text)] w fun e w' => e = .returned (.tuple #[i.v, .int .i64 0]) ∧ Upd w w' [])) := hid (fun h w hm he => hid (by
    have := parseI_any i.text w (ht h) hm he
    rw [parseOut_text h hn] at this
    exact this))
  have Hsa := fun w => hid (same_any i i w)
  rw [decide_eq_true rfl] at Hsa
  unfold printPost at Hpr
  unfold checkPost at Hck
  obtain ⟨ok, hok⟩ : ∃ b, i.ok = b := ⟨_, rfl⟩
  rw [hok] at Hpr Hck Hpt
  generalize i.text = tt at Hpr Hpt
  obtain ⟨op, n, tx, r⟩ := i
  have HM := hid hm
  have HE := hid he
  have hU0 : Upd w (w.alloc (.cells #[.int .i64 op, .int .i64 n, .string (bs tx), .bool r.ifc, .string (bs r.cls), .string (bs r.nm), .string (bs r.ds)] 25)) [] := (Upd.refl _ _).alloc _
  unfold InstL.v InstL.cells at Hpr Hck Hpt Hsa ⊢
  simp only at Hpr Hck Hpt Hsa ⊢
  clear hi hn ht hok hm he hl
  have HPO : Hid ((parseOut l = (⟨0, 0, [], noRefL⟩, 4)) ∨ ∃ p : InstL, parseOut l = (p, 0) ∧ p.ok = true ∧ p.text = l ∧ p.fit ∧ p.num) := hid (by
    by_cases h : (parseOut l).2 = 0
    · obtain ⟨h1, h2, h3⟩ := parseOut_good h
      refine .inr ⟨(parseOut l).1, ?_, h1, h2, by rw [h3]; exact hpfit0, by rw [h3]; exact hpnum0⟩
      rw [← h]
    · exact .inl (parseOut_bad h))
  clear hpfit0 hpnum0
  generalize parseOut l = PO at Hpl HPO
  cases ok with
  | false =>
    simp only [errIf] at Hpr Hck
    go_enter Tryd.func8, Tryd.ntmps8
    go_wp2_with fail
    refine (Haw _ (HM.out.upd hU0)).out.mono ?_
    rintro e w1 ⟨rfl, hU⟩
    have HU1 := hid (hU0.trans hU)
    have HB := hid (hU.blk (Blk.new w _ _) (by simp))
    have hz1 : w.heap.size < w1.heap.size := HB.out.lt
    clear hU hU0
    have x0 := HB.out.cell 0
    have x1 := HB.out.cell 1
    have x2 := HB.out.cell 2
    have x3 := HB.out.cell 3
    have x4 := HB.out.cell 4
    have x5 := HB.out.cell 5
    have x6 := HB.out.cell 6
    simp at x0 x1 x2 x3 x4 x5 x6
    go_wp2_with fail
    refine (Hpr _ (HM.out.upd HU1.out)).out.mono ?_
    rintro e w2 ⟨rfl, hU⟩
    have HU2 := hid (HU1.out.trans hU)
    have HB2 := hid (hU.blk HB.out (by simp))
    have hz2 : w.heap.size < w2.heap.size := HB2.out.lt
    clear hU
    clear x0 x1 x2 x3 x4 x5 x6
    have x0 := HB2.out.cell 0
    have x1 := HB2.out.cell 1
    have x2 := HB2.out.cell 2
    have x3 := HB2.out.cell 3
    have x4 := HB2.out.cell 4
    have x5 := HB2.out.cell 5
    have x6 := HB2.out.cell 6
    simp at x0 x1 x2 x3 x4 x5 x6
    go_wp2_with fail
    refine (Hck _ (HM.out.upd HU2.out).max).out.mono ?_
    rintro e w3 ⟨rfl, hU⟩
    have HU3 := hid (HU2.out.trans hU)
    have HB3 := hid (hU.blk HB2.out (by simp))
    have hz3 : w.heap.size < w3.heap.size := HB3.out.lt
    clear hU
    clear x0 x1 x2 x3 x4 x5 x6
    have x0 := HB3.out.cell 0
    have x1 := HB3.out.cell 1
    have x2 := HB3.out.cell 2
    have x3 := HB3.out.cell 3
    have x4 := HB3.out.cell 4
    have x5 := HB3.out.cell 5
    have x6 := HB3.out.cell 6
    simp at x0 x1 x2 x3 x4 x5 x6
    go_upto_if 29 with (fail)
    obtain ⟨w4, hw4⟩ : ∃ x, x = w3 := ⟨_, rfl⟩
    have HU4 : Hid (Upd w w4 []) := by rw [hw4]; exact HU3
    rw [← hw4]
    clear hw4
    go_wp2_with fail
    refine (Hpl _ (HM.out.upd HU4.out) (HE.out.upd HU4.out)).out.mono ?_
    rintro e w5 ⟨rfl, hU⟩
    have HU5 := hid (HU4.out.trans hU)
    clear hU
    rcases HPO.out with rfl | ⟨p, rfl, hok, htx, hfit, hnum⟩
    · clear HPO
      have Hsz := fun w => hid (same_any ⟨0, 0, [], noRefL⟩ ⟨0, 0, [], noRefL⟩ w)
      rw [decide_eq_true rfl] at Hsz
      unfold InstL.v InstL.cells at Hsz ⊢
      simp only [noRefL, bs_nil] at Hsz ⊢
      have hU6 : Upd w5 (w5.alloc (.cells #[.int .i64 0, .int .i64 0, .string ⟨#[]⟩, .bool false, .string ⟨#[]⟩, .string ⟨#[]⟩, .string ⟨#[]⟩] 25)) [] := (Upd.refl _ _).alloc _
      have HU6 := hid (HU5.out.trans hU6)
      clear hU6
      go_wp2_with fail
      refine (Hsz _).out.mono ?_
      rintro e w7 ⟨rfl, hU⟩
      have HU7 := hid (HU6.out.trans hU)
      clear hU
      go_wp2
      go_ret
      exact ⟨rfl, HU7.out⟩
    · clear HPO
      have hkn := text_known hok
      have htk := text_take p
      have Hp2 := fun w hm => hid (print_any p w hfit hnum hm)
      have Hc2 := fun w hm => hid (check_any p w hfit hm)
      unfold printPost at Hp2
      unfold checkPost at Hc2
      rw [hok, htx] at Hp2
      rw [hok] at Hc2
      rw [htx] at htk
      obtain ⟨po, pn, pt, pr⟩ := p
      have Hwd := fun w => hid (word_any po w)
      unfold wordPost at Hwd
      rw [show knownB po = true from hkn] at Hwd
      simp only [errIf, if_true] at Hp2 Hc2 Hwd htk
      generalize wordL po = wd at Hwd htk
      unfold InstL.v InstL.cells at Hp2 Hc2 ⊢
      simp only at Hp2 Hc2 ⊢
      clear hok htx hfit hnum hkn
      have hlen : wd.length ≤ l.length := by
        have := congrArg List.length htk
        rw [List.length_take] at this
        omega
      have Hlen := hid hlen
      have Htk := hid (show (bs l).extract 0 wd.length = bs wd by rw [bs_extract, Nat.sub_zero, List.drop_zero, htk])
      clear hlen htk
      have hU6 : Upd w5 (w5.alloc (.cells #[.int .i64 po, .int .i64 pn, .string (bs pt), .bool pr.ifc, .string (bs pr.cls), .string (bs pr.nm), .string (bs pr.ds)] 25)) [] := (Upd.refl _ _).alloc _
      have HB6 := hid (Blk.new w5 25 #[.int .i64 po, .int .i64 pn, .string (bs pt), .bool pr.ifc, .string (bs pr.cls), .string (bs pr.nm), .string (bs pr.ds)])
      have HU6 := hid (HU5.out.trans hU6)
      clear hU6
      go_wp2_with fail
      refine (Hp2 _ (HM.out.upd HU6.out)).out.mono ?_
      rintro e w7 ⟨rfl, hU⟩
      have HU7 := hid (HU6.out.trans hU)
      have HB7 := hid (hU.blk HB6.out (by simp))
      have hz7 : w5.heap.size < w7.heap.size := HB7.out.lt
      clear hU
      have y0 := HB7.out.cell 0
      have y1 := HB7.out.cell 1
      have y2 := HB7.out.cell 2
      have y3 := HB7.out.cell 3
      have y4 := HB7.out.cell 4
      have y5 := HB7.out.cell 5
      have y6 := HB7.out.cell 6
      simp at y0 y1 y2 y3 y4 y5 y6
      go_wp2_with fail
      refine (Hwd _).out.mono ?_
      rintro e w8 ⟨rfl, hU⟩
      have HU8 := hid (HU7.out.trans hU)
      have HB8 := hid (hU.blk HB7.out (by simp))
      have hz8 : w5.heap.size < w8.heap.size := HB8.out.lt
      clear hU
      clear y0 y1 y2 y3 y4 y5 y6
      have y0 := HB8.out.cell 0
      have y1 := HB8.out.cell 1
      have y2 := HB8.out.cell 2
      have y3 := HB8.out.cell 3
      have y4 := HB8.out.cell 4
      have y5 := HB8.out.cell 5
      have y6 := HB8.out.cell 6
      simp at y0 y1 y2 y3 y4 y5 y6
      go_wp2_with fail
      refine (Hc2 _ (HM.out.upd HU8.out).max).out.mono ?_
      rintro e w9 ⟨rfl, hU⟩
      have HU9 := hid (HU8.out.trans hU)
      clear hU
      have hsz : (bs l).size = l.length := bs_size l
      have hwz : (bs wd).size = wd.length := bs_size wd
      have hq := Hlen.out
      have hk2 : ((bs l).toList == (bs l).toList) = true := bs_beqT l
      go_wp2
      rw [Htk.out, bs_beqT wd]
      go_ret
      exact ⟨rfl, HU9.out⟩
  | true =>
    simp only [errIf, if_true] at Hpr Hck
    go_enter Tryd.func8, Tryd.ntmps8
    go_wp2_with fail
    refine (Haw _ (HM.out.upd hU0)).out.mono ?_
    rintro e w1 ⟨rfl, hU⟩
    have HU1 := hid (hU0.trans hU)
    have HB := hid (hU.blk (Blk.new w _ _) (by simp))
    have hz1 : w.heap.size < w1.heap.size := HB.out.lt
    clear hU hU0
    have x0 := HB.out.cell 0
    have x1 := HB.out.cell 1
    have x2 := HB.out.cell 2
    have x3 := HB.out.cell 3
    have x4 := HB.out.cell 4
    have x5 := HB.out.cell 5
    have x6 := HB.out.cell 6
    simp at x0 x1 x2 x3 x4 x5 x6
    go_wp2_with fail
    refine (Hpr _ (HM.out.upd HU1.out)).out.mono ?_
    rintro e w2 ⟨rfl, hU⟩
    have HU2 := hid (HU1.out.trans hU)
    have HB2 := hid (hU.blk HB.out (by simp))
    have hz2 : w.heap.size < w2.heap.size := HB2.out.lt
    clear hU
    clear x0 x1 x2 x3 x4 x5 x6
    have x0 := HB2.out.cell 0
    have x1 := HB2.out.cell 1
    have x2 := HB2.out.cell 2
    have x3 := HB2.out.cell 3
    have x4 := HB2.out.cell 4
    have x5 := HB2.out.cell 5
    have x6 := HB2.out.cell 6
    simp at x0 x1 x2 x3 x4 x5 x6
    go_wp2_with fail
    refine (Hck _ (HM.out.upd HU2.out).max).out.mono ?_
    rintro e w3 ⟨rfl, hU⟩
    have HU3 := hid (HU2.out.trans hU)
    have HB3 := hid (hU.blk HB2.out (by simp))
    have hz3 : w.heap.size < w3.heap.size := HB3.out.lt
    clear hU
    clear x0 x1 x2 x3 x4 x5 x6
    have x0 := HB3.out.cell 0
    have x1 := HB3.out.cell 1
    have x2 := HB3.out.cell 2
    have x3 := HB3.out.cell 3
    have x4 := HB3.out.cell 4
    have x5 := HB3.out.cell 5
    have x6 := HB3.out.cell 6
    simp at x0 x1 x2 x3 x4 x5 x6
    go_wp2_with fail
    refine (Hpt.out trivial _ (HM.out.upd HU3.out) (HE.out.upd HU3.out)).out.mono ?_
    rintro e wa ⟨rfl, hU⟩
    have HUa := hid (HU3.out.trans hU)
    have HBa := hid (hU.blk HB3.out (by simp))
    have hza : w.heap.size < wa.heap.size := HBa.out.lt
    have hUb : Upd wa (wa.alloc (.cells #[.int .i64 op, .int .i64 n, .string (bs tx), .bool r.ifc, .string (bs r.cls), .string (bs r.nm), .string (bs r.ds)] 25)) [] := (Upd.refl _ _).alloc _
    have HUb := hid (HUa.out.trans hUb)
    clear hU hUb
    clear x0 x1 x2 x3 x4 x5 x6
    have x0 := HBa.out.cell 0
    have x1 := HBa.out.cell 1
    have x2 := HBa.out.cell 2
    have x3 := HBa.out.cell 3
    have x4 := HBa.out.cell 4
    have x5 := HBa.out.cell 5
    have x6 := HBa.out.cell 6
    simp at x0 x1 x2 x3 x4 x5 x6
    go_wp2_with fail
    refine (Hsa _).out.mono ?_
    rintro e w4 ⟨rfl, hU⟩
    have HU4 := hid (HUb.out.trans hU)
    clear hU
    clear x0 x1 x2 x3 x4 x5 x6
    go_wp2_with fail
    refine (Hpl _ (HM.out.upd HU4.out) (HE.out.upd HU4.out)).out.mono ?_
    rintro e w5 ⟨rfl, hU⟩
    have HU5 := hid (HU4.out.trans hU)
    clear hU
    rcases HPO.out with rfl | ⟨p, rfl, hok, htx, hfit, hnum⟩
    · clear HPO
      have Hsz := fun w => hid (same_any ⟨0, 0, [], noRefL⟩ ⟨0, 0, [], noRefL⟩ w)
      rw [decide_eq_true rfl] at Hsz
      unfold InstL.v InstL.cells at Hsz ⊢
      simp only [noRefL, bs_nil] at Hsz ⊢
      have hU6 : Upd w5 (w5.alloc (.cells #[.int .i64 0, .int .i64 0, .string ⟨#[]⟩, .bool false, .string ⟨#[]⟩, .string ⟨#[]⟩, .string ⟨#[]⟩] 25)) [] := (Upd.refl _ _).alloc _
      have HU6 := hid (HU5.out.trans hU6)
      clear hU6
      go_wp2_with fail
      refine (Hsz _).out.mono ?_
      rintro e w7 ⟨rfl, hU⟩
      have HU7 := hid (HU6.out.trans hU)
      clear hU
      go_wp2
      go_ret
      exact ⟨rfl, HU7.out⟩
    · clear HPO
      have hkn := text_known hok
      have htk := text_take p
      have Hp2 := fun w hm => hid (print_any p w hfit hnum hm)
      have Hc2 := fun w hm => hid (check_any p w hfit hm)
      unfold printPost at Hp2
      unfold checkPost at Hc2
      rw [hok, htx] at Hp2
      rw [hok] at Hc2
      rw [htx] at htk
      obtain ⟨po, pn, pt, pr⟩ := p
      have Hwd := fun w => hid (word_any po w)
      unfold wordPost at Hwd
      rw [show knownB po = true from hkn] at Hwd
      simp only [errIf, if_true] at Hp2 Hc2 Hwd htk
      generalize wordL po = wd at Hwd htk
      unfold InstL.v InstL.cells at Hp2 Hc2 ⊢
      simp only at Hp2 Hc2 ⊢
      clear hok htx hfit hnum hkn
      have hlen : wd.length ≤ l.length := by
        have := congrArg List.length htk
        rw [List.length_take] at this
        omega
      have Hlen := hid hlen
      have Htk := hid (show (bs l).extract 0 wd.length = bs wd by rw [bs_extract, Nat.sub_zero, List.drop_zero, htk])
      clear hlen htk
      have hU6 : Upd w5 (w5.alloc (.cells #[.int .i64 po, .int .i64 pn, .string (bs pt), .bool pr.ifc, .string (bs pr.cls), .string (bs pr.nm), .string (bs pr.ds)] 25)) [] := (Upd.refl _ _).alloc _
      have HB6 := hid (Blk.new w5 25 #[.int .i64 po, .int .i64 pn, .string (bs pt), .bool pr.ifc, .string (bs pr.cls), .string (bs pr.nm), .string (bs pr.ds)])
      have HU6 := hid (HU5.out.trans hU6)
      clear hU6
      go_wp2_with fail
      refine (Hp2 _ (HM.out.upd HU6.out)).out.mono ?_
      rintro e w7 ⟨rfl, hU⟩
      have HU7 := hid (HU6.out.trans hU)
      have HB7 := hid (hU.blk HB6.out (by simp))
      have hz7 : w5.heap.size < w7.heap.size := HB7.out.lt
      clear hU
      have y0 := HB7.out.cell 0
      have y1 := HB7.out.cell 1
      have y2 := HB7.out.cell 2
      have y3 := HB7.out.cell 3
      have y4 := HB7.out.cell 4
      have y5 := HB7.out.cell 5
      have y6 := HB7.out.cell 6
      simp at y0 y1 y2 y3 y4 y5 y6
      go_wp2_with fail
      refine (Hwd _).out.mono ?_
      rintro e w8 ⟨rfl, hU⟩
      have HU8 := hid (HU7.out.trans hU)
      have HB8 := hid (hU.blk HB7.out (by simp))
      have hz8 : w5.heap.size < w8.heap.size := HB8.out.lt
      clear hU
      clear y0 y1 y2 y3 y4 y5 y6
      have y0 := HB8.out.cell 0
      have y1 := HB8.out.cell 1
      have y2 := HB8.out.cell 2
      have y3 := HB8.out.cell 3
      have y4 := HB8.out.cell 4
      have y5 := HB8.out.cell 5
      have y6 := HB8.out.cell 6
      simp at y0 y1 y2 y3 y4 y5 y6
      go_wp2_with fail
      refine (Hc2 _ (HM.out.upd HU8.out).max).out.mono ?_
      rintro e w9 ⟨rfl, hU⟩
      have HU9 := hid (HU8.out.trans hU)
      clear hU
      have hsz : (bs l).size = l.length := bs_size l
      have hwz : (bs wd).size = wd.length := bs_size wd
      have hq := Hlen.out
      have hk2 : ((bs l).toList == (bs l).toList) = true := bs_beqT l
      go_wp2
      rw [Htk.out, bs_beqT wd]
      go_ret
      exact ⟨rfl, HU9.out⟩
end Go.Proofs.YtjjdlgjofjfgmaaDoor
