/-
 The document's Parse of a class's text, walked. (Printed by gen_docP.py.)
-/
import Derived.Test.YtjjdlgjofjfgmaaGreatDoorKN
import Derived.Test.YtjjdlgjofjfgmaaGreatDoorKP
import Derived.Test.YtjjdlgjofjfgmaaGreatDoorDocJ
import Derived.Test.YtjjdlgjofjfgmaaGreatDoorDocM
import Derived.Test.YtjjdlgjofjfgmaaGreatDoorKE
set_option linter.unusedSimpArgs false
set_option linter.unusedVariables false
namespace Go.Proofs.YtjjdlgjofjfgmaaGreatDoor
open Go.RowKit Go.Sort
def intNat : Value → Nat
 | .int _ n => n.toNat
 | _ => 0
set_option maxHeartbeats 40000000 in
set_option maxRecDepth 100000 in
theorem parseClsR_any (l : List UInt8) (w : World) (hl : l.length ≤ 9000000000000000000) :
  Calls Tryz.prog 25 #[.string (bs l)] w (textPost l w) := by
 obtain ⟨O, hO⟩ : ∃ O, textO l = O := ⟨_, rfl⟩
 unfold textPost
 rw [hO]
 unfold textO at hO
 have hs := bs_size l
 by_cases hbig : 40000 < l.length
 ·rw [if_pos hbig] at hO
  subst hO
  have hb2 : ¬ (l.length : Int) ≤ 40000 := by omega
  have hb3 : (40000 : Int) < (l.length : Int) := by omega
  have HC := hid (Blk.new w 25 #[.string ⟨#[]⟩, .string ⟨#[]⟩, .slice none 0 0, .int .i64 0, .int .i64 0, .slice none 0 0])
  have HU := hid (show Upd w (w.alloc (.cells #[.string ⟨#[]⟩, .string ⟨#[]⟩, .slice none 0 0, .int .i64 0, .int .i64 0, .slice none 0 0] 25)) [] from (Upd.refl _ _).alloc _)
  clear hbig
  go_enter Tryz.func25, Tryz.ntmps25
  go_wp2
  revert HC HU
  generalize (w.alloc (.cells #[.string ⟨#[]⟩, .string ⟨#[]⟩, .slice none 0 0, .int .i64 0, .int .i64 0, .slice none 0 0] 25)) = wf
  intro HC HU
  have g0 := (HC.out.cell 0).trans (show _ = some (.string ⟨#[]⟩) from rfl)
  have g1 := (HC.out.cell 1).trans (show _ = some (.string ⟨#[]⟩) from rfl)
  have g2 := (HC.out.cell 2).trans (show _ = some (.slice none 0 0) from rfl)
  have g3 := (HC.out.cell 3).trans (show _ = some (.int .i64 0) from rfl)
  have g4 := (HC.out.cell 4).trans (show _ = some (.int .i64 0) from rfl)
  have g5 := (HC.out.cell 5).trans (show _ = some (.slice none 0 0) from rfl)
  refine bodyPost_ret (v := .tuple #[.agg #[.string ⟨#[]⟩, .string ⟨#[]⟩, .slice none 0 0, .int .i64 0, .int .i64 0, .slice none 0 0], .int .i64 0, .int .i64 5]) (by simp [results, Tryz.results25, go_sem, g0, g1, g2, g3, g4, g5]) rfl ?_
  exact ⟨rfl, HU.out⟩
 ·rw [if_neg hbig] at hO
  have hb2 : (l.length : Int) ≤ 40000 := by omega
  have hb3 : ¬ (40000 : Int) < (l.length : Int) := by omega
  have HC := hid (Blk.new w 25 #[.string ⟨#[]⟩, .string ⟨#[]⟩, .slice none 0 0, .int .i64 0, .int .i64 0, .slice none 0 0])
  have HU := hid (show Upd w (w.alloc (.cells #[.string ⟨#[]⟩, .string ⟨#[]⟩, .slice none 0 0, .int .i64 0, .int .i64 0, .slice none 0 0] 25)) [] from (Upd.refl _ _).alloc _)
  have hsA : (w.alloc (.cells #[.string ⟨#[]⟩, .string ⟨#[]⟩, .slice none 0 0, .int .i64 0, .int .i64 0, .slice none 0 0] 25)).heap.size = w.heap.size + 1 := by simp
  have Hcut := fun w => hid (cutR_any 10 l w (by omega))
  have hn1 := lines_le l
  have hn2 := splitL_ne 10 l
  go_enter Tryz.func25, Tryz.ntmps25
  go_wp2_with fail
  refine (Hcut _).out.mono ?_
  rintro e w1 ⟨g, cap, rfl, hown, hg, hU1⟩
  simp only []
  have hpos : 0 < (splitL 10 l).length := List.length_pos_iff.2 hn2
  have hR1 := own_row hown hpos
  have hrel0 : docRel l w g (.int .i64 0) (.int .i64 0) w1 := ⟨0, rd0, rfl, rfl, hpos, wf0, hid fine0, hid rfl, w1.heap.size, .slice none 0 0, .slice none 0 0, [], hid ⟨hU1.blk HC.out (by simp), Lists.start _ _ _ rfl rfl, hR1, HU.out.trans hU1, by omega, hR1.1, Nat.le_refl _⟩⟩
  clear hown hR1 hU1 HC HU hsA Hcut hn2
  go_wp2
  go_loopw [6, 7] (fun ts ti wr => docRel l w g ts ti wr) (fun _ ti _ => (splitL 10 l).length - intNat ti)
  case atStart => exact hrel0
  case round =>
   obtain ⟨i, r, rfl, rfl, hi, hwf, HFi, HRL, n0, vi, vm, cs, HX⟩ := hrel
   have hlb := HX.out.blk.lt
   have hwrap : wrap64 (((splitL 10 l).length : Int) - 1) = ((splitL 10 l).length : Int) - 1 := by
    unfold wrap64
    omega
   clear hrel0 hg hs
   by_cases hlast : i + 1 = (splitL 10 l).length
   ·have hx := HX.out.row.2 i hi
    have hdrop : (splitL 10 l).drop i = [(splitL 10 l)[i]] := by rw [List.drop_eq_getElem_cons hi, List.drop_eq_nil_of_le (by omega)]
    have HRL2 := hid (hdrop ▸ HRL.out)
    have Hn : Hid (i + 1 = (splitL 10 l).length) := hid hlast
    have hnl : ¬ (i : Int) < ((splitL 10 l).length : Int) - 1 := by omega
    have hge : ((splitL 10 l).length : Int) - 1 ≤ (i : Int) := by omega
    have HO := hid hO
    have hin : i ≤ 40001 := by omega
    clear hlast hdrop HRL hO hn1 hpos
    generalize (splitL 10 l)[i] = x at *
    generalize (splitL 10 l).length = n at *
    have hx2 : wr.cell? { block := g, off := n - 1 } = some (.string (bs x)) := by rw [show n - 1 = i by have := Hn.out; omega]; exact hx
    by_cases hst : r.st = 8
    ·have hst2 : (r.st : Int) = 8 := by omega
     by_cases hxe : x = []
     ·have he1 : ((bs x).toList != []) = false := by rw [bs_toList, hxe]; rfl
      have he2 : (bs x).toList.isEmpty = true := by rw [bs_toList, hxe]; rfl
      have he3 : (bs x).toList = [] := by rw [bs_toList, hxe]
      have Hxe := hid hxe
      clear hxe
      go_upto_region 63 with (fail)
      have hri : readL rd0 (splitL 10 l) 1 = .inl r := by
       rw [HRL2.out, Hxe.out]
       show (if ([] : List UInt8) = [] ∧ r.st = 8 then Sum.inl r else _) = _
       rw [if_pos ⟨rfl, hst⟩]
      have hOc : (if checkB (clsS r) then Sum.inl r else Sum.inr (0, 1)) = O := by rw [← HO.out, hri]
      have HOc := hid hOc
      have HL := hid (HX.out.li.mono (n1 := w.heap.size) (by have h1 := HX.out.h1; have h2 := HX.out.h2; omega))
      have HB := hid HX.out.blk
      have HU := hid HX.out.os
      have hck := check_same r vi vm cs HL.out.len
      have hval := HL.out.val
      have Hck := fun W hf => hid (checkR5_any (clsOf r vi vm cs) W hf)
      rw [hval, hck] at Hck
      have hfit := HL.out.fit HFi.out hwf (by omega)
      have HW := hid (show r.fine ∧ ∃ k, k ≤ 40001 ∧ r.wf k from ⟨HFi.out, i, hin, hwf⟩)
      have HFt := hid hfit
      obtain ⟨A1, cc1, rfl, -, -⟩ := own_slice HL.out.oi
      obtain ⟨A2, cc2, rfl, -, -⟩ := own_slice HL.out.om
      clear hri hOc hck hval hfit HX
      apply wp_region_lit
      obtain ⟨fC, hfC⟩ := undClass
      refine wpList_load_row rfl 25 _ rfl w.heap.size (by kernel_rfl) 25 _ _ (.struct fC) HB.out hfC rfl (by kernel_rfl) ?_
      clear hx hx2 he1 he2 he3
      go_wp2_with fail
      refine (Hck _ HFt.out).out.mono ?_
      rintro e w3 ⟨rfl, hU3⟩
      simp only []
      have HC3 := hid (show Blk w3 w.heap.size 25 #[.string (bs r.nm), .string (bs r.sup), .slice A1 r.ifs.length cc1, .int .i64 r.fl, .int .i64 r.ld, .slice A2 r.ms.length cc2] from hU3.blk HB.out (by simp))
      have HL3 := hid (HL.out.upd hU3)
      have HU3 := hid (HU.out.trans hU3)
      clear hU3 Hck HFt HB HL HU
      cases hc : checkB (clsS r) with
      | false =>
       have hOn : O = .inr (0, 1) := by rw [← HOc.out, hc]; rfl
       subst hOn
       simp only [errIf]
       go_upto_region 64 with (fail)
       apply wp_region_lit
       refine wpList_build rfl 25 #[] rfl (by kernel_rfl) ?_
       refine wpList_store_row rfl 25 _ _ rfl w.heap.size #[.string ⟨#[]⟩, .string ⟨#[]⟩, .slice none 0 0, .int .i64 0, .int .i64 0, .slice none 0 0] (by kernel_rfl) (by kernel_rfl) 25 #[.string (bs r.nm), .string (bs r.sup), .slice A1 r.ifs.length cc1, .int .i64 r.fl, .int .i64 r.ld, .slice A2 r.ms.length cc2] HC3.out sizeClass rfl (by kernel_rfl) ?_
       have HZ := hid (setRow_blk HC3.out (#[.string ⟨#[]⟩, .string ⟨#[]⟩, .slice none 0 0, .int .i64 0, .int .i64 0, .slice none 0 0] : Array Value))
       have HV := hid (setRow_upd HU3.out (Nat.le_refl _) (#[.string ⟨#[]⟩, .string ⟨#[]⟩, .slice none 0 0, .int .i64 0, .int .i64 0, .slice none 0 0] : Array Value))
       revert HZ HV
       generalize w3.setRow w.heap.size _ = wz
       intro HZ HV
       clear HC3 HL3 HU3
       go_wp2
       have g0 := (HZ.out.cell 0).trans (show _ = some (.string ⟨#[]⟩) from rfl)
       have g1 := (HZ.out.cell 1).trans (show _ = some (.string ⟨#[]⟩) from rfl)
       have g2 := (HZ.out.cell 2).trans (show _ = some (.slice none 0 0) from rfl)
       have g3 := (HZ.out.cell 3).trans (show _ = some (.int .i64 0) from rfl)
       have g4 := (HZ.out.cell 4).trans (show _ = some (.int .i64 0) from rfl)
       have g5 := (HZ.out.cell 5).trans (show _ = some (.slice none 0 0) from rfl)
       refine bodyPost_ret (v := .tuple #[.agg #[.string ⟨#[]⟩, .string ⟨#[]⟩, .slice none 0 0, .int .i64 0, .int .i64 0, .slice none 0 0], .int .i64 0, .int .i64 1]) (by simp [results, Tryz.results25, go_sem, g0, g1, g2, g3, g4, g5]) rfl ?_
       exact ⟨rfl, HV.out⟩
      | true =>
       have hOn : O = .inl r := by rw [← HOc.out, hc]; rfl
       subst hOn
       simp only [errIf]
       go_upto_region 65 with (fail)
       apply wp_region_lit
       refine wpList_load_row rfl 25 _ rfl w.heap.size (by kernel_rfl) 25 _ _ (.struct fC) HC3.out hfC rfl (by kernel_rfl) ?_
       refine wpList_store_row rfl 25 _ _ rfl w.heap.size #[.string (bs r.nm), .string (bs r.sup), .slice A1 r.ifs.length cc1, .int .i64 r.fl, .int .i64 r.ld, .slice A2 r.ms.length cc2] (by kernel_rfl) (by kernel_rfl) 25 #[.string (bs r.nm), .string (bs r.sup), .slice A1 r.ifs.length cc1, .int .i64 r.fl, .int .i64 r.ld, .slice A2 r.ms.length cc2] HC3.out sizeClass rfl (by kernel_rfl) ?_
       have HZ := hid (setRow_blk HC3.out (#[.string (bs r.nm), .string (bs r.sup), .slice A1 r.ifs.length cc1, .int .i64 r.fl, .int .i64 r.ld, .slice A2 r.ms.length cc2] : Array Value))
       have HV := hid (setRow_upd HU3.out (Nat.le_refl _) (#[.string (bs r.nm), .string (bs r.sup), .slice A1 r.ifs.length cc1, .int .i64 r.fl, .int .i64 r.ld, .slice A2 r.ms.length cc2] : Array Value))
       have HLZ := hid (HL3.out.farRow HC3.out (#[.string (bs r.nm), .string (bs r.sup), .slice A1 r.ifs.length cc1, .int .i64 r.fl, .int .i64 r.ld, .slice A2 r.ms.length cc2] : Array Value))
       revert HZ HV HLZ
       generalize w3.setRow w.heap.size _ = wz
       intro HZ HV HLZ
       clear HC3 HL3 HU3 hfC
       go_wp2
       have g0 := (HZ.out.cell 0).trans (show _ = some (.string (bs r.nm)) from rfl)
       have g1 := (HZ.out.cell 1).trans (show _ = some (.string (bs r.sup)) from rfl)
       have g2 := (HZ.out.cell 2).trans (show _ = some (.slice A1 r.ifs.length cc1) from rfl)
       have g3 := (HZ.out.cell 3).trans (show _ = some (.int .i64 r.fl) from rfl)
       have g4 := (HZ.out.cell 4).trans (show _ = some (.int .i64 r.ld) from rfl)
       have g5 := (HZ.out.cell 5).trans (show _ = some (.slice A2 r.ms.length cc2) from rfl)
       refine bodyPost_ret (v := .tuple #[.agg #[.string (bs r.nm), .string (bs r.sup), .slice A1 r.ifs.length cc1, .int .i64 r.fl, .int .i64 r.ld, .slice A2 r.ms.length cc2], .int .i64 0, .int .i64 0]) (by simp [results, Tryz.results25, go_sem, g0, g1, g2, g3, g4, g5]) rfl ?_
       exact ⟨⟨_, _, rfl, ⟨cs, HLZ.out⟩, HW.out⟩, HV.out⟩
     ·have he1 : ((bs x).toList != []) = true := by rw [bs_toList, bne_iff_ne]; exact hxe
      have he3 : ¬ (bs x).toList = [] := by rw [bs_toList]; exact hxe
      have he2 : (bs x).toList.isEmpty = false := (empty_no hxe).1
      have hri : readL rd0 (splitL 10 l) 1 = .inr (i + 1) := by
       rw [HRL2.out]
       show (if x = [] ∧ r.st = 8 then Sum.inl r else Sum.inr (i + 1)) = _
       rw [if_neg (fun h => hxe h.1)]
      have hOn : O = .inr (n, 4) := by rw [← HO.out, hri, Hn.out]
      subst hOn
      have HB := hid HX.out.blk
      have HU := hid HX.out.os
      obtain ⟨A1, cc1, rfl, -, -⟩ := own_slice HX.out.li.oi
      obtain ⟨A2, cc2, rfl, -, -⟩ := own_slice HX.out.li.om
      clear hri HX hx HRL2 HO
      go_upto_region 62 with (fail)
      apply wp_region_lit
      refine wpList_build rfl 25 #[] rfl (by kernel_rfl) ?_
      first
      | ((iterate 6 (go_step)); refine wpList_store_row rfl 25 _ _ rfl w.heap.size #[.string ⟨#[]⟩, .string ⟨#[]⟩, .slice none 0 0, .int .i64 0, .int .i64 0, .slice none 0 0] (by kernel_rfl) (by kernel_rfl) 25 (clsCells r (.slice A1 r.ifs.length cc1) (.slice A2 r.ms.length cc2)) HB.out sizeClass rfl (by kernel_rfl) ?_)
      | ((iterate 5 (go_step)); refine wpList_store_row rfl 25 _ _ rfl w.heap.size #[.string ⟨#[]⟩, .string ⟨#[]⟩, .slice none 0 0, .int .i64 0, .int .i64 0, .slice none 0 0] (by kernel_rfl) (by kernel_rfl) 25 (clsCells r (.slice A1 r.ifs.length cc1) (.slice A2 r.ms.length cc2)) HB.out sizeClass rfl (by kernel_rfl) ?_)
      | ((iterate 7 (go_step)); refine wpList_store_row rfl 25 _ _ rfl w.heap.size #[.string ⟨#[]⟩, .string ⟨#[]⟩, .slice none 0 0, .int .i64 0, .int .i64 0, .slice none 0 0] (by kernel_rfl) (by kernel_rfl) 25 (clsCells r (.slice A1 r.ifs.length cc1) (.slice A2 r.ms.length cc2)) HB.out sizeClass rfl (by kernel_rfl) ?_)
      have HZ := hid (setRow_blk HB.out (#[.string ⟨#[]⟩, .string ⟨#[]⟩, .slice none 0 0, .int .i64 0, .int .i64 0, .slice none 0 0] : Array Value))
      have HV := hid (setRow_upd HU.out (Nat.le_refl _) (#[.string ⟨#[]⟩, .string ⟨#[]⟩, .slice none 0 0, .int .i64 0, .int .i64 0, .slice none 0 0] : Array Value))
      revert HZ HV
      generalize wr.setRow w.heap.size _ = wz
      intro HZ HV
      clear HB HU
      go_wp2
      have g0 := (HZ.out.cell 0).trans (show _ = some (.string ⟨#[]⟩) from rfl)
      have g1 := (HZ.out.cell 1).trans (show _ = some (.string ⟨#[]⟩) from rfl)
      have g2 := (HZ.out.cell 2).trans (show _ = some (.slice none 0 0) from rfl)
      have g3 := (HZ.out.cell 3).trans (show _ = some (.int .i64 0) from rfl)
      have g4 := (HZ.out.cell 4).trans (show _ = some (.int .i64 0) from rfl)
      have g5 := (HZ.out.cell 5).trans (show _ = some (.slice none 0 0) from rfl)
      refine bodyPost_ret (v := .tuple #[.agg #[.string ⟨#[]⟩, .string ⟨#[]⟩, .slice none 0 0, .int .i64 0, .int .i64 0, .slice none 0 0], .int .i64 (n : Int), .int .i64 4]) (by simp [results, Tryz.results25, go_sem, g0, g1, g2, g3, g4, g5]) rfl ?_
      exact ⟨rfl, HV.out⟩
    ·have hst2 : ¬ (r.st : Int) = 8 := by omega
     have hri : readL rd0 (splitL 10 l) 1 = .inr (i + 1) := by
      rw [HRL2.out]
      show (if x = [] ∧ r.st = 8 then Sum.inl r else Sum.inr (i + 1)) = _
      rw [if_neg (fun h => hst h.2)]
     have hOn : O = .inr (n, 4) := by rw [← HO.out, hri, Hn.out]
     subst hOn
     have HB := hid HX.out.blk
     have HU := hid HX.out.os
     obtain ⟨A1, cc1, rfl, -, -⟩ := own_slice HX.out.li.oi
     obtain ⟨A2, cc2, rfl, -, -⟩ := own_slice HX.out.li.om
     clear hri HX hx HRL2 HO
     go_upto_region 62 with (fail)
     apply wp_region_lit
     refine wpList_build rfl 25 #[] rfl (by kernel_rfl) ?_
     first
     | ((iterate 6 (go_step)); refine wpList_store_row rfl 25 _ _ rfl w.heap.size #[.string ⟨#[]⟩, .string ⟨#[]⟩, .slice none 0 0, .int .i64 0, .int .i64 0, .slice none 0 0] (by kernel_rfl) (by kernel_rfl) 25 (clsCells r (.slice A1 r.ifs.length cc1) (.slice A2 r.ms.length cc2)) HB.out sizeClass rfl (by kernel_rfl) ?_)
     | ((iterate 5 (go_step)); refine wpList_store_row rfl 25 _ _ rfl w.heap.size #[.string ⟨#[]⟩, .string ⟨#[]⟩, .slice none 0 0, .int .i64 0, .int .i64 0, .slice none 0 0] (by kernel_rfl) (by kernel_rfl) 25 (clsCells r (.slice A1 r.ifs.length cc1) (.slice A2 r.ms.length cc2)) HB.out sizeClass rfl (by kernel_rfl) ?_)
     | ((iterate 7 (go_step)); refine wpList_store_row rfl 25 _ _ rfl w.heap.size #[.string ⟨#[]⟩, .string ⟨#[]⟩, .slice none 0 0, .int .i64 0, .int .i64 0, .slice none 0 0] (by kernel_rfl) (by kernel_rfl) 25 (clsCells r (.slice A1 r.ifs.length cc1) (.slice A2 r.ms.length cc2)) HB.out sizeClass rfl (by kernel_rfl) ?_)
     have HZ := hid (setRow_blk HB.out (#[.string ⟨#[]⟩, .string ⟨#[]⟩, .slice none 0 0, .int .i64 0, .int .i64 0, .slice none 0 0] : Array Value))
     have HV := hid (setRow_upd HU.out (Nat.le_refl _) (#[.string ⟨#[]⟩, .string ⟨#[]⟩, .slice none 0 0, .int .i64 0, .int .i64 0, .slice none 0 0] : Array Value))
     revert HZ HV
     generalize wr.setRow w.heap.size _ = wz
     intro HZ HV
     clear HB HU
     go_wp2
     have g0 := (HZ.out.cell 0).trans (show _ = some (.string ⟨#[]⟩) from rfl)
     have g1 := (HZ.out.cell 1).trans (show _ = some (.string ⟨#[]⟩) from rfl)
     have g2 := (HZ.out.cell 2).trans (show _ = some (.slice none 0 0) from rfl)
     have g3 := (HZ.out.cell 3).trans (show _ = some (.int .i64 0) from rfl)
     have g4 := (HZ.out.cell 4).trans (show _ = some (.int .i64 0) from rfl)
     have g5 := (HZ.out.cell 5).trans (show _ = some (.slice none 0 0) from rfl)
     refine bodyPost_ret (v := .tuple #[.agg #[.string ⟨#[]⟩, .string ⟨#[]⟩, .slice none 0 0, .int .i64 0, .int .i64 0, .slice none 0 0], .int .i64 (n : Int), .int .i64 4]) (by simp [results, Tryz.results25, go_sem, g0, g1, g2, g3, g4, g5]) rfl ?_
     exact ⟨rfl, HV.out⟩
   ·have hx := HX.out.row.2 i hi
    have Hx0 : Hid (∀ W, RowAt W g (splitL 10 l) → W.cell? ⟨g, i, none⟩ = some (.string (bs (splitL 10 l)[i]))) := hid (fun W h => h.2 i hi)
    have hdrop : (splitL 10 l).drop i = (splitL 10 l)[i] :: (splitL 10 l).drop (i + 1) := List.drop_eq_getElem_cons hi
    have hxl := splitL_le 10 l _ (List.getElem_mem hi)
    have Hmore : Hid (i + 1 < (splitL 10 l).length) := hid (by omega)
    have hRL2 : readL rd0 (splitL 10 l) 1 = match stepL r (splitL 10 l)[i] with
      | none => .inr (i + 1)
      | some r' => readL r' ((splitL 10 l).drop (i + 1)) (i + 1 + 1) := by
     rw [HRL.out, hdrop]
     cases hd2 : (splitL 10 l).drop (i + 1) with
     | nil => have := congrArg List.length hd2; simp at this; omega
     | cons y t => rfl
    have HRL2 := hid hRL2
    have hil : (i : Int) < ((splitL 10 l).length : Int) - 1 := by omega
    have hin : i ≤ 40001 := by omega
    have HO := hid hO
    clear hRL2 hdrop HRL hO hlast
    generalize (splitL 10 l)[i] = x at *
    have hxl : x.length ≤ 40000 := by omega
    have Hxl := hid hxl
    have Hcut := fun W => hid (cutR_any 32 x W (by omega))
    have hgl := HX.out.row.1
    go_wp2_with fail
    refine (Hcut _).out.mono ?_
    rintro e wq ⟨gw, capw, rfl, hown, -, hUq⟩
    simp only []
    have hpsn : 0 < (splitL 32 x).length := List.length_pos_iff.2 (splitL_ne 32 x)
    have hpsl : (splitL 32 x).length ≤ 40001 := by
     rw [splitL_length]
     have := List.count_le_length (a := (32 : UInt8)) (l := x)
     omega
    have HRW := hid (own_row hown hpsn)
    have HXq := hid (HX.out.upd hUq)
    have Hjl : Hid (∀ k, (Lib.join ((splitL 32 x).drop k) [32]).length ≤ 40000) := hid (fun k => Nat.le_trans (join_drop_le _ k) (by rw [join_split]; omega))
    have Hne : Hid (splitL 32 x ≠ []) := hid (splitL_ne 32 x)
    clear hown hUq Hcut HX hx
    obtain ⟨ps, hps⟩ : ∃ ps, splitL 32 x = ps := ⟨_, rfl⟩
    rw [hps] at hpsn hpsl HRW Hjl Hne
    rw [hps]
    have Hps := hid hps
    clear hps
    go_upto_block 2 with (fail)
    go_cut [6, 9] (fun t6 t9 wx => cutPost w n0 g (splitL 10 l) (stepL r x) t9 t6 wx)
    case first hJ hMet =>
     have hps := Hps.out
     have hst : r.st = 0 ∨ r.st = 1 ∨ r.st = 2 ∨ r.st = 3 ∨ r.st = 4 ∨ r.st = 5 ∨ r.st = 6 ∨ r.st = 7 ∨ r.st = 8 := by have := hwf.st; omega
     clear HRL2 HO HFi Hps
     obtain ⟨nm, sup, ifs, fl, ld, ms, st⟩ := r
     dsimp only at hst ⊢
     rcases hst with rfl | rfl | rfl | rfl | rfl | rfl | rfl | rfl | rfl
     ·refine doc_st0 w wq (splitL 10 l) n0 g cap gw capw i nm sup ifs fl ld ms vi vm cs x ps hwf hin (by omega) (by omega) Hx0 hxl hpsn hpsl HRW HXq Hjl Hne hps _ _ _ _ _ _ _ _ _ _ _ _ _ _ _ _ _ _ _ _ _ _ _ _ _ _ _ _ _ _ _ _ _ _ _ _ _ _ _ _ _ _ _ _ _ _ _ _ _ _ _ _ _ _ _ _ _ _ _ _ _ _ _ _ _ _ _ _ _ _ _ _ _ _ _ _ _ _ _ _ _ _ _ _ _ _ _ _ _ _ _ _ _ _ _ _ _ _ _ _ _ _ _ _ _ _ _ _ _ _ _ _ _ _ _ _ _ _ _ _ _ _ _ _ _ _ _ _ _ _ _ _ _ _ _ _ _ _ _ _ _ _ _ _ _ _ _ _ _ _ _ _ _ _ _ _ _ _ _ _ _ _ _ _ _ _ _ _ _ _ _ _ _ _ _ _ _ _ _ _ _ _ _ _ _ _ _ _ _ _ _ _ _ _ _ _ _ _ _ _ _ _ _ _ _ _ _ _ _ _ _ _ _ _ _ _ _ _ _ _ _ _ _ _ _ _ _ _ _ _ _ _ _ _ _ _ _ _ _ _ _ _ _ _ _ _ _ _ _ _ _ ?_
      intro t6 t9 v10 v11 v12 v13 v14 v15 v16 v17 v18 v19 v20 v21 v22 v23 v24 v25 v45 v46 v47 v48 v49 v50 v51 v52 v53 v54 v55 v56 v57 v58 v59 v60 v61 v62 v63 v64 v65 v66 v67 v68 v69 v70 v71 v72 v73 v74 v75 v76 v77 v78 v79 v80 v81 v82 v83 v84 v85 v86 v87 v88 v89 v90 v91 v92 v93 v94 v95 v96 v97 v98 v99 v100 v101 v102 v103 v104 v105 v106 v107 v108 v109 v110 v111 v112 v113 v114 v115 v116 v117 v118 v119 v120 v121 v122 v123 v124 v125 v126 v127 v128 v129 v130 v131 v132 v133 v134 v135 v136 v137 v138 v139 v140 v141 v142 v143 v144 v145 v146 v147 v148 v149 v150 v151 v152 v153 v154 v155 v156 v157 v158 v159 v160 v161 v162 v163 v164 v165 v166 v167 v168 v169 v170 v171 v172 v173 v174 v175 v176 v177 v178 v179 v180 v181 v182 v183 v184 v185 v186 v187 v188 v189 v190 v191 v192 v193 v194 v195 v196 v197 v198 v199 v200 v201 v202 v203 v204 v205 v206 v207 v208 v209 v210 v211 v212 v213 v214 v215 v216 v217 v218 v219 v220 v221 v222 v223 v224 v225 v226 v227 v228 v229 v230 v231 wx h
      refine hMet _ _ ?_
      refine Met.intro ?_
      refine hJ _ _ ?_
      (repeat apply Exists.intro)
      exact ⟨h, rfl⟩
     ·refine doc_st1 w wq (splitL 10 l) n0 g cap gw capw i nm sup ifs fl ld ms vi vm cs x ps hwf hin (by omega) (by omega) Hx0 hxl hpsn hpsl HRW HXq Hjl Hne hps _ _ _ _ _ _ _ _ _ _ _ _ _ _ _ _ _ _ _ _ _ _ _ _ _ _ _ _ _ _ _ _ _ _ _ _ _ _ _ _ _ _ _ _ _ _ _ _ _ _ _ _ _ _ _ _ _ _ _ _ _ _ _ _ _ _ _ _ _ _ _ _ _ _ _ _ _ _ _ _ _ _ _ _ _ _ _ _ _ _ _ _ _ _ _ _ _ _ _ _ _ _ _ _ _ _ _ _ _ _ _ _ _ _ _ _ _ _ _ _ _ _ _ _ _ _ _ _ _ _ _ _ _ _ _ _ _ _ _ _ _ _ _ _ _ _ _ _ _ _ _ _ _ _ _ _ _ _ _ _ _ _ _ _ _ _ _ _ _ _ _ _ _ _ _ _ _ _ _ _ _ _ _ _ _ _ _ _ _ _ _ _ _ _ _ _ _ _ _ _ _ _ _ _ _ _ _ _ _ _ _ _ _ _ _ _ _ _ _ _ _ _ _ _ _ _ _ _ _ _ _ _ _ _ _ _ _ _ _ _ _ _ _ _ _ _ _ _ _ _ _ ?_
      intro t6 t9 v10 v11 v12 v13 v14 v15 v16 v17 v18 v19 v20 v21 v22 v23 v24 v25 v45 v46 v47 v48 v49 v50 v51 v52 v53 v54 v55 v56 v57 v58 v59 v60 v61 v62 v63 v64 v65 v66 v67 v68 v69 v70 v71 v72 v73 v74 v75 v76 v77 v78 v79 v80 v81 v82 v83 v84 v85 v86 v87 v88 v89 v90 v91 v92 v93 v94 v95 v96 v97 v98 v99 v100 v101 v102 v103 v104 v105 v106 v107 v108 v109 v110 v111 v112 v113 v114 v115 v116 v117 v118 v119 v120 v121 v122 v123 v124 v125 v126 v127 v128 v129 v130 v131 v132 v133 v134 v135 v136 v137 v138 v139 v140 v141 v142 v143 v144 v145 v146 v147 v148 v149 v150 v151 v152 v153 v154 v155 v156 v157 v158 v159 v160 v161 v162 v163 v164 v165 v166 v167 v168 v169 v170 v171 v172 v173 v174 v175 v176 v177 v178 v179 v180 v181 v182 v183 v184 v185 v186 v187 v188 v189 v190 v191 v192 v193 v194 v195 v196 v197 v198 v199 v200 v201 v202 v203 v204 v205 v206 v207 v208 v209 v210 v211 v212 v213 v214 v215 v216 v217 v218 v219 v220 v221 v222 v223 v224 v225 v226 v227 v228 v229 v230 v231 wx h
      refine hMet _ _ ?_
      refine Met.intro ?_
      refine hJ _ _ ?_
      (repeat apply Exists.intro)
      exact ⟨h, rfl⟩
     ·refine doc_st2 w wq (splitL 10 l) n0 g cap gw capw i nm sup ifs fl ld ms vi vm cs x ps hwf hin (by omega) (by omega) Hx0 hxl hpsn hpsl HRW HXq Hjl Hne hps _ _ _ _ _ _ _ _ _ _ _ _ _ _ _ _ _ _ _ _ _ _ _ _ _ _ _ _ _ _ _ _ _ _ _ _ _ _ _ _ _ _ _ _ _ _ _ _ _ _ _ _ _ _ _ _ _ _ _ _ _ _ _ _ _ _ _ _ _ _ _ _ _ _ _ _ _ _ _ _ _ _ _ _ _ _ _ _ _ _ _ _ _ _ _ _ _ _ _ _ _ _ _ _ _ _ _ _ _ _ _ _ _ _ _ _ _ _ _ _ _ _ _ _ _ _ _ _ _ _ _ _ _ _ _ _ _ _ _ _ _ _ _ _ _ _ _ _ _ _ _ _ _ _ _ _ _ _ _ _ _ _ _ _ _ _ _ _ _ _ _ _ _ _ _ _ _ _ _ _ _ _ _ _ _ _ _ _ _ _ _ _ _ _ _ _ _ _ _ _ _ _ _ _ _ _ _ _ _ _ _ _ _ _ _ _ _ _ _ _ _ _ _ _ _ _ _ _ _ _ _ _ _ _ _ _ _ _ _ _ _ _ _ _ _ _ _ _ _ _ _ ?_
      intro t6 t9 v10 v11 v12 v13 v14 v15 v16 v17 v18 v19 v20 v21 v22 v23 v24 v25 v45 v46 v47 v48 v49 v50 v51 v52 v53 v54 v55 v56 v57 v58 v59 v60 v61 v62 v63 v64 v65 v66 v67 v68 v69 v70 v71 v72 v73 v74 v75 v76 v77 v78 v79 v80 v81 v82 v83 v84 v85 v86 v87 v88 v89 v90 v91 v92 v93 v94 v95 v96 v97 v98 v99 v100 v101 v102 v103 v104 v105 v106 v107 v108 v109 v110 v111 v112 v113 v114 v115 v116 v117 v118 v119 v120 v121 v122 v123 v124 v125 v126 v127 v128 v129 v130 v131 v132 v133 v134 v135 v136 v137 v138 v139 v140 v141 v142 v143 v144 v145 v146 v147 v148 v149 v150 v151 v152 v153 v154 v155 v156 v157 v158 v159 v160 v161 v162 v163 v164 v165 v166 v167 v168 v169 v170 v171 v172 v173 v174 v175 v176 v177 v178 v179 v180 v181 v182 v183 v184 v185 v186 v187 v188 v189 v190 v191 v192 v193 v194 v195 v196 v197 v198 v199 v200 v201 v202 v203 v204 v205 v206 v207 v208 v209 v210 v211 v212 v213 v214 v215 v216 v217 v218 v219 v220 v221 v222 v223 v224 v225 v226 v227 v228 v229 v230 v231 wx h
      refine hMet _ _ ?_
      refine Met.intro ?_
      refine hJ _ _ ?_
      (repeat apply Exists.intro)
      exact ⟨h, rfl⟩
     ·refine doc_st3 w wq (splitL 10 l) n0 g cap gw capw i nm sup ifs fl ld ms vi vm cs x ps hwf hin (by omega) (by omega) Hx0 hxl hpsn hpsl HRW HXq Hjl Hne hps _ _ _ _ _ _ _ _ _ _ _ _ _ _ _ _ _ _ _ _ _ _ _ _ _ _ _ _ _ _ _ _ _ _ _ _ _ _ _ _ _ _ _ _ _ _ _ _ _ _ _ _ _ _ _ _ _ _ _ _ _ _ _ _ _ _ _ _ _ _ _ _ _ _ _ _ _ _ _ _ _ _ _ _ _ _ _ _ _ _ _ _ _ _ _ _ _ _ _ _ _ _ _ _ _ _ _ _ _ _ _ _ _ _ _ _ _ _ _ _ _ _ _ _ _ _ _ _ _ _ _ _ _ _ _ _ _ _ _ _ _ _ _ _ _ _ _ _ _ _ _ _ _ _ _ _ _ _ _ _ _ _ _ _ _ _ _ _ _ _ _ _ _ _ _ _ _ _ _ _ _ _ _ _ _ _ _ _ _ _ _ _ _ _ _ _ _ _ _ _ _ _ _ _ _ _ _ _ _ _ _ _ _ _ _ _ _ _ _ _ _ _ _ _ _ _ _ _ _ _ _ _ _ _ _ _ _ _ _ _ _ _ _ _ _ _ _ _ _ _ _ ?_
      intro t6 t9 v10 v11 v12 v13 v14 v15 v16 v17 v18 v19 v20 v21 v22 v23 v24 v25 v45 v46 v47 v48 v49 v50 v51 v52 v53 v54 v55 v56 v57 v58 v59 v60 v61 v62 v63 v64 v65 v66 v67 v68 v69 v70 v71 v72 v73 v74 v75 v76 v77 v78 v79 v80 v81 v82 v83 v84 v85 v86 v87 v88 v89 v90 v91 v92 v93 v94 v95 v96 v97 v98 v99 v100 v101 v102 v103 v104 v105 v106 v107 v108 v109 v110 v111 v112 v113 v114 v115 v116 v117 v118 v119 v120 v121 v122 v123 v124 v125 v126 v127 v128 v129 v130 v131 v132 v133 v134 v135 v136 v137 v138 v139 v140 v141 v142 v143 v144 v145 v146 v147 v148 v149 v150 v151 v152 v153 v154 v155 v156 v157 v158 v159 v160 v161 v162 v163 v164 v165 v166 v167 v168 v169 v170 v171 v172 v173 v174 v175 v176 v177 v178 v179 v180 v181 v182 v183 v184 v185 v186 v187 v188 v189 v190 v191 v192 v193 v194 v195 v196 v197 v198 v199 v200 v201 v202 v203 v204 v205 v206 v207 v208 v209 v210 v211 v212 v213 v214 v215 v216 v217 v218 v219 v220 v221 v222 v223 v224 v225 v226 v227 v228 v229 v230 v231 wx h
      refine hMet _ _ ?_
      refine Met.intro ?_
      refine hJ _ _ ?_
      (repeat apply Exists.intro)
      exact ⟨h, rfl⟩
     ·refine doc_st4 w wq (splitL 10 l) n0 g cap gw capw i nm sup ifs fl ld ms vi vm cs x ps hwf hin (by omega) (by omega) Hx0 hxl hpsn hpsl HRW HXq Hjl Hne hps _ _ _ _ _ _ _ _ _ _ _ _ _ _ _ _ _ _ _ _ _ _ _ _ _ _ _ _ _ _ _ _ _ _ _ _ _ _ _ _ _ _ _ _ _ _ _ _ _ _ _ _ _ _ _ _ _ _ _ _ _ _ _ _ _ _ _ _ _ _ _ _ _ _ _ _ _ _ _ _ _ _ _ _ _ _ _ _ _ _ _ _ _ _ _ _ _ _ _ _ _ _ _ _ _ _ _ _ _ _ _ _ _ _ _ _ _ _ _ _ _ _ _ _ _ _ _ _ _ _ _ _ _ _ _ _ _ _ _ _ _ _ _ _ _ _ _ _ _ _ _ _ _ _ _ _ _ _ _ _ _ _ _ _ _ _ _ _ _ _ _ _ _ _ _ _ _ _ _ _ _ _ _ _ _ _ _ _ _ _ _ _ _ _ _ _ _ _ _ _ _ _ _ _ _ _ _ _ _ _ _ _ _ _ _ _ _ _ _ _ _ _ _ _ _ _ _ _ _ _ _ _ _ _ _ _ _ _ _ _ _ _ _ _ _ _ _ _ _ _ _ ?_
      intro t6 t9 v10 v11 v12 v13 v14 v15 v16 v17 v18 v19 v20 v21 v22 v23 v24 v25 v45 v46 v47 v48 v49 v50 v51 v52 v53 v54 v55 v56 v57 v58 v59 v60 v61 v62 v63 v64 v65 v66 v67 v68 v69 v70 v71 v72 v73 v74 v75 v76 v77 v78 v79 v80 v81 v82 v83 v84 v85 v86 v87 v88 v89 v90 v91 v92 v93 v94 v95 v96 v97 v98 v99 v100 v101 v102 v103 v104 v105 v106 v107 v108 v109 v110 v111 v112 v113 v114 v115 v116 v117 v118 v119 v120 v121 v122 v123 v124 v125 v126 v127 v128 v129 v130 v131 v132 v133 v134 v135 v136 v137 v138 v139 v140 v141 v142 v143 v144 v145 v146 v147 v148 v149 v150 v151 v152 v153 v154 v155 v156 v157 v158 v159 v160 v161 v162 v163 v164 v165 v166 v167 v168 v169 v170 v171 v172 v173 v174 v175 v176 v177 v178 v179 v180 v181 v182 v183 v184 v185 v186 v187 v188 v189 v190 v191 v192 v193 v194 v195 v196 v197 v198 v199 v200 v201 v202 v203 v204 v205 v206 v207 v208 v209 v210 v211 v212 v213 v214 v215 v216 v217 v218 v219 v220 v221 v222 v223 v224 v225 v226 v227 v228 v229 v230 v231 wx h
      refine hMet _ _ ?_
      refine Met.intro ?_
      refine hJ _ _ ?_
      (repeat apply Exists.intro)
      exact ⟨h, rfl⟩
     ·refine doc_st5 w wq (splitL 10 l) n0 g cap gw capw i nm sup ifs fl ld ms vi vm cs x ps hwf hin (by omega) (by omega) Hx0 hxl hpsn hpsl HRW HXq Hjl Hne hps _ _ _ _ _ _ _ _ _ _ _ _ _ _ _ _ _ _ _ _ _ _ _ _ _ _ _ _ _ _ _ _ _ _ _ _ _ _ _ _ _ _ _ _ _ _ _ _ _ _ _ _ _ _ _ _ _ _ _ _ _ _ _ _ _ _ _ _ _ _ _ _ _ _ _ _ _ _ _ _ _ _ _ _ _ _ _ _ _ _ _ _ _ _ _ _ _ _ _ _ _ _ _ _ _ _ _ _ _ _ _ _ _ _ _ _ _ _ _ _ _ _ _ _ _ _ _ _ _ _ _ _ _ _ _ _ _ _ _ _ _ _ _ _ _ _ _ _ _ _ _ _ _ _ _ _ _ _ _ _ _ _ _ _ _ _ _ _ _ _ _ _ _ _ _ _ _ _ _ _ _ _ _ _ _ _ _ _ _ _ _ _ _ _ _ _ _ _ _ _ _ _ _ _ _ _ _ _ _ _ _ _ _ _ _ _ _ _ _ _ _ _ _ _ _ _ _ _ _ _ _ _ _ _ _ _ _ _ _ _ _ _ _ _ _ _ _ _ _ _ _ ?_
      intro t6 t9 v10 v11 v12 v13 v14 v15 v16 v17 v18 v19 v20 v21 v22 v23 v24 v25 v45 v46 v47 v48 v49 v50 v51 v52 v53 v54 v55 v56 v57 v58 v59 v60 v61 v62 v63 v64 v65 v66 v67 v68 v69 v70 v71 v72 v73 v74 v75 v76 v77 v78 v79 v80 v81 v82 v83 v84 v85 v86 v87 v88 v89 v90 v91 v92 v93 v94 v95 v96 v97 v98 v99 v100 v101 v102 v103 v104 v105 v106 v107 v108 v109 v110 v111 v112 v113 v114 v115 v116 v117 v118 v119 v120 v121 v122 v123 v124 v125 v126 v127 v128 v129 v130 v131 v132 v133 v134 v135 v136 v137 v138 v139 v140 v141 v142 v143 v144 v145 v146 v147 v148 v149 v150 v151 v152 v153 v154 v155 v156 v157 v158 v159 v160 v161 v162 v163 v164 v165 v166 v167 v168 v169 v170 v171 v172 v173 v174 v175 v176 v177 v178 v179 v180 v181 v182 v183 v184 v185 v186 v187 v188 v189 v190 v191 v192 v193 v194 v195 v196 v197 v198 v199 v200 v201 v202 v203 v204 v205 v206 v207 v208 v209 v210 v211 v212 v213 v214 v215 v216 v217 v218 v219 v220 v221 v222 v223 v224 v225 v226 v227 v228 v229 v230 v231 wx h
      refine hMet _ _ ?_
      refine Met.intro ?_
      refine hJ _ _ ?_
      (repeat apply Exists.intro)
      exact ⟨h, rfl⟩
     ·refine doc_st6 w wq (splitL 10 l) n0 g cap gw capw i nm sup ifs fl ld ms vi vm cs x ps hwf hin (by omega) (by omega) Hx0 hxl hpsn hpsl HRW HXq Hjl Hne hps _ _ _ _ _ _ _ _ _ _ _ _ _ _ _ _ _ _ _ _ _ _ _ _ _ _ _ _ _ _ _ _ _ _ _ _ _ _ _ _ _ _ _ _ _ _ _ _ _ _ _ _ _ _ _ _ _ _ _ _ _ _ _ _ _ _ _ _ _ _ _ _ _ _ _ _ _ _ _ _ _ _ _ _ _ _ _ _ _ _ _ _ _ _ _ _ _ _ _ _ _ _ _ _ _ _ _ _ _ _ _ _ _ _ _ _ _ _ _ _ _ _ _ _ _ _ _ _ _ _ _ _ _ _ _ _ _ _ _ _ _ _ _ _ _ _ _ _ _ _ _ _ _ _ _ _ _ _ _ _ _ _ _ _ _ _ _ _ _ _ _ _ _ _ _ _ _ _ _ _ _ _ _ _ _ _ _ _ _ _ _ _ _ _ _ _ _ _ _ _ _ _ _ _ _ _ _ _ _ _ _ _ _ _ _ _ _ _ _ _ _ _ _ _ _ _ _ _ _ _ _ _ _ _ _ _ _ _ _ _ _ _ _ _ _ _ _ _ _ _ _ ?_
      intro t6 t9 v10 v11 v12 v13 v14 v15 v16 v17 v18 v19 v20 v21 v22 v23 v24 v25 v45 v46 v47 v48 v49 v50 v51 v52 v53 v54 v55 v56 v57 v58 v59 v60 v61 v62 v63 v64 v65 v66 v67 v68 v69 v70 v71 v72 v73 v74 v75 v76 v77 v78 v79 v80 v81 v82 v83 v84 v85 v86 v87 v88 v89 v90 v91 v92 v93 v94 v95 v96 v97 v98 v99 v100 v101 v102 v103 v104 v105 v106 v107 v108 v109 v110 v111 v112 v113 v114 v115 v116 v117 v118 v119 v120 v121 v122 v123 v124 v125 v126 v127 v128 v129 v130 v131 v132 v133 v134 v135 v136 v137 v138 v139 v140 v141 v142 v143 v144 v145 v146 v147 v148 v149 v150 v151 v152 v153 v154 v155 v156 v157 v158 v159 v160 v161 v162 v163 v164 v165 v166 v167 v168 v169 v170 v171 v172 v173 v174 v175 v176 v177 v178 v179 v180 v181 v182 v183 v184 v185 v186 v187 v188 v189 v190 v191 v192 v193 v194 v195 v196 v197 v198 v199 v200 v201 v202 v203 v204 v205 v206 v207 v208 v209 v210 v211 v212 v213 v214 v215 v216 v217 v218 v219 v220 v221 v222 v223 v224 v225 v226 v227 v228 v229 v230 v231 wx h
      refine hMet _ _ ?_
      refine Met.intro ?_
      refine hJ _ _ ?_
      (repeat apply Exists.intro)
      exact ⟨h, rfl⟩
     ·refine doc_st7 w wq (splitL 10 l) n0 g cap gw capw i nm sup ifs fl ld ms vi vm cs x ps hwf hin (by omega) (by omega) Hx0 hxl hpsn hpsl HRW HXq Hjl Hne hps _ _ _ _ _ _ _ _ _ _ _ _ _ _ _ _ _ _ _ _ _ _ _ _ _ _ _ _ _ _ _ _ _ _ _ _ _ _ _ _ _ _ _ _ _ _ _ _ _ _ _ _ _ _ _ _ _ _ _ _ _ _ _ _ _ _ _ _ _ _ _ _ _ _ _ _ _ _ _ _ _ _ _ _ _ _ _ _ _ _ _ _ _ _ _ _ _ _ _ _ _ _ _ _ _ _ _ _ _ _ _ _ _ _ _ _ _ _ _ _ _ _ _ _ _ _ _ _ _ _ _ _ _ _ _ _ _ _ _ _ _ _ _ _ _ _ _ _ _ _ _ _ _ _ _ _ _ _ _ _ _ _ _ _ _ _ _ _ _ _ _ _ _ _ _ _ _ _ _ _ _ _ _ _ _ _ _ _ _ _ _ _ _ _ _ _ _ _ _ _ _ _ _ _ _ _ _ _ _ _ _ _ _ _ _ _ _ _ _ _ _ _ _ _ _ _ _ _ _ _ _ _ _ _ _ _ _ _ _ _ _ _ _ _ _ _ _ _ _ _ _ ?_
      intro t6 t9 v10 v11 v12 v13 v14 v15 v16 v17 v18 v19 v20 v21 v22 v23 v24 v25 v45 v46 v47 v48 v49 v50 v51 v52 v53 v54 v55 v56 v57 v58 v59 v60 v61 v62 v63 v64 v65 v66 v67 v68 v69 v70 v71 v72 v73 v74 v75 v76 v77 v78 v79 v80 v81 v82 v83 v84 v85 v86 v87 v88 v89 v90 v91 v92 v93 v94 v95 v96 v97 v98 v99 v100 v101 v102 v103 v104 v105 v106 v107 v108 v109 v110 v111 v112 v113 v114 v115 v116 v117 v118 v119 v120 v121 v122 v123 v124 v125 v126 v127 v128 v129 v130 v131 v132 v133 v134 v135 v136 v137 v138 v139 v140 v141 v142 v143 v144 v145 v146 v147 v148 v149 v150 v151 v152 v153 v154 v155 v156 v157 v158 v159 v160 v161 v162 v163 v164 v165 v166 v167 v168 v169 v170 v171 v172 v173 v174 v175 v176 v177 v178 v179 v180 v181 v182 v183 v184 v185 v186 v187 v188 v189 v190 v191 v192 v193 v194 v195 v196 v197 v198 v199 v200 v201 v202 v203 v204 v205 v206 v207 v208 v209 v210 v211 v212 v213 v214 v215 v216 v217 v218 v219 v220 v221 v222 v223 v224 v225 v226 v227 v228 v229 v230 v231 wx h
      refine hMet _ _ ?_
      refine Met.intro ?_
      refine hJ _ _ ?_
      (repeat apply Exists.intro)
      exact ⟨h, rfl⟩
     ·refine doc_st8 w wq (splitL 10 l) n0 g cap gw capw i nm sup ifs fl ld ms vi vm cs x ps hwf hin (by omega) (by omega) Hx0 hxl hpsn hpsl HRW HXq Hjl Hne hps _ _ _ _ _ _ _ _ _ _ _ _ _ _ _ _ _ _ _ _ _ _ _ _ _ _ _ _ _ _ _ _ _ _ _ _ _ _ _ _ _ _ _ _ _ _ _ _ _ _ _ _ _ _ _ _ _ _ _ _ _ _ _ _ _ _ _ _ _ _ _ _ _ _ _ _ _ _ _ _ _ _ _ _ _ _ _ _ _ _ _ _ _ _ _ _ _ _ _ _ _ _ _ _ _ _ _ _ _ _ _ _ _ _ _ _ _ _ _ _ _ _ _ _ _ _ _ _ _ _ _ _ _ _ _ _ _ _ _ _ _ _ _ _ _ _ _ _ _ _ _ _ _ _ _ _ _ _ _ _ _ _ _ _ _ _ _ _ _ _ _ _ _ _ _ _ _ _ _ _ _ _ _ _ _ _ _ _ _ _ _ _ _ _ _ _ _ _ _ _ _ _ _ _ _ _ _ _ _ _ _ _ _ _ _ _ _ _ _ _ _ _ _ _ _ _ _ _ _ _ _ _ _ _ _ _ _ _ _ _ _ _ _ _ _ _ _ _ _ _ _ ?_
      intro t6 t9 v10 v11 v12 v13 v14 v15 v16 v17 v18 v19 v20 v21 v22 v23 v24 v25 v45 v46 v47 v48 v49 v50 v51 v52 v53 v54 v55 v56 v57 v58 v59 v60 v61 v62 v63 v64 v65 v66 v67 v68 v69 v70 v71 v72 v73 v74 v75 v76 v77 v78 v79 v80 v81 v82 v83 v84 v85 v86 v87 v88 v89 v90 v91 v92 v93 v94 v95 v96 v97 v98 v99 v100 v101 v102 v103 v104 v105 v106 v107 v108 v109 v110 v111 v112 v113 v114 v115 v116 v117 v118 v119 v120 v121 v122 v123 v124 v125 v126 v127 v128 v129 v130 v131 v132 v133 v134 v135 v136 v137 v138 v139 v140 v141 v142 v143 v144 v145 v146 v147 v148 v149 v150 v151 v152 v153 v154 v155 v156 v157 v158 v159 v160 v161 v162 v163 v164 v165 v166 v167 v168 v169 v170 v171 v172 v173 v174 v175 v176 v177 v178 v179 v180 v181 v182 v183 v184 v185 v186 v187 v188 v189 v190 v191 v192 v193 v194 v195 v196 v197 v198 v199 v200 v201 v202 v203 v204 v205 v206 v207 v208 v209 v210 v211 v212 v213 v214 v215 v216 v217 v218 v219 v220 v221 v222 v223 v224 v225 v226 v227 v228 v229 v230 v231 wx h
      refine hMet _ _ ?_
      refine Met.intro ?_
      refine hJ _ _ ?_
      (repeat apply Exists.intro)
      exact ⟨h, rfl⟩
    case rest =>
     cases hs : stepL r x with
     | none =>
      rw [hs] at hcut HRL2
      obtain ⟨rfl, ⟨sx, rfl⟩, a, b, c, d, e, f, HB, HU⟩ := hcut
      have hri : readL rd0 (splitL 10 l) 1 = .inr (i + 1) := by
       rw [HRL2.out]
      have hOn : O = .inr (i + 1, 4) := by rw [← HO.out, hri]
      subst hOn
      have hw1 : wrap64 ((i : Int) + 1) = (i : Int) + 1 := by unfold wrap64; omega
      clear hri HRL2 HO
      go_upto_region 60 with (fail)
      apply wp_region_lit
      refine wpList_build rfl 25 #[] rfl (by kernel_rfl) ?_
      first
      | ((iterate 6 (go_step)); refine wpList_store_row rfl 25 _ _ rfl w.heap.size #[.string ⟨#[]⟩, .string ⟨#[]⟩, .slice none 0 0, .int .i64 0, .int .i64 0, .slice none 0 0] (by kernel_rfl) (by kernel_rfl) 25 #[a, b, c, d, e, f] HB.out sizeClass rfl (by kernel_rfl) ?_)
      | ((iterate 5 (go_step)); refine wpList_store_row rfl 25 _ _ rfl w.heap.size #[.string ⟨#[]⟩, .string ⟨#[]⟩, .slice none 0 0, .int .i64 0, .int .i64 0, .slice none 0 0] (by kernel_rfl) (by kernel_rfl) 25 #[a, b, c, d, e, f] HB.out sizeClass rfl (by kernel_rfl) ?_)
      | ((iterate 7 (go_step)); refine wpList_store_row rfl 25 _ _ rfl w.heap.size #[.string ⟨#[]⟩, .string ⟨#[]⟩, .slice none 0 0, .int .i64 0, .int .i64 0, .slice none 0 0] (by kernel_rfl) (by kernel_rfl) 25 #[a, b, c, d, e, f] HB.out sizeClass rfl (by kernel_rfl) ?_)
      have HZ := hid (setRow_blk HB.out (#[.string ⟨#[]⟩, .string ⟨#[]⟩, .slice none 0 0, .int .i64 0, .int .i64 0, .slice none 0 0] : Array Value))
      have HV := hid (setRow_upd HU.out (Nat.le_refl _) (#[.string ⟨#[]⟩, .string ⟨#[]⟩, .slice none 0 0, .int .i64 0, .int .i64 0, .slice none 0 0] : Array Value))
      revert HZ HV
      generalize wc.setRow w.heap.size _ = wz
      intro HZ HV
      clear HB HU
      go_wp2
      have g0 := (HZ.out.cell 0).trans (show _ = some (.string ⟨#[]⟩) from rfl)
      have g1 := (HZ.out.cell 1).trans (show _ = some (.string ⟨#[]⟩) from rfl)
      have g2 := (HZ.out.cell 2).trans (show _ = some (.slice none 0 0) from rfl)
      have g3 := (HZ.out.cell 3).trans (show _ = some (.int .i64 0) from rfl)
      have g4 := (HZ.out.cell 4).trans (show _ = some (.int .i64 0) from rfl)
      have g5 := (HZ.out.cell 5).trans (show _ = some (.slice none 0 0) from rfl)
      refine bodyPost_ret (v := .tuple #[.agg #[.string ⟨#[]⟩, .string ⟨#[]⟩, .slice none 0 0, .int .i64 0, .int .i64 0, .slice none 0 0], .int .i64 ((i + 1 : Nat) : Int), .int .i64 4]) (by simp [results, Tryz.results25, go_sem, g0, g1, g2, g3, g4, g5]) rfl ?_
      exact ⟨rfl, HV.out⟩
     | some r' =>
      rw [hs] at hcut HRL2
      obtain ⟨rfl, rfl, vi', vm', cs', HX'⟩ := hcut
      have hw1 : wrap64 ((i : Int) + 1) = (i : Int) + 1 := by unfold wrap64; omega
      have Hwf' := hid (step_wf hwf hs)
      have Hfi' := hid (step_fine HFi.out (by have := Hxl.out; omega) hs)
      clear hs HFi hwf
      go_wp2
      go_roundw
      case measure => simp [intNat, intOf]; omega
      case rel =>
       refine ⟨i + 1, r', rfl, by go_num, by have := Hmore.out; omega, Hwf'.out, Hfi', hid ?_, n0, vi', vm', cs', HX'⟩
       rw [HRL2.out]
end Go.Proofs.YtjjdlgjofjfgmaaGreatDoor
