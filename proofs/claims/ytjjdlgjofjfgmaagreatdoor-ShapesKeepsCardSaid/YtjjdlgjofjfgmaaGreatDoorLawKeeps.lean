/-
 The law ShapesKeeps, walked. (Printed by gen_lawKeeps.py.)
-/
import Derived.Test.YtjjdlgjofjfgmaaGreatDoorKeepA
import Derived.Test.YtjjdlgjofjfgmaaGreatDoorRoomB
import Derived.Test.YtjjdlgjofjfgmaaGreatDoorKeptB
set_option linter.unusedSimpArgs false
set_option linter.unusedVariables false
namespace Go.Proofs.YtjjdlgjofjfgmaaGreatDoor
open Go.RowKit Go.Sort
set_option maxHeartbeats 8000000 in
set_option maxRecDepth 100000 in
theorem shapesKeeps_walk (c : ClassL) (l : List UInt8) (w : World) (hc : c.fit w) (hs : c.small) (hl : l.length ≤ 1000000000000000) (hm : Rdy w) (he : ErrsAt w) (hg : HandleAt w) : Calls Tryz.prog 7 #[c.v, .string (bs l)] w fun e w' => e = .returned (.bool true) ∧ Upd w w' [] := by
 obtain ⟨ck, hck⟩ : ∃ x, checkB c = x := ⟨_, rfl⟩
 obtain ⟨pt, hpt⟩ : ∃ x, (if ck then printL c else []) = x := ⟨_, rfl⟩
 obtain ⟨fd, hfd⟩ : ∃ x, findL [109] [40, 41, 86] c.ms 0 = x := ⟨_, rfl⟩
 have Haw := fun W (u : Upd w W []) => hid (awake5_any W (hm.upd u))
 have Hro := fun W (u : Upd w W []) => hid (roomy_any c W (hc.upd u) hs)
 have Hck : ∀ (d : ClassL) (W : World), rdOf d = rdOf c → d.fit W → Upd w W [] → Hid (Calls Tryz.prog 9 #[d.v] W fun e w' => e = .returned (.int .i64 (errIf ck)) ∧ Upd W w' []) := fun d W h hf u => hid (by
  have t := check5_any d W hf (hm.upd u).max
  rw [like_check h, hck] at t
  exact t)
 have Hpr : ∀ (d : ClassL) (W : World), rdOf d = rdOf c → d.fit W → Upd w W [] → Hid (Calls Tryz.prog 15 #[d.v] W fun e w' => e = .returned (.tuple #[.string (bs pt), .int .i64 (errIf ck)]) ∧ Upd W w' []) := fun d W h hf u => hid (by
  have t := print5_any d W hf (hm.upd u)
  rw [like_check h, like_print h, hck, hpt] at t
  exact t)
 have Hfi : ∀ (d : ClassL) (W : World), rdOf d = rdOf c → d.fit W → Hid (Calls Tryz.prog 11 #[d.v, .string (bs [109]), .string (bs [40, 41, 86])] W fun e w' => e = .returned (.int .i64 fd) ∧ Upd W w' []) := fun d W h hf => hid (by
  have t := find_any d [109] [40, 41, 86] W hf.ms hf.lenM
  rw [like_find _ _ h, hfd] at t
  exact t)
 have Hpr2 : ∀ W, Upd w W [] → Hid (Calls Tryz.prog 16 #[c.v] W fun e w' => e = .returned (.tuple #[.string (bs pt), .int .i64 (errIf ck)]) ∧ Upd W w' []) := fun W u => hid (by
  have t := printR5_all c W (hc.upd u)
  rw [hck, hpt] at t
  exact t)
 have Hck2 : ∀ W, Upd w W [] → Hid (Calls Tryz.prog 10 #[c.v] W fun e w' => e = .returned (.int .i64 (errIf ck)) ∧ Upd W w' []) := fun W u => hid (by
  have t := checkR5_any c W (hc.upd u)
  rw [hck] at t
  exact t)
 have Hfi2 : ∀ W, Upd w W [] → Hid (Calls Tryz.prog 12 #[c.v, .string (bs [109]), .string (bs [40, 41, 86])] W fun e w' => e = .returned (.int .i64 fd) ∧ Upd W w' []) := fun W u => hid (by
  have t := findR_any c [109] [40, 41, 86] W (hc.upd u).ms hc.lenM hc.capM
  rw [hfd] at t
  exact t)
 have Hpi := fun W (u : Upd w W []) => hid ((parseCls_any l W (by omega) (hm.upd u) (he.upd u) (hg.upd u)).mono fun _ _ h => got_of h)
 have Hpd := fun W => hid ((parseClsR_any l W (by omega)).mono fun _ _ h => got_of h)
 generalize resR l = r at Hpi Hpd
 generalize resL l = ln at Hpi Hpd
 generalize resE l = er at Hpi Hpd
 have hcv : c.v = .agg #[.string (bs c.nm), .string (bs c.sup), .slice c.AI c.ifs.length c.cI, .int .i64 c.fl, .int .i64 c.ld, .slice c.AM c.ms.length c.cM] := rfl
 simp only [hcv] at Hro Hpr2 Hck2 Hfi2 ⊢
 generalize errIf ck = ek at *
 clear hck hpt hfd hm he hg hc hs hl hcv
 have hps : ((bs pt).toList == (bs pt).toList) = true := by simp
 have HB := hid (Blk.new w 25 #[.string (bs c.nm), .string (bs c.sup), .slice c.AI c.ifs.length c.cI, .int .i64 c.fl, .int .i64 c.ld, .slice c.AM c.ms.length c.cM])
 have HU := hid (show Upd w (w.alloc (.cells #[.string (bs c.nm), .string (bs c.sup), .slice c.AI c.ifs.length c.cI, .int .i64 c.fl, .int .i64 c.ld, .slice c.AM c.ms.length c.cM] 25)) [] from (Upd.refl _ _).alloc _)
 go_enter Tryz.func7, Tryz.ntmps7
 go_wp2_with fail
 refine (Haw _ HU.out).out.mono ?_
 rintro e w1 ⟨rfl, hU⟩
 have HB1 := hid (hU.blk HB.out (by simp))
 have HU1 := hid (HU.out.trans hU)
 clear hU HB HU Haw
 have x0 := (HB1.out.cell 0).trans (show _ = some (.string (bs c.nm)) from rfl)
 have x1 := (HB1.out.cell 1).trans (show _ = some (.string (bs c.sup)) from rfl)
 have x2 := (HB1.out.cell 2).trans (show _ = some (.slice c.AI c.ifs.length c.cI) from rfl)
 have x3 := (HB1.out.cell 3).trans (show _ = some (.int .i64 c.fl) from rfl)
 have x4 := (HB1.out.cell 4).trans (show _ = some (.int .i64 c.ld) from rfl)
 have x5 := (HB1.out.cell 5).trans (show _ = some (.slice c.AM c.ms.length c.cM) from rfl)
 have xlt := HB1.out.lt
 go_wp2_with fail
 refine (Hro _ HU1.out).out.mono ?_
 rintro e w2 ⟨rb, d, was, AC, cC, rfl, hR, hU⟩
 have HR2 := hid hR
 have Hdrd := hid hR.drd
 have HB2 := hid (hU.blk HB1.out (by simp))
 have HU2 := hid (HU1.out.trans hU)
 have hdv : d.v = .agg #[.string (bs d.nm), .string (bs d.sup), .slice d.AI d.ifs.length d.cI, .int .i64 d.fl, .int .i64 d.ld, .slice d.AM d.ms.length d.cM] := rfl
 have Hck := fun W => Hck d W Hdrd.out
 have Hpr := fun W => Hpr d W Hdrd.out
 have Hfi := fun W => Hfi d W Hdrd.out
 simp only [hdv] at Hck Hpr Hfi
 clear hR hU HB1 HU1 Hro hdv x0 x1 x2 x3 x4 x5 xlt
 have y0 := (HR2.out.blk.cell 0).trans (show _ = some (.string (bs d.nm)) from rfl)
 have y1 := (HR2.out.blk.cell 1).trans (show _ = some (.string (bs d.sup)) from rfl)
 have y2 := (HR2.out.blk.cell 2).trans (show _ = some (.slice d.AI d.ifs.length d.cI) from rfl)
 have y3 := (HR2.out.blk.cell 3).trans (show _ = some (.int .i64 d.fl) from rfl)
 have y4 := (HR2.out.blk.cell 4).trans (show _ = some (.int .i64 d.ld) from rfl)
 have y5 := (HR2.out.blk.cell 5).trans (show _ = some (.slice d.AM d.ms.length d.cM) from rfl)
 have ylt := HR2.out.blk.lt
 go_wp2_with fail
 refine (Hck _ HR2.out.dfit HU2.out).out.mono ?_
 rintro e w3 ⟨rfl, hU⟩
 have HR3 := hid (HR2.out.upd hU)
 have HB3 := hid (hU.blk HB2.out (by simp))
 have HU3 := hid (HU2.out.trans hU)
 clear hU HR2 HB2 HU2 y0 y1 y2 y3 y4 y5 ylt
 have y0 := (HR3.out.blk.cell 0).trans (show _ = some (.string (bs d.nm)) from rfl)
 have y1 := (HR3.out.blk.cell 1).trans (show _ = some (.string (bs d.sup)) from rfl)
 have y2 := (HR3.out.blk.cell 2).trans (show _ = some (.slice d.AI d.ifs.length d.cI) from rfl)
 have y3 := (HR3.out.blk.cell 3).trans (show _ = some (.int .i64 d.fl) from rfl)
 have y4 := (HR3.out.blk.cell 4).trans (show _ = some (.int .i64 d.ld) from rfl)
 have y5 := (HR3.out.blk.cell 5).trans (show _ = some (.slice d.AM d.ms.length d.cM) from rfl)
 have ylt := HR3.out.blk.lt
 go_wp2_with fail
 refine (Hpr _ HR3.out.dfit HU3.out).out.mono ?_
 rintro e w4 ⟨rfl, hU⟩
 have HR4 := hid (HR3.out.upd hU)
 have HB4 := hid (hU.blk HB3.out (by simp))
 have HU4 := hid (HU3.out.trans hU)
 clear hU HR3 HB3 HU3 y0 y1 y2 y3 y4 y5 ylt
 have y0 := (HR4.out.blk.cell 0).trans (show _ = some (.string (bs d.nm)) from rfl)
 have y1 := (HR4.out.blk.cell 1).trans (show _ = some (.string (bs d.sup)) from rfl)
 have y2 := (HR4.out.blk.cell 2).trans (show _ = some (.slice d.AI d.ifs.length d.cI) from rfl)
 have y3 := (HR4.out.blk.cell 3).trans (show _ = some (.int .i64 d.fl) from rfl)
 have y4 := (HR4.out.blk.cell 4).trans (show _ = some (.int .i64 d.ld) from rfl)
 have y5 := (HR4.out.blk.cell 5).trans (show _ = some (.slice d.AM d.ms.length d.cM) from rfl)
 have ylt := HR4.out.blk.lt
 go_wp2_with fail
 refine (Hfi _ HR4.out.dfit).out.mono ?_
 rintro e w5 ⟨rfl, hU⟩
 have HR5 := hid (HR4.out.upd hU)
 have HB5 := hid (hU.blk HB4.out (by simp))
 have HU5 := hid (HU4.out.trans hU)
 clear hU HR4 HB4 HU4 y0 y1 y2 y3 y4 y5 ylt
 have x0 := (HB5.out.cell 0).trans (show _ = some (.string (bs c.nm)) from rfl)
 have x1 := (HB5.out.cell 1).trans (show _ = some (.string (bs c.sup)) from rfl)
 have x2 := (HB5.out.cell 2).trans (show _ = some (.slice c.AI c.ifs.length c.cI) from rfl)
 have x3 := (HB5.out.cell 3).trans (show _ = some (.int .i64 c.fl) from rfl)
 have x4 := (HB5.out.cell 4).trans (show _ = some (.int .i64 c.ld) from rfl)
 have x5 := (HB5.out.cell 5).trans (show _ = some (.slice c.AM c.ms.length c.cM) from rfl)
 have xlt := HB5.out.lt
 have ylt := HR5.out.blk.lt
 go_wp2_with fail
 refine (Hpr2 _ HU5.out).out.mono ?_
 rintro e w6 ⟨rfl, hU⟩
 have HR6 := hid (HR5.out.upd hU)
 have HB6 := hid (hU.blk HB5.out (by simp))
 have HU6 := hid (HU5.out.trans hU)
 clear hU HR5 HB5 HU5 x0 x1 x2 x3 x4 x5 xlt ylt
 have x0 := (HB6.out.cell 0).trans (show _ = some (.string (bs c.nm)) from rfl)
 have x1 := (HB6.out.cell 1).trans (show _ = some (.string (bs c.sup)) from rfl)
 have x2 := (HB6.out.cell 2).trans (show _ = some (.slice c.AI c.ifs.length c.cI) from rfl)
 have x3 := (HB6.out.cell 3).trans (show _ = some (.int .i64 c.fl) from rfl)
 have x4 := (HB6.out.cell 4).trans (show _ = some (.int .i64 c.ld) from rfl)
 have x5 := (HB6.out.cell 5).trans (show _ = some (.slice c.AM c.ms.length c.cM) from rfl)
 have xlt := HB6.out.lt
 have ylt := HR6.out.blk.lt
 go_wp2_with fail
 refine (Hck2 _ HU6.out).out.mono ?_
 rintro e w7 ⟨rfl, hU⟩
 have HR7 := hid (HR6.out.upd hU)
 have HB7 := hid (hU.blk HB6.out (by simp))
 have HU7 := hid (HU6.out.trans hU)
 clear hU HR6 HB6 HU6 x0 x1 x2 x3 x4 x5 xlt ylt
 have x0 := (HB7.out.cell 0).trans (show _ = some (.string (bs c.nm)) from rfl)
 have x1 := (HB7.out.cell 1).trans (show _ = some (.string (bs c.sup)) from rfl)
 have x2 := (HB7.out.cell 2).trans (show _ = some (.slice c.AI c.ifs.length c.cI) from rfl)
 have x3 := (HB7.out.cell 3).trans (show _ = some (.int .i64 c.fl) from rfl)
 have x4 := (HB7.out.cell 4).trans (show _ = some (.int .i64 c.ld) from rfl)
 have x5 := (HB7.out.cell 5).trans (show _ = some (.slice c.AM c.ms.length c.cM) from rfl)
 have xlt := HB7.out.lt
 have ylt := HR7.out.blk.lt
 go_wp2_with fail
 refine (Hfi2 _ HU7.out).out.mono ?_
 rintro e w8 ⟨rfl, hU⟩
 have HR8 := hid (HR7.out.upd hU)
 have HB8 := hid (hU.blk HB7.out (by simp))
 have HU8 := hid (HU7.out.trans hU)
 clear hU HR7 HB7 HU7 x0 x1 x2 x3 x4 x5 xlt ylt
 go_wp2_with fail
 refine (kept_any rb c d was AC cC _ HR8.out).mono ?_
 rintro e w9 ⟨rfl, hU⟩
 have HU9 := hid (HU8.out.trans hU)
 clear hU HR8 HB8 HU8 Hck Hpr Hfi Hpr2 Hck2 Hfi2 Hdrd
 go_wp2_with fail
 refine (Hpi _ HU9.out).out.mono ?_
 rintro e w10 ⟨A1, c1, A2, c2, cs, rfl, hG, hU⟩
 have HF := hid (fun b hb => (⟨Nat.le_trans (HU9.out.size) (ownF_ge hG.lists b hb), ownF_lt hG.lists b hb⟩ : w.heap.size ≤ b ∧ b < w10.heap.size))
 have HGx := hid (hG.upd ((Upd.refl w10 []).alloc (.cells #[.string (bs r.nm), .string (bs r.sup), .slice A1 r.ifs.length c1, .int .i64 r.fl, .int .i64 r.ld, .slice A2 r.ms.length c2] 25)))
 have HX := hid (Blk.new w10 25 #[.string (bs r.nm), .string (bs r.sup), .slice A1 r.ifs.length c1, .int .i64 r.fl, .int .i64 r.ld, .slice A2 r.ms.length c2])
 have HUx := hid ((HU9.out.trans hU).alloc (.cells #[.string (bs r.nm), .string (bs r.sup), .slice A1 r.ifs.length c1, .int .i64 r.fl, .int .i64 r.ld, .slice A2 r.ms.length c2] 25))
 have hzx : ((w10).alloc (.cells #[.string (bs r.nm), .string (bs r.sup), .slice A1 r.ifs.length c1, .int .i64 r.fl, .int .i64 r.ld, .slice A2 r.ms.length c2] 25)).heap.size = w10.heap.size + 1 := by simp
 have hz10 : w.heap.size ≤ w10.heap.size := (HU9.out.trans hU).size
 clear hG hU HU9
 go_wp2_with fail
 refine (Hpi _ HUx.out).out.mono ?_
 rintro e w11 ⟨B1, d1, B2, d2, ds, rfl, hG, hU⟩
 rw [hzx] at hG
 have HGy := hid (hG.upd ((Upd.refl w11 []).alloc (.cells #[.string (bs r.nm), .string (bs r.sup), .slice B1 r.ifs.length d1, .int .i64 r.fl, .int .i64 r.ld, .slice B2 r.ms.length d2] 25)))
 have hua := hU.alloc (.cells #[.string (bs r.nm), .string (bs r.sup), .slice B1 r.ifs.length d1, .int .i64 r.fl, .int .i64 r.ld, .slice B2 r.ms.length d2] 25)
 have HGx := hid (HGx.out.upd hua)
 have HX := hid (hua.blk HX.out (by simp))
 have HY := hid (Blk.new w11 25 #[.string (bs r.nm), .string (bs r.sup), .slice B1 r.ifs.length d1, .int .i64 r.fl, .int .i64 r.ld, .slice B2 r.ms.length d2])
 have HUy := hid (HUx.out.trans hua)
 have hzy : ((w11).alloc (.cells #[.string (bs r.nm), .string (bs r.sup), .slice B1 r.ifs.length d1, .int .i64 r.fl, .int .i64 r.ld, .slice B2 r.ms.length d2] 25)).heap.size = w11.heap.size + 1 := by simp
 have hz11 : w10.heap.size + 1 ≤ w11.heap.size := by have := hU.size; omega
 clear hG hU HUx hua hzx
 go_wp2_with fail
 refine (Hpd _).out.mono ?_
 rintro e w12 ⟨C1, e1, C2, e2, es, rfl, hG, hU⟩
 rw [hzy] at hG
 have HGz := hid (hG.upd ((Upd.refl w12 []).alloc (.cells #[.string (bs r.nm), .string (bs r.sup), .slice C1 r.ifs.length e1, .int .i64 r.fl, .int .i64 r.ld, .slice C2 r.ms.length e2] 25)))
 have hua := hU.alloc (.cells #[.string (bs r.nm), .string (bs r.sup), .slice C1 r.ifs.length e1, .int .i64 r.fl, .int .i64 r.ld, .slice C2 r.ms.length e2] 25)
 have HGx := hid (HGx.out.upd hua)
 have HGy := hid (HGy.out.upd hua)
 have HX := hid (hua.blk HX.out (by simp))
 have HY := hid (hua.blk HY.out (by simp))
 have HZ := hid (Blk.new w12 25 #[.string (bs r.nm), .string (bs r.sup), .slice C1 r.ifs.length e1, .int .i64 r.fl, .int .i64 r.ld, .slice C2 r.ms.length e2])
 have HUz := hid (HUy.out.trans hua)
 have hz12 : w11.heap.size + 1 ≤ w12.heap.size := by have := hU.size; omega
 clear hG hU HUy hua hzy Hpd
 have x0 := (HX.out.cell 0).trans (show _ = some (.string (bs r.nm)) from rfl)
 have x1 := (HX.out.cell 1).trans (show _ = some (.string (bs r.sup)) from rfl)
 have x2 := (HX.out.cell 2).trans (show _ = some (.slice A1 r.ifs.length c1) from rfl)
 have x3 := (HX.out.cell 3).trans (show _ = some (.int .i64 r.fl) from rfl)
 have x4 := (HX.out.cell 4).trans (show _ = some (.int .i64 r.ld) from rfl)
 have x5 := (HX.out.cell 5).trans (show _ = some (.slice A2 r.ms.length c2) from rfl)
 have xlt := HX.out.lt
 have y0 := (HY.out.cell 0).trans (show _ = some (.string (bs r.nm)) from rfl)
 have y1 := (HY.out.cell 1).trans (show _ = some (.string (bs r.sup)) from rfl)
 have y2 := (HY.out.cell 2).trans (show _ = some (.slice B1 r.ifs.length d1) from rfl)
 have y3 := (HY.out.cell 3).trans (show _ = some (.int .i64 r.fl) from rfl)
 have y4 := (HY.out.cell 4).trans (show _ = some (.int .i64 r.ld) from rfl)
 have y5 := (HY.out.cell 5).trans (show _ = some (.slice B2 r.ms.length d2) from rfl)
 have ylt := HY.out.lt
 have z0 := (HZ.out.cell 0).trans (show _ = some (.string (bs r.nm)) from rfl)
 have z1 := (HZ.out.cell 1).trans (show _ = some (.string (bs r.sup)) from rfl)
 have z2 := (HZ.out.cell 2).trans (show _ = some (.slice C1 r.ifs.length e1) from rfl)
 have z3 := (HZ.out.cell 3).trans (show _ = some (.int .i64 r.fl) from rfl)
 have z4 := (HZ.out.cell 4).trans (show _ = some (.int .i64 r.ld) from rfl)
 have z5 := (HZ.out.cell 5).trans (show _ = some (.slice C2 r.ms.length e2) from rfl)
 have zlt := HZ.out.lt
 go_wp2_with fail
 refine (got_same HGx.out HGz.out).mono ?_
 rintro e w13 ⟨rfl, hU⟩
 have HGx := hid (HGx.out.upd hU)
 have HGy := hid (HGy.out.upd hU)
 have HGz := hid (HGz.out.upd hU)
 have HX := hid (hU.blk HX.out (by simp))
 have HY := hid (hU.blk HY.out (by simp))
 have HZ := hid (hU.blk HZ.out (by simp))
 have HUz := hid (HUz.out.trans hU)
 clear hU x0 x1 x2 x3 x4 x5 y0 y1 y2 y3 y4 y5 z0 z1 z2 z3 z4 z5 xlt ylt zlt
 have x0 := (HX.out.cell 0).trans (show _ = some (.string (bs r.nm)) from rfl)
 have x1 := (HX.out.cell 1).trans (show _ = some (.string (bs r.sup)) from rfl)
 have x2 := (HX.out.cell 2).trans (show _ = some (.slice A1 r.ifs.length c1) from rfl)
 have x3 := (HX.out.cell 3).trans (show _ = some (.int .i64 r.fl) from rfl)
 have x4 := (HX.out.cell 4).trans (show _ = some (.int .i64 r.ld) from rfl)
 have x5 := (HX.out.cell 5).trans (show _ = some (.slice A2 r.ms.length c2) from rfl)
 have xlt := HX.out.lt
 have y0 := (HY.out.cell 0).trans (show _ = some (.string (bs r.nm)) from rfl)
 have y1 := (HY.out.cell 1).trans (show _ = some (.string (bs r.sup)) from rfl)
 have y2 := (HY.out.cell 2).trans (show _ = some (.slice B1 r.ifs.length d1) from rfl)
 have y3 := (HY.out.cell 3).trans (show _ = some (.int .i64 r.fl) from rfl)
 have y4 := (HY.out.cell 4).trans (show _ = some (.int .i64 r.ld) from rfl)
 have y5 := (HY.out.cell 5).trans (show _ = some (.slice B2 r.ms.length d2) from rfl)
 have ylt := HY.out.lt
 have z0 := (HZ.out.cell 0).trans (show _ = some (.string (bs r.nm)) from rfl)
 have z1 := (HZ.out.cell 1).trans (show _ = some (.string (bs r.sup)) from rfl)
 have z2 := (HZ.out.cell 2).trans (show _ = some (.slice C1 r.ifs.length e1) from rfl)
 have z3 := (HZ.out.cell 3).trans (show _ = some (.int .i64 r.fl) from rfl)
 have z4 := (HZ.out.cell 4).trans (show _ = some (.int .i64 r.ld) from rfl)
 have z5 := (HZ.out.cell 5).trans (show _ = some (.slice C2 r.ms.length e2) from rfl)
 have zlt := HZ.out.lt
 go_wp2_with fail
 refine (got_same HGy.out HGz.out).mono ?_
 rintro e w14 ⟨rfl, hU⟩
 have HGx := hid (HGx.out.upd hU)
 have HGy := hid (HGy.out.upd hU)
 have HGz := hid (HGz.out.upd hU)
 have HX := hid (hU.blk HX.out (by simp))
 have HY := hid (hU.blk HY.out (by simp))
 have HZ := hid (hU.blk HZ.out (by simp))
 have HUz := hid (HUz.out.trans hU)
 clear hU x0 x1 x2 x3 x4 x5 y0 y1 y2 y3 y4 y5 z0 z1 z2 z3 z4 z5 xlt ylt zlt
 have x0 := (HX.out.cell 0).trans (show _ = some (.string (bs r.nm)) from rfl)
 have x1 := (HX.out.cell 1).trans (show _ = some (.string (bs r.sup)) from rfl)
 have x2 := (HX.out.cell 2).trans (show _ = some (.slice A1 r.ifs.length c1) from rfl)
 have x3 := (HX.out.cell 3).trans (show _ = some (.int .i64 r.fl) from rfl)
 have x4 := (HX.out.cell 4).trans (show _ = some (.int .i64 r.ld) from rfl)
 have x5 := (HX.out.cell 5).trans (show _ = some (.slice A2 r.ms.length c2) from rfl)
 have xlt := HX.out.lt
 have y0 := (HY.out.cell 0).trans (show _ = some (.string (bs r.nm)) from rfl)
 have y1 := (HY.out.cell 1).trans (show _ = some (.string (bs r.sup)) from rfl)
 have y2 := (HY.out.cell 2).trans (show _ = some (.slice B1 r.ifs.length d1) from rfl)
 have y3 := (HY.out.cell 3).trans (show _ = some (.int .i64 r.fl) from rfl)
 have y4 := (HY.out.cell 4).trans (show _ = some (.int .i64 r.ld) from rfl)
 have y5 := (HY.out.cell 5).trans (show _ = some (.slice B2 r.ms.length d2) from rfl)
 have ylt := HY.out.lt
 have z0 := (HZ.out.cell 0).trans (show _ = some (.string (bs r.nm)) from rfl)
 have z1 := (HZ.out.cell 1).trans (show _ = some (.string (bs r.sup)) from rfl)
 have z2 := (HZ.out.cell 2).trans (show _ = some (.slice C1 r.ifs.length e1) from rfl)
 have z3 := (HZ.out.cell 3).trans (show _ = some (.int .i64 r.fl) from rfl)
 have z4 := (HZ.out.cell 4).trans (show _ = some (.int .i64 r.ld) from rfl)
 have z5 := (HZ.out.cell 5).trans (show _ = some (.slice C2 r.ms.length e2) from rfl)
 have zlt := HZ.out.lt
 go_wp2_with fail
 refine (got_spoil HGx.out).mono ?_
 rintro e w15 ⟨rfl, hU⟩
 have HGy := hid (HGy.out.updF hU (n1 := w10.heap.size) (fun b hb => (HF.out b hb).2) (by omega))
 have HGz := hid (HGz.out.updF hU (n1 := w10.heap.size) (fun b hb => (HF.out b hb).2) (by omega))
 have HY := hid (hU.blk HY.out (fun hb => by have := (HF.out _ hb).2; omega))
 have HZ := hid (hU.blk HZ.out (fun hb => by have := (HF.out _ hb).2; omega))
 have HUz := hid (HUz.out.newer hU (fun b hb => .inr (HF.out b hb).1))
 clear hU HGx HX HF x0 x1 x2 x3 x4 x5 y0 y1 y2 y3 y4 y5 z0 z1 z2 z3 z4 z5 xlt ylt zlt
 have y0 := (HY.out.cell 0).trans (show _ = some (.string (bs r.nm)) from rfl)
 have y1 := (HY.out.cell 1).trans (show _ = some (.string (bs r.sup)) from rfl)
 have y2 := (HY.out.cell 2).trans (show _ = some (.slice B1 r.ifs.length d1) from rfl)
 have y3 := (HY.out.cell 3).trans (show _ = some (.int .i64 r.fl) from rfl)
 have y4 := (HY.out.cell 4).trans (show _ = some (.int .i64 r.ld) from rfl)
 have y5 := (HY.out.cell 5).trans (show _ = some (.slice B2 r.ms.length d2) from rfl)
 have ylt := HY.out.lt
 have z0 := (HZ.out.cell 0).trans (show _ = some (.string (bs r.nm)) from rfl)
 have z1 := (HZ.out.cell 1).trans (show _ = some (.string (bs r.sup)) from rfl)
 have z2 := (HZ.out.cell 2).trans (show _ = some (.slice C1 r.ifs.length e1) from rfl)
 have z3 := (HZ.out.cell 3).trans (show _ = some (.int .i64 r.fl) from rfl)
 have z4 := (HZ.out.cell 4).trans (show _ = some (.int .i64 r.ld) from rfl)
 have z5 := (HZ.out.cell 5).trans (show _ = some (.slice C2 r.ms.length e2) from rfl)
 have zlt := HZ.out.lt
 go_wp2_with fail
 refine (got_same HGy.out HGz.out).mono ?_
 rintro e w16 ⟨rfl, hU⟩
 have HGz := hid (HGz.out.upd hU)
 have HZ := hid (hU.blk HZ.out (by simp))
 have HUz := hid (HUz.out.trans hU)
 clear hU HGy HY y0 y1 y2 y3 y4 y5 z0 z1 z2 z3 z4 z5 ylt zlt
 have z0 := (HZ.out.cell 0).trans (show _ = some (.string (bs r.nm)) from rfl)
 have z1 := (HZ.out.cell 1).trans (show _ = some (.string (bs r.sup)) from rfl)
 have z2 := (HZ.out.cell 2).trans (show _ = some (.slice C1 r.ifs.length e1) from rfl)
 have z3 := (HZ.out.cell 3).trans (show _ = some (.int .i64 r.fl) from rfl)
 have z4 := (HZ.out.cell 4).trans (show _ = some (.int .i64 r.ld) from rfl)
 have z5 := (HZ.out.cell 5).trans (show _ = some (.slice C2 r.ms.length e2) from rfl)
 have zlt := HZ.out.lt
 go_wp2_with fail
 refine (Hpi _ HUz.out).out.mono ?_
 rintro e w17 ⟨D1, g1, D2, g2, fs, rfl, hG, hU⟩
 have HGw := hid (hG.upd ((Upd.refl w17 []).alloc (.cells #[.string (bs r.nm), .string (bs r.sup), .slice D1 r.ifs.length g1, .int .i64 r.fl, .int .i64 r.ld, .slice D2 r.ms.length g2] 25)))
 have hua := hU.alloc (.cells #[.string (bs r.nm), .string (bs r.sup), .slice D1 r.ifs.length g1, .int .i64 r.fl, .int .i64 r.ld, .slice D2 r.ms.length g2] 25)
 have HGz := hid (HGz.out.upd hua)
 have HZ := hid (hua.blk HZ.out (by simp))
 have HW := hid (Blk.new w17 25 #[.string (bs r.nm), .string (bs r.sup), .slice D1 r.ifs.length g1, .int .i64 r.fl, .int .i64 r.ld, .slice D2 r.ms.length g2])
 have HUw := hid (HUz.out.trans hua)
 have hz17 : w12.heap.size < w17.heap.size := Nat.lt_of_lt_of_le zlt hU.size
 clear hG hU HUz hua z0 z1 z2 z3 z4 z5 zlt
 have z0 := (HZ.out.cell 0).trans (show _ = some (.string (bs r.nm)) from rfl)
 have z1 := (HZ.out.cell 1).trans (show _ = some (.string (bs r.sup)) from rfl)
 have z2 := (HZ.out.cell 2).trans (show _ = some (.slice C1 r.ifs.length e1) from rfl)
 have z3 := (HZ.out.cell 3).trans (show _ = some (.int .i64 r.fl) from rfl)
 have z4 := (HZ.out.cell 4).trans (show _ = some (.int .i64 r.ld) from rfl)
 have z5 := (HZ.out.cell 5).trans (show _ = some (.slice C2 r.ms.length e2) from rfl)
 have zlt := HZ.out.lt
 have v0 := (HW.out.cell 0).trans (show _ = some (.string (bs r.nm)) from rfl)
 have v1 := (HW.out.cell 1).trans (show _ = some (.string (bs r.sup)) from rfl)
 have v2 := (HW.out.cell 2).trans (show _ = some (.slice D1 r.ifs.length g1) from rfl)
 have v3 := (HW.out.cell 3).trans (show _ = some (.int .i64 r.fl) from rfl)
 have v4 := (HW.out.cell 4).trans (show _ = some (.int .i64 r.ld) from rfl)
 have v5 := (HW.out.cell 5).trans (show _ = some (.slice D2 r.ms.length g2) from rfl)
 have vlt := HW.out.lt
 go_wp2_with fail
 refine (got_same HGw.out HGz.out).mono ?_
 rintro e w18 ⟨rfl, hU⟩
 have HUe := hid (HUw.out.trans hU)
 clear hU
 go_wp2
 go_ret
 exact ⟨rfl, HUe.out⟩
end Go.Proofs.YtjjdlgjofjfgmaaGreatDoor
