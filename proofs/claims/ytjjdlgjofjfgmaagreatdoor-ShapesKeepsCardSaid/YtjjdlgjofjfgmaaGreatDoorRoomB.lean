/-
 The document's Roomy, walked. (Printed by gen_roomB.py.)
-/
import Derived.Test.YtjjdlgjofjfgmaaGreatDoorRoomA
import Derived.Test.YtjjdlgjofjfgmaaGreatDoorCopyB
import Derived.OwnWalk
set_option linter.unusedSimpArgs false
set_option linter.unusedVariables false
namespace Go.Proofs.YtjjdlgjofjfgmaaGreatDoor
open Go.RowKit Go.Sort
theorem infoSl : (Tryz.prog.info? 32).map (fun i => (i.zero, i.size, i.bytes)) = some (some (.slice none 0 0), 1, 24) := by kernel_rfl
theorem blk_src {w : World} {g : Nat} {t : TypeId} {cs : Array Value} (h : Blk w g t cs) (news : List Value) (hn : news = cs.toList) : news ≠ [] → ∃ ad, (some ⟨g, 0, none⟩ : Option Addr) = some ad ∧ ∀ j u, news[j]? = some u → w.cell? (ad.add j) = some u := by
 subst hn
 intro _
 refine ⟨_, rfl, fun j u hu => ?_⟩
 rw [Addr.add_mid, Nat.zero_add, h.cell, ← Array.getElem?_toList]
 exact hu
set_option maxHeartbeats 8000000 in
set_option maxRecDepth 100000 in
theorem roomy_any (c : ClassL) (w : World) (hc : c.fit w) (hs : c.small) :
  Calls Tryz.prog 27 #[c.v] w fun e w' => ∃ (rb : Nat) (d was : ClassL) (AC : Option Addr) (cC : Nat), e = .returned (.pointer (some ⟨rb, 0, none⟩)) ∧ RoomAt w' rb c d was AC cC ∧ Upd w w' [] := by
 have hcp := fun W (u : Upd w W []) => hid (copyR_any c W (hc.upd u) hs)
 obtain ⟨hs1, hs2, hs3⟩ := hs
 obtain ⟨nm', sup', AI, cI, ifs', fl', ld', AM, cM, ms⟩ := c
 have HC := hid hc
 simp only at hs1 hs2 hs3
 have Hs3 := hid hs3
 have hcI := hc.capI
 have hcM := hc.capM
 simp only at hcI hcM
 have hcv : (ClassL.mk nm' sup' AI cI ifs' fl' ld' AM cM ms).v = .agg #[.string (bs nm'), .string (bs sup'), .slice AI ifs'.length cI, .int .i64 fl', .int .i64 ld', .slice AM ms.length cM] := rfl
 simp only [hcv] at hcp ⊢
 clear hc hs3 hcv
 have HB := hid (Blk.new w 25 #[.string (bs nm'), .string (bs sup'), .slice AI ifs'.length cI, .int .i64 fl', .int .i64 ld', .slice AM ms.length cM])
 have HU := hid (show Upd w (w.alloc (.cells #[.string (bs nm'), .string (bs sup'), .slice AI ifs'.length cI, .int .i64 fl', .int .i64 ld', .slice AM ms.length cM] 25)) [] from (Upd.refl _ _).alloc _)
 go_enter Tryz.func27, Tryz.ntmps27
 go_wp2_with fail
 refine (hcp _ HU.out).out.mono ?_
 rintro e w1 ⟨⟨nm, sup, BI, dI, ifs, fl, ld, BM, dM, ms'⟩, rfl, hwf, hwr, hU⟩
 obtain ⟨q1, q2, q3, q4, q5, q6⟩ := rd_parts hwr
 simp only at q1 q2 q3 q4 q5 q6
 subst q1 q2 q3 q4 q5
 have hml : ms'.length = ms.length := by have := congrArg List.length q6; simpa using this
 have Hml := hid hml
 clear hml
 have Hwr := hid hwr
 have Hwf := hid hwf
 have HB1 := hid (hU.blk HB.out (by simp))
 have HU1 := hid (HU.out.trans hU)
 clear q6 hwr hwf hU HB HU hcp
 have hcv : (ClassL.mk nm sup BI dI ifs fl ld BM dM ms').v = .agg #[.string (bs nm), .string (bs sup), .slice BI ifs.length dI, .int .i64 fl, .int .i64 ld, .slice BM ms'.length dM] := rfl
 simp only [hcv]
 clear hcv
 have HR0 := hid (Blk.new w1 57 #[.string ⟨#[]⟩, .string ⟨#[]⟩, .slice none 0 0, .int .i64 0, .int .i64 0, .slice none 0 0, .slice none 0 0, .slice none 0 0, .slice none 0 0, .string (bs nm), .string (bs sup), .slice BI ifs.length dI, .int .i64 fl, .int .i64 ld, .slice BM ms'.length dM])
 have HB2 := hid (HB1.out.alloc (.cells #[.string ⟨#[]⟩, .string ⟨#[]⟩, .slice none 0 0, .int .i64 0, .int .i64 0, .slice none 0 0, .slice none 0 0, .slice none 0 0, .slice none 0 0, .string (bs nm), .string (bs sup), .slice BI ifs.length dI, .int .i64 fl, .int .i64 ld, .slice BM ms'.length dM] 57))
 have x0 := (HB1.out.cell 0).trans (show _ = some (.string (bs nm)) from rfl)
 have x1 := (HB1.out.cell 1).trans (show _ = some (.string (bs sup)) from rfl)
 have x2 := (HB1.out.cell 2).trans (show _ = some (.slice AI ifs.length cI) from rfl)
 have x3 := (HB1.out.cell 3).trans (show _ = some (.int .i64 fl) from rfl)
 have x4 := (HB1.out.cell 4).trans (show _ = some (.int .i64 ld) from rfl)
 have x5 := (HB1.out.cell 5).trans (show _ = some (.slice AM ms.length cM) from rfl)
 have hl1 := HB1.out.lt
 go_upto_region 3 with (fail)
 have hR := Blk.new w1 57 #[.string (bs nm), .string (bs sup), .slice AI ifs.length cI, .int .i64 fl, .int .i64 ld, .slice AM ms.length cM, .slice none 0 0, .slice none 0 0, .slice none 0 0, .string (bs nm), .string (bs sup), .slice BI ifs.length dI, .int .i64 fl, .int .i64 ld, .slice BM ms'.length dM]
 have hB3 := HB1.out.alloc (.cells #[.string (bs nm), .string (bs sup), .slice AI ifs.length cI, .int .i64 fl, .int .i64 ld, .slice AM ms.length cM, .slice none 0 0, .slice none 0 0, .slice none 0 0, .string (bs nm), .string (bs sup), .slice BI ifs.length dI, .int .i64 fl, .int .i64 ld, .slice BM ms'.length dM] 57)
 have hU3 := (Upd.refl w1 []).alloc (.cells #[.string (bs nm), .string (bs sup), .slice AI ifs.length cI, .int .i64 fl, .int .i64 ld, .slice AM ms.length cM, .slice none 0 0, .slice none 0 0, .slice none 0 0, .string (bs nm), .string (bs sup), .slice BI ifs.length dI, .int .i64 fl, .int .i64 ld, .slice BM ms'.length dM] 57)
 clear x0 x1 x2 x3 x4 x5 HB1 HB2 HR0
 revert hR hB3 hU3
 generalize w1.alloc (.cells #[.string (bs nm), .string (bs sup), .slice AI ifs.length cI, .int .i64 fl, .int .i64 ld, .slice AM ms.length cM, .slice none 0 0, .slice none 0 0, .slice none 0 0, .string (bs nm), .string (bs sup), .slice BI ifs.length dI, .int .i64 fl, .int .i64 ld, .slice BM ms'.length dM] 57) = wb
 intro hR hB3 hU3
 have HR := hid (show Blk wb w1.heap.size 57 (roomCells (ClassL.mk nm sup AI cI ifs fl ld AM cM ms) (ClassL.mk nm sup BI dI ifs fl ld BM dM ms') (.slice none 0 0) (.slice none 0 0) (.slice none 0 0)) from hR)
 have HB3 := hid hB3
 have HU3 := hid hU3
 have hlr := HR.out.lt
 have hl3 := HB3.out.lt
 have x2 := (HB3.out.cell 2).trans (show _ = some (.slice AI ifs.length cI) from rfl)
 clear hR hB3 hU3
 obtain ⟨i0, hi0, hz0, hz1, hz2⟩ := info_parts infoString
 obtain ⟨im, hm0, hm1, hm2, hm3⟩ := info_parts infoMeth
 obtain ⟨ii, hn0, hn1, hn2, hn3⟩ := info_parts infoInst7
 obtain ⟨is, hs0, hsz1, hsz2, hsz3⟩ := info_parts infoSl
 have HE := hid (World.ownsRow_lit (e := 9) (size := 1) (base := wb.heap.size) wb #[] 0 (Nat.le_refl _) (by unfold maxLen; omega) rfl)
 have HSrc := hid ((((HC.out.ifs.upd HU1.out).upd HU3.out).upd ((Upd.refl wb []).alloc (.cells #[] 9))).src)
 go_upto_region 4 with (at_builtin; first
  | (refine wpList_append_all _ rfl (.tmp 16) (.tmp 18) 22 rfl 9 i0 _ 1 16 Tryz.underlying22 hi0 hz0 hz1 hz2 rfl (by decide) wb.heap.size (.slice (some ⟨wb.heap.size, 0, none⟩) 0 0) 0 [] rfl (by exact HE.out) AI ifs.length cI (ifs.map strV) rfl (by simp) (by exact HSrc.out) (by exact strs_one _) (by unfold maxLen; omega) (by omega) (by simp) ?_; go_loud (intro A1 cap1 w2 hown2 hg2; rw [Nat.zero_add, List.nil_append] at hown2; have HU4 := hid (((Upd.refl wb []).alloc _).grown hg2 (fun k hk => .inr (by simp [Value.ownBlock] at hk; omega))); have HO2 := hid hown2; have HG2 := hid hg2; clear hown2 hg2; have hl2 : wb.heap.size ≤ w2.heap.size := HU4.out.size; have HBm := hid (Blk.new w2 9 #[.string ⟨#[35, 55, 49]⟩, .string ⟨#[35, 55, 50]⟩])))
  | (refine wpList_append_all _ rfl (.tmp 19) (.tmp 20) 22 rfl 9 i0 _ 1 16 Tryz.underlying22 hi0 hz0 hz1 hz2 rfl (by decide) wb.heap.size (.slice A1 ifs.length cap1) ifs.length (ifs.map strV) rfl (by exact ((Upd.refl w2 []).alloc _).own HO2.out (fun _ _ => by simp)) (some ⟨w2.heap.size, 0, none⟩) 2 2 [strV m71, strV m72] rfl rfl (by exact blk_src HBm.out _ rfl) (by decide) (by unfold maxLen; omega) (by omega) (by simp; omega) ?_; go_loud (intro A2 cap2 w3 hown3 hg3; have HU5 := hid ((HU4.out.alloc _).grown hg3 (fun k hk => .inr (HO2.out.lt k hk).1)); have HO3 := hid hown3; clear hown3 hg3; have hl3' : wb.heap.size ≤ w3.heap.size := HU5.out.size; have HR3 := hid (HU5.out.blk HR.out (by simp)); have HB5 := hid (HU5.out.blk HB3.out (by simp)); have c6 := (HR3.out.cell 6).trans (show _ = some (.slice none 0 0) from rfl); have f6 := HR3.out.frozen 6)))
 have hR6 := HR3.out.set_ 6 (.slice A2 (ifs.length + 2) cap2)
 have hB6 := HB5.out.far (p := ⟨w1.heap.size, 6, none⟩) (by show w.heap.size ≠ w1.heap.size; omega) (.slice A2 (ifs.length + 2) cap2)
 have hO6 := ownsRow_setCell_other HO3.out (own_blk_ne HO3.out HR3.out (by decide)) (a := ⟨w1.heap.size, 6, none⟩) (.slice A2 (ifs.length + 2) cap2)
 have hU6 := (HU3.out.trans HU5.out).setCell (p := ⟨w1.heap.size, 6, none⟩) (.inr (Nat.le_refl _)) (.slice A2 (ifs.length + 2) cap2)
 clear HR3 HB5 HO3 HU4 HU5 HO2 HG2 HBm HE HSrc HU3 HB3 HR c6 f6 hl2 hl3' hl3 hlr x2
 revert hR6 hB6 hO6 hU6
 generalize w3.setCell ⟨w1.heap.size, 6, none⟩ (.slice A2 (ifs.length + 2) cap2) = wL
 generalize wb.heap.size = bI at *
 intro hR6 hB6 hO6 hU6
 have HRL : Hid (RoS wL wL.heap.size w1.heap.size (ClassL.mk nm sup AI cI ifs fl ld AM cM ms) (ClassL.mk nm sup BI dI ifs fl ld BM dM ms') (.slice A2 (ifs.length + 2) cap2) none 0 none 0 [] [] []) := hid ⟨hR6, World.ownsRow_nil _ _ _ _, World.ownsRow_nil _ _ _ _, (fun m hm => by cases hm)⟩
 have HBL := hid hB6
 have HOL := hid hO6
 have HUL := hid hU6
 have hrL := hR6.lt
 have hoL : Hid (∀ k, k ∈ Value.ob (.slice A2 (ifs.length + 2) cap2) → k ∉ [w1.heap.size]) := hid (fun k hk hm => by
  simp only [List.mem_singleton] at hm
  subst hm
  exact own_blk_ne hO6 hR6 (by decide) (mem_ob.1 hk))
 clear hR6 hB6 hO6 hU6
 go_wp2
 go_loopw [4] (fun t wr => ∃ (k : Nat) (ls : List MethL) (MX : Option Addr) (mx : Nat) (CX : Option Addr) (cx : Nat), t = .int .i64 k ∧ k ≤ ms.length ∧ Hid (RoS wr wL.heap.size w1.heap.size (ClassL.mk nm sup AI cI ifs fl ld AM cM ms) (ClassL.mk nm sup BI dI ifs fl ld BM dM ms') (.slice A2 (ifs.length + 2) cap2) MX mx CX cx ls ls ls) ∧ Hid (Alike ls ms k) ∧ Hid (Upd wL wr [w1.heap.size])) (fun t _ => ms.length - (intOf t).toNat)
 case atStart => exact ⟨0, [], none, 0, none, 0, rfl, Nat.zero_le _, HRL, hid (Alike.nil ms), hid (Upd.refl _ _)⟩
 case round =>
  obtain ⟨k, ls, MX, mx, CX, cx, rfl, hk, HR, HA, HU⟩ := hrel
  have HBr := hid (HU.out.blk HBL.out (by simp; omega))
  have x5 := (HBr.out.cell 5).trans (show _ = some (.slice AM ms.length cM) from rfl)
  have hlx := HBr.out.lt
  have hrr := HR.out.blk.lt
  have hll : ls.length ≤ k := Nat.le_of_eq HA.out.len
  have hLr := HU.out.size
  have HUw : Hid (Upd w1 wr []) := hid (by
   have h1 := HUL.out
   have h2 := HU.out
   exact ⟨h2.os.trans h1.os, h2.tape.trans h1.tape, h2.output.trans h1.output, Nat.le_trans h1.size h2.size, fun b hb _ => (h2.block b (Nat.lt_of_lt_of_le hb h1.size) (by simp; omega)).trans (h1.block b hb (by simp))⟩)
  by_cases hlt : k < ms.length
  ·have hUw := HU1.out.trans HUw.out
   obtain ⟨bk, off, hA, hbk, hcm⟩ := HC.out.ms (by rintro e; simp only at e; rw [e] at hlt; simp at hlt)
   simp only at hA hcm
   subst hA
   obtain ⟨mn, md, mf, ml, mt, MA, mc, code, em⟩ : ∃ mn md mf ml mt MA mc code, ms[k] = MethL.mk mn md mf ml mt MA mc code := ⟨_, _, _, _, _, _, _, _, rfl⟩
   obtain ⟨m0, m1, m2, m3, m4, m5⟩ := MethsAt.six (w := wr) (fun i hi j hj => by rw [hUw.cells.1 _ _ hbk]; exact hcm i hi j hj) hlt em
   have hcl : code.length ≤ 1599289640354 := by
    have := Hs3.out _ (List.getElem_mem hlt)
    rw [em] at this
    exact this
   have HIA := hid ((HC.out.meths _ (List.getElem_mem hlt)).at_.upd hUw)
   have HMf := hid (HC.out.meths _ (List.getElem_mem hlt))
   rw [em] at HIA HMf
   clear hUw hcm
   go_upto_region 8 with (fail)
   have hA0 := (Upd.refl wr []).alloc (.cells #[.string (bs mn), .string (bs md), .int .i64 mf, .int .i64 ml, .int .i64 mt, .slice MA code.length mc] 34)
   have HRa := hid (HR.out.upd hA0)
   have HGa := hid (Blk.new wr 34 #[.string (bs mn), .string (bs md), .int .i64 mf, .int .i64 ml, .int .i64 mt, .slice MA code.length mc])
   have HIa := hid (HIA.out.upd hA0)
   have HUa := hid (HU.out.alloc (.cells #[.string (bs mn), .string (bs md), .int .i64 mf, .int .i64 ml, .int .i64 mt, .slice MA code.length mc] 34))
   have hza : wr.heap.size < (wr.alloc (.cells #[.string (bs mn), .string (bs md), .int .i64 mf, .int .i64 ml, .int .i64 mt, .slice MA code.length mc] 34)).heap.size := by simp
   have hgr : wr.heap.size ≠ w1.heap.size := by omega
   have Hgm : Hid ((Value.slice MX ls.length mx).ownBlock ≠ some wr.heap.size) := hid (fun e => by have := (HR.out.om.lt _ e).2; omega)
   clear hA0 m0 m1 m2 m3 m4 m5 x5 HIA HR HU HBr
   revert HRa HGa HIa HUa hza
   generalize wr.alloc (.cells #[.string (bs mn), .string (bs md), .int .i64 mf, .int .i64 ml, .int .i64 mt, .slice MA code.length mc] 34) = wa
   intro HRa HGa HIa HUa hza
   have z5 := (HGa.out.cell 5).trans (show _ = some (.slice MA code.length mc) from rfl)
   have HE8 := hid (World.ownsRow_lit (e := 41) (size := 7) (base := wa.heap.size) wa #[] 0 (Nat.le_refl _) (by unfold maxLen; omega) rfl)
   have HS8 := hid ((HIa.out.upd ((Upd.refl wa []).alloc (.cells #[] 41))).src)
   go_upto_region 9 with (at_builtin; first
    | (refine wpList_append_all _ rfl (.tmp 36) (.tmp 38) 32 rfl 41 ii _ 7 88 Tryz.underlying32 hn0 hn1 hn2 hn3 rfl (by decide) wa.heap.size (.slice (some ⟨wa.heap.size, 0, none⟩) 0 0) 0 [] rfl (by exact HE8.out) MA code.length mc (instV code) rfl (by exact instV_length _) (by exact HS8.out) (by exact instV_one _) (by unfold maxLen; omega) (by omega) (by simp) ?_; go_loud (intro B1 q1 v2 hown2 hg2; rw [Nat.zero_add, List.nil_append] at hown2; have HU2 := hid (((Upd.refl wa []).alloc _).grown hg2 (fun q hq => .inr (by simp [Value.ownBlock] at hq; omega))); have HO2 := hid hown2; clear hown2 hg2; have hl2 : wa.heap.size ≤ v2.heap.size := HU2.out.size; have HBm := hid (Blk.new v2 41 #[.int .i64 (-71), .int .i64 0, .string ⟨#[]⟩, .bool false, .string ⟨#[]⟩, .string ⟨#[]⟩, .string ⟨#[]⟩, .int .i64 (-72), .int .i64 0, .string ⟨#[]⟩, .bool false, .string ⟨#[]⟩, .string ⟨#[]⟩, .string ⟨#[]⟩])))
    | (refine wpList_append_all _ rfl (.tmp 39) (.tmp 42) 32 rfl 41 ii _ 7 88 Tryz.underlying32 hn0 hn1 hn2 hn3 rfl (by decide) wa.heap.size (.slice B1 code.length q1) code.length (instV code) rfl (by exact ((Upd.refl v2 []).alloc _).own HO2.out (fun _ _ => by simp)) (some ⟨v2.heap.size, 0, none⟩) 2 2 (instV markI) rfl rfl (by exact blk_src HBm.out _ rfl) (by exact instV_one _) (by unfold maxLen; omega) (by omega) (by simp; omega) ?_; go_loud (intro B2 q2 v3 hown3 hg3; have HU3 := hid ((HU2.out.alloc _).grown hg3 (fun q hq => .inr (HO2.out.lt q hq).1)); rw [← instV_app] at hown3; have HO3 := hid hown3; clear hown3 hg3; have hl3 : wa.heap.size ≤ v3.heap.size := HU3.out.size)))
   have HR3 := hid ((HRa.out.upd HU3.out).snoc (m := (MethL.mk mn md mf ml mt B2 q2 code)) (own_mono HO3.out (by omega)))
   have HG3 := hid (HU3.out.blk HGa.out (by simp))
   have HL3 := hid (HUa.out.trans (HU3.out.mono (by simp)))
   have hq := own_cap HO3.out
   clear HE8 HS8 HU2 HO2 HBm HU3 HO3 HRa HGa HIa HUa hl2 z5
   have c8 := (HR3.out.blk.cell 8).trans (show _ = some (.slice CX ls.length cx) from rfl)
   have f8 := HR3.out.blk.frozen 8
   have hr3 := HR3.out.blk.lt
   have HBc := hid (Blk.new v3 32 #[.slice B2 (code.length + 2) q2])
   go_upto_region 10 with (at_builtin; (refine wpList_append_all _ rfl (.tmp 48) (.tmp 50) 55 rfl 32 is _ 1 24 Tryz.underlying55 hs0 hsz1 hsz2 hsz3 rfl (by decide) wL.heap.size (.slice CX ls.length cx) ls.length (ls.map codeW) rfl (by exact ((Upd.refl v3 []).alloc _).own HR3.out.oc (fun _ _ => by simp)) (some ⟨v3.heap.size, 0, none⟩) 1 1 [codeW (MethL.mk mn md mf ml mt B2 q2 code)] rfl rfl (by exact blk_src HBc.out _ rfl) (by exact codeW_one _) (by unfold maxLen; omega) (by omega) (by simp; omega) ?_; go_loud (intro C2 k2 v4 hown4 hg4; have HP := hid ((HR3.out.upd ((Upd.refl v3 []).alloc (.cells #[.slice B2 (code.length + 2) q2] 32))).codes (MethL.mk mn md mf ml mt B2 q2 code) hg4 hown4); have HL4 := hid ((HL3.out.alloc (.cells #[.slice B2 (code.length + 2) q2] 32)).grown hg4 (fun q hq => .inr (HR3.out.oc.lt q hq).1)); have hb4 := (HR3.out.blk.alloc (.cells #[.slice B2 (code.length + 2) q2] 32)).grown_own hg4 (((Upd.refl v3 []).alloc _).own HR3.out.oc (fun _ _ => by simp)) (by decide); have c8' := (hb4.cell 8).trans (show _ = some (.slice CX ls.length cx) from rfl); have f8' := hb4.frozen 8; clear hown4 hg4 hb4)))
   have HR5 := hid HP.out.1
   have HG5 := hid (HP.out.2 wr.heap.size 34 #[.string (bs mn), .string (bs md), .int .i64 mf, .int .i64 ml, .int .i64 mt, .slice MA code.length mc] (HG3.out.alloc _) (by decide) hgr)
   have HL5 := hid (HL4.out.setCell (p := ⟨w1.heap.size, 8, none⟩) (.inl (by simp)) (.slice C2 (ls.length + 1) k2))
   clear HP HR3 HG3 HL3 HL4 c8 f8 c8' f8' hr3 HBc
   revert HR5 HG5 HL5
   generalize v4.setCell ⟨w1.heap.size, 8, none⟩ (.slice C2 (ls.length + 1) k2) = v5
   intro HR5 HG5 HL5
   have z5 := (HG5.out.cell 5).trans (show _ = some (.slice MA code.length mc) from rfl)
   have fz5 := HG5.out.frozen 5
   have hg5 := HG5.out.lt
   go_upto_region 11 with (fail)
   have HR6 := hid (HR5.out.far HG5.out (by decide) (by decide) (fun e => hgr e.symm) Hgm.out 5 (.slice B2 code.length q2))
   have HG6 := hid (show Blk (v5.setCell ⟨wr.heap.size, 5, none⟩ (.slice B2 code.length q2)) wr.heap.size 34 #[.string (bs mn), .string (bs md), .int .i64 mf, .int .i64 ml, .int .i64 mt, .slice B2 code.length q2] from HG5.out.set_ 5 (.slice B2 code.length q2))
   have HL6 := hid (HL5.out.setCell (p := ⟨wr.heap.size, 5, none⟩) (.inr (by omega)) (.slice B2 code.length q2))
   clear HR5 HG5 HL5 z5 fz5 hg5
   revert HR6 HG6 HL6
   generalize v5.setCell ⟨wr.heap.size, 5, none⟩ (.slice B2 code.length q2) = v6
   intro HR6 HG6 HL6
   have hA6 := (Upd.refl v6 []).alloc (.cells #[.string (bs mn), .string (bs md), .int .i64 mf, .int .i64 ml, .int .i64 mt, .slice B2 code.length q2] 34)
   have HO : Hid (∀ W : World, W.heap = (v6.alloc (.cells #[.string (bs mn), .string (bs md), .int .i64 mf, .int .i64 ml, .int .i64 mt, .slice B2 code.length q2] 34)).heap → W.ownsRow wL.heap.size 34 6 (.slice MX ls.length mx) ls.length (methsV ls)) := hid (fun W hh => own_heap (hA6.own HR6.out.om (fun _ _ => by simp)) hh)
   have hBq := Blk.new v6 34 #[.string (bs mn), .string (bs md), .int .i64 mf, .int .i64 ml, .int .i64 mt, .slice B2 code.length q2]
   have HSr : Hid (∀ W : World, W.heap = (v6.alloc (.cells #[.string (bs mn), .string (bs md), .int .i64 mf, .int .i64 ml, .int .i64 mt, .slice B2 code.length q2] 34)).heap → methsV [(MethL.mk mn md mf ml mt B2 q2 code)] ≠ [] → ∃ ad, (some ⟨v6.heap.size, 0, none⟩ : Option Addr) = some ad ∧ ∀ j u, (methsV [(MethL.mk mn md mf ml mt B2 q2 code)])[j]? = some u → W.cell? (ad.add j) = some u) := hid (fun W hh => blk_src (w := W) (t := 34) (cs := #[.string (bs mn), .string (bs md), .int .i64 mf, .int .i64 ml, .int .i64 mt, .slice B2 code.length q2]) (by unfold Blk; rw [hh]; exact hBq) _ rfl)
   have hL6s := HL6.out.size
   have HK : Hid (∀ (W w' : World) (A' : Option Addr) (c' : Nat), W.grownBy w' (Value.slice MX ls.length mx).ownBlock → W.heap = (v6.alloc (.cells #[.string (bs mn), .string (bs md), .int .i64 mf, .int .i64 ml, .int .i64 mt, .slice B2 code.length q2] 34)).heap → W.os = v6.os → W.tape = v6.tape → W.output = v6.output → w'.ownsRow wL.heap.size 34 6 (.slice A' (ls.length + 1) c') (ls.length + 1) (methsV ls ++ methsV [(MethL.mk mn md mf ml mt B2 q2 code)]) →
     (w'.cell? ⟨w1.heap.size, 7, none⟩ = some (.slice MX ls.length mx) ∧ w'.frozen? ⟨w1.heap.size, 7, none⟩ = false) ∧
     Hid (RoS (w'.setCell ⟨w1.heap.size, 7, none⟩ (.slice A' (ls.length + 1) c')) wL.heap.size w1.heap.size (ClassL.mk nm sup AI cI ifs fl ld (some ⟨bk, off, none⟩) cM ms) (ClassL.mk nm sup BI dI ifs fl ld BM dM ms') (.slice A2 (ifs.length + 2) cap2) A' c' C2 k2 (ls ++ [(MethL.mk mn md mf ml mt B2 q2 code)]) (ls ++ [(MethL.mk mn md mf ml mt B2 q2 code)]) (ls ++ [(MethL.mk mn md mf ml mt B2 q2 code)])) ∧ Hid (Upd wL (w'.setCell ⟨w1.heap.size, 7, none⟩ (.slice A' (ls.length + 1) c')) [w1.heap.size])) := hid (fun W w' A' c' hg hh h1 h2 h3 ho => by
    obtain ⟨hp, hr, hu⟩ := HR6.out.meth_step [(MethL.mk mn md mf ml mt B2 q2 code)] hL6s rfl HL6.out hh h1 h2 h3 hg ho
    exact ⟨hp, hid hr, hid hu⟩)
   have HA' := hid (by
    have t := HA.out.snoc hlt B2 q2 (by rw [em]; exact hq)
    rw [em] at t
    exact (show Alike (ls ++ [(MethL.mk mn md mf ml mt B2 q2 code)]) ms (k + 1) from t))
   have z0 := (HG6.out.cell 0).trans (show _ = some (.string (bs mn)) from rfl)
   have z1 := (HG6.out.cell 1).trans (show _ = some (.string (bs md)) from rfl)
   have z2 := (HG6.out.cell 2).trans (show _ = some (.int .i64 mf) from rfl)
   have z3 := (HG6.out.cell 3).trans (show _ = some (.int .i64 ml) from rfl)
   have z4 := (HG6.out.cell 4).trans (show _ = some (.int .i64 mt) from rfl)
   have z5 := (HG6.out.cell 5).trans (show _ = some (.slice B2 code.length q2) from rfl)
   have c7 := (HR6.out.blk.cell 7).trans (show _ = some (.slice MX ls.length mx) from rfl)
   have f7 := HR6.out.blk.frozen 7
   have hg6 := HG6.out.lt
   have hr6 := HR6.out.blk.lt
   clear hA6 hBq HR6 HG6 HL6 HA em
   go_wp2
   go_region_law (refine step_append_all _ rfl (.tmp 64) (.tmp 66) 23 rfl 34 im _ 6 80 Tryz.underlying23 hm0 hm1 hm2 hm3 rfl (by decide) wL.heap.size (.slice MX ls.length mx) ls.length (methsV ls) rfl (by exact HO.out _ rfl) (some ⟨v6.heap.size, 0, none⟩) 1 1 (methsV [(MethL.mk mn md mf ml mt B2 q2 code)]) rfl rfl (by exact HSr.out _ rfl) (by exact methsV_one _) (by unfold maxLen; omega) (by omega) (by simp; omega) ?_; intro A' c' v7 hown' hg'; obtain ⟨⟨p7, pf⟩, HR7, HU7⟩ := HK.out _ _ _ _ hg' rfl rfl rfl rfl hown'; clear hown' hg')
   all_goals
    go_wp2
    go_roundw
    case rel => exact ⟨k + 1, _, _, _, _, _, (by go_num), by omega, HR7, HA', HU7⟩
    case measure => simp [intOf]; omega
  ·obtain rfl : k = ms.length := by omega
   have HOr := hid (HU.out.own HOL.out hoL.out)
   have hU1 := HU1.out
   have c7 := (HR.out.blk.cell 7).trans (show _ = some (.slice MX ls.length mx) from rfl)
   have f7 := HR.out.blk.frozen 7
   have HBq := hid (Blk.new wr 34 #[.string ⟨#[35, 55, 49]⟩, .string ⟨#[]⟩, .int .i64 0, .int .i64 0, .int .i64 0, .slice none 0 0, .string ⟨#[35, 55, 50]⟩, .string ⟨#[]⟩, .int .i64 0, .int .i64 0, .int .i64 0, .slice none 0 0])
   go_upto_region 13 with (at_builtin; (refine wpList_append_all _ rfl (.tmp 74) (.tmp 77) 23 rfl 34 im _ 6 80 Tryz.underlying23 hm0 hm1 hm2 hm3 rfl (by decide) wL.heap.size (.slice MX ls.length mx) ls.length (methsV ls) rfl (by exact ((Upd.refl wr []).alloc _).own HR.out.om (fun _ _ => by simp)) (some ⟨wr.heap.size, 0, none⟩) 2 2 (methsV [markM m71, markM m72]) rfl rfl (by exact blk_src HBq.out _ rfl) (by exact methsV_one _) (by unfold maxLen; omega) (by omega) (by simp; omega) ?_; go_loud (intro A' c' v2 hown2 hg2; have HP := hid (HR.out.meth_step (wL := wL) (o := .cells #[.string ⟨#[35, 55, 49]⟩, .string ⟨#[]⟩, .int .i64 0, .int .i64 0, .int .i64 0, .slice none 0 0, .string ⟨#[35, 55, 50]⟩, .string ⟨#[]⟩, .int .i64 0, .int .i64 0, .int .i64 0, .slice none 0 0] 34) (W := wr.alloc (.cells #[.string ⟨#[35, 55, 49]⟩, .string ⟨#[]⟩, .int .i64 0, .int .i64 0, .int .i64 0, .slice none 0 0, .string ⟨#[35, 55, 50]⟩, .string ⟨#[]⟩, .int .i64 0, .int .i64 0, .int .i64 0, .slice none 0 0] 34)) [markM m71, markM m72] hLr rfl HU.out rfl rfl rfl rfl hg2 hown2); have hOs := ((Upd.refl wr []).alloc (.cells #[.string ⟨#[35, 55, 49]⟩, .string ⟨#[]⟩, .int .i64 0, .int .i64 0, .int .i64 0, .slice none 0 0, .string ⟨#[35, 55, 50]⟩, .string ⟨#[]⟩, .int .i64 0, .int .i64 0, .int .i64 0, .slice none 0 0] 34)).own HOr.out (fun _ _ => by simp); have HO2 := hid (own_grown_own hOs hg2 (((Upd.refl wr []).alloc (.cells #[.string ⟨#[35, 55, 49]⟩, .string ⟨#[]⟩, .int .i64 0, .int .i64 0, .int .i64 0, .slice none 0 0, .string ⟨#[35, 55, 50]⟩, .string ⟨#[]⟩, .int .i64 0, .int .i64 0, .int .i64 0, .slice none 0 0] 34)).own HR.out.om (fun _ _ => by simp)) (by decide)); have hBs := (HBr.out.alloc (.cells #[.string ⟨#[35, 55, 49]⟩, .string ⟨#[]⟩, .int .i64 0, .int .i64 0, .int .i64 0, .slice none 0 0, .string ⟨#[35, 55, 50]⟩, .string ⟨#[]⟩, .int .i64 0, .int .i64 0, .int .i64 0, .slice none 0 0] 34)).grown_own hg2 (((Upd.refl wr []).alloc (.cells #[.string ⟨#[35, 55, 49]⟩, .string ⟨#[]⟩, .int .i64 0, .int .i64 0, .int .i64 0, .slice none 0 0, .string ⟨#[35, 55, 50]⟩, .string ⟨#[]⟩, .int .i64 0, .int .i64 0, .int .i64 0, .slice none 0 0] 34)).own HR.out.om (fun _ _ => by simp)) (by decide); have HB2 := hid hBs; have c7' := HP.out.1.1; have f7' := HP.out.1.2; clear hown2 hg2 hOs hBs)))
   have HR3 := hid (show RoS (v2.setCell ⟨w1.heap.size, 7, none⟩ (.slice A' (ls.length + 2) c')) wL.heap.size w1.heap.size (ClassL.mk nm sup AI cI ifs fl ld AM cM ms) (ClassL.mk nm sup BI dI ifs fl ld BM dM ms') (.slice A2 (ifs.length + 2) cap2) A' c' CX cx (ls ++ [markM m71, markM m72]) ls ls from HP.out.2.1)
   have HL3 := hid (show Upd wL (v2.setCell ⟨w1.heap.size, 7, none⟩ (.slice A' (ls.length + 2) c')) [w1.heap.size] from HP.out.2.2)
   have HO3 := hid (ownsRow_setCell_other HO2.out (a := ⟨w1.heap.size, 7, none⟩) (fun e => hoL.out _ (mem_ob.2 e) (by simp)) (.slice A' (ls.length + 2) c'))
   have HB4 := hid (HB2.out.far (p := ⟨w1.heap.size, 7, none⟩) (by show w.heap.size ≠ w1.heap.size; omega) (.slice A' (ls.length + 2) c'))
   have hcap2 := own_cap HO2.out
   clear HP HO2 HB2 c7' f7' c7 f7 HBq HOr HR HBr x5 HU
   revert HR3 HL3 HO3 HB4
   generalize v2.setCell ⟨w1.heap.size, 7, none⟩ (.slice A' (ls.length + 2) c') = v3
   intro HR3 HL3 HO3 HB4
   have x2 := (HB4.out.cell 2).trans (show _ = some (.slice AI ifs.length cI) from rfl)
   have hx3 := HB4.out.lt
   have y6 := (HR3.out.blk.cell 6).trans (show _ = some (.slice A2 (ifs.length + 2) cap2) from rfl)
   have y2 := (HR3.out.blk.cell 2).trans (show _ = some (.slice AI ifs.length cI) from rfl)
   have f2 := HR3.out.blk.frozen 2
   have hr3 := HR3.out.blk.lt
   go_wp2
   go_region
   have hb3 := HR3.out.blk
   have HB5 := hid (show Blk (v3.setCell ⟨w1.heap.size, 2, none⟩ (.slice A2 ifs.length cap2)).drew w1.heap.size 57 (roomCells (ClassL.mk nm sup A2 cap2 ifs fl ld AM cM ms) (ClassL.mk nm sup BI dI ifs fl ld BM dM ms') (.slice A2 (ifs.length + 2) cap2) (.slice A' (ls.length + 2) c') (.slice CX ls.length cx)) from (by
    have t := hb3.set_ 2 (.slice A2 ifs.length cap2)
    rw [show (ls ++ [markM m71, markM m72]).length = ls.length + 2 from by simp] at t
    exact t))
   have HRo := hid ((⟨HO3.out, HR3.out.om, HR3.out.oc, HR3.out.ol⟩ : RowsAt v3 bI wL.heap.size _ _ _ _ _ _ _ ls).set hb3 2 (.slice A2 ifs.length cap2))
   have HB6 := hid (show Blk (v3.setCell ⟨w1.heap.size, 2, none⟩ (.slice A2 ifs.length cap2)).drew w.heap.size 25 #[.string (bs nm), .string (bs sup), .slice AI ifs.length cI, .int .i64 fl, .int .i64 ld, .slice AM ms.length cM] from HB4.out.far (p := ⟨w1.heap.size, 2, none⟩) (by show w.heap.size ≠ w1.heap.size; omega) (.slice A2 ifs.length cap2))
   have HL4 := hid ((HL3.out.setCell (p := ⟨w1.heap.size, 2, none⟩) (.inl (by simp)) (.slice A2 ifs.length cap2)).drew)
   have hcM2 : ls.length + 2 ≤ c' := by have t := own_cap HR3.out.om; simpa using t
   clear hb3 HR3 HO3 HB4 HL3 x2 hx3 y6 y2 f2 hr3
   revert HB5 HRo HB6 HL4
   generalize (v3.setCell ⟨w1.heap.size, 2, none⟩ (.slice A2 ifs.length cap2)).drew = v4
   intro HB5 HRo HB6 HL4
   have x5 := (HB6.out.cell 5).trans (show _ = some (.slice AM ms.length cM) from rfl)
   have hx4 := HB6.out.lt
   have y7 := (HB5.out.cell 7).trans (show _ = some (.slice A' (ls.length + 2) c') from rfl)
   have y5 := (HB5.out.cell 5).trans (show _ = some (.slice AM ms.length cM) from rfl)
   have f5 := HB5.out.frozen 5
   have hr4 := HB5.out.lt
   have hle : ms.length ≤ ls.length := by have := HA.out.len; omega
   go_wp2
   go_region
   have HL5 := hid ((HL4.out.setCell (p := ⟨w1.heap.size, 5, none⟩) (.inl (by simp)) (.slice A' ms.length c')).drew)
   have HRe := hid (HRo.out.set HB5.out 5 (.slice A' ms.length c'))
   have HB7 := hid (show Blk (v4.setCell ⟨w1.heap.size, 5, none⟩ (.slice A' ms.length c')).drew w1.heap.size 57 (roomCells (ClassL.mk nm sup A2 cap2 ifs fl ld A' c' ls) (ClassL.mk nm sup BI dI ifs fl ld BM dM ms') (.slice A2 (ifs.length + 2) cap2) (.slice A' (ls.length + 2) c') (.slice CX ls.length cx)) from (by
    have t := HB5.out.set_ 5 (.slice A' ms.length c')
    have e : Value.slice A' ms.length c' = Value.slice A' ls.length c' := by rw [HA.out.len]
    rw [e] at t ⊢
    exact t))
   clear HB5 HRo HB6 HL4 x5 hx4 y7 y5 f5 hr4
   revert HL5 HRe HB7
   generalize (v4.setCell ⟨w1.heap.size, 5, none⟩ (.slice A' ms.length c')).drew = v5
   intro HL5 HRe HB7
   have HUe : Hid (Upd w1 v5 []) := hid (by
    have h1 := HUL.out
    have h2 := HL5.out
    exact ⟨h2.os.trans h1.os, h2.tape.trans h1.tape, h2.output.trans h1.output, Nat.le_trans h1.size h2.size, fun b hb _ => (h2.block b (Nat.lt_of_lt_of_le hb h1.size) (by simp; omega)).trans (h1.block b hb (by simp))⟩)
   have hRoom := room_of (c := (ClassL.mk nm sup AI cI ifs fl ld AM cM ms)) (d := (ClassL.mk nm sup A2 cap2 ifs fl ld A' c' ls)) (was := (ClassL.mk nm sup BI dI ifs fl ld BM dM ms')) HC.out ⟨rfl, rfl, rfl, rfl, rfl⟩ HA.out HB7.out HRe.out.os (by have t := HRe.out.om; rw [show (ls ++ [markM m71, markM m72]).length = ls.length + 2 from by simp] at t; exact t) HRe.out.oc HRe.out.ol (Hwf.out.upd HUe.out) Hwr.out
   go_wp2
   go_ret
   exact ⟨_, _, _, _, _, rfl, hRoom, hU1.trans HUe.out⟩
end Go.Proofs.YtjjdlgjofjfgmaaGreatDoor
