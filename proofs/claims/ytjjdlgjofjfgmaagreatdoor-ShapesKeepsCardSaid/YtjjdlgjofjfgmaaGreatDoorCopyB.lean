/-
 The document's Copy of a class, walked. (Printed by gen_copyB.py.)
-/
import Derived.Test.YtjjdlgjofjfgmaaGreatDoorCopyA
import Derived.Test.YtjjdlgjofjfgmaaGreatDoorKQ
import Derived.Test.YtjjdlgjofjfgmaaGreatDoorKN
import Derived.OwnWalk
set_option linter.unusedSimpArgs false
set_option linter.unusedVariables false
namespace Go.Proofs.YtjjdlgjofjfgmaaGreatDoor
open Go.RowKit Go.Sort
set_option maxHeartbeats 8000000 in
set_option maxRecDepth 100000 in
theorem copyR_any (c : ClassL) (w : World) (hc : c.fit w) (hs : c.small) :
  Calls Tryz.prog 73 #[c.v] w fun e w' => ∃ c' : ClassL, e = .returned c'.v ∧ c'.fit w' ∧ rdOf c' = rdOf c ∧ Upd w w' [] := by
 obtain ⟨hs1, hs2, hs3⟩ := hs
 obtain ⟨nm, sup, AI, cI, ifs, fl, ld, AM, cM, ms⟩ := c
 have HC := hid hc
 simp only at hs1 hs2 hs3
 have Hs3 := hid hs3
 have hcI := hc.capI
 have hcM := hc.capM
 simp only at hcI hcM
 clear hc hs3
 unfold ClassL.v ClassL.cells
 simp only
 have HB0 := hid (((Blk.new w 25 #[.string (bs nm), .string (bs sup), .slice AI ifs.length cI, .int .i64 fl, .int .i64 ld, .slice AM ms.length cM]).alloc (.cells #[.string ⟨#[]⟩, .string ⟨#[]⟩, .slice none 0 0, .int .i64 0, .int .i64 0, .slice none 0 0] 25)).alloc (.cells #[.string (bs nm), .string (bs sup), .slice AI ifs.length cI, .int .i64 fl, .int .i64 ld, .slice AM ms.length cM] 25))
 have HB1 := hid ((Blk.new_at (w := w.alloc (.cells #[.string (bs nm), .string (bs sup), .slice AI ifs.length cI, .int .i64 fl, .int .i64 ld, .slice AM ms.length cM] 25)) (t := 25) (cs := #[.string ⟨#[]⟩, .string ⟨#[]⟩, .slice none 0 0, .int .i64 0, .int .i64 0, .slice none 0 0]) (g := w.heap.size + 1) (by simp)).alloc (.cells #[.string (bs nm), .string (bs sup), .slice AI ifs.length cI, .int .i64 fl, .int .i64 ld, .slice AM ms.length cM] 25))
 have HB2 := hid (Blk.new_at (w := (w.alloc (.cells #[.string (bs nm), .string (bs sup), .slice AI ifs.length cI, .int .i64 fl, .int .i64 ld, .slice AM ms.length cM] 25)).alloc (.cells #[.string ⟨#[]⟩, .string ⟨#[]⟩, .slice none 0 0, .int .i64 0, .int .i64 0, .slice none 0 0] 25)) (t := 25) (cs := #[.string (bs nm), .string (bs sup), .slice AI ifs.length cI, .int .i64 fl, .int .i64 ld, .slice AM ms.length cM]) (g := w.heap.size + 1 + 1) (by simp))
 have HU := hid (show Upd w (((w.alloc (.cells #[.string (bs nm), .string (bs sup), .slice AI ifs.length cI, .int .i64 fl, .int .i64 ld, .slice AM ms.length cM] 25)).alloc (.cells #[.string ⟨#[]⟩, .string ⟨#[]⟩, .slice none 0 0, .int .i64 0, .int .i64 0, .slice none 0 0] 25)).alloc (.cells #[.string (bs nm), .string (bs sup), .slice AI ifs.length cI, .int .i64 fl, .int .i64 ld, .slice AM ms.length cM] 25)) [] from (((Upd.refl _ _).alloc _).alloc _).alloc _)
 have hz : (((w.alloc (.cells #[.string (bs nm), .string (bs sup), .slice AI ifs.length cI, .int .i64 fl, .int .i64 ld, .slice AM ms.length cM] 25)).alloc (.cells #[.string ⟨#[]⟩, .string ⟨#[]⟩, .slice none 0 0, .int .i64 0, .int .i64 0, .slice none 0 0] 25)).alloc (.cells #[.string (bs nm), .string (bs sup), .slice AI ifs.length cI, .int .i64 fl, .int .i64 ld, .slice AM ms.length cM] 25)).heap.size = w.heap.size + 3 := by simp
 go_enter Tryz.func73, Tryz.ntmps73
 go_upto_region 2 with (fail)
 revert HB0 HB1 HB2 HU hz
 generalize ((w.alloc (.cells #[.string (bs nm), .string (bs sup), .slice AI ifs.length cI, .int .i64 fl, .int .i64 ld, .slice AM ms.length cM] 25)).alloc (.cells #[.string ⟨#[]⟩, .string ⟨#[]⟩, .slice none 0 0, .int .i64 0, .int .i64 0, .slice none 0 0] 25)).alloc (.cells #[.string (bs nm), .string (bs sup), .slice AI ifs.length cI, .int .i64 fl, .int .i64 ld, .slice AM ms.length cM] 25) = wa
 intro HB0 HB1 HB2 HU hz
 obtain ⟨i0, hi0, hz0, hz1, hz2⟩ := info_parts infoString
 obtain ⟨im, hm0, hm1, hm2, hm3⟩ := info_parts infoMeth
 obtain ⟨ii, hn0, hn1, hn2, hn3⟩ := info_parts infoInst7
 have HE : Hid ((wa.alloc (.cells #[] 9)).ownsRow w.heap.size 9 1 (.slice (some ⟨w.heap.size + 3, 0, none⟩) 0 0) 0 []) := hid (by
  have h := World.ownsRow_lit (e := 9) (size := 1) (base := w.heap.size) wa #[] 0 (by omega) (by unfold maxLen; omega) rfl
  rw [hz] at h
  exact h)
 have HSrc := hid (((HC.out.ifs.upd (HU.out.alloc (.cells #[] 9))).src))
 have y2 := (HB0.out.cell 2).trans (show _ = some (.slice AI ifs.length cI) from rfl)
 have hl0 := HB0.out.lt
 have hl2 := HB2.out.lt
 go_upto_region 3 with (at_builtin; go_must (refine wpList_append_all _ rfl (.tmp 6) (.tmp 8) 22 rfl 9 i0 _ 1 16 Tryz.underlying22 hi0 hz0 hz1 hz2 rfl (by decide) w.heap.size (.slice (some ⟨w.heap.size + 3, 0, none⟩) 0 0) 0 [] rfl (by exact HE.out) AI ifs.length cI (ifs.map strV) rfl (by simp) (by exact HSrc.out) (by exact strs_one _) (by unfold maxLen; omega) (by omega) (by simp; omega) ?_); go_loud (intro A1 cap1 w2 hown2 hg2; have hUb : Upd wa w2 [] := ((Upd.refl wa []).alloc _).grown hg2 (fun k hk => .inr (by simp [Value.ownBlock] at hk; omega)); have HX0 := hid (hUb.blk HB0.out (by simp)); have HX1 := hid (hUb.blk HB1.out (by simp)); have HX2 := hid (hUb.blk HB2.out (by simp)); have HU2 := hid (HU.out.trans hUb); have hl2' := HX2.out.lt; have yy2 := (HX2.out.cell 2).trans (show _ = some (.slice AI ifs.length cI) from rfl); have fy2 := HX2.out.frozen 2))
 rw [Nat.zero_add, List.nil_append] at hown2
 have hz2 : w.heap.size + 1 + 1 < w2.heap.size := hl2'
 have HY0 := hid (HX0.out.far (p := ⟨w.heap.size + 1 + 1, 2, none⟩) (by show w.heap.size ≠ w.heap.size + 1 + 1; omega) (.slice A1 ifs.length cap1))
 have HY1 := hid (HX1.out.far (p := ⟨w.heap.size + 1 + 1, 2, none⟩) (by show w.heap.size + 1 ≠ w.heap.size + 1 + 1; omega) (.slice A1 ifs.length cap1))
 have HY2 := hid (show Blk (w2.setCell ⟨w.heap.size + 1 + 1, 2, none⟩ (.slice A1 ifs.length cap1)) (w.heap.size + 1 + 1) 25 #[.string (bs nm), .string (bs sup), .slice A1 ifs.length cap1, .int .i64 fl, .int .i64 ld, .slice AM ms.length cM] from HX2.out.set_ 2 (.slice A1 ifs.length cap1))
 have HO2 := hid (show (w2.setCell ⟨w.heap.size + 1 + 1, 2, none⟩ (.slice A1 ifs.length cap1)).ownsRow w.heap.size 9 1 (.slice A1 ifs.length cap1) ifs.length (ifs.map strV) from ownsRow_setCell_other hown2 (own_blk_ne hown2 HX2.out (by decide)) _)
 have HU3 := hid (HU2.out.setCell (p := ⟨w.heap.size + 1 + 1, 2, none⟩) (.inr (by show w.heap.size ≤ w.heap.size + 1 + 1; omega)) (.slice A1 ifs.length cap1))
 clear hUb hown2 hg2 HX0 HX1 HX2 HU2 yy2 fy2 hl2' y2 hl0 hl2 HE HSrc HB0 HB1 HB2 HU hz hz2
 revert HY0 HY1 HY2 HO2 HU3
 generalize w2.setCell ⟨w.heap.size + 1 + 1, 2, none⟩ (.slice A1 ifs.length cap1) = w3
 intro HY0 HY1 HY2 HO2 HU3
 have q5 := (HY0.out.cell 5).trans (show _ = some (.slice AM ms.length cM) from rfl)
 have hl0 := HY0.out.lt
 have hl2 := HY2.out.lt
 go_upto_region 4 with (at_make; go_must (refine wpList_make_full _ rfl _ _ 23 rfl w.heap.size 34 im _ 6 Tryz.underlying23 hm0 hm1 hm2 .i64 .i64 _ _ ms.length rfl rfl rfl rfl (by rw [hm3]; omega) (by unfold maxLen; omega) (by omega) ?_); go_loud (intro w4 hown4 hg4; have hUc : Upd w3 w4 [] := ((Upd.refl w3 []).grown hg4 (fun k hk => by cases hk)); have HZ0 := hid (hUc.blk HY0.out (by simp)); have HZ1 := hid (hUc.blk HY1.out (by simp)); have HZ2 := hid (hUc.blk HY2.out (by simp)); have HO4 := hid (hUc.own HO2.out (by simp)); have HU4 := hid (HU3.out.trans hUc); have hl4 := HZ2.out.lt; have yy5 := (HZ2.out.cell 5).trans (show _ = some (.slice AM ms.length cM) from rfl); have fy5 := HZ2.out.frozen 5; have hmk : w3.heap.size < w4.heap.size := (own_lt_some hown4)))
 have hown5 := ownsRow_setCell_other hown4 (own_blk_ne hown4 HZ2.out (by decide)) (a := ⟨w.heap.size + 1 + 1, 5, none⟩) (.slice (some ⟨w3.heap.size, 0, none⟩) ms.length ms.length)
 have HV0 := hid (HZ0.out.far (p := ⟨w.heap.size + 1 + 1, 5, none⟩) (by show w.heap.size ≠ w.heap.size + 1 + 1; omega) (.slice (some ⟨w3.heap.size, 0, none⟩) ms.length ms.length))
 have HV1 := hid (HZ1.out.far (p := ⟨w.heap.size + 1 + 1, 5, none⟩) (by show w.heap.size + 1 ≠ w.heap.size + 1 + 1; omega) (.slice (some ⟨w3.heap.size, 0, none⟩) ms.length ms.length))
 have HV2 := hid (show Blk (w4.setCell ⟨w.heap.size + 1 + 1, 5, none⟩ (.slice (some ⟨w3.heap.size, 0, none⟩) ms.length ms.length)) (w.heap.size + 1 + 1) 25 #[.string (bs nm), .string (bs sup), .slice A1 ifs.length cap1, .int .i64 fl, .int .i64 ld, .slice (some ⟨w3.heap.size, 0, none⟩) ms.length ms.length] from HZ2.out.set_ 5 _)
 have HO5 := hid (ownsRow_setCell_other HO4.out (own_blk_ne HO4.out HZ2.out (by decide)) (a := ⟨w.heap.size + 1 + 1, 5, none⟩) (.slice (some ⟨w3.heap.size, 0, none⟩) ms.length ms.length))
 have HU5 := hid (HU4.out.setCell (p := ⟨w.heap.size + 1 + 1, 5, none⟩) (.inr (by show w.heap.size ≤ w.heap.size + 1 + 1; omega)) (.slice (some ⟨w3.heap.size, 0, none⟩) ms.length ms.length))
 have hgl : w3.heap.size < (w4.setCell ⟨w.heap.size + 1 + 1, 5, none⟩ (.slice (some ⟨w3.heap.size, 0, none⟩) ms.length ms.length)).heap.size := by
  have := hg4.size
  have h1 : w3.heap.size < w4.heap.size ∨ ms.length = 0 := .inl hmk
  simp
  omega
 have HI0 : Hid (CopyI ms.length ms w3.heap.size 0 [] (w4.setCell ⟨w.heap.size + 1 + 1, 5, none⟩ (.slice (some ⟨w3.heap.size, 0, none⟩) ms.length ms.length))) := hid ⟨rfl, hgl, (fun i hi => by simp at hi), (fun j hj => by
  have hcl := hown5.cellAt j hj
  rw [List.getElem?_eq_getElem (by rw [hown5.1]; exact hj)] at hcl
  rw [Nat.zero_add]
  exact ⟨by rw [hcl]; rfl, hown5.frozenAt j⟩), (fun m hm => by cases hm), (fun m hm => by cases hm), rfl⟩
 have hgB : w.heap.size + 1 + 1 < w3.heap.size := hl2
 have HAB : Hid (∀ b, (Value.slice A1 ifs.length cap1).ownBlock = some b → w.heap.size ≤ b ∧ b < w3.heap.size) := hid (fun b hb => HO2.out.lt b hb)
 clear hown4 hown5 hg4 hUc HZ0 HZ1 HZ2 HO4 HU4 hl4 yy5 fy5 hmk hgl HY0 HY1 HY2 HO2 HU3 q5 hl0 hl2
 revert HV0 HV1 HV2 HO5 HU5 HI0
 generalize w4.setCell ⟨w.heap.size + 1 + 1, 5, none⟩ (.slice (some ⟨w3.heap.size, 0, none⟩) ms.length ms.length) = w5
 generalize w3.heap.size = gB at *
 intro HV0 HV1 HV2 HO5 HU5 HI0
 go_wp2
 go_loopw [4] (fun t wr => ∃ (k : Nat) (ms' : List MethL), t = .int .i64 k ∧ k ≤ ms.length ∧ Hid (CopyI ms.length ms gB k ms' wr) ∧ Hid (Upd w5 wr [gB])) (fun t _ => ms.length - (intOf t).toNat)
 case atStart => exact ⟨0, [], rfl, Nat.zero_le _, HI0, hid (Upd.refl _ _)⟩
 case round =>
  obtain ⟨k, ms', rfl, hk, HI, HU⟩ := hrel
  have HW0 := hid (HU.out.blk HV0.out (by simp; omega))
  have HW2 := hid (HU.out.blk HV2.out (by simp; omega))
  have x5 := (HW0.out.cell 5).trans (show _ = some (.slice AM ms.length cM) from rfl)
  have y5 := (HW2.out.cell 5).trans (show _ = some (.slice (some ⟨gB, 0, none⟩) ms.length ms.length) from rfl)
  have hlx := HW0.out.lt
  have hly := HW2.out.lt
  by_cases hlt : k < ms.length
  ·have hUw : Upd w wr [] := by
    have h1 := HU5.out
    have h2 := HU.out
    exact ⟨h2.os.trans h1.os, h2.tape.trans h1.tape, h2.output.trans h1.output, Nat.le_trans h1.size h2.size, fun b hb _ => (h2.block b (Nat.lt_of_lt_of_le hb h1.size) (by simp; omega)).trans (h1.block b hb (by simp))⟩
   have HUw := hid hUw
   obtain ⟨bk, off, hA, hbk, hcm⟩ := HC.out.ms (by rintro e; simp only at e; rw [e] at hlt; simp at hlt)
   simp only at hA hcm
   subst hA
   obtain ⟨mn, md, mf, ml, mt, MA, mc, code, em⟩ : ∃ mn md mf ml mt MA mc code, ms[k] = MethL.mk mn md mf ml mt MA mc code := ⟨_, _, _, _, _, _, _, _, rfl⟩
   obtain ⟨m0, m1, m2, m3, m4, m5⟩ := MethsAt.six (w := wr) (fun i hi j hj => by rw [hUw.cells.1 _ _ hbk]; exact hcm i hi j hj) hlt em
   have th := fun j (hj : j < 6) => HI.out.th (k * 6 + j) (by omega)
   obtain ⟨v0, e0⟩ := Option.isSome_iff_exists.1 (th 0 (by omega)).1
   obtain ⟨v1, e1⟩ := Option.isSome_iff_exists.1 (th 1 (by omega)).1
   obtain ⟨v2, e2⟩ := Option.isSome_iff_exists.1 (th 2 (by omega)).1
   obtain ⟨v3, e3⟩ := Option.isSome_iff_exists.1 (th 3 (by omega)).1
   obtain ⟨v4, e4⟩ := Option.isSome_iff_exists.1 (th 4 (by omega)).1
   obtain ⟨v5, e5⟩ := Option.isSome_iff_exists.1 (th 5 (by omega)).1
   have g0 := (th 0 (by omega)).2
   have g1 := (th 1 (by omega)).2
   have g2 := (th 2 (by omega)).2
   have g3 := (th 3 (by omega)).2
   have g4 := (th 4 (by omega)).2
   have g5 := (th 5 (by omega)).2
   simp only [Nat.zero_add, Nat.add_zero] at e0 e1 e2 e3 e4 e5 g0 g1 g2 g3 g4 g5
   have hbg : bk ≠ gB := by omega
   clear th hUw
   go_wp2
   go_region
   rw [six_set]
   generalize h6 : (wr.setCells gB (k * 6) [.string (bs mn), .string (bs md), .int .i64 mf, .int .i64 ml, .int .i64 mt, .slice MA code.length mc]).drew = w6
   have h6h : w6.heap = (wr.setCells gB (k * 6) (MethL.mk mn md mf ml mt MA mc code).cells.toList).heap := by rw [← h6]; exact heap_drew _
   have HU6 : Hid (Upd w5 w6 [gB]) := hid (by rw [← h6]; exact (HU.out.setCells' (.inl (by simp)) _ _).drew)
   clear h6
   obtain ⟨hoth, hs6, hth6, hgb6⟩ := HI.out.six hlt _ h6h
   have H6 := hid h6h
   have HIA := hid ((HC.out.meths _ (List.getElem_mem hlt)).at_)
   rw [em] at HIA
   have hAne : code ≠ [] → ∃ b off, MA = some ⟨b, off, none⟩ ∧ b ≠ gB := fun h => by
    obtain ⟨b, o, e, hb, -⟩ := HIA.out h
    exact ⟨b, o, e, by omega⟩
   have HI6 := hid ((HIA.out.upd HUw.out).other (w' := w6) (g := gB) (by omega) hoth hAne)
   have HX6 := hid (show Blk w6 w.heap.size 25 _ from (hoth _ (by omega)).trans HW0.out)
   have HY6 := hid (show Blk w6 (w.heap.size + 1 + 1) 25 _ from (hoth _ (by omega)).trans HW2.out)
   have n5 : w6.cell? ⟨bk, off + k * 6 + 5, none⟩ = some (.slice MA code.length mc) := (World.cell?_of_block (a := ⟨bk, off + k * 6 + 5, none⟩) (hoth bk hbg)).trans m5
   have HT6 := hid hth6
   have hbk6 : bk < w6.heap.size := by have := HUw.out.size; omega
   clear hth6 hoth h6h m0 m1 m2 m3 m4 m5 e0 e1 e2 e3 e4 e5 g0 g1 g2 g3 g4 g5 x5 y5 HW0 HW2 HIA
   have hO0 : (w6.alloc (.cells #[] 41)).ownsRow w6.heap.size 41 7 (.slice (some ⟨w6.heap.size, 0, none⟩) 0 0) 0 [] := World.ownsRow_lit (e := 41) (size := 7) (base := w6.heap.size) w6 #[] 0 (Nat.le_refl _) (by unfold maxLen; omega) rfl
   have HO0 : Hid (∀ W : World, W.heap = (w6.alloc (.cells #[] 41)).heap → W.ownsRow w6.heap.size 41 7 (.slice (some ⟨w6.heap.size, 0, none⟩) 0 0) 0 []) := hid (fun W hh => own_heap hO0 hh)
   have HSr : Hid (∀ W : World, W.heap = (w6.alloc (.cells #[] 41)).heap → instV code ≠ [] → ∃ ad, MA = some ad ∧ ∀ j u, (instV code)[j]? = some u → W.cell? (ad.add j) = some u) := hid (fun W hh hne => by
    obtain ⟨ad, e, hc⟩ := (HI6.out.upd ((Upd.refl w6 []).alloc (.cells #[] 41))).src hne
    refine ⟨ad, e, fun j u hj => ?_⟩
    have := hc j u hj
    unfold World.cell? at this ⊢
    rw [hh]
    exact this)
   have hcl : code.length ≤ 1599289640354 := by
    have := Hs3.out _ (List.getElem_mem hlt)
    rw [em] at this
    exact this
   have hn5' : ∀ W : World, Upd w6 W [] → W.cell? ⟨bk, off + k * 6 + 5, none⟩ = some (.slice MA code.length mc) := fun W u => (u.cells.1 bk _ hbk6).trans n5
   have hx5' : ∀ W : World, Upd w6 W [] → W.cell? ⟨w.heap.size, 5, none⟩ = some (.slice (some ⟨bk, off, none⟩) ms.length cM) := fun W u => (u.cells.1 _ _ HX6.out.lt).trans ((HX6.out.cell 5).trans (show (#[Value.string (bs nm), .string (bs sup), .slice AI ifs.length cI, .int .i64 fl, .int .i64 ld, .slice (some ⟨bk, off, none⟩) ms.length cM] : Array Value)[5]? = some (Value.slice (some ⟨bk, off, none⟩) ms.length cM) from rfl))
   have hy5' : ∀ W : World, Upd w6 W [] → W.cell? ⟨w.heap.size + 1 + 1, 5, none⟩ = some (.slice (some ⟨gB, 0, none⟩) ms.length ms.length) := fun W u => (u.cells.1 _ _ HY6.out.lt).trans ((HY6.out.cell 5).trans (show (#[Value.string (bs nm), .string (bs sup), .slice A1 ifs.length cap1, .int .i64 fl, .int .i64 ld, .slice (some ⟨gB, 0, none⟩) ms.length ms.length] : Array Value)[5]? = some (Value.slice (some ⟨gB, 0, none⟩) ms.length ms.length) from rfl))
   have ht5' : ∀ W : World, Upd w6 W [] → (∃ v, W.cell? ⟨gB, k * 6 + 5, none⟩ = some v) ∧ W.frozen? ⟨gB, k * 6 + 5, none⟩ = false := fun W u => by
    obtain ⟨h1, h2⟩ := HT6.out 5 (by omega)
    refine ⟨?_, by rw [u.cells.2.1 _ _ hgb6]; exact h2⟩
    rw [u.cells.1 _ _ hgb6]
    exact Option.isSome_iff_exists.1 h1
   have HK : Hid (∀ (W w' : World) (A' : Option Addr) (cap' : Nat), W.grownBy w' (Value.slice (some ⟨w6.heap.size, 0, none⟩) 0 0).ownBlock → W.heap = (w6.alloc (.cells #[] 41)).heap → W.os = w6.os → W.tape = w6.tape → W.output = w6.output → w'.ownsRow w6.heap.size 41 7 (.slice A' (0 + code.length) cap') (0 + code.length) ([] ++ instV code) →
     (w'.cell? ⟨bk, off + k * 6 + 5, none⟩ = some (.slice MA code.length mc) ∧ w'.cell? ⟨w.heap.size, 5, none⟩ = some (.slice (some ⟨bk, off, none⟩) ms.length cM) ∧ w'.cell? ⟨w.heap.size + 1 + 1, 5, none⟩ = some (.slice (some ⟨gB, 0, none⟩) ms.length ms.length) ∧ (∃ v, w'.cell? ⟨gB, k * 6 + 5, none⟩ = some v) ∧ w'.frozen? ⟨gB, k * 6 + 5, none⟩ = false) ∧
     Hid (CopyI ms.length ms gB (k + 1) (ms' ++ [⟨mn, md, mf, ml, mt, A', cap', code⟩]) (w'.setCell ⟨gB, k * 6 + 5, none⟩ (.slice A' code.length cap'))) ∧ Hid (Upd w5 (w'.setCell ⟨gB, k * 6 + 5, none⟩ (.slice A' code.length cap')) [gB])) := hid (fun W w' A' cap' hg hh h1 h2 h3 ho => by
    rw [Nat.zero_add, List.nil_append] at ho
    obtain ⟨u, hst⟩ := HI.out.code_step hlt hlt em H6.out (HC.out.meths _ (List.getElem_mem hlt)) hh h1 h2 h3 hg (fun q hq => by simp [Value.ownBlock] at hq; omega) ho
    obtain ⟨t1, t2⟩ := ht5' w' u
    exact ⟨⟨hn5' w' u, hx5' w' u, hy5' w' u, t1, t2⟩, hid hst, hid ((HU6.out.trans (u.mono (by simp))).setCell (p := ⟨gB, k * 6 + 5, none⟩) (.inl (by simp)) _)⟩)
   obtain ⟨⟨v6, e6⟩, g6⟩ := ht5' w6 (Upd.refl _ _)
   have x6 := hx5' w6 (Upd.refl _ _)
   have y6 := hy5' w6 (Upd.refl _ _)
   have hl0 := HX6.out.lt
   have hl2 := HY6.out.lt
   clear hO0 hn5' hx5' hy5' ht5' HI6 HT6 HX6 HY6 H6 HU6 HI HU em hs6
   go_wp2
   go_region_law (refine step_append_all _ rfl (.tmp 35) (.tmp 41) 32 rfl 41 ii _ 7 88 Tryz.underlying32 hn0 hn1 hn2 hn3 rfl (by decide) w6.heap.size (.slice (some ⟨w6.heap.size, 0, none⟩) 0 0) 0 [] rfl (by exact HO0.out _ rfl) MA code.length mc (instV code) rfl (by exact instV_length _) (by exact HSr.out _ rfl) (by exact instV_one _) (by unfold maxLen; omega) (by omega) (by simp) ?_; intro A' cap' w7 hown' hg'; obtain ⟨⟨p5, px5, py5, ⟨pv, pe⟩, pf⟩, HI7, HU7⟩ := HK.out _ _ _ _ hg' rfl rfl rfl rfl hown'; clear hown' hg')
   all_goals
    go_wp2
    go_roundw
    case rel => exact ⟨k + 1, _, (by go_num), by omega, HI7, HU7⟩
    case measure => simp [intOf]; omega
  ·obtain rfl : k = ms.length := by omega
   have HW1 := hid (HU.out.blk HV1.out (by simp; omega))
   have HOr := hid (HU.out.own HO5.out (fun q hq hm => by have h1 := HAB.out q (mem_ob.1 hq); simp at hm; omega))
   have hl1 := HW1.out.lt
   have y0 := (HW2.out.cell 0).trans (show _ = some (.string (bs nm)) from rfl)
   have y1 := (HW2.out.cell 1).trans (show _ = some (.string (bs sup)) from rfl)
   have y2 := (HW2.out.cell 2).trans (show _ = some (.slice A1 ifs.length cap1) from rfl)
   have y3 := (HW2.out.cell 3).trans (show _ = some (.int .i64 fl) from rfl)
   have y4 := (HW2.out.cell 4).trans (show _ = some (.int .i64 ld) from rfl)
   have z0 := (HW1.out.cell 0).trans (show _ = some (.string ⟨#[]⟩) from rfl)
   have z1 := (HW1.out.cell 1).trans (show _ = some (.string ⟨#[]⟩) from rfl)
   have z2 := (HW1.out.cell 2).trans (show _ = some (.slice none 0 0) from rfl)
   have z3 := (HW1.out.cell 3).trans (show _ = some (.int .i64 0) from rfl)
   have z4 := (HW1.out.cell 4).trans (show _ = some (.int .i64 0) from rfl)
   have z5 := (HW1.out.cell 5).trans (show _ = some (.slice none 0 0) from rfl)
   have f0 := HW1.out.frozen 0
   have f1 := HW1.out.frozen 1
   have f2 := HW1.out.frozen 2
   have f3 := HW1.out.frozen 3
   have f4 := HW1.out.frozen 4
   have f5 := HW1.out.frozen 5
   have HUw : Hid (Upd w wr []) := hid (by
    have h1 := HU5.out
    have h2 := HU.out
    exact ⟨h2.os.trans h1.os, h2.tape.trans h1.tape, h2.output.trans h1.output, Nat.le_trans h1.size h2.size, fun b hb _ => (h2.block b (Nat.lt_of_lt_of_le hb h1.size) (by simp; omega)).trans (h1.block b hb (by simp))⟩)
   go_wp2
   rw [six_set0]
   have hBe : Blk (wr.setCells (w.heap.size + 1) 0 [.string (bs nm), .string (bs sup), .slice A1 ifs.length cap1, .int .i64 fl, .int .i64 ld, .slice (some ⟨gB, 0, none⟩) ms.length ms.length]) (w.heap.size + 1) 25 #[.string (bs nm), .string (bs sup), .slice A1 ifs.length cap1, .int .i64 fl, .int .i64 ld, .slice (some ⟨gB, 0, none⟩) ms.length ms.length] := six_blk6 _ _ _ _ _ _ HW1.out
   have hoe : ∀ q, q ≠ w.heap.size + 1 → (wr.setCells (w.heap.size + 1) 0 [.string (bs nm), .string (bs sup), .slice A1 ifs.length cap1, .int .i64 fl, .int .i64 ld, .slice (some ⟨gB, 0, none⟩) ms.length ms.length]).heap[q]? = wr.heap[q]? := fun q hq => heap_setCells (w.heap.size + 1) _ 0 wr q hq
   have hse : (wr.setCells (w.heap.size + 1) 0 [.string (bs nm), .string (bs sup), .slice A1 ifs.length cap1, .int .i64 fl, .int .i64 ld, .slice (some ⟨gB, 0, none⟩) ms.length ms.length]).heap.size = wr.heap.size := size_setCells _ _ _ _
   have hUe : Upd w (wr.setCells (w.heap.size + 1) 0 [.string (bs nm), .string (bs sup), .slice A1 ifs.length cap1, .int .i64 fl, .int .i64 ld, .slice (some ⟨gB, 0, none⟩) ms.length ms.length]) [] := HUw.out.setCells' (.inr (by omega)) _ 0
   revert hBe hoe hse hUe
   generalize wr.setCells (w.heap.size + 1) 0 [.string (bs nm), .string (bs sup), .slice A1 ifs.length cap1, .int .i64 fl, .int .i64 ld, .slice (some ⟨gB, 0, none⟩) ms.length ms.length] = we
   intro hBe hoe hse hUe
   obtain ⟨uf, huf⟩ := undClass
   have hlen := HI.out.len
   have hgw := HI.out.lt
   refine bodyPost_ret (v := .agg #[.string (bs nm), .string (bs sup), .slice A1 ifs.length cap1, .int .i64 fl, .int .i64 ld, .slice (some ⟨gB, 0, none⟩) ms.length ms.length]) (results_cell_row Tryz.results73 _ _ (w.heap.size + 1) 25 #[.string (bs nm), .string (bs sup), .slice A1 ifs.length cap1, .int .i64 fl, .int .i64 ld, .slice (some ⟨gB, 0, none⟩) ms.length ms.length] (0, 0) (.struct uf) rfl hBe huf rfl sizeClass) rfl ⟨⟨nm, sup, A1, cap1, ifs, fl, ld, some ⟨gB, 0, none⟩, ms.length, ms'⟩, by rw [hlen], ?_, ?_, hUe⟩
   ·refine ⟨HC.out.nm, HC.out.sup, (strs_own HOr.out).other (g := w.heap.size + 1) (by omega) hoe (fun hne => ?_), own_cap HOr.out, HC.out.lenI, HC.out.strs, fun hne => ⟨gB, 0, rfl, by omega, fun i hi j hj => ?_⟩, by simp only [hlen]; exact Nat.le_refl _, by simp only [hlen]; exact HC.out.lenM, fun m hm => (HI.out.fit m hm).other (g := w.heap.size + 1) (by omega) hoe (above (by omega) (HI.out.code m hm)), HC.out.flN, HC.out.ldN⟩
    ·obtain ⟨g, cap', hv, -, -, hlt'⟩ := own_form HOr.out (List.length_pos_iff.2 hne)
     have hne' := own_blk_ne HOr.out HW1.out (by decide)
     cases hv
     exact ⟨g, 0, rfl, fun e => hne' (by rw [← e]; rfl)⟩
    ·rw [Nat.zero_add, World.cell?_of_block (w := wr) (a := ⟨gB, i * 6 + j, none⟩) (hoe gB (by omega))]
     exact HI.out.at_ i hi j hj
   ·unfold rdOf
    simp only
    rw [HI.out.same, List.take_length]
end Go.Proofs.YtjjdlgjofjfgmaaGreatDoor
