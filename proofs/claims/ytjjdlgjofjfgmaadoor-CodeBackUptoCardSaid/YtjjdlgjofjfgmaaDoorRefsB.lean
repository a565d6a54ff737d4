/-
  ParseRefText of a sound reference's text, walked.
-/
import Derived.Test.YtjjdlgjofjfgmaaDoorRefsA
import Derived.BigRegion
import Derived.StillTailTactics
set_option linter.unusedSimpArgs false
set_option linter.unusedVariables false
namespace Go.Proofs.YtjjdlgjofjfgmaaDoor
open Go.RowKit

theorem text_dot (r : RefL) : r.text[r.cls.length]? = some (sepB r) := by rw [text_eq, List.getElem?_append_right (Nat.le_refl _)]; simp
theorem text_cls (r : RefL) : (r.text.drop 0).take r.cls.length = r.cls := by rw [text_eq]; simp
theorem text_nm (r : RefL) : (r.text.drop (r.cls.length + 1)).take r.nm.length = r.nm := by
  rw [text_eq, show r.cls ++ sepB r :: (r.nm ++ r.ds) = (r.cls ++ [sepB r]) ++ (r.nm ++ r.ds) by simp, List.drop_append_of_le_length (by simp)]
  simp
theorem text_ds (r : RefL) : r.text.drop (r.cls.length + 1 + r.nm.length) = r.ds := by
  rw [text_eq, show r.cls ++ sepB r :: (r.nm ++ r.ds) = (r.cls ++ sepB r :: r.nm) ++ r.ds by simp, List.drop_append_of_le_length (by simp only [List.length_append, List.length_cons]; omega), List.drop_eq_nil_of_le (by simp only [List.length_append, List.length_cons]; omega)]
  simp
theorem text_len (r : RefL) : r.text.length = r.cls.length + 1 + r.nm.length + r.ds.length := by rw [text_eq]; simp; omega

theorem text_parts (ifc : Bool) (cls nm ds : List UInt8) (hok : (RefL.mk ifc cls nm ds).ok = true) :
    ∃ (s : ByteArray) (h : cls.length < s.size), bs (RefL.mk ifc cls nm ds).text = s ∧ s.size = cls.length + 1 + nm.length + ds.length ∧ s.size ≤ 4061 ∧ s.extract 0 cls.length = bs cls ∧
      s.extract (cls.length + 1) (cls.length + 1 + nm.length) = bs nm ∧ s.extract (cls.length + 1 + nm.length) (cls.length + 1 + nm.length + ds.length) = bs ds ∧
      (((s[cls.length]'h).toNat : Int) == 58) = ifc ∧ (∀ (j : Nat) b, s.data.toList[j]? = some b → b.toNat < 128) ∧ Lib.indexAny s.data.toList [46, 58] = cls.length ∧ Lib.indexByte s.data.toList 40 = ((cls.length + 1 + nm.length : Nat) : Int) := by
  obtain ⟨hsm, hasc, hdot, hopen⟩ := sound_of hok
  have hlen := text_len (RefL.mk ifc cls nm ds)
  have edot := text_dot (RefL.mk ifc cls nm ds)
  have f1 := text_cls (RefL.mk ifc cls nm ds)
  have f2 := text_nm (RefL.mk ifc cls nm ds)
  have f3 := text_ds (RefL.mk ifc cls nm ds)
  have hsp : sepB (RefL.mk ifc cls nm ds) = if ifc then 58 else 46 := rfl
  rw [hsp] at edot
  clear hsp hok
  generalize (RefL.mk ifc cls nm ds).text = tx at *
  simp only at hlen edot f1 f2 f3 hdot hopen
  have hs : (bs tx).size = cls.length + 1 + nm.length + ds.length := by rw [bs_size, hlen]
  have h : cls.length < (bs tx).size := by omega
  refine ⟨bs tx, h, rfl, hs, by rw [bs_size]; exact hsm, ?_, ?_, ?_, ?_, by rw [bs_data]; exact hasc, by rw [bs_data]; exact hdot, by rw [bs_data]; exact hopen⟩
  · rw [bs_extract, Nat.sub_zero, f1]
  · rw [bs_extract, show cls.length + 1 + nm.length - (cls.length + 1) = nm.length by omega, f2]
  · rw [bs_extract, f3, show cls.length + 1 + nm.length + ds.length - (cls.length + 1 + nm.length) = ds.length by omega, List.take_length]
  · rw [bs_get]
    rw [List.getElem?_eq_getElem (by omega)] at edot
    rw [Option.some.inj edot]
    cases ifc <;> decide

set_option maxHeartbeats 8000000 in
set_option maxRecDepth 1000000 in
theorem parseRefText_any (r : RefL) (w : World) (hr : r.fit) (hok : r.ok = true) (hm : MaxLenAt w) :
    Calls Tryd.prog 25 #[.string (bs r.text)] w fun e w' => e = .returned (.tuple #[r.v, .int .i64 0]) ∧ Upd w w' [] := by
  obtain ⟨ifc, cls, nm, ds⟩ := r
  have Hck := fun w hm => hid (refCheck_any (RefL.mk ifc cls nm ds) w hr hm)
  unfold refPost at Hck
  rw [hok] at Hck
  simp only [errIf, if_true] at Hck
  unfold RefL.v at Hck ⊢
  simp only at Hck ⊢
  obtain ⟨s, hlt, es, hsz, hsm, e1, e2, e3, hb, hasc, hdot, hopen⟩ := text_parts ifc cls nm ds hok
  rw [es]
  have Hany := fun w => hid (Tryd.strings_IndexAny_laid s (bs [46, 58]) w (by omega) (by rw [bs_size]; decide) hasc (by
    rw [bs_data]
    intro j b hb
    have := List.mem_of_getElem? hb
    simp only [List.mem_cons, List.not_mem_nil, or_false] at this
    rcases this with rfl | rfl <;> decide))
  have Hbyte := fun w => hid (Tryd.strings_IndexByte s 40 w)
  simp only [bs_data] at Hany
  rw [hdot] at Hany
  rw [show (40 : Int).toNat.toUInt8 = 40 from rfl, hopen] at Hbyte
  clear es hok hr hasc hdot hopen
  have HB := hid hb
  have HE1 := hid e1
  have HE2 := hid e2
  have HE3 := hid e3
  clear hb e1 e2 e3
  go_enter Tryd.func25, Tryd.ntmps25
  go_wp2_with fail
  refine (Hany _).out.mono ?_
  rintro e w1 ⟨rfl, hB1⟩
  have hz1 : w.heap.size < w1.heap.size := by have := hB1.size; simp at this; omega
  have hb0 := (Blk.new w 23 #[.bool false, .string ⟨#[]⟩, .string ⟨#[]⟩, .string ⟨#[]⟩])
  have hV1 : Upd w w1 [] := ((Upd.refl _ _).alloc _).trans (Upd.of_below hB1 [])
  have Hb1 : Hid (Blk w1 w.heap.size 23 #[.bool false, .string ⟨#[]⟩, .string ⟨#[]⟩, .string ⟨#[]⟩]) := hid ((Upd.of_below hB1 []).blk hb0 (by simp))
  have HV1 := hid hV1
  clear hB1 hb0 hV1
  go_wp2_with fail
  refine (Hbyte _).out.mono ?_
  rintro e w2 ⟨rfl, rfl⟩
  go_wp2
  have hb := HB.out
  have hq2 : cls.length + 1 + nm.length ≤ s.size := by omega
  have hq3 : s.extract (cls.length + 1 + nm.length) s.size = bs ds := by rw [hsz]; exact HE3.out
  have hq4 : ((cls.length : Int) + 1).toNat = cls.length + 1 := by omega
  have hq5 : ((cls.length : Int) + 1 + (nm.length : Int)).toNat = cls.length + 1 + nm.length := by omega
  have hq6 : (0 : Int) ≤ (cls.length : Int) + 1 := by omega
  have hq7 : (0 : Int) ≤ (cls.length : Int) + 1 + (nm.length : Int) := by omega
  have hq8 : (cls.length : Int) + 1 ≤ (cls.length : Int) + 1 + (nm.length : Int) := by omega
  have hq9 : (cls.length : Int) + 1 + (nm.length : Int) ≤ (s.size : Int) := by omega
  have hqa : (cls.length : Int) < (s.size : Int) := by omega
  have hqb : (cls.length : Int) ≤ (s.size : Int) := by omega
  have hw1 : wrap64 ((cls.length : Int) + 1) = (cls.length : Int) + 1 := by unfold wrap64; omega
  have e1 := HE1.out
  have e2 := HE2.out
  clear hsz
  go_big_region
  have hV3 : Upd w ((w2.alloc (.cells #[.bool ifc, .string (bs cls), .string (bs nm), .string (bs ds)] 23)).drew) [] := (HV1.out.alloc _).drew
  have hn3 : Blk ((w2.alloc (.cells #[.bool ifc, .string (bs cls), .string (bs nm), .string (bs ds)] 23)).drew) w2.heap.size 23 #[.bool ifc, .string (bs cls), .string (bs nm), .string (bs ds)] := Blk.new _ _ _
  have hr3 : Blk ((w2.alloc (.cells #[.bool ifc, .string (bs cls), .string (bs nm), .string (bs ds)] 23)).drew) w.heap.size 23 #[.bool false, .string ⟨#[]⟩, .string ⟨#[]⟩, .string ⟨#[]⟩] := Hb1.out.alloc _
  clear Hb1 HV1 hb hq2 hq3 hq4 hq5 hq6 hq7 hq8 hq9 hqb hw1 e1 e2 HE1 HE2 HE3 Hany Hbyte
  revert hV3 hn3 hr3
  generalize hgw : w2.heap.size = g
  generalize (w2.alloc (.cells #[.bool ifc, .string (bs cls), .string (bs nm), .string (bs ds)] 23)).drew = w3
  intro hV3 hn3 hr3
  rw [hgw] at hz1
  clear hgw
  have y0 := hn3.cell 0
  have y1 := hn3.cell 1
  have y2 := hn3.cell 2
  have y3 := hn3.cell 3
  simp at y0 y1 y2 y3
  go_wp2_with fail
  refine (Hck _ (hm.upd hV3 (by simp))).out.mono ?_
  rintro e w4 ⟨rfl, hU4⟩
  have hn4 := hU4.blk hn3 (by simp)
  have hr4 := hU4.blk hr3 (by simp)
  have hV4 := hV3.trans hU4
  clear hn3 hr3 hU4 hV3 y0 y1 y2 y3
  have y0 := hn4.cell 0
  have y1 := hn4.cell 1
  have y2 := hn4.cell 2
  have y3 := hn4.cell 3
  have z0 := hr4.cell 0
  have z1 := hr4.cell 1
  have z2 := hr4.cell 2
  have z3 := hr4.cell 3
  have f0 := hr4.frozen 0
  have f1 := hr4.frozen 1
  have f2 := hr4.frozen 2
  have f3 := hr4.frozen 3
  simp at y0 y1 y2 y3 z0 z1 z2 z3
  have hfin := hid ((((hr4.set_ 0 (.bool ifc)).set_ 1 (.string (bs cls))).set_ 2 (.string (bs nm))).set_ 3 (.string (bs ds)))
  go_wp2
  have g0 := hfin.out.cell 0
  have g1 := hfin.out.cell 1
  have g2 := hfin.out.cell 2
  have g3 := hfin.out.cell 3
  simp at g0 g1 g2 g3
  refine bodyPost_ret (v := .tuple #[.agg #[.bool ifc, .string (bs cls), .string (bs nm), .string (bs ds)], .int .i64 0]) (by simp [results, Tryd.results25, go_sem, g0, g1, g2, g3]) rfl ?_
  exact ⟨rfl, (((hV4.setCell (.inr (Nat.le_refl _)) _).setCell (.inr (Nat.le_refl _)) _).setCell (.inr (Nat.le_refl _)) _).setCell (.inr (Nat.le_refl _)) _⟩
end Go.Proofs.YtjjdlgjofjfgmaaDoor
