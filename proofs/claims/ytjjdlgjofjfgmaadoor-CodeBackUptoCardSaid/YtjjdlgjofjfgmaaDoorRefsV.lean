/-
  code.ParseRefText at every text, walked.
-/
import Derived.Test.YtjjdlgjofjfgmaaDoorRefsB
import Derived.Test.YtjjdlgjofjfgmaaDoorAnyB
set_option linter.unusedSimpArgs false
set_option linter.unusedVariables false
namespace Go.Proofs.YtjjdlgjofjfgmaaDoor
open Go.RowKit

/-- The first . or : of every text. -/
theorem indexDot_any (l : List UInt8) (w : World) (h : l.length < 4294967281) :
    Calls Tryd.prog 53 #[.string (bs l), .string ⟨#[46, 58]⟩] w fun e w' => e = .returned (.int .i64 (Lib.indexAny l [46, 58])) ∧ Upd w w' [] := by
  by_cases h8 : l.length ≤ 8
  · have := indexDot_short (bs l) w (by rw [bs_size]; exact h8)
    rw [bs_data] at this
    exact this
  · have := Tryd.strings_IndexAny_long (fun w => by kernel_rfl) (bs l) (bs [46, 58]) w (by rw [bs_size]; decide) (by rw [bs_size]; omega) (by rw [bs_size]; exact h) (by rw [bs_size]; decide) (by
      rw [bs_data]
      intro j b hb
      have := List.mem_of_getElem? hb
      simp only [List.mem_cons, List.not_mem_nil, or_false] at this
      rcases this with rfl | rfl <;> decide)
    rw [bs_data, bs_data] at this
    refine this.mono ?_
    rintro e w' ⟨rfl, rfl⟩
    exact ⟨rfl, ((Upd.refl _ _).alloc _).alloc _⟩

/-- Where a text parts into class, name and descriptor. -/
def splitRef (l : List UInt8) : Option RefL :=
  if Lib.indexAny l [46, 58] < 0 ∨ Lib.indexByte l 40 < Lib.indexAny l [46, 58] then none
  else some ⟨decide (l[(Lib.indexAny l [46, 58]).toNat]? = some 58), l.take (Lib.indexAny l [46, 58]).toNat, (l.drop ((Lib.indexAny l [46, 58]).toNat + 1)).take ((Lib.indexByte l 40).toNat - (Lib.indexAny l [46, 58]).toNat - 1), l.drop (Lib.indexByte l 40).toNat⟩
/-- The reference that a text writes, and the error. -/
def refOut (l : List UInt8) : RefL × Int := match splitRef l with
  | some r => if r.ok then (r, 0) else (noRefL, 4)
  | none => (noRefL, 4)

theorem indexByte_get (c : UInt8) : ∀ (l : List UInt8), 0 ≤ Lib.indexByte l c → l[(Lib.indexByte l c).toNat]? = some c
  | [], h => by simp [Lib.indexByte] at h
  | b :: l, h => by
    have ih := indexByte_get c l
    rw [Lib.indexByte] at h ⊢
    by_cases hb : b = c
    · rw [if_pos (by simpa using hb)]
      simp [hb]
    · rw [if_neg (by simpa using hb)] at h ⊢
      by_cases hn : Lib.indexByte l c = -1
      · rw [hn] at h
        simp at h
      · rw [if_neg (by simpa using hn)] at h ⊢
        have hge : 0 ≤ Lib.indexByte l c := by
          have := Lib.indexByte_ge l c
          omega
        rw [show (Lib.indexByte l c + 1).toNat = (Lib.indexByte l c).toNat + 1 by omega, List.getElem?_cons_succ]
        exact ih hge
theorem indexAny_get (cs : List UInt8) : ∀ (l : List UInt8), 0 ≤ Lib.indexAny l cs → ∃ x, l[(Lib.indexAny l cs).toNat]? = some x ∧ cs.contains x = true
  | [], h => by simp [Lib.indexAny] at h
  | b :: l, h => by
    have ih := indexAny_get cs l
    rw [Lib.indexAny] at h ⊢
    by_cases hb : cs.contains b = true
    · rw [if_pos hb]
      exact ⟨b, by simp, hb⟩
    · rw [if_neg hb] at h ⊢
      by_cases hn : Lib.indexAny l cs = -1
      · rw [hn] at h
        simp at h
      · rw [if_neg (by simpa using hn)] at h ⊢
        have hge : 0 ≤ Lib.indexAny l cs := by
          have := Lib.indexAny_ge cs l
          omega
        rw [show (Lib.indexAny l cs + 1).toNat = (Lib.indexAny l cs).toNat + 1 by omega, List.getElem?_cons_succ]
        exact ih hge

theorem split_text {l : List UInt8} {r : RefL} (h : splitRef l = some r) : r.text = l ∧ Lib.indexAny l [46, 58] = r.cls.length ∧ Lib.indexByte l 40 = ((r.cls.length + 1 + r.nm.length : Nat) : Int) := by
  unfold splitRef at h
  split at h
  · cases h
  · rename_i hn
    have h1 : 0 ≤ Lib.indexAny l [46, 58] := by omega
    have h2 : Lib.indexAny l [46, 58] ≤ Lib.indexByte l 40 := by omega
    obtain ⟨x, hx, hc⟩ := indexAny_get [46, 58] l h1
    have ho := indexByte_get 40 l (by omega)
    injection h with h
    subst h
    generalize Lib.indexAny l [46, 58] = d at *
    generalize Lib.indexByte l 40 = o at *
    obtain ⟨d, rfl⟩ : ∃ n : Nat, d = n := ⟨d.toNat, by omega⟩
    obtain ⟨o, rfl⟩ : ∃ n : Nat, o = n := ⟨o.toNat, by omega⟩
    simp only [Int.toNat_natCast] at hx ho ⊢
    have hdl : d < l.length := (List.getElem?_eq_some_iff.1 hx).1
    have hol : o < l.length := (List.getElem?_eq_some_iff.1 ho).1
    have hx2 : x = 46 ∨ x = 58 := by simpa using hc
    have hne : d ≠ o := by
      rintro rfl
      rw [hx] at ho
      injection ho with ho
      rcases hx2 with rfl | rfl <;> simp at ho
    have hlt : d < o := by omega
    have hcl : (l.take d).length = d := by simp; omega
    have hnl : ((l.drop (d + 1)).take (o - d - 1)).length = o - d - 1 := by simp; omega
    refine ⟨?_, by rw [hcl], by rw [hcl, hnl]; omega⟩
    unfold RefL.text
    simp only
    have hsep : (if decide (l[d]? = some 58) = true then [58] else [46]) = [x] := by
      rw [hx]
      rcases hx2 with rfl | rfl <;> decide
    rw [hsep]
    have e1 : l.take d ++ [x] = l.take (d + 1) := by
      rw [List.take_succ_eq_append_getElem hdl]
      rw [List.getElem?_eq_getElem hdl] at hx
      rw [Option.some.inj hx]
    rw [e1]
    have e2 : l.take (d + 1) ++ (l.drop (d + 1)).take (o - d - 1) = l.take o := by
      have e3 : l.take o = l.take ((d + 1) + (o - d - 1)) := by congr 1; omega
      rw [e3, ← List.take_add]
    rw [e2, List.take_append_drop]

/-- What a sound reference's text parts into. -/
theorem split_of {r : RefL} (h : r.ok = true) : splitRef r.text = some r := by
  obtain ⟨hsm, hasc, hdot, hopen⟩ := sound_of h
  have e1 := text_dot r
  have e2 := text_cls r
  have e3 := text_nm r
  have e4 := text_ds r
  unfold splitRef
  rw [hdot, hopen, if_neg (by omega)]
  simp only [Int.toNat_natCast]
  rw [List.drop_zero] at e2
  have e5 : (decide (r.text[r.cls.length]? = some 58)) = decide (some (sepB r) = some (58 : UInt8)) := by simp only [e1]
  rw [e5, e2, show r.cls.length + 1 + r.nm.length - r.cls.length - 1 = r.nm.length by omega, e3, e4]
  obtain ⟨ifc, cls, nm, ds⟩ := r
  simp only [Option.some.injEq, RefL.mk.injEq, and_true]
  unfold sepB
  cases ifc <;> simp
theorem refOut_ok {r : RefL} (h : r.ok = true) : refOut r.text = (r, 0) := by
  unfold refOut
  rw [split_of h]
  simp only [h, if_true]
theorem refOut_good {l : List UInt8} (h : (refOut l).2 = 0) : (refOut l).1.ok = true ∧ (refOut l).1.text = l := by
  unfold refOut at h ⊢
  cases hs : splitRef l with
  | none => rw [hs] at h; simp at h
  | some r =>
    rw [hs] at h
    simp only at h ⊢
    cases ho : r.ok with
    | true => rw [if_pos rfl]; exact ⟨ho, (split_text hs).1⟩
    | false => rw [ho] at h; simp at h
theorem refOut_fit (l : List UInt8) (h : l.length ≤ 9223372036854775807) : (refOut l).1.fit := by
  unfold refOut
  cases hs : splitRef l with
  | none => simp [RefL.fit, noRefL]
  | some r =>
    have ht := (split_text hs).1
    have hl := congrArg List.length ht
    rw [text_len] at hl
    simp only
    split
    · show r.fit
      unfold RefL.fit
      omega
    · simp [RefL.fit, noRefL]
theorem text_partsV (ifc : Bool) (cls nm ds : List UInt8) {l : List UInt8} (ht : (RefL.mk ifc cls nm ds).text = l) (hd : Lib.indexAny l [46, 58] = cls.length) (ho : Lib.indexByte l 40 = ((cls.length + 1 + nm.length : Nat) : Int)) :
    ∃ (s : ByteArray) (h : cls.length < s.size), bs l = s ∧ s.size = cls.length + 1 + nm.length + ds.length ∧ s.size = l.length ∧ s.extract 0 cls.length = bs cls ∧
      s.extract (cls.length + 1) (cls.length + 1 + nm.length) = bs nm ∧ s.extract (cls.length + 1 + nm.length) (cls.length + 1 + nm.length + ds.length) = bs ds ∧
      (((s[cls.length]'h).toNat : Int) == 58) = ifc := by
  have hlen := text_len (RefL.mk ifc cls nm ds)
  have edot := text_dot (RefL.mk ifc cls nm ds)
  have f1 := text_cls (RefL.mk ifc cls nm ds)
  have f2 := text_nm (RefL.mk ifc cls nm ds)
  have f3 := text_ds (RefL.mk ifc cls nm ds)
  have hsp : sepB (RefL.mk ifc cls nm ds) = if ifc then 58 else 46 := rfl
  rw [hsp] at edot
  rw [ht] at *
  simp only at hlen edot f1 f2 f3
  have hs : (bs l).size = cls.length + 1 + nm.length + ds.length := by rw [bs_size, hlen]
  have h : cls.length < (bs l).size := by omega
  refine ⟨bs l, h, rfl, hs, bs_size l, ?_, ?_, ?_, ?_⟩
  · rw [bs_extract, Nat.sub_zero, f1]
  · rw [bs_extract, show cls.length + 1 + nm.length - (cls.length + 1) = nm.length by omega, f2]
  · rw [bs_extract, f3, show cls.length + 1 + nm.length + ds.length - (cls.length + 1 + nm.length) = ds.length by omega, List.take_length]
  · rw [bs_get]
    rw [List.getElem?_eq_getElem (by omega)] at edot
    rw [Option.some.inj edot]
    cases ifc <;> decide

set_option maxHeartbeats 8000000 in
set_option maxRecDepth 1000000 in
theorem parseRefV_any (l : List UInt8) (w : World) (hl : l.length < 4294967281) (hm : MaxLenAt w) :
    Calls Tryd.prog 25 #[.string (bs l)] w fun e w' => e = .returned (.tuple #[(refOut l).1.v, .int .i64 (refOut l).2]) ∧ Upd w w' [] := by
  have Hany := fun w => hid (indexDot_any l w hl)
  have Hbyte0 := fun w => hid (Tryd.strings_IndexByte (bs l) 40 w)
  rw [show (40 : Int).toNat.toUInt8 = 40 from rfl, bs_data] at Hbyte0
  cases hs : splitRef l with
  | none =>
    have hout : refOut l = (noRefL, 4) := by unfold refOut; rw [hs]
    rw [hout]
    have hbad : Lib.indexAny l [46, 58] < 0 ∨ Lib.indexByte l 40 < Lib.indexAny l [46, 58] := by
      unfold splitRef at hs
      split at hs
      · assumption
      · cases hs
    clear hs hout
    generalize Lib.indexAny l [46, 58] = d at *
    generalize Lib.indexByte l 40 = o at *
    unfold RefL.v noRefL
    simp only [bs_nil]
    by_cases hd : d < 0
    · clear hbad
      go_enter Tryd.func25, Tryd.ntmps25
      go_wp2_with fail
      refine (Hany _).out.mono ?_
      rintro e w1 ⟨rfl, hU1⟩
      have hb1 := hU1.blk (Blk.new w 23 #[.bool false, .string ⟨#[]⟩, .string ⟨#[]⟩, .string ⟨#[]⟩]) (by simp)
      have hV1 : Upd w w1 [] := ((Upd.refl _ _).alloc _).trans hU1
      go_wp2_with fail
      refine (Hbyte0 _).out.mono ?_
      rintro e w2 ⟨rfl, rfl⟩
      have y0 := hb1.cell 0
      have y1 := hb1.cell 1
      have y2 := hb1.cell 2
      have y3 := hb1.cell 3
      have f0 := hb1.frozen 0
      have f1 := hb1.frozen 1
      have f2 := hb1.frozen 2
      have f3 := hb1.frozen 3
      simp at y0 y1 y2 y3
      have hfin := hid ((((hb1.set_ 0 (.bool false)).set_ 1 (.string ⟨#[]⟩)).set_ 2 (.string ⟨#[]⟩)).set_ 3 (.string ⟨#[]⟩))
      go_wp2
      have g0 := hfin.out.cell 0
      have g1 := hfin.out.cell 1
      have g2 := hfin.out.cell 2
      have g3 := hfin.out.cell 3
      simp at g0 g1 g2 g3
      refine bodyPost_ret (v := .tuple #[.agg #[.bool false, .string ⟨#[]⟩, .string ⟨#[]⟩, .string ⟨#[]⟩], .int .i64 4]) (by simp [results, Tryd.results25, go_sem, g0, g1, g2, g3]) rfl ?_
      exact ⟨rfl, (((hV1.setCell (.inr (Nat.le_refl _)) _).setCell (.inr (Nat.le_refl _)) _).setCell (.inr (Nat.le_refl _)) _).setCell (.inr (Nat.le_refl _)) _⟩
    · have ho : o < d := by omega
      clear hbad
      go_enter Tryd.func25, Tryd.ntmps25
      go_wp2_with fail
      refine (Hany _).out.mono ?_
      rintro e w1 ⟨rfl, hU1⟩
      have hb1 := hU1.blk (Blk.new w 23 #[.bool false, .string ⟨#[]⟩, .string ⟨#[]⟩, .string ⟨#[]⟩]) (by simp)
      have hV1 : Upd w w1 [] := ((Upd.refl _ _).alloc _).trans hU1
      go_wp2_with fail
      refine (Hbyte0 _).out.mono ?_
      rintro e w2 ⟨rfl, rfl⟩
      have y0 := hb1.cell 0
      have y1 := hb1.cell 1
      have y2 := hb1.cell 2
      have y3 := hb1.cell 3
      have f0 := hb1.frozen 0
      have f1 := hb1.frozen 1
      have f2 := hb1.frozen 2
      have f3 := hb1.frozen 3
      simp at y0 y1 y2 y3
      have hfin := hid ((((hb1.set_ 0 (.bool false)).set_ 1 (.string ⟨#[]⟩)).set_ 2 (.string ⟨#[]⟩)).set_ 3 (.string ⟨#[]⟩))
      go_wp2
      have g0 := hfin.out.cell 0
      have g1 := hfin.out.cell 1
      have g2 := hfin.out.cell 2
      have g3 := hfin.out.cell 3
      simp at g0 g1 g2 g3
      refine bodyPost_ret (v := .tuple #[.agg #[.bool false, .string ⟨#[]⟩, .string ⟨#[]⟩, .string ⟨#[]⟩], .int .i64 4]) (by simp [results, Tryd.results25, go_sem, g0, g1, g2, g3]) rfl ?_
      exact ⟨rfl, (((hV1.setCell (.inr (Nat.le_refl _)) _).setCell (.inr (Nat.le_refl _)) _).setCell (.inr (Nat.le_refl _)) _).setCell (.inr (Nat.le_refl _)) _⟩
  | some r =>
    obtain ⟨ht, hd, ho⟩ := split_text hs
    have hrl : r.fit := by
      have hl2 := congrArg List.length ht
      rw [text_len] at hl2
      unfold RefL.fit
      omega
    have Hck := fun w hm => hid (refCheck_any r w hrl hm)
    have hout : refOut l = if r.ok then (r, 0) else (noRefL, 4) := by unfold refOut; rw [hs]
    rw [hout]
    unfold refPost at Hck
    obtain ⟨b, hb⟩ : ∃ b, r.ok = b := ⟨_, rfl⟩
    rw [hb] at Hck ⊢
    clear hs hout hrl hb
    obtain ⟨ifc, cls, nm, ds⟩ := r
    unfold RefL.v at Hck ⊢
    simp only at Hck hd ho ⊢
    obtain ⟨s, hlt, es, hsz, hsm, e1, e2, e3, hb⟩ := text_partsV ifc cls nm ds ht hd ho
    rw [es] at Hany Hbyte0 ⊢
    rw [hd] at Hany
    rw [ho] at Hbyte0
    have Hbyte := Hbyte0
    clear es ht hd ho Hbyte0
    have HB := hid hb
    have HE1 := hid e1
    have HE2 := hid e2
    have HE3 := hid e3
    have hsm2 : s.size < 4294967281 := by omega
    clear hb e1 e2 e3 hsm hl
    cases b with
    | true =>
      simp only [errIf, if_true] at Hck ⊢
      go_enter Tryd.func25, Tryd.ntmps25
      go_wp2_with fail
      refine (Hany _).out.mono ?_
      rintro e w1 ⟨rfl, hU1⟩
      have hz1 : w.heap.size < w1.heap.size := by have := hU1.size; simp at this; omega
      have hb0 := (Blk.new w 23 #[.bool false, .string ⟨#[]⟩, .string ⟨#[]⟩, .string ⟨#[]⟩])
      have hV1 : Upd w w1 [] := ((Upd.refl _ _).alloc _).trans hU1
      have Hb1 : Hid (Blk w1 w.heap.size 23 #[.bool false, .string ⟨#[]⟩, .string ⟨#[]⟩, .string ⟨#[]⟩]) := hid (hU1.blk hb0 (by simp))
      have HV1 := hid hV1
      clear hU1 hb0 hV1
      go_wp2_with fail
      refine (Hbyte _).out.mono ?_
      rintro e w2 ⟨rfl, rfl⟩
      go_wp2
      have hb := HB.out
      have hq2 : cls.length + 1 + nm.length ≤ s.size := by omega
      have hq3 : s.extract (cls.length + 1 + nm.length) s.size = bs ds := by rw [hsz]; exact HE3.out
      have hq4 : ((cls.length : Int) + 1).toNat = cls.length + 1 := by omega
      have hq5 : ((cls.length : Int) + 1 + (nm.length : Int)).toNat = cls.length + 1 + nm.length := by omega
      have hq6 : (0 : Int) ≤ (cls.length : Int) + 1 := by omega
      have hq7 : (0 : Int) ≤ (cls.length : Int) + 1 + (nm.length : Int) := by omega
      have hq8 : (cls.length : Int) + 1 ≤ (cls.length : Int) + 1 + (nm.length : Int) := by omega
      have hq9 : (cls.length : Int) + 1 + (nm.length : Int) ≤ (s.size : Int) := by omega
      have hqa : (cls.length : Int) < (s.size : Int) := by omega
      have hqb : (cls.length : Int) ≤ (s.size : Int) := by omega
      have hw1 : wrap64 ((cls.length : Int) + 1) = (cls.length : Int) + 1 := by unfold wrap64; omega
      have e1 := HE1.out
      have e2 := HE2.out
      clear hsz
      go_big_region
      have hV3 : Upd w ((w2.alloc (.cells #[.bool ifc, .string (bs cls), .string (bs nm), .string (bs ds)] 23)).drew) [] := (HV1.out.alloc _).drew
      have hn3 : Blk ((w2.alloc (.cells #[.bool ifc, .string (bs cls), .string (bs nm), .string (bs ds)] 23)).drew) w2.heap.size 23 #[.bool ifc, .string (bs cls), .string (bs nm), .string (bs ds)] := Blk.new _ _ _
      have hr3 : Blk ((w2.alloc (.cells #[.bool ifc, .string (bs cls), .string (bs nm), .string (bs ds)] 23)).drew) w.heap.size 23 #[.bool false, .string ⟨#[]⟩, .string ⟨#[]⟩, .string ⟨#[]⟩] := Hb1.out.alloc _
      clear Hb1 HV1 hb hq2 hq3 hq4 hq5 hq6 hq7 hq8 hq9 hqb hw1 e1 e2 HE1 HE2 HE3 Hany Hbyte
      revert hV3 hn3 hr3
      generalize hgw : w2.heap.size = g
      generalize (w2.alloc (.cells #[.bool ifc, .string (bs cls), .string (bs nm), .string (bs ds)] 23)).drew = w3
      intro hV3 hn3 hr3
      rw [hgw] at hz1
      clear hgw
      have y0 := hn3.cell 0
      have y1 := hn3.cell 1
      have y2 := hn3.cell 2
      have y3 := hn3.cell 3
      simp at y0 y1 y2 y3
      go_wp2_with fail
      refine (Hck _ (hm.upd hV3 (by simp))).out.mono ?_
      rintro e w4 ⟨rfl, hU4⟩
      have hn4 := hU4.blk hn3 (by simp)
      have hr4 := hU4.blk hr3 (by simp)
      have hV4 := hV3.trans hU4
      clear hn3 hr3 hU4 hV3 y0 y1 y2 y3
      have y0 := hn4.cell 0
      have y1 := hn4.cell 1
      have y2 := hn4.cell 2
      have y3 := hn4.cell 3
      have z0 := hr4.cell 0
      have z1 := hr4.cell 1
      have z2 := hr4.cell 2
      have z3 := hr4.cell 3
      have f0 := hr4.frozen 0
      have f1 := hr4.frozen 1
      have f2 := hr4.frozen 2
      have f3 := hr4.frozen 3
      simp at y0 y1 y2 y3 z0 z1 z2 z3
      have hfin := hid ((((hr4.set_ 0 (.bool ifc)).set_ 1 (.string (bs cls))).set_ 2 (.string (bs nm))).set_ 3 (.string (bs ds)))
      go_wp2
      have g0 := hfin.out.cell 0
      have g1 := hfin.out.cell 1
      have g2 := hfin.out.cell 2
      have g3 := hfin.out.cell 3
      simp at g0 g1 g2 g3
      refine bodyPost_ret (v := .tuple #[.agg #[.bool ifc, .string (bs cls), .string (bs nm), .string (bs ds)], .int .i64 0]) (by simp [results, Tryd.results25, go_sem, g0, g1, g2, g3]) rfl ?_
      exact ⟨rfl, (((hV4.setCell (.inr (Nat.le_refl _)) _).setCell (.inr (Nat.le_refl _)) _).setCell (.inr (Nat.le_refl _)) _).setCell (.inr (Nat.le_refl _)) _⟩
    | false =>
      simp only [errIf] at Hck ⊢
      simp only [noRefL, bs_nil, Bool.false_eq_true, if_false] at Hck ⊢
      go_enter Tryd.func25, Tryd.ntmps25
      go_wp2_with fail
      refine (Hany _).out.mono ?_
      rintro e w1 ⟨rfl, hU1⟩
      have hz1 : w.heap.size < w1.heap.size := by have := hU1.size; simp at this; omega
      have hb0 := (Blk.new w 23 #[.bool false, .string ⟨#[]⟩, .string ⟨#[]⟩, .string ⟨#[]⟩])
      have hV1 : Upd w w1 [] := ((Upd.refl _ _).alloc _).trans hU1
      have Hb1 : Hid (Blk w1 w.heap.size 23 #[.bool false, .string ⟨#[]⟩, .string ⟨#[]⟩, .string ⟨#[]⟩]) := hid (hU1.blk hb0 (by simp))
      have HV1 := hid hV1
      clear hU1 hb0 hV1
      go_wp2_with fail
      refine (Hbyte _).out.mono ?_
      rintro e w2 ⟨rfl, rfl⟩
      go_wp2
      have hb := HB.out
      have hq2 : cls.length + 1 + nm.length ≤ s.size := by omega
      have hq3 : s.extract (cls.length + 1 + nm.length) s.size = bs ds := by rw [hsz]; exact HE3.out
      have hq4 : ((cls.length : Int) + 1).toNat = cls.length + 1 := by omega
      have hq5 : ((cls.length : Int) + 1 + (nm.length : Int)).toNat = cls.length + 1 + nm.length := by omega
      have hq6 : (0 : Int) ≤ (cls.length : Int) + 1 := by omega
      have hq7 : (0 : Int) ≤ (cls.length : Int) + 1 + (nm.length : Int) := by omega
      have hq8 : (cls.length : Int) + 1 ≤ (cls.length : Int) + 1 + (nm.length : Int) := by omega
      have hq9 : (cls.length : Int) + 1 + (nm.length : Int) ≤ (s.size : Int) := by omega
      have hqa : (cls.length : Int) < (s.size : Int) := by omega
      have hqb : (cls.length : Int) ≤ (s.size : Int) := by omega
      have hw1 : wrap64 ((cls.length : Int) + 1) = (cls.length : Int) + 1 := by unfold wrap64; omega
      have e1 := HE1.out
      have e2 := HE2.out
      clear hsz
      go_big_region
      have hV3 : Upd w ((w2.alloc (.cells #[.bool ifc, .string (bs cls), .string (bs nm), .string (bs ds)] 23)).drew) [] := (HV1.out.alloc _).drew
      have hn3 : Blk ((w2.alloc (.cells #[.bool ifc, .string (bs cls), .string (bs nm), .string (bs ds)] 23)).drew) w2.heap.size 23 #[.bool ifc, .string (bs cls), .string (bs nm), .string (bs ds)] := Blk.new _ _ _
      have hr3 : Blk ((w2.alloc (.cells #[.bool ifc, .string (bs cls), .string (bs nm), .string (bs ds)] 23)).drew) w.heap.size 23 #[.bool false, .string ⟨#[]⟩, .string ⟨#[]⟩, .string ⟨#[]⟩] := Hb1.out.alloc _
      clear Hb1 HV1 hb hq2 hq3 hq4 hq5 hq6 hq7 hq8 hq9 hqb hw1 e1 e2 HE1 HE2 HE3 Hany Hbyte
      revert hV3 hn3 hr3
      generalize hgw : w2.heap.size = g
      generalize (w2.alloc (.cells #[.bool ifc, .string (bs cls), .string (bs nm), .string (bs ds)] 23)).drew = w3
      intro hV3 hn3 hr3
      rw [hgw] at hz1
      clear hgw
      have y0 := hn3.cell 0
      have y1 := hn3.cell 1
      have y2 := hn3.cell 2
      have y3 := hn3.cell 3
      simp at y0 y1 y2 y3
      go_wp2_with fail
      refine (Hck _ (hm.upd hV3 (by simp))).out.mono ?_
      rintro e w4 ⟨rfl, hU4⟩
      have hn4 := hU4.blk hn3 (by simp)
      have hr4 := hU4.blk hr3 (by simp)
      have hV4 := hV3.trans hU4
      clear hn3 hr3 hU4 hV3 y0 y1 y2 y3
      have y0 := hn4.cell 0
      have y1 := hn4.cell 1
      have y2 := hn4.cell 2
      have y3 := hn4.cell 3
      have z0 := hr4.cell 0
      have z1 := hr4.cell 1
      have z2 := hr4.cell 2
      have z3 := hr4.cell 3
      have f0 := hr4.frozen 0
      have f1 := hr4.frozen 1
      have f2 := hr4.frozen 2
      have f3 := hr4.frozen 3
      simp at y0 y1 y2 y3 z0 z1 z2 z3
      have hfin := hid ((((hr4.set_ 0 (.bool false)).set_ 1 (.string ⟨#[]⟩)).set_ 2 (.string ⟨#[]⟩)).set_ 3 (.string ⟨#[]⟩))
      go_wp2
      have g0 := hfin.out.cell 0
      have g1 := hfin.out.cell 1
      have g2 := hfin.out.cell 2
      have g3 := hfin.out.cell 3
      simp at g0 g1 g2 g3
      refine bodyPost_ret (v := .tuple #[.agg #[.bool false, .string ⟨#[]⟩, .string ⟨#[]⟩, .string ⟨#[]⟩], .int .i64 4]) (by simp [results, Tryd.results25, go_sem, g0, g1, g2, g3]) rfl ?_
      exact ⟨rfl, (((hV4.setCell (.inr (Nat.le_refl _)) _).setCell (.inr (Nat.le_refl _)) _).setCell (.inr (Nat.le_refl _)) _).setCell (.inr (Nat.le_refl _)) _⟩
end Go.Proofs.YtjjdlgjofjfgmaaDoor
