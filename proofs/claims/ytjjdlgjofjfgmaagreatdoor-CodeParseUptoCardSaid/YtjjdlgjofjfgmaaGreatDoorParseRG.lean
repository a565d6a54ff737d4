/-
  The document's Parse of a line, walked.
-/
import Derived.Test.YtjjdlgjofjfgmaaGreatDoorParseRF
import Derived.Test.YtjjdlgjofjfgmaaGreatDoorKH
import Derived.Test.YtjjdlgjofjfgmaaGreatDoorK6
set_option linter.unusedSimpArgs false
set_option linter.unusedVariables false
namespace Go.Proofs.YtjjdlgjofjfgmaaGreatDoor
open Go.RowKit Go.Sort

theorem getD_le {c : UInt8} (l : List UInt8) (k : Nat) : ((splitL c l).getD k []).length ≤ l.length := by
  rw [List.getD_eq_getElem?_getD]
  by_cases h : k < (splitL c l).length
  · rw [List.getElem?_eq_getElem h]
    exact splitL_le c l _ (List.getElem_mem h)
  · rw [List.getElem?_eq_none (by omega)]
    simp
theorem docI_fit (l : List UInt8) (hl : l.length ≤ 9000000000000) : (docI l).fit := by
  obtain ⟨h1, h2⟩ := splitL_lens l hl
  have h3 := h1 _ (getLastD_mem [] _ h2)
  have h4 := getD_le (c := 32) l 2
  have h5 := getD_le (c := 32) l 1
  unfold docI
  simp only
  refine ⟨?_, ?_⟩
  · simp only
    split
    · omega
    · split
      · omega
      · simp
  · simp only
    split
    · exact refOut_fit _ (by omega)
    · simp [RefL.fit, noRefL]

set_option maxHeartbeats 16000000 in
set_option maxRecDepth 1000000 in
theorem parseRI_any (l : List UInt8) (w : World) (hl : l.length ≤ 100000000) : Calls Tryz.prog 19 #[.string (bs l)] w fun e w' => e = .returned (.tuple #[(docOut l).1.v, .int .i64 (docOut l).2]) ∧ Upd w w' [] := by
  have Hcut := fun w => hid (cutR_any 32 l w hl)
  have HO : Hid (docOut l = if (docF l && decide ((splitL 32 l).length = docW l)) && (docI l).ok then (docI l, 0) else (⟨0, 0, [], noRefL⟩, 4)) := hid rfl
  have HI : Hid (docI l = ⟨opN ((splitL 32 l).headD []), if docN (kindL (opN ((splitL 32 l).headD []))) (splitL 32 l) then (numOut ((splitL 32 l).getD 1 [])).1 else 0, if kindL (opN ((splitL 32 l).headD [])) = 4 ∨ kindL (opN ((splitL 32 l).headD [])) = 5 ∨ kindL (opN ((splitL 32 l).headD [])) = 6 then (splitL 32 l).getLastD [] else if kindL (opN ((splitL 32 l).headD [])) = 7 ∧ (splitL 32 l).length = 3 then (splitL 32 l).getD 2 [] else [], if kindL (opN ((splitL 32 l).headD [])) = 8 ∧ (splitL 32 l).length = 2 then (refOut ((splitL 32 l).getD 1 [])).1 else noRefL⟩) := hid rfl
  have HF : Hid (docF l = if docN (kindL (opN ((splitL 32 l).headD []))) (splitL 32 l) then (numOut ((splitL 32 l).getD 1 [])).2 else if kindL (opN ((splitL 32 l).headD [])) = 8 ∧ (splitL 32 l).length = 2 then decide ((refOut ((splitL 32 l).getD 1 [])).2 = 0) else true) := hid rfl
  have HW : Hid (docW l = if kindL (opN ((splitL 32 l).headD [])) = -1 ∨ kindL (opN ((splitL 32 l).headD [])) = 0 then 1 else if kindL (opN ((splitL 32 l).headD [])) = 7 then 3 else 2) := hid rfl
  have hfit := docI_fit l (by omega)
  have Hck := fun w => hid (checkR_any (docI l) w hfit)
  unfold checkPost at Hck
  have hlens := splitL_lens l (by omega)
  have hg1 := getD_le (c := 32) l 1
  have hg2 := getD_le (c := 32) l 2
  have hcnt : (splitL 32 l).length ≤ 100000001 := by
    rw [splitL_length]
    have := List.count_le_length (a := (32 : UInt8)) (l := l)
    omega
  clear hfit
  generalize docOut l = PO at HO ⊢
  generalize docI l = J at HI HO Hck
  generalize docF l = F at HF HO
  generalize docW l = W at HW HO
  generalize splitL 32 l = ps at *
  obtain ⟨hpl, hne⟩ := hlens
  have hpos : 0 < ps.length := by
    cases ps with
    | nil => exact absurd rfl hne
    | cons a t => simp
  have Hhd : Hid (ps[0]'hpos = ps.headD []) := hid (by cases ps with
    | nil => exact absurd rfl hne
    | cons a t => rfl)
  have Hla : Hid (ps[ps.length - 1]'(by omega) = ps.getLastD []) := hid (by rw [List.getLastD_eq_getLast?, List.getLast?_eq_getElem?, List.getElem?_eq_getElem (by omega)]; rfl)
  have Hp1 : Hid (∀ h : 1 < ps.length, ps[1]'h = ps.getD 1 []) := hid (fun h => by rw [List.getD_eq_getElem?_getD, List.getElem?_eq_getElem h]; rfl)
  have Hp2 : Hid (∀ h : 2 < ps.length, ps[2]'h = ps.getD 2 []) := hid (fun h => by rw [List.getD_eq_getElem?_getD, List.getElem?_eq_getElem h]; rfl)
  obtain ⟨lastP, hlp⟩ : ∃ x, ps.getLastD [] = x := ⟨_, rfl⟩
  obtain ⟨hd, hhd⟩ : ∃ x, ps.headD [] = x := ⟨_, rfl⟩
  obtain ⟨p1, hp1⟩ : ∃ x, ps.getD 1 [] = x := ⟨_, rfl⟩
  obtain ⟨p2, hp2⟩ : ∃ x, ps.getD 2 [] = x := ⟨_, rfl⟩
  rw [hlp] at HI Hla
  rw [hhd] at HI HF HW Hhd
  rw [hp1] at HI HF Hp1 hg1
  rw [hp2] at HI Hp2 hg2
  obtain ⟨op, hopn⟩ : ∃ o, opN hd = o := ⟨_, rfl⟩
  rw [hopn] at HI HF HW
  have Hop := hid hopn
  clear hpl hne hlp hhd hp1 hp2 hopn
  go_enter Tryz.func19, Tryz.ntmps19
  have hU0 : Upd w (w.alloc (.cells zeroI 41)) [] := (Upd.refl _ _).alloc _
  unfold zeroI at hU0
  go_wp2_with fail
  refine (Hcut _).out.mono ?_
  rintro e w1 ⟨g, cap, rfl, hown, hgw, hU⟩
  have hU1 := hU0.trans hU
  have HB2 := hid (hU.blk (Blk.new w 41 zeroI) (by simp))
  have HU1 := hid hU1
  have hc := fun i (hi : i < ps.length) => own_cell hown i hi
  have hlt1 : g < w1.heap.size := by
    have h := hc 0 hpos
    rw [List.getElem?_map, List.getElem?_eq_getElem hpos] at h
    simp only [Option.map_some] at h
    unfold World.cell? at h
    by_cases hh : g < w1.heap.size
    · exact hh
    · rw [Array.getElem?_eq_none (by simpa using hh)] at h
      simp at h
  have hcl : ∀ i (hi : i < ps.length), w1.cell? ⟨g, i, none⟩ = some (.string (bs ps[i])) := fun i hi => by
    rw [hc i hi, List.getElem?_map, List.getElem?_eq_getElem hi]
    rfl
  have HC1 := hid hcl
  have hz1 : w.heap.size < w1.heap.size := HB2.out.lt
  clear hown hU hU0 hU1 hc hcl hgw
  have x0 := HC1.out 0 hpos
  rw [Hhd.out] at x0
  have hposI : (0 : Int) < ps.length := by omega
  go_wp2_with fail
  refine (op_any hd _).mono ?_
  rintro e w2 ⟨rfl, hU2⟩
  rw [Hop.out]
  have HB5 := hid (Blk.new w2 41 (opI op))
  have hU3 := hU2.trans ((Upd.refl w2 []).alloc (.cells (opI op) 41))
  have HU3 := hid hU3
  have HB3 := hid (hU3.blk HB2.out (by simp))
  have HC3 : Hid (∀ i (hi : i < ps.length), (w2.alloc (.cells (opI op) 41)).cell? ⟨g, i, none⟩ = some (.string (bs ps[i]))) := hid (fun i hi => by rw [hU3.cells.1 g i hlt1]; exact HC1.out i hi)
  have hz2 : w1.heap.size ≤ w2.heap.size := hU2.size
  clear hU2 hU3 x0
  unfold opI at HB5 HU3 HB3 HC3
  have Hopr : ∀ w, Hid (Calls Tryz.prog 59 #[.int .i64 (op : Int)] w fun e w' => e = .returned (.int .i64 (kindL (op : Int))) ∧ Upd w w' []) := fun w => hid ((operandR_any (op : Int) w).mono (fun e w' h => ⟨h.1, by rw [← h.2]; exact Upd.refl _ _⟩))
  obtain ⟨kk, hkk⟩ : ∃ kk, kindL (op : Int) = kk := ⟨_, rfl⟩
  have hkc := kindL_cases (op : Int)
  rw [hkk] at Hopr HI HF HW hkc
  clear hkk
  go_wp2_with fail
  refine (Hopr _).out.mono ?_
  rintro e w5 ⟨rfl, hU5⟩
  have HB6 := hid (hU5.blk HB5.out (by simp))
  have HC6 : Hid (∀ i (hi : i < ps.length), w5.cell? ⟨g, i, none⟩ = some (.string (bs ps[i]))) := hid (fun i hi => by rw [hU5.cells.1 g i (by simp; omega)]; exact HC3.out i hi)
  have HU5 := hid (HU3.out.trans hU5)
  have hz5 : w2.heap.size < w5.heap.size := HB6.out.lt
  clear hU5 HB5 HC3 HU3 HB3 Hopr
  go_upto_block 0 with (fail)
  go_cut [6, 7] (fun t6 t7 wx => t6 = .bool F ∧ t7 = .int .i64 (W : Int) ∧ Hid (Blk wx w2.heap.size 41 J.cells) ∧ Upd w1 wx [])
  case first =>
    have c0 := HB6.out.cell 0
    have c1 := HB6.out.cell 1
    have c2 := HB6.out.cell 2
    have c3 := HB6.out.cell 3
    have c4 := HB6.out.cell 4
    have c5 := HB6.out.cell 5
    have c6 := HB6.out.cell 6
    have f1 := HB6.out.frozen 1
    have f2 := HB6.out.frozen 2
    have f3 := HB6.out.frozen 3
    have f4 := HB6.out.frozen 4
    have f5 := HB6.out.frozen 5
    have f6 := HB6.out.frozen 6
    simp at c0 c1 c2 c3 c4 c5 c6
    rcases hkc with rfl | rfl | rfl | rfl | rfl | rfl | rfl | rfl | rfl | rfl
    · have HJ2 : Hid (J = ⟨op, 0, [], noRefL⟩) := hid (by rw [HI.out]; simp [docN])
      have HF2 : Hid (F = true) := hid (by rw [HF.out]; simp [docN])
      have HW2 : Hid (W = 1) := hid (by rw [HW.out]; simp)
      clear HI HF HW
      go_wp2
      go_meet
      refine ⟨by rw [HF2.out], by rw [HW2.out]; rfl, hid ?_, ?_⟩
      · rw [HJ2.out]
        exact HB6.out
      · exact HU5.out
    · have HJ2 : Hid (J = ⟨op, 0, [], noRefL⟩) := hid (by rw [HI.out]; simp [docN])
      have HF2 : Hid (F = true) := hid (by rw [HF.out]; simp [docN])
      have HW2 : Hid (W = 1) := hid (by rw [HW.out]; simp)
      clear HI HF HW
      go_wp2
      go_meet
      refine ⟨by rw [HF2.out], by rw [HW2.out]; rfl, hid ?_, ?_⟩
      · rw [HJ2.out]
        exact HB6.out
      · exact HU5.out
    · by_cases hlen : ps.length = 2
      · have HJ2 : Hid (J = ⟨op, (numOut p1).1, [], noRefL⟩) := hid (by rw [HI.out]; simp [docN, hlen])
        have HF2 : Hid (F = (numOut p1).2) := hid (by rw [HF.out]; simp [docN, hlen])
        have HW2 : Hid (W = 2) := hid (by rw [HW.out]; simp)
        clear HI HF HW
        have hlb : ((ps.length : Int) == 2) = true := by rw [hlen]; rfl
        have hln : (ps.length == 2) = true := by rw [hlen]; rfl
        have hi1 : (1 : Int) < ps.length := by omega
        have hx1 := HC6.out 1 (by omega)
        rw [Hp1.out (by omega)] at hx1
        have hglt : g < w5.heap.size := by omega
        clear hlen
        go_wp2_with fail
        refine (number_any p1 _ (by omega)).mono ?_
        rintro e w6 ⟨rfl, hU6⟩
        have hB7 := hU6.blk HB6.out (by simp)
        have d1 := hB7.cell 1
        have h1 := hB7.frozen 1
        simp at d1
        have HB7 := hid hB7
        have HU6 := hid (HU5.out.trans hU6)
        have hz6 : w2.heap.size < w6.heap.size := hB7.lt
        clear hB7 hU6 c0 c1 c2 c3 c4 c5 c6 f1 f2 f3 f4 f5 f6
        go_wp2
        go_meet
        refine ⟨by rw [HF2.out], by rw [HW2.out]; rfl, hid ?_, ?_⟩
        · rw [HJ2.out]
          exact HB7.out.set_ 1 (.int .i64 (numOut p1).1)
        · exact HU6.out.setCell (p := ⟨w2.heap.size, 1, none⟩) (.inr (by omega)) _
      · have HJ2 : Hid (J = ⟨op, 0, [], noRefL⟩) := hid (by rw [HI.out]; simp [docN, hlen])
        have HF2 : Hid (F = true) := hid (by rw [HF.out]; simp [docN, hlen])
        have HW2 : Hid (W = 2) := hid (by rw [HW.out]; simp)
        clear HI HF HW
        have hlb : ((ps.length : Int) == 2) = false := by rw [beq_eq_false_iff_ne]; omega
        have hln : (ps.length == 2) = false := by rw [beq_eq_false_iff_ne]; exact hlen
        have hli : ¬ (ps.length : Int) = 2 := by omega
        clear hlen
        go_wp2
        go_meet
        refine ⟨by rw [HF2.out], by rw [HW2.out]; rfl, hid ?_, ?_⟩
        · rw [HJ2.out]
          exact HB6.out
        · exact HU5.out
    · by_cases hlen : ps.length = 2
      · have HJ2 : Hid (J = ⟨op, (numOut p1).1, [], noRefL⟩) := hid (by rw [HI.out]; simp [docN, hlen])
        have HF2 : Hid (F = (numOut p1).2) := hid (by rw [HF.out]; simp [docN, hlen])
        have HW2 : Hid (W = 2) := hid (by rw [HW.out]; simp)
        clear HI HF HW
        have hlb : ((ps.length : Int) == 2) = true := by rw [hlen]; rfl
        have hln : (ps.length == 2) = true := by rw [hlen]; rfl
        have hi1 : (1 : Int) < ps.length := by omega
        have hx1 := HC6.out 1 (by omega)
        rw [Hp1.out (by omega)] at hx1
        have hglt : g < w5.heap.size := by omega
        clear hlen
        go_wp2_with fail
        refine (number_any p1 _ (by omega)).mono ?_
        rintro e w6 ⟨rfl, hU6⟩
        have hB7 := hU6.blk HB6.out (by simp)
        have d1 := hB7.cell 1
        have h1 := hB7.frozen 1
        simp at d1
        have HB7 := hid hB7
        have HU6 := hid (HU5.out.trans hU6)
        have hz6 : w2.heap.size < w6.heap.size := hB7.lt
        clear hB7 hU6 c0 c1 c2 c3 c4 c5 c6 f1 f2 f3 f4 f5 f6
        go_wp2
        go_meet
        refine ⟨by rw [HF2.out], by rw [HW2.out]; rfl, hid ?_, ?_⟩
        · rw [HJ2.out]
          exact HB7.out.set_ 1 (.int .i64 (numOut p1).1)
        · exact HU6.out.setCell (p := ⟨w2.heap.size, 1, none⟩) (.inr (by omega)) _
      · have HJ2 : Hid (J = ⟨op, 0, [], noRefL⟩) := hid (by rw [HI.out]; simp [docN, hlen])
        have HF2 : Hid (F = true) := hid (by rw [HF.out]; simp [docN, hlen])
        have HW2 : Hid (W = 2) := hid (by rw [HW.out]; simp)
        clear HI HF HW
        have hlb : ((ps.length : Int) == 2) = false := by rw [beq_eq_false_iff_ne]; omega
        have hln : (ps.length == 2) = false := by rw [beq_eq_false_iff_ne]; exact hlen
        have hli : ¬ (ps.length : Int) = 2 := by omega
        clear hlen
        go_wp2
        go_meet
        refine ⟨by rw [HF2.out], by rw [HW2.out]; rfl, hid ?_, ?_⟩
        · rw [HJ2.out]
          exact HB6.out
        · exact HU5.out
    · by_cases hlen : ps.length = 2
      · have HJ2 : Hid (J = ⟨op, (numOut p1).1, [], noRefL⟩) := hid (by rw [HI.out]; simp [docN, hlen])
        have HF2 : Hid (F = (numOut p1).2) := hid (by rw [HF.out]; simp [docN, hlen])
        have HW2 : Hid (W = 2) := hid (by rw [HW.out]; simp)
        clear HI HF HW
        have hlb : ((ps.length : Int) == 2) = true := by rw [hlen]; rfl
        have hln : (ps.length == 2) = true := by rw [hlen]; rfl
        have hi1 : (1 : Int) < ps.length := by omega
        have hx1 := HC6.out 1 (by omega)
        rw [Hp1.out (by omega)] at hx1
        have hglt : g < w5.heap.size := by omega
        clear hlen
        go_wp2_with fail
        refine (number_any p1 _ (by omega)).mono ?_
        rintro e w6 ⟨rfl, hU6⟩
        have hB7 := hU6.blk HB6.out (by simp)
        have d1 := hB7.cell 1
        have h1 := hB7.frozen 1
        simp at d1
        have HB7 := hid hB7
        have HU6 := hid (HU5.out.trans hU6)
        have hz6 : w2.heap.size < w6.heap.size := hB7.lt
        clear hB7 hU6 c0 c1 c2 c3 c4 c5 c6 f1 f2 f3 f4 f5 f6
        go_wp2
        go_meet
        refine ⟨by rw [HF2.out], by rw [HW2.out]; rfl, hid ?_, ?_⟩
        · rw [HJ2.out]
          exact HB7.out.set_ 1 (.int .i64 (numOut p1).1)
        · exact HU6.out.setCell (p := ⟨w2.heap.size, 1, none⟩) (.inr (by omega)) _
      · have HJ2 : Hid (J = ⟨op, 0, [], noRefL⟩) := hid (by rw [HI.out]; simp [docN, hlen])
        have HF2 : Hid (F = true) := hid (by rw [HF.out]; simp [docN, hlen])
        have HW2 : Hid (W = 2) := hid (by rw [HW.out]; simp)
        clear HI HF HW
        have hlb : ((ps.length : Int) == 2) = false := by rw [beq_eq_false_iff_ne]; omega
        have hln : (ps.length == 2) = false := by rw [beq_eq_false_iff_ne]; exact hlen
        have hli : ¬ (ps.length : Int) = 2 := by omega
        clear hlen
        go_wp2
        go_meet
        refine ⟨by rw [HF2.out], by rw [HW2.out]; rfl, hid ?_, ?_⟩
        · rw [HJ2.out]
          exact HB6.out
        · exact HU5.out
    · have HJ2 : Hid (J = ⟨op, 0, lastP, noRefL⟩) := hid (by rw [HI.out]; simp [docN])
      have HF2 : Hid (F = true) := hid (by rw [HF.out]; simp [docN])
      have HW2 : Hid (W = 2) := hid (by rw [HW.out]; simp)
      clear HI HF HW
      have hw1 : wrap64 ((ps.length : Int) - 1) = (ps.length : Int) - 1 := by unfold wrap64; omega
      have hn1 : ((ps.length : Int) - 1).toNat = ps.length - 1 := by omega
      have hn2 : (0 : Int) ≤ (ps.length : Int) - 1 := by omega
      have hn3 : (1 : Int) ≤ (ps.length : Int) := by omega
      have hn4 : (ps.length : Int) - 1 < (ps.length : Int) := by omega
      have hx1 := HC6.out (ps.length - 1) (by omega)
      rw [Hla.out] at hx1
      go_wp2
      go_meet
      refine ⟨by rw [HF2.out], by rw [HW2.out]; rfl, hid ?_, ?_⟩
      · rw [HJ2.out]
        exact HB6.out.set_ 2 (.string (bs lastP))
      · exact HU5.out.setCell (p := ⟨w2.heap.size, 2, none⟩) (.inr (by omega)) _
    · have HJ2 : Hid (J = ⟨op, 0, lastP, noRefL⟩) := hid (by rw [HI.out]; simp [docN])
      have HF2 : Hid (F = true) := hid (by rw [HF.out]; simp [docN])
      have HW2 : Hid (W = 2) := hid (by rw [HW.out]; simp)
      clear HI HF HW
      have hw1 : wrap64 ((ps.length : Int) - 1) = (ps.length : Int) - 1 := by unfold wrap64; omega
      have hn1 : ((ps.length : Int) - 1).toNat = ps.length - 1 := by omega
      have hn2 : (0 : Int) ≤ (ps.length : Int) - 1 := by omega
      have hn3 : (1 : Int) ≤ (ps.length : Int) := by omega
      have hn4 : (ps.length : Int) - 1 < (ps.length : Int) := by omega
      have hx1 := HC6.out (ps.length - 1) (by omega)
      rw [Hla.out] at hx1
      go_wp2
      go_meet
      refine ⟨by rw [HF2.out], by rw [HW2.out]; rfl, hid ?_, ?_⟩
      · rw [HJ2.out]
        exact HB6.out.set_ 2 (.string (bs lastP))
      · exact HU5.out.setCell (p := ⟨w2.heap.size, 2, none⟩) (.inr (by omega)) _
    · have HJ2 : Hid (J = ⟨op, 0, lastP, noRefL⟩) := hid (by rw [HI.out]; simp [docN])
      have HF2 : Hid (F = true) := hid (by rw [HF.out]; simp [docN])
      have HW2 : Hid (W = 2) := hid (by rw [HW.out]; simp)
      clear HI HF HW
      have hw1 : wrap64 ((ps.length : Int) - 1) = (ps.length : Int) - 1 := by unfold wrap64; omega
      have hn1 : ((ps.length : Int) - 1).toNat = ps.length - 1 := by omega
      have hn2 : (0 : Int) ≤ (ps.length : Int) - 1 := by omega
      have hn3 : (1 : Int) ≤ (ps.length : Int) := by omega
      have hn4 : (ps.length : Int) - 1 < (ps.length : Int) := by omega
      have hx1 := HC6.out (ps.length - 1) (by omega)
      rw [Hla.out] at hx1
      go_wp2
      go_meet
      refine ⟨by rw [HF2.out], by rw [HW2.out]; rfl, hid ?_, ?_⟩
      · rw [HJ2.out]
        exact HB6.out.set_ 2 (.string (bs lastP))
      · exact HU5.out.setCell (p := ⟨w2.heap.size, 2, none⟩) (.inr (by omega)) _
    · by_cases hlen : ps.length = 3
      · have HJ2 : Hid (J = ⟨op, (numOut p1).1, p2, noRefL⟩) := hid (by rw [HI.out]; simp [docN, hlen])
        have HF2 : Hid (F = (numOut p1).2) := hid (by rw [HF.out]; simp [docN, hlen])
        have HW2 : Hid (W = 3) := hid (by rw [HW.out]; simp)
        clear HI HF HW
        have hlb : ((ps.length : Int) == 3) = true := by rw [hlen]; rfl
        have hln : (ps.length == 3) = true := by rw [hlen]; rfl
        have hi1 : (1 : Int) < ps.length := by omega
        have hi2 : (2 : Int) < ps.length := by omega
        have hx1 := HC6.out 1 (by omega)
        rw [Hp1.out (by omega)] at hx1
        have hx2 := HC6.out 2 (by omega)
        rw [Hp2.out (by omega)] at hx2
        have hglt : g < w5.heap.size := by omega
        have hgne : ¬ g = w2.heap.size := by omega
        clear hlen
        go_wp2_with fail
        refine (number_any p1 _ (by omega)).mono ?_
        rintro e w6 ⟨rfl, hU6⟩
        have hB7 := hU6.blk HB6.out (by simp)
        have d1 := hB7.cell 1
        have h1 := hB7.frozen 1
        have d2 := hB7.cell 2
        have h2 := hB7.frozen 2
        simp at d1 d2
        have hx3 : w6.cell? ⟨g, 2, none⟩ = some (.string (bs p2)) := by rw [hU6.cells.1 g 2 hglt]; exact hx2
        have HB7 := hid hB7
        have HU6 := hid (HU5.out.trans hU6)
        have hz6 : w2.heap.size < w6.heap.size := hB7.lt
        clear hB7 hU6 c0 c1 c2 c3 c4 c5 c6 f1 f2 f3 f4 f5 f6 hx1 hx2
        go_wp2
        go_meet
        refine ⟨by rw [HF2.out], by rw [HW2.out]; rfl, hid ?_, ?_⟩
        · rw [HJ2.out]
          exact (HB7.out.set_ 1 (.int .i64 (numOut p1).1)).set_ 2 (.string (bs p2))
        · exact (HU6.out.setCell (p := ⟨w2.heap.size, 1, none⟩) (.inr (by omega)) _).setCell (p := ⟨w2.heap.size, 2, none⟩) (.inr (by omega)) _
      · have HJ2 : Hid (J = ⟨op, 0, [], noRefL⟩) := hid (by rw [HI.out]; simp [docN, hlen])
        have HF2 : Hid (F = true) := hid (by rw [HF.out]; simp [docN, hlen])
        have HW2 : Hid (W = 3) := hid (by rw [HW.out]; simp)
        clear HI HF HW
        have hlb : ((ps.length : Int) == 3) = false := by rw [beq_eq_false_iff_ne]; omega
        have hln : (ps.length == 3) = false := by rw [beq_eq_false_iff_ne]; exact hlen
        have hli : ¬ (ps.length : Int) = 3 := by omega
        clear hlen
        go_wp2
        go_meet
        refine ⟨by rw [HF2.out], by rw [HW2.out]; rfl, hid ?_, ?_⟩
        · rw [HJ2.out]
          exact HB6.out
        · exact HU5.out
    · by_cases hlen : ps.length = 2
      · have HJ2 : Hid (J = ⟨op, 0, [], (refOut p1).1⟩) := hid (by rw [HI.out]; simp [docN, hlen])
        have HF2 : Hid (F = decide ((refOut p1).2 = 0)) := hid (by rw [HF.out]; simp [docN, hlen])
        have HW2 : Hid (W = 2) := hid (by rw [HW.out]; simp)
        clear HI HF HW
        have hlb : ((ps.length : Int) == 2) = true := by rw [hlen]; rfl
        have hln : (ps.length == 2) = true := by rw [hlen]; rfl
        have hi1 : (1 : Int) < ps.length := by omega
        have hx1 := HC6.out 1 (by omega)
        rw [Hp1.out (by omega)] at hx1
        have hglt : g < w5.heap.size := by omega
        have Hrf := fun w => hid (parseRefTextR_any p1 w (by omega))
        rw [docRefOut_eq] at Hrf
        obtain ⟨ro, hro⟩ : ∃ ro, refOut p1 = ro := ⟨_, rfl⟩
        rw [hro] at Hrf HJ2 HF2
        clear hro hlen
        obtain ⟨⟨ic, rc, rn, rd⟩, re⟩ := ro
        unfold RefL.v at Hrf
        simp only at Hrf HJ2 HF2
        go_wp2_with fail
        refine (Hrf _).out.mono ?_
        rintro e w6 ⟨rfl, hU6⟩
        have hB7 := hU6.blk HB6.out (by simp)
        have d3 := hB7.cell 3
        have d4 := hB7.cell 4
        have d5 := hB7.cell 5
        have d6 := hB7.cell 6
        have h3 := hB7.frozen 3
        have h4 := hB7.frozen 4
        have h5 := hB7.frozen 5
        have h6 := hB7.frozen 6
        simp at d3 d4 d5 d6
        have hz6 : w2.heap.size < w6.heap.size := hB7.lt
        have HB7 := hid hB7
        have HU6 := hid (HU5.out.trans hU6)
        have hne6 : ¬ w2.heap.size = w6.heap.size := by omega
        have hne7 : ¬ w6.heap.size = w2.heap.size := by omega
        clear hB7 hU6 c0 c1 c2 c3 c4 c5 c6 f1 f2 f3 f4 f5 f6
        go_wp2
        go_meet
        refine ⟨by rw [HF2.out]; rfl, by rw [HW2.out]; rfl, hid ?_, ?_⟩
        · rw [HJ2.out]
          exact ((((HB7.out.set_ 3 (.bool ic)).set_ 4 (.string (bs rc))).set_ 5 (.string (bs rn))).set_ 6 (.string (bs rd))).alloc _
        · exact ((((HU6.out.setCell (.inr (by show w1.heap.size ≤ w2.heap.size; omega)) _).setCell (.inr (by show w1.heap.size ≤ w2.heap.size; omega)) _).setCell (.inr (by show w1.heap.size ≤ w2.heap.size; omega)) _).setCell (.inr (by show w1.heap.size ≤ w2.heap.size; omega)) _).alloc _
      · have HJ2 : Hid (J = ⟨op, 0, [], noRefL⟩) := hid (by rw [HI.out]; simp [docN, hlen])
        have HF2 : Hid (F = true) := hid (by rw [HF.out]; simp [docN, hlen])
        have HW2 : Hid (W = 2) := hid (by rw [HW.out]; simp)
        clear HI HF HW
        have hlb : ((ps.length : Int) == 2) = false := by rw [beq_eq_false_iff_ne]; omega
        have hln : (ps.length == 2) = false := by rw [beq_eq_false_iff_ne]; exact hlen
        have hli : ¬ (ps.length : Int) = 2 := by omega
        clear hlen
        go_wp2
        go_meet
        refine ⟨by rw [HF2.out], by rw [HW2.out]; rfl, hid ?_, ?_⟩
        · rw [HJ2.out]
          exact HB6.out
        · exact HU5.out
  case rest =>
    obtain ⟨rfl, rfl, hBJ, hUJ⟩ := hcut
    have HR0 := hid (hUJ.blk HB2.out (by simp))
    have HUW0 := hid (HU1.out.trans hUJ)
    obtain ⟨jo, jn, jt, ⟨ic, rc, rn, rd⟩⟩ := J
    unfold InstL.v InstL.cells at Hck
    unfold InstL.cells at hBJ
    simp only at Hck hBJ
    obtain ⟨ok, hok⟩ : ∃ b, (InstL.mk jo jn jt ⟨ic, rc, rn, rd⟩).ok = b := ⟨_, rfl⟩
    rw [hok] at Hck HO
    clear hok HI HF HW HU5 HB6 HC6 HC1 HB2 HU1 hUJ
    have hzw : w.heap.size < wc.heap.size := HR0.out.lt
    have hz2c : w2.heap.size < wc.heap.size := hBJ.out.lt
    cases F with
    | false =>
      have HR := HR0
      have HUW := HUW0
      have HP : Hid (PO = (⟨0, 0, [], noRefL⟩, 4)) := hid (by rw [HO.out]; simp)
      clear HO
      go_upto_region 29 with (fail)
      apply wp_region_lit
      refine wpList_build rfl 41 #[] rfl (by kernel_rfl) ?_
      refine wpList_store_row rfl 41 _ _ rfl w.heap.size zeroI (by kernel_rfl) (by kernel_rfl) 41 zeroI HR.out sizeInst rfl (by kernel_rfl) ?_
      have HB9 := hid (setRow_blk HR.out zeroI)
      have HU9 := hid (setRow_upd HUW.out (Nat.le_refl _) zeroI)
      revert HB9 HU9
      generalize World.setRow _ w.heap.size zeroI = w9
      intro HB9 HU9
      have g0 := HB9.out.cell 0
      have g1 := HB9.out.cell 1
      have g2 := HB9.out.cell 2
      have g3 := HB9.out.cell 3
      have g4 := HB9.out.cell 4
      have g5 := HB9.out.cell 5
      have g6 := HB9.out.cell 6
      simp [zeroI] at g0 g1 g2 g3 g4 g5 g6
      go_wp2_with fail
      refine bodyPost_ret (v := .tuple #[.agg #[.int .i64 0, .int .i64 0, .string ⟨#[]⟩, .bool false, .string ⟨#[]⟩, .string ⟨#[]⟩, .string ⟨#[]⟩], .int .i64 4]) (by simp [results, Tryz.results19, go_sem, g0, g1, g2, g3, g4, g5, g6]) rfl ?_
      rw [HP.out]
      exact ⟨rfl, HU9.out⟩
    | true =>
      by_cases hW : ps.length = W
      · have hWb : ((ps.length : Int) != (W : Int)) = false := by rw [hW]; simp
        have hWn : (ps.length != W) = false := by rw [hW]; simp
        have hO2 : Hid (PO = if ok then (⟨jo, jn, jt, ⟨ic, rc, rn, rd⟩⟩, 0) else (⟨0, 0, [], noRefL⟩, 4)) := hid (by rw [HO.out, decide_eq_true hW]; simp)
        have c0 := hBJ.out.cell 0
        have c1 := hBJ.out.cell 1
        have c2 := hBJ.out.cell 2
        have c3 := hBJ.out.cell 3
        have c4 := hBJ.out.cell 4
        have c5 := hBJ.out.cell 5
        have c6 := hBJ.out.cell 6
        simp at c0 c1 c2 c3 c4 c5 c6
        have HWl := hid hW
        clear HO hW
        go_wp2_with fail
        refine (Hck _).out.mono ?_
        rintro e w8 ⟨rfl, hU8⟩
        have HR := hid (hU8.blk HR0.out (by simp))
        have HBK := hid (hU8.blk hBJ.out (by simp))
        have HUW := hid (HUW0.out.trans hU8)
        have hz8 : w.heap.size < w8.heap.size := HR.out.lt
        clear hU8 c0 c1 c2 c3 c4 c5 c6
        cases ok with
        | false =>
          simp only [errIf]
          have HO := hO2
          have HP : Hid (PO = (⟨0, 0, [], noRefL⟩, 4)) := hid (by rw [HO.out]; simp)
          clear HO
          go_upto_region 29 with (fail)
          apply wp_region_lit
          refine wpList_build rfl 41 #[] rfl (by kernel_rfl) ?_
          refine wpList_store_row rfl 41 _ _ rfl w.heap.size zeroI (by kernel_rfl) (by kernel_rfl) 41 zeroI HR.out sizeInst rfl (by kernel_rfl) ?_
          have HB9 := hid (setRow_blk HR.out zeroI)
          have HU9 := hid (setRow_upd HUW.out (Nat.le_refl _) zeroI)
          revert HB9 HU9
          generalize World.setRow _ w.heap.size zeroI = w9
          intro HB9 HU9
          have g0 := HB9.out.cell 0
          have g1 := HB9.out.cell 1
          have g2 := HB9.out.cell 2
          have g3 := HB9.out.cell 3
          have g4 := HB9.out.cell 4
          have g5 := HB9.out.cell 5
          have g6 := HB9.out.cell 6
          simp [zeroI] at g0 g1 g2 g3 g4 g5 g6
          go_wp2_with fail
          refine bodyPost_ret (v := .tuple #[.agg #[.int .i64 0, .int .i64 0, .string ⟨#[]⟩, .bool false, .string ⟨#[]⟩, .string ⟨#[]⟩, .string ⟨#[]⟩], .int .i64 4]) (by simp [results, Tryz.results19, go_sem, g0, g1, g2, g3, g4, g5, g6]) rfl ?_
          rw [HP.out]
          exact ⟨rfl, HU9.out⟩
        | true =>
          simp only [errIf, if_true]
          have HP : Hid (PO = (⟨jo, jn, jt, ⟨ic, rc, rn, rd⟩⟩, 0)) := hid (by rw [hO2.out]; rfl)
          go_upto_region 30 with (fail)
          apply wp_region_lit
          obtain ⟨fI, hfI⟩ := undInst
          refine wpList_load_row rfl 41 _ rfl w2.heap.size (by kernel_rfl) 41 _ _ (.struct fI) HBK.out hfI rfl (by kernel_rfl) ?_
          refine wpList_store_row rfl 41 _ _ rfl w.heap.size #[.int .i64 jo, .int .i64 jn, .string (bs jt), .bool ic, .string (bs rc), .string (bs rn), .string (bs rd)] (by kernel_rfl) (by kernel_rfl) 41 zeroI HR.out sizeInst rfl (by kernel_rfl) ?_
          have HB9 := hid (setRow_blk HR.out (#[.int .i64 jo, .int .i64 jn, .string (bs jt), .bool ic, .string (bs rc), .string (bs rn), .string (bs rd)] : Array Value))
          have HU9 := hid (setRow_upd HUW.out (Nat.le_refl _) (#[.int .i64 jo, .int .i64 jn, .string (bs jt), .bool ic, .string (bs rc), .string (bs rn), .string (bs rd)] : Array Value))
          revert HB9 HU9
          generalize w8.setRow w.heap.size _ = w9
          intro HB9 HU9
          have g0 := HB9.out.cell 0
          have g1 := HB9.out.cell 1
          have g2 := HB9.out.cell 2
          have g3 := HB9.out.cell 3
          have g4 := HB9.out.cell 4
          have g5 := HB9.out.cell 5
          have g6 := HB9.out.cell 6
          simp at g0 g1 g2 g3 g4 g5 g6
          go_wp2_with fail
          refine bodyPost_ret (v := .tuple #[.agg #[.int .i64 jo, .int .i64 jn, .string (bs jt), .bool ic, .string (bs rc), .string (bs rn), .string (bs rd)], .int .i64 0]) (by simp [results, Tryz.results19, go_sem, g0, g1, g2, g3, g4, g5, g6]) rfl ?_
          rw [HP.out]
          exact ⟨rfl, HU9.out⟩
      · have hWb : ((ps.length : Int) != (W : Int)) = true := bne_iff_ne.2 (by omega)
        have hWn : (ps.length != W) = true := bne_iff_ne.2 hW
        have hWi : ¬ (ps.length : Int) = (W : Int) := by omega
        have HWl := hid hW
        have HR := HR0
        have HUW := HUW0
        clear hW
        have HP : Hid (PO = (⟨0, 0, [], noRefL⟩, 4)) := hid (by rw [HO.out]; simp [decide_eq_false HWl.out])
        clear HO
        go_upto_region 29 with (fail)
        apply wp_region_lit
        refine wpList_build rfl 41 #[] rfl (by kernel_rfl) ?_
        refine wpList_store_row rfl 41 _ _ rfl w.heap.size zeroI (by kernel_rfl) (by kernel_rfl) 41 zeroI HR.out sizeInst rfl (by kernel_rfl) ?_
        have HB9 := hid (setRow_blk HR.out zeroI)
        have HU9 := hid (setRow_upd HUW.out (Nat.le_refl _) zeroI)
        revert HB9 HU9
        generalize World.setRow _ w.heap.size zeroI = w9
        intro HB9 HU9
        have g0 := HB9.out.cell 0
        have g1 := HB9.out.cell 1
        have g2 := HB9.out.cell 2
        have g3 := HB9.out.cell 3
        have g4 := HB9.out.cell 4
        have g5 := HB9.out.cell 5
        have g6 := HB9.out.cell 6
        simp [zeroI] at g0 g1 g2 g3 g4 g5 g6
        go_wp2_with fail
        refine bodyPost_ret (v := .tuple #[.agg #[.int .i64 0, .int .i64 0, .string ⟨#[]⟩, .bool false, .string ⟨#[]⟩, .string ⟨#[]⟩, .string ⟨#[]⟩], .int .i64 4]) (by simp [results, Tryz.results19, go_sem, g0, g1, g2, g3, g4, g5, g6]) rfl ?_
        rw [HP.out]
        exact ⟨rfl, HU9.out⟩
end Go.Proofs.YtjjdlgjofjfgmaaGreatDoor
