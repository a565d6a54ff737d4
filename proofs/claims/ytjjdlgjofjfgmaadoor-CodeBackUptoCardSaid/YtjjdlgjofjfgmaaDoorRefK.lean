/-
  The document's answer on instructions, walked: Print.
-/
import Derived.Test.YtjjdlgjofjfgmaaDoorRefJ
import Derived.Test.YtjjdlgjofjfgmaaDoorDecimalR
import Derived.Test.YtjjdlgjofjfgmaaDoorCodeF
set_option linter.unusedSimpArgs false
set_option linter.unusedVariables false
namespace Go.Proofs.YtjjdlgjofjfgmaaDoor
open Go.RowKit

theorem join2 (a b : List UInt8) : Lib.join [a, b] [32] = a ++ [32] ++ b := by simp [Lib.join, List.intercalate, List.intersperse]
theorem join3 (a b c : List UInt8) : Lib.join [a, b, c] [32] = a ++ [32] ++ b ++ [32] ++ c := by simp [Lib.join, List.intercalate, List.intersperse]
theorem join1 (a : List UInt8) : Lib.join [a] [32] = a := by simp [Lib.join, List.intercalate, List.intersperse]
theorem bs_blank : (⟨#[32]⟩ : ByteArray) = bs [32] := rfl

/-- One word of the table that the call makes. -/
theorem words_at (o : Nat) (h0 : (1 : Int) ≤ o) (h1 : (o : Int) ≤ 40) (w : World) : Calls Tryd.prog 39 #[] w fun e w' => ∃ g, e = .returned (.slice (some ⟨g, 0, none⟩) 41 41) ∧ w'.cell? ⟨g, o, none⟩ = some (.string (bs (wordL o))) ∧ Upd w w' [] :=
  (words_any w).mono fun _ _ ⟨h, hw⟩ => ⟨w.heap.size, h, by rw [hw, (Blk.new w _ _).cell]; exact wordCells_at o (by omega) h1, by rw [hw]; exact (Upd.refl _ _).alloc _⟩

set_option maxHeartbeats 4000000 in
set_option maxRecDepth 100000 in
theorem printR_0 (o : Nat) (n : Int) (tx : List UInt8) (r : RefL) (w : World) (hi : (InstL.mk o n tx r).fit) (hn : (InstL.mk o n tx r).num) (ho : (InstL.mk o n tx r).ok = true) (hk : kindL o = 0) :
    Calls Tryd.prog 17 #[(InstL.mk o n tx r).v] w (printPost ⟨o, n, tx, r⟩ w) := by
  have hrng := run_known o hk (by decide)
  have hty := InstL.ok_ty ho
  simp only [hk] at hty
  have hparts : (InstL.mk o n tx r).parts = [wordL o] := by
    unfold InstL.parts
    simp only [hk]
    simp [hty.2.1]
  have hfin : ∀ w' s, s = Lib.join [wordL o] [32] → Upd w w' [] → printPost ⟨o, n, tx, r⟩ w (.returned (.tuple #[.string (bs s), .int .i64 0])) w' := fun w' s hs h => by
    unfold printPost InstL.text
    rw [ho, hparts, hs]
    exact ⟨rfl, h⟩
  have Hfin := hid hfin
  have Hc := fun w => hid (checkR_any ⟨o, n, tx, r⟩ w hi)
  unfold checkPost at Hc
  rw [ho] at Hc
  have Hop := fun w => hid (operandR_any o w)
  rw [hk] at Hop
  have Hwc := fun w => hid (words_at o hrng.1 hrng.2 w)
  have hwl := word_le o
  obtain ⟨wd, hwd⟩ : ∃ wd, wordL o = wd := ⟨_, rfl⟩
  rw [hwd] at Hwc Hfin hwl
  have hn1 := hn.1
  have hn2 := hn.2
  simp only at hn1 hn2
  have hlt := hty.1
  have hw0 : (bs wd).size ≤ 20 := by rw [bs_size]; exact hwl
  have ho41 : o < 41 := by have := hrng.2; omega
  clear hfin hparts hwd hk hrng hty hwl
  have hU0 : Upd w (w.alloc (.cells #[.int .i64 o, .int .i64 n, .string (bs tx), .bool r.ifc, .string (bs r.cls), .string (bs r.nm), .string (bs r.ds)] 25)) [] := (Upd.refl _ _).alloc _
  unfold InstL.v InstL.cells at Hc ⊢
  simp only at Hc ⊢
  go_enter Tryd.func17, Tryd.ntmps17
  go_wp2_with fail
  refine (Hc _).out.mono ?_
  rintro e w1 ⟨rfl, hU1⟩
  obtain ⟨hc1, hf1, hz1⟩ := hU1.cells
  have hz1' : w.heap.size < w1.heap.size := by simp at hz1; omega
  simp only [errIf]
  have x0 : w1.cell? ⟨w.heap.size, 0, none⟩ = some (.int .i64 o) := by rw [hc1 _ _ (by simp)]; simp
  have Hc1 := hid hc1
  clear hc1 hf1
  go_upto_region 3 with fail
  go_cut [4] (fun s4 wx => s4 = .string (bs wd) ∧ Upd (w.alloc (.cells #[.int .i64 o, .int .i64 n, .string (bs tx), .bool r.ifc, .string (bs r.cls), .string (bs r.nm), .string (bs r.ds)] 25)) wx [])
  case first =>
    go_region_with (refine (Hwc _).out.mono ?_; rintro e w2 ⟨g, rfl, hg, hU2⟩; have x0' : w2.cell? ⟨w.heap.size, 0, none⟩ = some (.int .i64 o) := (by rw [hU2.cells.1 _ _ (by simpa using hz1')]; simpa using x0))
    all_goals
      go_wp2_with fail
      go_meet
      exact ⟨rfl, hU1.drew.trans hU2⟩
  case rest =>
    obtain ⟨rfl, hV⟩ := hcut
    obtain ⟨hcc, hfc, hzc⟩ := hV.cells
    have hzc' : w.heap.size < wc.heap.size := by simp at hzc; omega
    clear hz1' hU1 x0 Hc1
    go_wp2_with fail
    refine (Hop _).out.mono ?_
    rintro e w3 ⟨rfl, rfl⟩
    go_wp2
    go_ret2
    exact Hfin.out _ _ (by rw [join1]) (hU0.trans hV)

set_option maxHeartbeats 4000000 in
set_option maxRecDepth 100000 in
theorem printR_1 (o : Nat) (n : Int) (tx : List UInt8) (r : RefL) (w : World) (hi : (InstL.mk o n tx r).fit) (hn : (InstL.mk o n tx r).num) (ho : (InstL.mk o n tx r).ok = true) (hk : kindL o = 1) :
    Calls Tryd.prog 17 #[(InstL.mk o n tx r).v] w (printPost ⟨o, n, tx, r⟩ w) := by
  have hrng := run_known o hk (by decide)
  have hty := InstL.ok_ty ho
  simp only [hk] at hty
  have hparts : (InstL.mk o n tx r).parts = [wordL o, Lib.itoa n] := by
    unfold InstL.parts
    simp only [hk]
    simp [hty.2.1]
  have hfin : ∀ w' s, s = Lib.join [wordL o, Lib.itoa n] [32] → Upd w w' [] → printPost ⟨o, n, tx, r⟩ w (.returned (.tuple #[.string (bs s), .int .i64 0])) w' := fun w' s hs h => by
    unfold printPost InstL.text
    rw [ho, hparts, hs]
    exact ⟨rfl, h⟩
  have Hfin := hid hfin
  have Hc := fun w => hid (checkR_any ⟨o, n, tx, r⟩ w hi)
  unfold checkPost at Hc
  rw [ho] at Hc
  have Hop := fun w => hid (operandR_any o w)
  rw [hk] at Hop
  have Hwc := fun w => hid (words_at o hrng.1 hrng.2 w)
  have hwl := word_le o
  obtain ⟨wd, hwd⟩ : ∃ wd, wordL o = wd := ⟨_, rfl⟩
  rw [hwd] at Hwc Hfin hwl
  have hn1 := hn.1
  have hn2 := hn.2
  simp only at hn1 hn2
  have hlt := hty.1
  have hw0 : (bs wd).size ≤ 20 := by rw [bs_size]; exact hwl
  have ho41 : o < 41 := by have := hrng.2; omega
  clear hfin hparts hwd hk hrng hty hwl
  have hU0 : Upd w (w.alloc (.cells #[.int .i64 o, .int .i64 n, .string (bs tx), .bool r.ifc, .string (bs r.cls), .string (bs r.nm), .string (bs r.ds)] 25)) [] := (Upd.refl _ _).alloc _
  unfold InstL.v InstL.cells at Hc ⊢
  simp only at Hc ⊢
  go_enter Tryd.func17, Tryd.ntmps17
  go_wp2_with fail
  refine (Hc _).out.mono ?_
  rintro e w1 ⟨rfl, hU1⟩
  obtain ⟨hc1, hf1, hz1⟩ := hU1.cells
  have hz1' : w.heap.size < w1.heap.size := by simp at hz1; omega
  simp only [errIf]
  have x0 : w1.cell? ⟨w.heap.size, 0, none⟩ = some (.int .i64 o) := by rw [hc1 _ _ (by simp)]; simp
  have Hc1 := hid hc1
  clear hc1 hf1
  go_upto_region 3 with fail
  go_cut [4] (fun s4 wx => s4 = .string (bs wd) ∧ Upd (w.alloc (.cells #[.int .i64 o, .int .i64 n, .string (bs tx), .bool r.ifc, .string (bs r.cls), .string (bs r.nm), .string (bs r.ds)] 25)) wx [])
  case first =>
    go_region_with (refine (Hwc _).out.mono ?_; rintro e w2 ⟨g, rfl, hg, hU2⟩; have x0' : w2.cell? ⟨w.heap.size, 0, none⟩ = some (.int .i64 o) := (by rw [hU2.cells.1 _ _ (by simpa using hz1')]; simpa using x0))
    all_goals
      go_wp2_with fail
      go_meet
      exact ⟨rfl, hU1.drew.trans hU2⟩
  case rest =>
    obtain ⟨rfl, hV⟩ := hcut
    obtain ⟨hcc, hfc, hzc⟩ := hV.cells
    have hzc' : w.heap.size < wc.heap.size := by simp at hzc; omega
    clear hz1' hU1 x0 Hc1
    go_wp2_with fail
    refine (Hop _).out.mono ?_
    rintro e w3 ⟨rfl, rfl⟩
    go_wp2_with fail
    refine (decimal_any n _ hn1 hn2).mono ?_
    rintro e w4 ⟨rfl, hU4⟩
    have hl4 := Lib.itoa_length_le n hn1 hn2
    have hs4 : (bs (Lib.itoa n)).size ≤ 21 := by rw [bs_size]; exact hl4
    go_wp2
    go_ret2
    have h := Hfin.out _ _ rfl ((hU0.trans hV).trans hU4)
    rw [join2] at h
    rw [bs_blank, bs_append, bs_append]
    exact h

set_option maxHeartbeats 4000000 in
set_option maxRecDepth 100000 in
theorem printR_2 (o : Nat) (n : Int) (tx : List UInt8) (r : RefL) (w : World) (hi : (InstL.mk o n tx r).fit) (hn : (InstL.mk o n tx r).num) (ho : (InstL.mk o n tx r).ok = true) (hk : kindL o = 2) :
    Calls Tryd.prog 17 #[(InstL.mk o n tx r).v] w (printPost ⟨o, n, tx, r⟩ w) := by
  have hrng := run_known o hk (by decide)
  have hty := InstL.ok_ty ho
  simp only [hk] at hty
  have hparts : (InstL.mk o n tx r).parts = [wordL o, Lib.itoa n] := by
    unfold InstL.parts
    simp only [hk]
    simp [hty.2.1]
  have hfin : ∀ w' s, s = Lib.join [wordL o, Lib.itoa n] [32] → Upd w w' [] → printPost ⟨o, n, tx, r⟩ w (.returned (.tuple #[.string (bs s), .int .i64 0])) w' := fun w' s hs h => by
    unfold printPost InstL.text
    rw [ho, hparts, hs]
    exact ⟨rfl, h⟩
  have Hfin := hid hfin
  have Hc := fun w => hid (checkR_any ⟨o, n, tx, r⟩ w hi)
  unfold checkPost at Hc
  rw [ho] at Hc
  have Hop := fun w => hid (operandR_any o w)
  rw [hk] at Hop
  have Hwc := fun w => hid (words_at o hrng.1 hrng.2 w)
  have hwl := word_le o
  obtain ⟨wd, hwd⟩ : ∃ wd, wordL o = wd := ⟨_, rfl⟩
  rw [hwd] at Hwc Hfin hwl
  have hn1 := hn.1
  have hn2 := hn.2
  simp only at hn1 hn2
  have hlt := hty.1
  have hw0 : (bs wd).size ≤ 20 := by rw [bs_size]; exact hwl
  have ho41 : o < 41 := by have := hrng.2; omega
  clear hfin hparts hwd hk hrng hty hwl
  have hU0 : Upd w (w.alloc (.cells #[.int .i64 o, .int .i64 n, .string (bs tx), .bool r.ifc, .string (bs r.cls), .string (bs r.nm), .string (bs r.ds)] 25)) [] := (Upd.refl _ _).alloc _
  unfold InstL.v InstL.cells at Hc ⊢
  simp only at Hc ⊢
  go_enter Tryd.func17, Tryd.ntmps17
  go_wp2_with fail
  refine (Hc _).out.mono ?_
  rintro e w1 ⟨rfl, hU1⟩
  obtain ⟨hc1, hf1, hz1⟩ := hU1.cells
  have hz1' : w.heap.size < w1.heap.size := by simp at hz1; omega
  simp only [errIf]
  have x0 : w1.cell? ⟨w.heap.size, 0, none⟩ = some (.int .i64 o) := by rw [hc1 _ _ (by simp)]; simp
  have Hc1 := hid hc1
  clear hc1 hf1
  go_upto_region 3 with fail
  go_cut [4] (fun s4 wx => s4 = .string (bs wd) ∧ Upd (w.alloc (.cells #[.int .i64 o, .int .i64 n, .string (bs tx), .bool r.ifc, .string (bs r.cls), .string (bs r.nm), .string (bs r.ds)] 25)) wx [])
  case first =>
    go_region_with (refine (Hwc _).out.mono ?_; rintro e w2 ⟨g, rfl, hg, hU2⟩; have x0' : w2.cell? ⟨w.heap.size, 0, none⟩ = some (.int .i64 o) := (by rw [hU2.cells.1 _ _ (by simpa using hz1')]; simpa using x0))
    all_goals
      go_wp2_with fail
      go_meet
      exact ⟨rfl, hU1.drew.trans hU2⟩
  case rest =>
    obtain ⟨rfl, hV⟩ := hcut
    obtain ⟨hcc, hfc, hzc⟩ := hV.cells
    have hzc' : w.heap.size < wc.heap.size := by simp at hzc; omega
    clear hz1' hU1 x0 Hc1
    go_wp2_with fail
    refine (Hop _).out.mono ?_
    rintro e w3 ⟨rfl, rfl⟩
    go_wp2_with fail
    refine (decimal_any n _ hn1 hn2).mono ?_
    rintro e w4 ⟨rfl, hU4⟩
    have hl4 := Lib.itoa_length_le n hn1 hn2
    have hs4 : (bs (Lib.itoa n)).size ≤ 21 := by rw [bs_size]; exact hl4
    go_wp2
    go_ret2
    have h := Hfin.out _ _ rfl ((hU0.trans hV).trans hU4)
    rw [join2] at h
    rw [bs_blank, bs_append, bs_append]
    exact h

set_option maxHeartbeats 4000000 in
set_option maxRecDepth 100000 in
theorem printR_3 (o : Nat) (n : Int) (tx : List UInt8) (r : RefL) (w : World) (hi : (InstL.mk o n tx r).fit) (hn : (InstL.mk o n tx r).num) (ho : (InstL.mk o n tx r).ok = true) (hk : kindL o = 3) :
    Calls Tryd.prog 17 #[(InstL.mk o n tx r).v] w (printPost ⟨o, n, tx, r⟩ w) := by
  have hrng := run_known o hk (by decide)
  have hty := InstL.ok_ty ho
  simp only [hk] at hty
  have hparts : (InstL.mk o n tx r).parts = [wordL o, Lib.itoa n] := by
    unfold InstL.parts
    simp only [hk]
    simp [hty.2.1]
  have hfin : ∀ w' s, s = Lib.join [wordL o, Lib.itoa n] [32] → Upd w w' [] → printPost ⟨o, n, tx, r⟩ w (.returned (.tuple #[.string (bs s), .int .i64 0])) w' := fun w' s hs h => by
    unfold printPost InstL.text
    rw [ho, hparts, hs]
    exact ⟨rfl, h⟩
  have Hfin := hid hfin
  have Hc := fun w => hid (checkR_any ⟨o, n, tx, r⟩ w hi)
  unfold checkPost at Hc
  rw [ho] at Hc
  have Hop := fun w => hid (operandR_any o w)
  rw [hk] at Hop
  have Hwc := fun w => hid (words_at o hrng.1 hrng.2 w)
  have hwl := word_le o
  obtain ⟨wd, hwd⟩ : ∃ wd, wordL o = wd := ⟨_, rfl⟩
  rw [hwd] at Hwc Hfin hwl
  have hn1 := hn.1
  have hn2 := hn.2
  simp only at hn1 hn2
  have hlt := hty.1
  have hw0 : (bs wd).size ≤ 20 := by rw [bs_size]; exact hwl
  have ho41 : o < 41 := by have := hrng.2; omega
  clear hfin hparts hwd hk hrng hty hwl
  have hU0 : Upd w (w.alloc (.cells #[.int .i64 o, .int .i64 n, .string (bs tx), .bool r.ifc, .string (bs r.cls), .string (bs r.nm), .string (bs r.ds)] 25)) [] := (Upd.refl _ _).alloc _
  unfold InstL.v InstL.cells at Hc ⊢
  simp only at Hc ⊢
  go_enter Tryd.func17, Tryd.ntmps17
  go_wp2_with fail
  refine (Hc _).out.mono ?_
  rintro e w1 ⟨rfl, hU1⟩
  obtain ⟨hc1, hf1, hz1⟩ := hU1.cells
  have hz1' : w.heap.size < w1.heap.size := by simp at hz1; omega
  simp only [errIf]
  have x0 : w1.cell? ⟨w.heap.size, 0, none⟩ = some (.int .i64 o) := by rw [hc1 _ _ (by simp)]; simp
  have Hc1 := hid hc1
  clear hc1 hf1
  go_upto_region 3 with fail
  go_cut [4] (fun s4 wx => s4 = .string (bs wd) ∧ Upd (w.alloc (.cells #[.int .i64 o, .int .i64 n, .string (bs tx), .bool r.ifc, .string (bs r.cls), .string (bs r.nm), .string (bs r.ds)] 25)) wx [])
  case first =>
    go_region_with (refine (Hwc _).out.mono ?_; rintro e w2 ⟨g, rfl, hg, hU2⟩; have x0' : w2.cell? ⟨w.heap.size, 0, none⟩ = some (.int .i64 o) := (by rw [hU2.cells.1 _ _ (by simpa using hz1')]; simpa using x0))
    all_goals
      go_wp2_with fail
      go_meet
      exact ⟨rfl, hU1.drew.trans hU2⟩
  case rest =>
    obtain ⟨rfl, hV⟩ := hcut
    obtain ⟨hcc, hfc, hzc⟩ := hV.cells
    have hzc' : w.heap.size < wc.heap.size := by simp at hzc; omega
    clear hz1' hU1 x0 Hc1
    go_wp2_with fail
    refine (Hop _).out.mono ?_
    rintro e w3 ⟨rfl, rfl⟩
    go_wp2_with fail
    refine (decimal_any n _ hn1 hn2).mono ?_
    rintro e w4 ⟨rfl, hU4⟩
    have hl4 := Lib.itoa_length_le n hn1 hn2
    have hs4 : (bs (Lib.itoa n)).size ≤ 21 := by rw [bs_size]; exact hl4
    go_wp2
    go_ret2
    have h := Hfin.out _ _ rfl ((hU0.trans hV).trans hU4)
    rw [join2] at h
    rw [bs_blank, bs_append, bs_append]
    exact h

set_option maxHeartbeats 4000000 in
set_option maxRecDepth 100000 in
theorem printR_4 (o : Nat) (n : Int) (tx : List UInt8) (r : RefL) (w : World) (hi : (InstL.mk o n tx r).fit) (hn : (InstL.mk o n tx r).num) (ho : (InstL.mk o n tx r).ok = true) (hk : kindL o = 4) :
    Calls Tryd.prog 17 #[(InstL.mk o n tx r).v] w (printPost ⟨o, n, tx, r⟩ w) := by
  have hrng := run_known o hk (by decide)
  have hty := InstL.ok_ty ho
  simp only [hk] at hty
  have hparts : (InstL.mk o n tx r).parts = [wordL o, tx] := by
    unfold InstL.parts
    simp only [hk]
    simp [hty.2.1]
  have hfin : ∀ w' s, s = Lib.join [wordL o, tx] [32] → Upd w w' [] → printPost ⟨o, n, tx, r⟩ w (.returned (.tuple #[.string (bs s), .int .i64 0])) w' := fun w' s hs h => by
    unfold printPost InstL.text
    rw [ho, hparts, hs]
    exact ⟨rfl, h⟩
  have Hfin := hid hfin
  have Hc := fun w => hid (checkR_any ⟨o, n, tx, r⟩ w hi)
  unfold checkPost at Hc
  rw [ho] at Hc
  have Hop := fun w => hid (operandR_any o w)
  rw [hk] at Hop
  have Hwc := fun w => hid (words_at o hrng.1 hrng.2 w)
  have hwl := word_le o
  obtain ⟨wd, hwd⟩ : ∃ wd, wordL o = wd := ⟨_, rfl⟩
  rw [hwd] at Hwc Hfin hwl
  have hn1 := hn.1
  have hn2 := hn.2
  simp only at hn1 hn2
  have hlt := hty.1
  have hw0 : (bs wd).size ≤ 20 := by rw [bs_size]; exact hwl
  have ho41 : o < 41 := by have := hrng.2; omega
  clear hfin hparts hwd hk hrng hty hwl
  have hU0 : Upd w (w.alloc (.cells #[.int .i64 o, .int .i64 n, .string (bs tx), .bool r.ifc, .string (bs r.cls), .string (bs r.nm), .string (bs r.ds)] 25)) [] := (Upd.refl _ _).alloc _
  unfold InstL.v InstL.cells at Hc ⊢
  simp only at Hc ⊢
  go_enter Tryd.func17, Tryd.ntmps17
  go_wp2_with fail
  refine (Hc _).out.mono ?_
  rintro e w1 ⟨rfl, hU1⟩
  obtain ⟨hc1, hf1, hz1⟩ := hU1.cells
  have hz1' : w.heap.size < w1.heap.size := by simp at hz1; omega
  simp only [errIf]
  have x0 : w1.cell? ⟨w.heap.size, 0, none⟩ = some (.int .i64 o) := by rw [hc1 _ _ (by simp)]; simp
  have Hc1 := hid hc1
  clear hc1 hf1
  go_upto_region 3 with fail
  go_cut [4] (fun s4 wx => s4 = .string (bs wd) ∧ Upd (w.alloc (.cells #[.int .i64 o, .int .i64 n, .string (bs tx), .bool r.ifc, .string (bs r.cls), .string (bs r.nm), .string (bs r.ds)] 25)) wx [])
  case first =>
    go_region_with (refine (Hwc _).out.mono ?_; rintro e w2 ⟨g, rfl, hg, hU2⟩; have x0' : w2.cell? ⟨w.heap.size, 0, none⟩ = some (.int .i64 o) := (by rw [hU2.cells.1 _ _ (by simpa using hz1')]; simpa using x0))
    all_goals
      go_wp2_with fail
      go_meet
      exact ⟨rfl, hU1.drew.trans hU2⟩
  case rest =>
    obtain ⟨rfl, hV⟩ := hcut
    obtain ⟨hcc, hfc, hzc⟩ := hV.cells
    have hzc' : w.heap.size < wc.heap.size := by simp at hzc; omega
    clear hz1' hU1 x0 Hc1
    go_wp2_with fail
    refine (Hop _).out.mono ?_
    rintro e w3 ⟨rfl, rfl⟩
    have hs4 : (bs tx).size ≤ 2000 := by rw [bs_size]; exact hlt
    go_wp2
    go_ret2
    have h := Hfin.out _ _ rfl (hU0.trans hV)
    rw [join2] at h
    rw [bs_blank, bs_append, bs_append]
    exact h

set_option maxHeartbeats 4000000 in
set_option maxRecDepth 100000 in
theorem printR_5 (o : Nat) (n : Int) (tx : List UInt8) (r : RefL) (w : World) (hi : (InstL.mk o n tx r).fit) (hn : (InstL.mk o n tx r).num) (ho : (InstL.mk o n tx r).ok = true) (hk : kindL o = 5) :
    Calls Tryd.prog 17 #[(InstL.mk o n tx r).v] w (printPost ⟨o, n, tx, r⟩ w) := by
  have hrng := run_known o hk (by decide)
  have hty := InstL.ok_ty ho
  simp only [hk] at hty
  have hparts : (InstL.mk o n tx r).parts = [wordL o, tx] := by
    unfold InstL.parts
    simp only [hk]
    simp [hty.2.1]
  have hfin : ∀ w' s, s = Lib.join [wordL o, tx] [32] → Upd w w' [] → printPost ⟨o, n, tx, r⟩ w (.returned (.tuple #[.string (bs s), .int .i64 0])) w' := fun w' s hs h => by
    unfold printPost InstL.text
    rw [ho, hparts, hs]
    exact ⟨rfl, h⟩
  have Hfin := hid hfin
  have Hc := fun w => hid (checkR_any ⟨o, n, tx, r⟩ w hi)
  unfold checkPost at Hc
  rw [ho] at Hc
  have Hop := fun w => hid (operandR_any o w)
  rw [hk] at Hop
  have Hwc := fun w => hid (words_at o hrng.1 hrng.2 w)
  have hwl := word_le o
  obtain ⟨wd, hwd⟩ : ∃ wd, wordL o = wd := ⟨_, rfl⟩
  rw [hwd] at Hwc Hfin hwl
  have hn1 := hn.1
  have hn2 := hn.2
  simp only at hn1 hn2
  have hlt := hty.1
  have hw0 : (bs wd).size ≤ 20 := by rw [bs_size]; exact hwl
  have ho41 : o < 41 := by have := hrng.2; omega
  clear hfin hparts hwd hk hrng hty hwl
  have hU0 : Upd w (w.alloc (.cells #[.int .i64 o, .int .i64 n, .string (bs tx), .bool r.ifc, .string (bs r.cls), .string (bs r.nm), .string (bs r.ds)] 25)) [] := (Upd.refl _ _).alloc _
  unfold InstL.v InstL.cells at Hc ⊢
  simp only at Hc ⊢
  go_enter Tryd.func17, Tryd.ntmps17
  go_wp2_with fail
  refine (Hc _).out.mono ?_
  rintro e w1 ⟨rfl, hU1⟩
  obtain ⟨hc1, hf1, hz1⟩ := hU1.cells
  have hz1' : w.heap.size < w1.heap.size := by simp at hz1; omega
  simp only [errIf]
  have x0 : w1.cell? ⟨w.heap.size, 0, none⟩ = some (.int .i64 o) := by rw [hc1 _ _ (by simp)]; simp
  have Hc1 := hid hc1
  clear hc1 hf1
  go_upto_region 3 with fail
  go_cut [4] (fun s4 wx => s4 = .string (bs wd) ∧ Upd (w.alloc (.cells #[.int .i64 o, .int .i64 n, .string (bs tx), .bool r.ifc, .string (bs r.cls), .string (bs r.nm), .string (bs r.ds)] 25)) wx [])
  case first =>
    go_region_with (refine (Hwc _).out.mono ?_; rintro e w2 ⟨g, rfl, hg, hU2⟩; have x0' : w2.cell? ⟨w.heap.size, 0, none⟩ = some (.int .i64 o) := (by rw [hU2.cells.1 _ _ (by simpa using hz1')]; simpa using x0))
    all_goals
      go_wp2_with fail
      go_meet
      exact ⟨rfl, hU1.drew.trans hU2⟩
  case rest =>
    obtain ⟨rfl, hV⟩ := hcut
    obtain ⟨hcc, hfc, hzc⟩ := hV.cells
    have hzc' : w.heap.size < wc.heap.size := by simp at hzc; omega
    clear hz1' hU1 x0 Hc1
    go_wp2_with fail
    refine (Hop _).out.mono ?_
    rintro e w3 ⟨rfl, rfl⟩
    have hs4 : (bs tx).size ≤ 2000 := by rw [bs_size]; exact hlt
    go_wp2
    go_ret2
    have h := Hfin.out _ _ rfl (hU0.trans hV)
    rw [join2] at h
    rw [bs_blank, bs_append, bs_append]
    exact h

set_option maxHeartbeats 4000000 in
set_option maxRecDepth 100000 in
theorem printR_6 (o : Nat) (n : Int) (tx : List UInt8) (r : RefL) (w : World) (hi : (InstL.mk o n tx r).fit) (hn : (InstL.mk o n tx r).num) (ho : (InstL.mk o n tx r).ok = true) (hk : kindL o = 6) :
    Calls Tryd.prog 17 #[(InstL.mk o n tx r).v] w (printPost ⟨o, n, tx, r⟩ w) := by
  have hrng := run_known o hk (by decide)
  have hty := InstL.ok_ty ho
  simp only [hk] at hty
  have hparts : (InstL.mk o n tx r).parts = [wordL o, tx] := by
    unfold InstL.parts
    simp only [hk]
    simp [hty.2.1]
  have hfin : ∀ w' s, s = Lib.join [wordL o, tx] [32] → Upd w w' [] → printPost ⟨o, n, tx, r⟩ w (.returned (.tuple #[.string (bs s), .int .i64 0])) w' := fun w' s hs h => by
    unfold printPost InstL.text
    rw [ho, hparts, hs]
    exact ⟨rfl, h⟩
  have Hfin := hid hfin
  have Hc := fun w => hid (checkR_any ⟨o, n, tx, r⟩ w hi)
  unfold checkPost at Hc
  rw [ho] at Hc
  have Hop := fun w => hid (operandR_any o w)
  rw [hk] at Hop
  have Hwc := fun w => hid (words_at o hrng.1 hrng.2 w)
  have hwl := word_le o
  obtain ⟨wd, hwd⟩ : ∃ wd, wordL o = wd := ⟨_, rfl⟩
  rw [hwd] at Hwc Hfin hwl
  have hn1 := hn.1
  have hn2 := hn.2
  simp only at hn1 hn2
  have hlt := hty.1
  have hw0 : (bs wd).size ≤ 20 := by rw [bs_size]; exact hwl
  have ho41 : o < 41 := by have := hrng.2; omega
  clear hfin hparts hwd hk hrng hty hwl
  have hU0 : Upd w (w.alloc (.cells #[.int .i64 o, .int .i64 n, .string (bs tx), .bool r.ifc, .string (bs r.cls), .string (bs r.nm), .string (bs r.ds)] 25)) [] := (Upd.refl _ _).alloc _
  unfold InstL.v InstL.cells at Hc ⊢
  simp only at Hc ⊢
  go_enter Tryd.func17, Tryd.ntmps17
  go_wp2_with fail
  refine (Hc _).out.mono ?_
  rintro e w1 ⟨rfl, hU1⟩
  obtain ⟨hc1, hf1, hz1⟩ := hU1.cells
  have hz1' : w.heap.size < w1.heap.size := by simp at hz1; omega
  simp only [errIf]
  have x0 : w1.cell? ⟨w.heap.size, 0, none⟩ = some (.int .i64 o) := by rw [hc1 _ _ (by simp)]; simp
  have Hc1 := hid hc1
  clear hc1 hf1
  go_upto_region 3 with fail
  go_cut [4] (fun s4 wx => s4 = .string (bs wd) ∧ Upd (w.alloc (.cells #[.int .i64 o, .int .i64 n, .string (bs tx), .bool r.ifc, .string (bs r.cls), .string (bs r.nm), .string (bs r.ds)] 25)) wx [])
  case first =>
    go_region_with (refine (Hwc _).out.mono ?_; rintro e w2 ⟨g, rfl, hg, hU2⟩; have x0' : w2.cell? ⟨w.heap.size, 0, none⟩ = some (.int .i64 o) := (by rw [hU2.cells.1 _ _ (by simpa using hz1')]; simpa using x0))
    all_goals
      go_wp2_with fail
      go_meet
      exact ⟨rfl, hU1.drew.trans hU2⟩
  case rest =>
    obtain ⟨rfl, hV⟩ := hcut
    obtain ⟨hcc, hfc, hzc⟩ := hV.cells
    have hzc' : w.heap.size < wc.heap.size := by simp at hzc; omega
    clear hz1' hU1 x0 Hc1
    go_wp2_with fail
    refine (Hop _).out.mono ?_
    rintro e w3 ⟨rfl, rfl⟩
    have hs4 : (bs tx).size ≤ 2000 := by rw [bs_size]; exact hlt
    go_wp2
    go_ret2
    have h := Hfin.out _ _ rfl (hU0.trans hV)
    rw [join2] at h
    rw [bs_blank, bs_append, bs_append]
    exact h

set_option maxHeartbeats 4000000 in
set_option maxRecDepth 100000 in
theorem printR_7 (o : Nat) (n : Int) (tx : List UInt8) (r : RefL) (w : World) (hi : (InstL.mk o n tx r).fit) (hn : (InstL.mk o n tx r).num) (ho : (InstL.mk o n tx r).ok = true) (hk : kindL o = 7) :
    Calls Tryd.prog 17 #[(InstL.mk o n tx r).v] w (printPost ⟨o, n, tx, r⟩ w) := by
  have hrng := run_known o hk (by decide)
  have hty := InstL.ok_ty ho
  simp only [hk] at hty
  have hparts : (InstL.mk o n tx r).parts = [wordL o, Lib.itoa n, tx] := by
    unfold InstL.parts
    simp only [hk]
    simp [hty.2.1]
  have hfin : ∀ w' s, s = Lib.join [wordL o, Lib.itoa n, tx] [32] → Upd w w' [] → printPost ⟨o, n, tx, r⟩ w (.returned (.tuple #[.string (bs s), .int .i64 0])) w' := fun w' s hs h => by
    unfold printPost InstL.text
    rw [ho, hparts, hs]
    exact ⟨rfl, h⟩
  have Hfin := hid hfin
  have Hc := fun w => hid (checkR_any ⟨o, n, tx, r⟩ w hi)
  unfold checkPost at Hc
  rw [ho] at Hc
  have Hop := fun w => hid (operandR_any o w)
  rw [hk] at Hop
  have Hwc := fun w => hid (words_at o hrng.1 hrng.2 w)
  have hwl := word_le o
  obtain ⟨wd, hwd⟩ : ∃ wd, wordL o = wd := ⟨_, rfl⟩
  rw [hwd] at Hwc Hfin hwl
  have hn1 := hn.1
  have hn2 := hn.2
  simp only at hn1 hn2
  have hlt := hty.1
  have hw0 : (bs wd).size ≤ 20 := by rw [bs_size]; exact hwl
  have ho41 : o < 41 := by have := hrng.2; omega
  clear hfin hparts hwd hk hrng hty hwl
  have hU0 : Upd w (w.alloc (.cells #[.int .i64 o, .int .i64 n, .string (bs tx), .bool r.ifc, .string (bs r.cls), .string (bs r.nm), .string (bs r.ds)] 25)) [] := (Upd.refl _ _).alloc _
  unfold InstL.v InstL.cells at Hc ⊢
  simp only at Hc ⊢
  go_enter Tryd.func17, Tryd.ntmps17
  go_wp2_with fail
  refine (Hc _).out.mono ?_
  rintro e w1 ⟨rfl, hU1⟩
  obtain ⟨hc1, hf1, hz1⟩ := hU1.cells
  have hz1' : w.heap.size < w1.heap.size := by simp at hz1; omega
  simp only [errIf]
  have x0 : w1.cell? ⟨w.heap.size, 0, none⟩ = some (.int .i64 o) := by rw [hc1 _ _ (by simp)]; simp
  have Hc1 := hid hc1
  clear hc1 hf1
  go_upto_region 3 with fail
  go_cut [4] (fun s4 wx => s4 = .string (bs wd) ∧ Upd (w.alloc (.cells #[.int .i64 o, .int .i64 n, .string (bs tx), .bool r.ifc, .string (bs r.cls), .string (bs r.nm), .string (bs r.ds)] 25)) wx [])
  case first =>
    go_region_with (refine (Hwc _).out.mono ?_; rintro e w2 ⟨g, rfl, hg, hU2⟩; have x0' : w2.cell? ⟨w.heap.size, 0, none⟩ = some (.int .i64 o) := (by rw [hU2.cells.1 _ _ (by simpa using hz1')]; simpa using x0))
    all_goals
      go_wp2_with fail
      go_meet
      exact ⟨rfl, hU1.drew.trans hU2⟩
  case rest =>
    obtain ⟨rfl, hV⟩ := hcut
    obtain ⟨hcc, hfc, hzc⟩ := hV.cells
    have hzc' : w.heap.size < wc.heap.size := by simp at hzc; omega
    clear hz1' hU1 x0 Hc1
    go_wp2_with fail
    refine (Hop _).out.mono ?_
    rintro e w3 ⟨rfl, rfl⟩
    have hl4 := Lib.itoa_length_le n hn1 hn2
    have hs4 : (bs (Lib.itoa n)).size ≤ 21 := by rw [bs_size]; exact hl4
    have hs5 : (bs tx).size ≤ 2000 := by rw [bs_size]; exact hlt
    have x1 : wc.cell? ⟨w.heap.size, 1, none⟩ = some (.int .i64 n) := by rw [hcc _ _ (by simp)]; simp
    have x2 : wc.cell? ⟨w.heap.size, 2, none⟩ = some (.string (bs tx)) := by rw [hcc _ _ (by simp)]; simp
    clear hcc hfc
    have n1 : ¬ 9223372036854775807 < (bs wd).size + 1 := by omega
    have n2 : ¬ 9223372036854775807 < (bs wd).size + 1 + (bs (Lib.itoa n)).size := by omega
    have n3 : ¬ 9223372036854775807 < (bs wd).size + 1 + (bs (Lib.itoa n)).size + 1 := by omega
    have n4 : ¬ 9223372036854775807 < (bs wd).size + 1 + (bs (Lib.itoa n)).size + 1 + (bs tx).size := by omega
    go_wp2
    go_region_held3 (fun W => W.cell? ⟨w.heap.size, 1, none⟩ = some (.int .i64 n) ∧ W.cell? ⟨w.heap.size, 2, none⟩ = some (.string (bs tx))) (first | exact ⟨x1, x2⟩ | go_keep) (first
      | (go_at_call 47; refine (decimal_any n _ hn1 hn2).mono ?_; rintro e w4 ⟨rfl, hU4⟩; have x1 : w4.cell? ⟨w.heap.size, 1, none⟩ = some (.int .i64 n) := (by rw [hU4.cells.1 _ _ (by simpa using hzc')]; simpa using x1); have x2 : w4.cell? ⟨w.heap.size, 2, none⟩ = some (.string (bs tx)) := (by rw [hU4.cells.1 _ _ (by simpa using hzc')]; simpa using x2)))
    all_goals
      go_wp2
      go_ret2
      have h := Hfin.out _ _ rfl ((hU0.trans hV).trans ((Upd.refl wc []).drew.trans hU4))
      rw [join3] at h
      rw [bs_blank, bs_append, bs_append, bs_append, bs_append]
      exact h

set_option maxHeartbeats 4000000 in
set_option maxRecDepth 100000 in
theorem printR_8 (o : Nat) (n : Int) (tx : List UInt8) (r : RefL) (w : World) (hi : (InstL.mk o n tx r).fit) (hn : (InstL.mk o n tx r).num) (ho : (InstL.mk o n tx r).ok = true) (hk : kindL o = 8) :
    Calls Tryd.prog 17 #[(InstL.mk o n tx r).v] w (printPost ⟨o, n, tx, r⟩ w) := by
  have hrng := run_known o hk (by decide)
  have hty := InstL.ok_ty ho
  simp only [hk] at hty
  have hparts : (InstL.mk o n tx r).parts = [wordL o, r.text] := by
    unfold InstL.parts
    simp only [hk]
    simp [hty.2.1]
  have hfin : ∀ w' s, s = Lib.join [wordL o, r.text] [32] → Upd w w' [] → printPost ⟨o, n, tx, r⟩ w (.returned (.tuple #[.string (bs s), .int .i64 0])) w' := fun w' s hs h => by
    unfold printPost InstL.text
    rw [ho, hparts, hs]
    exact ⟨rfl, h⟩
  have Hfin := hid hfin
  have Hc := fun w => hid (checkR_any ⟨o, n, tx, r⟩ w hi)
  unfold checkPost at Hc
  rw [ho] at Hc
  have Hop := fun w => hid (operandR_any o w)
  rw [hk] at Hop
  have Hwc := fun w => hid (words_at o hrng.1 hrng.2 w)
  have hwl := word_le o
  obtain ⟨wd, hwd⟩ : ∃ wd, wordL o = wd := ⟨_, rfl⟩
  rw [hwd] at Hwc Hfin hwl
  have Ht := fun w => hid (refTextR_any r w hi.2)
  unfold refTextPost at Ht
  have Hrok := hid (hty.2.2.2 (by simp))
  rw [Hrok.out] at Ht
  unfold RefL.v at Ht
  have hn1 := hn.1
  have hn2 := hn.2
  simp only at hn1 hn2
  have hlt := hty.1
  have hw0 : (bs wd).size ≤ 20 := by rw [bs_size]; exact hwl
  have ho41 : o < 41 := by have := hrng.2; omega
  clear hfin hparts hwd hk hrng hty hwl
  have hU0 : Upd w (w.alloc (.cells #[.int .i64 o, .int .i64 n, .string (bs tx), .bool r.ifc, .string (bs r.cls), .string (bs r.nm), .string (bs r.ds)] 25)) [] := (Upd.refl _ _).alloc _
  unfold InstL.v InstL.cells at Hc ⊢
  simp only at Hc ⊢
  go_enter Tryd.func17, Tryd.ntmps17
  go_wp2_with fail
  refine (Hc _).out.mono ?_
  rintro e w1 ⟨rfl, hU1⟩
  obtain ⟨hc1, hf1, hz1⟩ := hU1.cells
  have hz1' : w.heap.size < w1.heap.size := by simp at hz1; omega
  simp only [errIf]
  have x0 : w1.cell? ⟨w.heap.size, 0, none⟩ = some (.int .i64 o) := by rw [hc1 _ _ (by simp)]; simp
  have Hc1 := hid hc1
  clear hc1 hf1
  go_upto_region 3 with fail
  go_cut [4] (fun s4 wx => s4 = .string (bs wd) ∧ Upd (w.alloc (.cells #[.int .i64 o, .int .i64 n, .string (bs tx), .bool r.ifc, .string (bs r.cls), .string (bs r.nm), .string (bs r.ds)] 25)) wx [])
  case first =>
    go_region_with (refine (Hwc _).out.mono ?_; rintro e w2 ⟨g, rfl, hg, hU2⟩; have x0' : w2.cell? ⟨w.heap.size, 0, none⟩ = some (.int .i64 o) := (by rw [hU2.cells.1 _ _ (by simpa using hz1')]; simpa using x0))
    all_goals
      go_wp2_with fail
      go_meet
      exact ⟨rfl, hU1.drew.trans hU2⟩
  case rest =>
    obtain ⟨rfl, hV⟩ := hcut
    obtain ⟨hcc, hfc, hzc⟩ := hV.cells
    have hzc' : w.heap.size < wc.heap.size := by simp at hzc; omega
    clear hz1' hU1 x0 Hc1
    go_wp2_with fail
    refine (Hop _).out.mono ?_
    rintro e w3 ⟨rfl, rfl⟩
    go_wp2_with fail
    refine (Ht _).out.mono ?_
    rintro e w4 ⟨rfl, hU4⟩
    have hl4 := RefL.text_le Hrok.out
    have hs4 : (bs r.text).size ≤ 4061 := by rw [bs_size]; exact hl4
    simp only [if_true, errIf]
    go_wp2
    go_ret2
    have h := Hfin.out _ _ rfl ((hU0.trans hV).trans hU4)
    rw [join2] at h
    rw [bs_blank, bs_append, bs_append]
    exact h

set_option maxHeartbeats 1000000 in
theorem printR_any (i : InstL) (w : World) (hi : i.fit) (hn : i.num) : Calls Tryd.prog 17 #[i.v] w (printPost i w) := by
  obtain ⟨op, n, tx, r⟩ := i
  cases ho : (InstL.mk op n tx r).ok with
  | true =>
    have h1 := (InstL.ok_ty ho).2.2.1
    have h2 := run_known op rfl h1
    obtain ⟨o, rfl⟩ := Int.eq_ofNat_of_zero_le (show 0 ≤ op by omega)
    rcases kindL_cases o with hk | hk | hk | hk | hk | hk | hk | hk | hk | hk
    · exact absurd hk h1
    · exact printR_0 o n tx r w hi hn ho hk
    · exact printR_1 o n tx r w hi hn ho hk
    · exact printR_2 o n tx r w hi hn ho hk
    · exact printR_3 o n tx r w hi hn ho hk
    · exact printR_4 o n tx r w hi hn ho hk
    · exact printR_5 o n tx r w hi hn ho hk
    · exact printR_6 o n tx r w hi hn ho hk
    · exact printR_7 o n tx r w hi hn ho hk
    · exact printR_8 o n tx r w hi hn ho hk
  | false =>
    have Hc := fun w => hid (checkR_any ⟨op, n, tx, r⟩ w hi)
    unfold checkPost at Hc
    rw [ho] at Hc
    have hfin : ∀ w', Upd w w' [] → printPost ⟨op, n, tx, r⟩ w (.returned (.tuple #[.string ⟨#[]⟩, .int .i64 1])) w' := fun w' h => by
      unfold printPost
      rw [ho]
      exact ⟨rfl, h⟩
    have Hfin := hid hfin
    have hU0 : Upd w (w.alloc (.cells #[.int .i64 op, .int .i64 n, .string (bs tx), .bool r.ifc, .string (bs r.cls), .string (bs r.nm), .string (bs r.ds)] 25)) [] := (Upd.refl _ _).alloc _
    clear hfin
    unfold InstL.v InstL.cells at Hc ⊢
    simp only at Hc ⊢
    go_enter Tryd.func17, Tryd.ntmps17
    go_wp2_with fail
    refine (Hc _).out.mono ?_
    rintro e w1 ⟨rfl, hU1⟩
    simp only [errIf]
    go_wp2
    go_ret2
    exact Hfin.out _ (hU0.trans hU1)
end Go.Proofs.YtjjdlgjofjfgmaaDoor
