/-
 The document's answer on instructions, walked: Print.
-/
import Derived.Lib.QuietBelow
import Derived.Test.YtjjdlgjofjfgmaaGreatDoorK6
import Derived.Test.YtjjdlgjofjfgmaaGreatDoorK7
set_option linter.unusedSimpArgs false
set_option linter.unusedVariables false
namespace Go.Proofs.YtjjdlgjofjfgmaaGreatDoor
open Go.RowKit
theorem join2 (a b : List UInt8) : Lib.join [a, b] [32] = a ++ [32] ++ b := by simp [Lib.join, List.intercalate, List.intersperse]
theorem join3 (a b c : List UInt8) : Lib.join [a, b, c] [32] = a ++ [32] ++ b ++ [32] ++ c := by simp [Lib.join, List.intercalate, List.intersperse]
theorem join1 (a : List UInt8) : Lib.join [a] [32] = a := by simp [Lib.join, List.intercalate, List.intersperse]
theorem bs_blank : (⟨#[32]⟩ : ByteArray) = bs [32] := rfl
theorem words_at (o : Nat) (h0 : (1 : Int) ≤ o) (h1 : (o : Int) ≤ 40) (w : World) : Calls Tryz.prog 100 #[] w fun e w' => ∃ g, e = .returned (.slice (some ⟨g, 0, none⟩) 41 41) ∧ w'.cell? ⟨g, o, none⟩ = some (.string (bs (wordL o))) ∧ Upd w w' [] :=
 (words_any w).mono fun _ _ ⟨h, hw⟩ => ⟨w.heap.size, h, by rw [hw, (Blk.new w _ _).cell]; exact wordCells_at o (by omega) h1, by rw [hw]; exact (Upd.refl _ _).alloc _⟩
set_option maxHeartbeats 4000000 in
set_option maxRecDepth 100000 in
theorem printR_0 (o : Nat) (n : Int) (tx : List UInt8) (r : RefL) (w : World) (hi : (InstL.mk o n tx r).fit) (hn : (InstL.mk o n tx r).num) (ho : (InstL.mk o n tx r).ok = true) (hk : kindL o = 0) :
  Calls Tryz.prog 52 #[(InstL.mk o n tx r).v] w (printPost ⟨o, n, tx, r⟩ w) := by
 have hrng := run_known o hk (by decide)
 have hty := InstL.ok_ty ho
 simp only [hk] at hty
 have hparts : (InstL.mk o n tx r).parts = [wordL o] := by
  unfold InstL.parts
  simp only [hk]
  simp [hty.2.1]
 have hfin : ∀ w' s, s = Lib.join [wordL o] [32] → Upd w w' [] → printPost ⟨o, n, tx, r⟩ w (.returned (.tuple #[.string (bs s), .int .i64 0])) w' := fun w' s hs h => by
  unfold printPost InstL.text
  rw [ho, hparts, hs]
  exact ⟨rfl, h⟩
 have Hfin := hid hfin
 have Hc := fun w => hid (checkR_any ⟨o, n, tx, r⟩ w hi)
 unfold checkPost at Hc
 rw [ho] at Hc
 have Hop := fun w => hid (operandR_any o w)
 rw [hk] at Hop
 have Hwc := fun w => hid (words_at o hrng.1 hrng.2 w)
 have hwl := word_le o
 obtain ⟨wd, hwd⟩ : ∃ wd, wordL o = wd := ⟨_, rfl⟩
 rw [hwd] at Hwc Hfin hwl
 have hn1 := hn.1
 have hn2 := hn.2
 simp only at hn1 hn2
 have hlt := hty.1
 have hw0 : (bs wd).size ≤ 20 := by rw [bs_size]; exact hwl
 have ho41 : o < 41 := by have := hrng.2; omega
 clear hfin hparts hwd hk hrng hty hwl
 have hU0 : Upd w (w.alloc (.cells #[.int .i64 o, .int .i64 n, .string (bs tx), .bool r.ifc, .string (bs r.cls), .string (bs r.nm), .string (bs r.ds)] 41)) [] := (Upd.refl _ _).alloc _
 unfold InstL.v InstL.cells at Hc ⊢
 simp only at Hc ⊢
 go_enter Tryz.func52, Tryz.ntmps52
 go_wp2_with fail
 refine (Hc _).out.mono ?_
 rintro e w1 ⟨rfl, hU1⟩
 obtain ⟨hc1, hf1, hz1⟩ := hU1.cells
 have hz1' : w.heap.size < w1.heap.size := by simp at hz1; omega
 simp only [errIf]
 have x0 : w1.cell? ⟨w.heap.size, 0, none⟩ = some (.int .i64 o) := by rw [hc1 _ _ (by simp)]; simp
 have Hc1 := hid hc1
 clear hc1 hf1
 go_upto_region 3 with fail
 go_cut [4] (fun s4 wx => s4 = .string (bs wd) ∧ Upd (w.alloc (.cells #[.int .i64 o, .int .i64 n, .string (bs tx), .bool r.ifc, .string (bs r.cls), .string (bs r.nm), .string (bs r.ds)] 41)) wx [])
 case first =>
  go_region_with (refine (Hwc _).out.mono ?_; rintro e w2 ⟨g, rfl, hg, hU2⟩; have x0' : w2.cell? ⟨w.heap.size, 0, none⟩ = some (.int .i64 o) := (by rw [hU2.cells.1 _ _ (by simpa using hz1')]; simpa using x0))
  all_goals
   go_wp2_with fail
   go_meet
   exact ⟨rfl, hU1.drew.trans hU2⟩
 case rest =>
  obtain ⟨rfl, hV⟩ := hcut
  obtain ⟨hcc, hfc, hzc⟩ := hV.cells
  have hzc' : w.heap.size < wc.heap.size := by simp at hzc; omega
  clear hz1' hU1 x0 Hc1
  go_wp2_with fail
  refine (Hop _).out.mono ?_
  rintro e w3 ⟨rfl, rfl⟩
  go_wp2
  go_ret2
  exact Hfin.out _ _ (by rw [join1]) (hU0.trans hV)
set_option maxHeartbeats 4000000 in
set_option maxRecDepth 100000 in
theorem printR_1 (o : Nat) (n : Int) (tx : List UInt8) (r : RefL) (w : World) (hi : (InstL.mk o n tx r).fit) (hn : (InstL.mk o n tx r).num) (ho : (InstL.mk o n tx r).ok = true) (hk : kindL o = 1) :
  Calls Tryz.prog 52 #[(InstL.mk o n tx r).v] w (printPost ⟨o, n, tx, r⟩ w) := by
 have hrng := run_known o hk (by decide)
 have hty := InstL.ok_ty ho
 simp only [hk] at hty
 have hparts : (InstL.mk o n tx r).parts = [wordL o, Lib.itoa n] := by
  unfold InstL.parts
  simp only [hk]
  simp [hty.2.1]
 have hfin : ∀ w' s, s = Lib.join [wordL o, Lib.itoa n] [32] → Upd w w' [] → printPost ⟨o, n, tx, r⟩ w (.returned (.tuple #[.string (bs s), .int .i64 0])) w' := fun w' s hs h => by
  unfold printPost InstL.text
  rw [ho, hparts, hs]
  exact ⟨rfl, h⟩
 have Hfin := hid hfin
 have Hc := fun w => hid (checkR_any ⟨o, n, tx, r⟩ w hi)
 unfold checkPost at Hc
 rw [ho] at Hc
 have Hop := fun w => hid (operandR_any o w)
 rw [hk] at Hop
 have Hwc := fun w => hid (words_at o hrng.1 hrng.2 w)
 have hwl := word_le o
 obtain ⟨wd, hwd⟩ : ∃ wd, wordL o = wd := ⟨_, rfl⟩
 rw [hwd] at Hwc Hfin hwl
 have hn1 := hn.1
 have hn2 := hn.2
 simp only at hn1 hn2
 have hlt := hty.1
 have hw0 : (bs wd).size ≤ 20 := by rw [bs_size]; exact hwl
 have ho41 : o < 41 := by have := hrng.2; omega
 clear hfin hparts hwd hk hrng hty hwl
 have hU0 : Upd w (w.alloc (.cells #[.int .i64 o, .int .i64 n, .string (bs tx), .bool r.ifc, .string (bs r.cls), .string (bs r.nm), .string (bs r.ds)] 41)) [] := (Upd.refl _ _).alloc _
 unfold InstL.v InstL.cells at Hc ⊢
 simp only at Hc ⊢
 go_enter Tryz.func52, Tryz.ntmps52
 go_wp2_with fail
 refine (Hc _).out.mono ?_
 rintro e w1 ⟨rfl, hU1⟩
 obtain ⟨hc1, hf1, hz1⟩ := hU1.cells
 have hz1' : w.heap.size < w1.heap.size := by simp at hz1; omega
 simp only [errIf]
 have x0 : w1.cell? ⟨w.heap.size, 0, none⟩ = some (.int .i64 o) := by rw [hc1 _ _ (by simp)]; simp
 have Hc1 := hid hc1
 clear hc1 hf1
 go_upto_region 3 with fail
 go_cut [4] (fun s4 wx => s4 = .string (bs wd) ∧ Upd (w.alloc (.cells #[.int .i64 o, .int .i64 n, .string (bs tx), .bool r.ifc, .string (bs r.cls), .string (bs r.nm), .string (bs r.ds)] 41)) wx [])
 case first =>
  go_region_with (refine (Hwc _).out.mono ?_; rintro e w2 ⟨g, rfl, hg, hU2⟩; have x0' : w2.cell? ⟨w.heap.size, 0, none⟩ = some (.int .i64 o) := (by rw [hU2.cells.1 _ _ (by simpa using hz1')]; simpa using x0))
  all_goals
   go_wp2_with fail
   go_meet
   exact ⟨rfl, hU1.drew.trans hU2⟩
 case rest =>
  obtain ⟨rfl, hV⟩ := hcut
  obtain ⟨hcc, hfc, hzc⟩ := hV.cells
  have hzc' : w.heap.size < wc.heap.size := by simp at hzc; omega
  clear hz1' hU1 x0 Hc1
  go_wp2_with fail
  refine (Hop _).out.mono ?_
  rintro e w3 ⟨rfl, rfl⟩
  go_wp2_with fail
  refine (decimal_any n _ hn1 hn2).mono ?_
  rintro e w4 ⟨rfl, hU4⟩
  have hl4 := Lib.itoa_length_le n hn1 hn2
  have hs4 : (bs (Lib.itoa n)).size ≤ 21 := by rw [bs_size]; exact hl4
  go_wp2
  go_ret2
  have h := Hfin.out _ _ rfl ((hU0.trans hV).trans hU4)
  rw [join2] at h
  rw [bs_blank, bs_append, bs_append]
  exact h
set_option maxHeartbeats 4000000 in
set_option maxRecDepth 100000 in
theorem printR_2 (o : Nat) (n : Int) (tx : List UInt8) (r : RefL) (w : World) (hi : (InstL.mk o n tx r).fit) (hn : (InstL.mk o n tx r).num) (ho : (InstL.mk o n tx r).ok = true) (hk : kindL o = 2) :
  Calls Tryz.prog 52 #[(InstL.mk o n tx r).v] w (printPost ⟨o, n, tx, r⟩ w) := by
 have hrng := run_known o hk (by decide)
 have hty := InstL.ok_ty ho
 simp only [hk] at hty
 have hparts : (InstL.mk o n tx r).parts = [wordL o, Lib.itoa n] := by
  unfold InstL.parts
  simp only [hk]
  simp [hty.2.1]
 have hfin : ∀ w' s, s = Lib.join [wordL o, Lib.itoa n] [32] → Upd w w' [] → printPost ⟨o, n, tx, r⟩ w (.returned (.tuple #[.string (bs s), .int .i64 0])) w' := fun w' s hs h => by
  unfold printPost InstL.text
  rw [ho, hparts, hs]
  exact ⟨rfl, h⟩
 have Hfin := hid hfin
 have Hc := fun w => hid (checkR_any ⟨o, n, tx, r⟩ w hi)
 unfold checkPost at Hc
 rw [ho] at Hc
 have Hop := fun w => hid (operandR_any o w)
 rw [hk] at Hop
 have Hwc := fun w => hid (words_at o hrng.1 hrng.2 w)
 have hwl := word_le o
 obtain ⟨wd, hwd⟩ : ∃ wd, wordL o = wd := ⟨_, rfl⟩
 rw [hwd] at Hwc Hfin hwl
 have hn1 := hn.1
 have hn2 := hn.2
 simp only at hn1 hn2
 have hlt := hty.1
 have hw0 : (bs wd).size ≤ 20 := by rw [bs_size]; exact hwl
 have ho41 : o < 41 := by have := hrng.2; omega
 clear hfin hparts hwd hk hrng hty hwl
 have hU0 : Upd w (w.alloc (.cells #[.int .i64 o, .int .i64 n, .string (bs tx), .bool r.ifc, .string (bs r.cls), .string (bs r.nm), .string (bs r.ds)] 41)) [] := (Upd.refl _ _).alloc _
 unfold InstL.v InstL.cells at Hc ⊢
 simp only at Hc ⊢
 go_enter Tryz.func52, Tryz.ntmps52
 go_wp2_with fail
 refine (Hc _).out.mono ?_
 rintro e w1 ⟨rfl, hU1⟩
 obtain ⟨hc1, hf1, hz1⟩ := hU1.cells
 have hz1' : w.heap.size < w1.heap.size := by simp at hz1; omega
 simp only [errIf]
 have x0 : w1.cell? ⟨w.heap.size, 0, none⟩ = some (.int .i64 o) := by rw [hc1 _ _ (by simp)]; simp
 have Hc1 := hid hc1
 clear hc1 hf1
 go_upto_region 3 with fail
 go_cut [4] (fun s4 wx => s4 = .string (bs wd) ∧ Upd (w.alloc (.cells #[.int .i64 o, .int .i64 n, .string (bs tx), .bool r.ifc, .string (bs r.cls), .string (bs r.nm), .string (bs r.ds)] 41)) wx [])
 case first =>
  go_region_with (refine (Hwc _).out.mono ?_; rintro e w2 ⟨g, rfl, hg, hU2⟩; have x0' : w2.cell? ⟨w.heap.size, 0, none⟩ = some (.int .i64 o) := (by rw [hU2.cells.1 _ _ (by simpa using hz1')]; simpa using x0))
  all_goals
   go_wp2_with fail
   go_meet
   exact ⟨rfl, hU1.drew.trans hU2⟩
 case rest =>
  obtain ⟨rfl, hV⟩ := hcut
  obtain ⟨hcc, hfc, hzc⟩ := hV.cells
  have hzc' : w.heap.size < wc.heap.size := by simp at hzc; omega
  clear hz1' hU1 x0 Hc1
  go_wp2_with fail
  refine (Hop _).out.mono ?_
  rintro e w3 ⟨rfl, rfl⟩
  go_wp2_with fail
  refine (decimal_any n _ hn1 hn2).mono ?_
  rintro e w4 ⟨rfl, hU4⟩
  have hl4 := Lib.itoa_length_le n hn1 hn2
  have hs4 : (bs (Lib.itoa n)).size ≤ 21 := by rw [bs_size]; exact hl4
  go_wp2
  go_ret2
  have h := Hfin.out _ _ rfl ((hU0.trans hV).trans hU4)
  rw [join2] at h
  rw [bs_blank, bs_append, bs_append]
  exact h
set_option maxHeartbeats 4000000 in
set_option maxRecDepth 100000 in
theorem printR_3 (o : Nat) (n : Int) (tx : List UInt8) (r : RefL) (w : World) (hi : (InstL.mk o n tx r).fit) (hn : (InstL.mk o n tx r).num) (ho : (InstL.mk o n tx r).ok = true) (hk : kindL o = 3) :
  Calls Tryz.prog 52 #[(InstL.mk o n tx r).v] w (printPost ⟨o, n, tx, r⟩ w) := by
 have hrng := run_known o hk (by decide)
 have hty := InstL.ok_ty ho
 simp only [hk] at hty
 have hparts : (InstL.mk o n tx r).parts = [wordL o, Lib.itoa n] := by
  unfold InstL.parts
  simp only [hk]
  simp [hty.2.1]
 have hfin : ∀ w' s, s = Lib.join [wordL o, Lib.itoa n] [32] → Upd w w' [] → printPost ⟨o, n, tx, r⟩ w (.returned (.tuple #[.string (bs s), .int .i64 0])) w' := fun w' s hs h => by
  unfold printPost InstL.text
  rw [ho, hparts, hs]
  exact ⟨rfl, h⟩
 have Hfin := hid hfin
 have Hc := fun w => hid (checkR_any ⟨o, n, tx, r⟩ w hi)
 unfold checkPost at Hc
 rw [ho] at Hc
 have Hop := fun w => hid (operandR_any o w)
 rw [hk] at Hop
 have Hwc := fun w => hid (words_at o hrng.1 hrng.2 w)
 have hwl := word_le o
 obtain ⟨wd, hwd⟩ : ∃ wd, wordL o = wd := ⟨_, rfl⟩
 rw [hwd] at Hwc Hfin hwl
 have hn1 := hn.1
 have hn2 := hn.2
 simp only at hn1 hn2
 have hlt := hty.1
 have hw0 : (bs wd).size ≤ 20 := by rw [bs_size]; exact hwl
 have ho41 : o < 41 := by have := hrng.2; omega
 clear hfin hparts hwd hk hrng hty hwl
 have hU0 : Upd w (w.alloc (.cells #[.int .i64 o, .int .i64 n, .string (bs tx), .bool r.ifc, .string (bs r.cls), .string (bs r.nm), .string (bs r.ds)] 41)) [] := (Upd.refl _ _).alloc _
 unfold InstL.v InstL.cells at Hc ⊢
 simp only at Hc ⊢
 go_enter Tryz.func52, Tryz.ntmps52
 go_wp2_with fail
 refine (Hc _).out.mono ?_
 rintro e w1 ⟨rfl, hU1⟩
 obtain ⟨hc1, hf1, hz1⟩ := hU1.cells
 have hz1' : w.heap.size < w1.heap.size := by simp at hz1; omega
 simp only [errIf]
 have x0 : w1.cell? ⟨w.heap.size, 0, none⟩ = some (.int .i64 o) := by rw [hc1 _ _ (by simp)]; simp
 have Hc1 := hid hc1
 clear hc1 hf1
 go_upto_region 3 with fail
 go_cut [4] (fun s4 wx => s4 = .string (bs wd) ∧ Upd (w.alloc (.cells #[.int .i64 o, .int .i64 n, .string (bs tx), .bool r.ifc, .string (bs r.cls), .string (bs r.nm), .string (bs r.ds)] 41)) wx [])
 case first =>
  go_region_with (refine (Hwc _).out.mono ?_; rintro e w2 ⟨g, rfl, hg, hU2⟩; have x0' : w2.cell? ⟨w.heap.size, 0, none⟩ = some (.int .i64 o) := (by rw [hU2.cells.1 _ _ (by simpa using hz1')]; simpa using x0))
  all_goals
   go_wp2_with fail
   go_meet
   exact ⟨rfl, hU1.drew.trans hU2⟩
 case rest =>
  obtain ⟨rfl, hV⟩ := hcut
  obtain ⟨hcc, hfc, hzc⟩ := hV.cells
  have hzc' : w.heap.size < wc.heap.size := by simp at hzc; omega
  clear hz1' hU1 x0 Hc1
  go_wp2_with fail
  refine (Hop _).out.mono ?_
  rintro e w3 ⟨rfl, rfl⟩
  go_wp2_with fail
  refine (decimal_any n _ hn1 hn2).mono ?_
  rintro e w4 ⟨rfl, hU4⟩
  have hl4 := Lib.itoa_length_le n hn1 hn2
  have hs4 : (bs (Lib.itoa n)).size ≤ 21 := by rw [bs_size]; exact hl4
  go_wp2
  go_ret2
  have h := Hfin.out _ _ rfl ((hU0.trans hV).trans hU4)
  rw [join2] at h
  rw [bs_blank, bs_append, bs_append]
  exact h
set_option maxHeartbeats 4000000 in
set_option maxRecDepth 100000 in
theorem printR_4 (o : Nat) (n : Int) (tx : List UInt8) (r : RefL) (w : World) (hi : (InstL.mk o n tx r).fit) (hn : (InstL.mk o n tx r).num) (ho : (InstL.mk o n tx r).ok = true) (hk : kindL o = 4) :
  Calls Tryz.prog 52 #[(InstL.mk o n tx r).v] w (printPost ⟨o, n, tx, r⟩ w) := by
 have hrng := run_known o hk (by decide)
 have hty := InstL.ok_ty ho
 simp only [hk] at hty
 have hparts : (InstL.mk o n tx r).parts = [wordL o, tx] := by
  unfold InstL.parts
  simp only [hk]
  simp [hty.2.1]
 have hfin : ∀ w' s, s = Lib.join [wordL o, tx] [32] → Upd w w' [] → printPost ⟨o, n, tx, r⟩ w (.returned (.tuple #[.string (bs s), .int .i64 0])) w' := fun w' s hs h => by
  unfold printPost InstL.text
  rw [ho, hparts, hs]
  exact ⟨rfl, h⟩
 have Hfin := hid hfin
 have Hc := fun w => hid (checkR_any ⟨o, n, tx, r⟩ w hi)
 unfold checkPost at Hc
 rw [ho] at Hc
 have Hop := fun w => hid (operandR_any o w)
 rw [hk] at Hop
 have Hwc := fun w => hid (words_at o hrng.1 hrng.2 w)
 have hwl := word_le o
 obtain ⟨wd, hwd⟩ : ∃ wd, wordL o = wd := ⟨_, rfl⟩
 rw [hwd] at Hwc Hfin hwl
 have hn1 := hn.1
 have hn2 := hn.2
 simp only at hn1 hn2
 have hlt := hty.1
 have hw0 : (bs wd).size ≤ 20 := by rw [bs_size]; exact hwl
 have ho41 : o < 41 := by have := hrng.2; omega
 clear hfin hparts hwd hk hrng hty hwl
 have hU0 : Upd w (w.alloc (.cells #[.int .i64 o, .int .i64 n, .string (bs tx), .bool r.ifc, .string (bs r.cls), .string (bs r.nm), .string (bs r.ds)] 41)) [] := (Upd.refl _ _).alloc _
 unfold InstL.v InstL.cells at Hc ⊢
 simp only at Hc ⊢
 go_enter Tryz.func52, Tryz.ntmps52
 go_wp2_with fail
 refine (Hc _).out.mono ?_
 rintro e w1 ⟨rfl, hU1⟩
 obtain ⟨hc1, hf1, hz1⟩ := hU1.cells
 have hz1' : w.heap.size < w1.heap.size := by simp at hz1; omega
 simp only [errIf]
 have x0 : w1.cell? ⟨w.heap.size, 0, none⟩ = some (.int .i64 o) := by rw [hc1 _ _ (by simp)]; simp
 have Hc1 := hid hc1
 clear hc1 hf1
 go_upto_region 3 with fail
 go_cut [4] (fun s4 wx => s4 = .string (bs wd) ∧ Upd (w.alloc (.cells #[.int .i64 o, .int .i64 n, .string (bs tx), .bool r.ifc, .string (bs r.cls), .string (bs r.nm), .string (bs r.ds)] 41)) wx [])
 case first =>
  go_region_with (refine (Hwc _).out.mono ?_; rintro e w2 ⟨g, rfl, hg, hU2⟩; have x0' : w2.cell? ⟨w.heap.size, 0, none⟩ = some (.int .i64 o) := (by rw [hU2.cells.1 _ _ (by simpa using hz1')]; simpa using x0))
  all_goals
   go_wp2_with fail
   go_meet
   exact ⟨rfl, hU1.drew.trans hU2⟩
 case rest =>
  obtain ⟨rfl, hV⟩ := hcut
  obtain ⟨hcc, hfc, hzc⟩ := hV.cells
  have hzc' : w.heap.size < wc.heap.size := by simp at hzc; omega
  clear hz1' hU1 x0 Hc1
  go_wp2_with fail
  refine (Hop _).out.mono ?_
  rintro e w3 ⟨rfl, rfl⟩
  have hs4 : (bs tx).size ≤ 2000 := by rw [bs_size]; exact hlt
  go_wp2
  go_ret2
  have h := Hfin.out _ _ rfl (hU0.trans hV)
  rw [join2] at h
  rw [bs_blank, bs_append, bs_append]
  exact h
set_option maxHeartbeats 4000000 in
set_option maxRecDepth 100000 in
theorem printR_5 (o : Nat) (n : Int) (tx : List UInt8) (r : RefL) (w : World) (hi : (InstL.mk o n tx r).fit) (hn : (InstL.mk o n tx r).num) (ho : (InstL.mk o n tx r).ok = true) (hk : kindL o = 5) :
  Calls Tryz.prog 52 #[(InstL.mk o n tx r).v] w (printPost ⟨o, n, tx, r⟩ w) := by
 have hrng := run_known o hk (by decide)
 have hty := InstL.ok_ty ho
 simp only [hk] at hty
 have hparts : (InstL.mk o n tx r).parts = [wordL o, tx] := by
  unfold InstL.parts
  simp only [hk]
  simp [hty.2.1]
 have hfin : ∀ w' s, s = Lib.join [wordL o, tx] [32] → Upd w w' [] → printPost ⟨o, n, tx, r⟩ w (.returned (.tuple #[.string (bs s), .int .i64 0])) w' := fun w' s hs h => by
  unfold printPost InstL.text
  rw [ho, hparts, hs]
  exact ⟨rfl, h⟩
 have Hfin := hid hfin
 have Hc := fun w => hid (checkR_any ⟨o, n, tx, r⟩ w hi)
 unfold checkPost at Hc
 rw [ho] at Hc
 have Hop := fun w => hid (operandR_any o w)
 rw [hk] at Hop
 have Hwc := fun w => hid (words_at o hrng.1 hrng.2 w)
 have hwl := word_le o
 obtain ⟨wd, hwd⟩ : ∃ wd, wordL o = wd := ⟨_, rfl⟩
 rw [hwd] at Hwc Hfin hwl
 have hn1 := hn.1
 have hn2 := hn.2
 simp only at hn1 hn2
 have hlt := hty.1
 have hw0 : (bs wd).size ≤ 20 := by rw [bs_size]; exact hwl
 have ho41 : o < 41 := by have := hrng.2; omega
 clear hfin hparts hwd hk hrng hty hwl
 have hU0 : Upd w (w.alloc (.cells #[.int .i64 o, .int .i64 n, .string (bs tx), .bool r.ifc, .string (bs r.cls), .string (bs r.nm), .string (bs r.ds)] 41)) [] := (Upd.refl _ _).alloc _
 unfold InstL.v InstL.cells at Hc ⊢
 simp only at Hc ⊢
 go_enter Tryz.func52, Tryz.ntmps52
 go_wp2_with fail
 refine (Hc _).out.mono ?_
 rintro e w1 ⟨rfl, hU1⟩
 obtain ⟨hc1, hf1, hz1⟩ := hU1.cells
 have hz1' : w.heap.size < w1.heap.size := by simp at hz1; omega
 simp only [errIf]
 have x0 : w1.cell? ⟨w.heap.size, 0, none⟩ = some (.int .i64 o) := by rw [hc1 _ _ (by simp)]; simp
 have Hc1 := hid hc1
 clear hc1 hf1
 go_upto_region 3 with fail
 go_cut [4] (fun s4 wx => s4 = .string (bs wd) ∧ Upd (w.alloc (.cells #[.int .i64 o, .int .i64 n, .string (bs tx), .bool r.ifc, .string (bs r.cls), .string (bs r.nm), .string (bs r.ds)] 41)) wx [])
 case first =>
  go_region_with (refine (Hwc _).out.mono ?_; rintro e w2 ⟨g, rfl, hg, hU2⟩; have x0' : w2.cell? ⟨w.heap.size, 0, none⟩ = some (.int .i64 o) := (by rw [hU2.cells.1 _ _ (by simpa using hz1')]; simpa using x0))
  all_goals
   go_wp2_with fail
   go_meet
   exact ⟨rfl, hU1.drew.trans hU2⟩
 case rest =>
  obtain ⟨rfl, hV⟩ := hcut
  obtain ⟨hcc, hfc, hzc⟩ := hV.cells
  have hzc' : w.heap.size < wc.heap.size := by simp at hzc; omega
  clear hz1' hU1 x0 Hc1
  go_wp2_with fail
  refine (Hop _).out.mono ?_
  rintro e w3 ⟨rfl, rfl⟩
  have hs4 : (bs tx).size ≤ 2000 := by rw [bs_size]; exact hlt
  go_wp2
  go_ret2
  have h := Hfin.out _ _ rfl (hU0.trans hV)
  rw [join2] at h
  rw [bs_blank, bs_append, bs_append]
  exact h
set_option maxHeartbeats 4000000 in
set_option maxRecDepth 100000 in
theorem printR_6 (o : Nat) (n : Int) (tx : List UInt8) (r : RefL) (w : World) (hi : (InstL.mk o n tx r).fit) (hn : (InstL.mk o n tx r).num) (ho : (InstL.mk o n tx r).ok = true) (hk : kindL o = 6) :
  Calls Tryz.prog 52 #[(InstL.mk o n tx r).v] w (printPost ⟨o, n, tx, r⟩ w) := by
 have hrng := run_known o hk (by decide)
 have hty := InstL.ok_ty ho
 simp only [hk] at hty
 have hparts : (InstL.mk o n tx r).parts = [wordL o, tx] := by
  unfold InstL.parts
  simp only [hk]
  simp [hty.2.1]
 have hfin : ∀ w' s, s = Lib.join [wordL o, tx] [32] → Upd w w' [] → printPost ⟨o, n, tx, r⟩ w (.returned (.tuple #[.string (bs s), .int .i64 0])) w' := fun w' s hs h => by
  unfold printPost InstL.text
  rw [ho, hparts, hs]
  exact ⟨rfl, h⟩
 have Hfin := hid hfin
 have Hc := fun w => hid (checkR_any ⟨o, n, tx, r⟩ w hi)
 unfold checkPost at Hc
 rw [ho] at Hc
 have Hop := fun w => hid (operandR_any o w)
 rw [hk] at Hop
 have Hwc := fun w => hid (words_at o hrng.1 hrng.2 w)
 have hwl := word_le o
 obtain ⟨wd, hwd⟩ : ∃ wd, wordL o = wd := ⟨_, rfl⟩
 rw [hwd] at Hwc Hfin hwl
 have hn1 := hn.1
 have hn2 := hn.2
 simp only at hn1 hn2
 have hlt := hty.1
 have hw0 : (bs wd).size ≤ 20 := by rw [bs_size]; exact hwl
 have ho41 : o < 41 := by have := hrng.2; omega
 clear hfin hparts hwd hk hrng hty hwl
 have hU0 : Upd w (w.alloc (.cells #[.int .i64 o, .int .i64 n, .string (bs tx), .bool r.ifc, .string (bs r.cls), .string (bs r.nm), .string (bs r.ds)] 41)) [] := (Upd.refl _ _).alloc _
 unfold InstL.v InstL.cells at Hc ⊢
 simp only at Hc ⊢
 go_enter Tryz.func52, Tryz.ntmps52
 go_wp2_with fail
 refine (Hc _).out.mono ?_
 rintro e w1 ⟨rfl, hU1⟩
 obtain ⟨hc1, hf1, hz1⟩ := hU1.cells
 have hz1' : w.heap.size < w1.heap.size := by simp at hz1; omega
 simp only [errIf]
 have x0 : w1.cell? ⟨w.heap.size, 0, none⟩ = some (.int .i64 o) := by rw [hc1 _ _ (by simp)]; simp
 have Hc1 := hid hc1
 clear hc1 hf1
 go_upto_region 3 with fail
 go_cut [4] (fun s4 wx => s4 = .string (bs wd) ∧ Upd (w.alloc (.cells #[.int .i64 o, .int .i64 n, .string (bs tx), .bool r.ifc, .string (bs r.cls), .string (bs r.nm), .string (bs r.ds)] 41)) wx [])
 case first =>
  go_region_with (refine (Hwc _).out.mono ?_; rintro e w2 ⟨g, rfl, hg, hU2⟩; have x0' : w2.cell? ⟨w.heap.size, 0, none⟩ = some (.int .i64 o) := (by rw [hU2.cells.1 _ _ (by simpa using hz1')]; simpa using x0))
  all_goals
   go_wp2_with fail
   go_meet
   exact ⟨rfl, hU1.drew.trans hU2⟩
 case rest =>
  obtain ⟨rfl, hV⟩ := hcut
  obtain ⟨hcc, hfc, hzc⟩ := hV.cells
  have hzc' : w.heap.size < wc.heap.size := by simp at hzc; omega
  clear hz1' hU1 x0 Hc1
  go_wp2_with fail
  refine (Hop _).out.mono ?_
  rintro e w3 ⟨rfl, rfl⟩
  have hs4 : (bs tx).size ≤ 2000 := by rw [bs_size]; exact hlt
  go_wp2
  go_ret2
  have h := Hfin.out _ _ rfl (hU0.trans hV)
  rw [join2] at h
  rw [bs_blank, bs_append, bs_append]
  exact h
set_option maxHeartbeats 4000000 in
set_option maxRecDepth 100000 in
theorem printR_7 (o : Nat) (n : Int) (tx : List UInt8) (r : RefL) (w : World) (hi : (InstL.mk o n tx r).fit) (hn : (InstL.mk o n tx r).num) (ho : (InstL.mk o n tx r).ok = true) (hk : kindL o = 7) :
  Calls Tryz.prog 52 #[(InstL.mk o n tx r).v] w (printPost ⟨o, n, tx, r⟩ w) := by
 have hrng := run_known o hk (by decide)
 have hty := InstL.ok_ty ho
 simp only [hk] at hty
 have hparts : (InstL.mk o n tx r).parts = [wordL o, Lib.itoa n, tx] := by
  unfold InstL.parts
  simp only [hk]
  simp [hty.2.1]
 have hfin : ∀ w' s, s = Lib.join [wordL o, Lib.itoa n, tx] [32] → Upd w w' [] → printPost ⟨o, n, tx, r⟩ w (.returned (.tuple #[.string (bs s), .int .i64 0])) w' := fun w' s hs h => by
  unfold printPost InstL.text
  rw [ho, hparts, hs]
  exact ⟨rfl, h⟩
 have Hfin := hid hfin
 have Hc := fun w => hid (checkR_any ⟨o, n, tx, r⟩ w hi)
 unfold checkPost at Hc
 rw [ho] at Hc
 have Hop := fun w => hid (operandR_any o w)
 rw [hk] at Hop
 have Hwc := fun w => hid (words_at o hrng.1 hrng.2 w)
 have hwl := word_le o
 obtain ⟨wd, hwd⟩ : ∃ wd, wordL o = wd := ⟨_, rfl⟩
 rw [hwd] at Hwc Hfin hwl
 have hn1 := hn.1
 have hn2 := hn.2
 simp only at hn1 hn2
 have hlt := hty.1
 have hw0 : (bs wd).size ≤ 20 := by rw [bs_size]; exact hwl
 have ho41 : o < 41 := by have := hrng.2; omega
 clear hfin hparts hwd hk hrng hty hwl
 have hU0 : Upd w (w.alloc (.cells #[.int .i64 o, .int .i64 n, .string (bs tx), .bool r.ifc, .string (bs r.cls), .string (bs r.nm), .string (bs r.ds)] 41)) [] := (Upd.refl _ _).alloc _
 unfold InstL.v InstL.cells at Hc ⊢
 simp only at Hc ⊢
 go_enter Tryz.func52, Tryz.ntmps52
 go_wp2_with fail
 refine (Hc _).out.mono ?_
 rintro e w1 ⟨rfl, hU1⟩
 obtain ⟨hc1, hf1, hz1⟩ := hU1.cells
 have hz1' : w.heap.size < w1.heap.size := by simp at hz1; omega
 simp only [errIf]
 have x0 : w1.cell? ⟨w.heap.size, 0, none⟩ = some (.int .i64 o) := by rw [hc1 _ _ (by simp)]; simp
 have Hc1 := hid hc1
 clear hc1 hf1
 go_upto_region 3 with fail
 go_cut [4] (fun s4 wx => s4 = .string (bs wd) ∧ Upd (w.alloc (.cells #[.int .i64 o, .int .i64 n, .string (bs tx), .bool r.ifc, .string (bs r.cls), .string (bs r.nm), .string (bs r.ds)] 41)) wx [])
 case first =>
  go_region_with (refine (Hwc _).out.mono ?_; rintro e w2 ⟨g, rfl, hg, hU2⟩; have x0' : w2.cell? ⟨w.heap.size, 0, none⟩ = some (.int .i64 o) := (by rw [hU2.cells.1 _ _ (by simpa using hz1')]; simpa using x0))
  all_goals
   go_wp2_with fail
   go_meet
   exact ⟨rfl, hU1.drew.trans hU2⟩
 case rest =>
  obtain ⟨rfl, hV⟩ := hcut
  obtain ⟨hcc, hfc, hzc⟩ := hV.cells
  have hzc' : w.heap.size < wc.heap.size := by simp at hzc; omega
  clear hz1' hU1 x0 Hc1
  go_wp2_with fail
  refine (Hop _).out.mono ?_
  rintro e w3 ⟨rfl, rfl⟩
  have hl4 := Lib.itoa_length_le n hn1 hn2
  have hs4 : (bs (Lib.itoa n)).size ≤ 21 := by rw [bs_size]; exact hl4
  have hs5 : (bs tx).size ≤ 2000 := by rw [bs_size]; exact hlt
  have x1 : wc.cell? ⟨w.heap.size, 1, none⟩ = some (.int .i64 n) := by rw [hcc _ _ (by simp)]; simp
  have x2 : wc.cell? ⟨w.heap.size, 2, none⟩ = some (.string (bs tx)) := by rw [hcc _ _ (by simp)]; simp
  clear hcc hfc
  have n1 : ¬ 9223372036854775807 < (bs wd).size + 1 := by omega
  have n2 : ¬ 9223372036854775807 < (bs wd).size + 1 + (bs (Lib.itoa n)).size := by omega
  have n3 : ¬ 9223372036854775807 < (bs wd).size + 1 + (bs (Lib.itoa n)).size + 1 := by omega
  have n4 : ¬ 9223372036854775807 < (bs wd).size + 1 + (bs (Lib.itoa n)).size + 1 + (bs tx).size := by omega
  go_wp2
  go_region_held3 (fun W => W.cell? ⟨w.heap.size, 1, none⟩ = some (.int .i64 n) ∧ W.cell? ⟨w.heap.size, 2, none⟩ = some (.string (bs tx))) (first | exact ⟨x1, x2⟩ | go_keep) (first
   | (go_at_call 50; refine (decimal_any n _ hn1 hn2).mono ?_; rintro e w4 ⟨rfl, hU4⟩; have x1 : w4.cell? ⟨w.heap.size, 1, none⟩ = some (.int .i64 n) := (by rw [hU4.cells.1 _ _ (by simpa using hzc')]; simpa using x1); have x2 : w4.cell? ⟨w.heap.size, 2, none⟩ = some (.string (bs tx)) := (by rw [hU4.cells.1 _ _ (by simpa using hzc')]; simpa using x2)))
  all_goals
   go_wp2
   go_ret2
   have h := Hfin.out _ _ rfl ((hU0.trans hV).trans ((Upd.refl wc []).drew.trans hU4))
   rw [join3] at h
   rw [bs_blank, bs_append, bs_append, bs_append, bs_append]
   exact h
set_option maxHeartbeats 4000000 in
set_option maxRecDepth 100000 in
theorem printR_8 (o : Nat) (n : Int) (tx : List UInt8) (r : RefL) (w : World) (hi : (InstL.mk o n tx r).fit) (hn : (InstL.mk o n tx r).num) (ho : (InstL.mk o n tx r).ok = true) (hk : kindL o = 8) :
  Calls Tryz.prog 52 #[(InstL.mk o n tx r).v] w (printPost ⟨o, n, tx, r⟩ w) := by
 have hrng := run_known o hk (by decide)
 have hty := InstL.ok_ty ho
 simp only [hk] at hty
 have hparts : (InstL.mk o n tx r).parts = [wordL o, r.text] := by
  unfold InstL.parts
  simp only [hk]
  simp [hty.2.1]
 have hfin : ∀ w' s, s = Lib.join [wordL o, r.text] [32] → Upd w w' [] → printPost ⟨o, n, tx, r⟩ w (.returned (.tuple #[.string (bs s), .int .i64 0])) w' := fun w' s hs h => by
  unfold printPost InstL.text
  rw [ho, hparts, hs]
  exact ⟨rfl, h⟩
 have Hfin := hid hfin
 have Hc := fun w => hid (checkR_any ⟨o, n, tx, r⟩ w hi)
 unfold checkPost at Hc
 rw [ho] at Hc
 have Hop := fun w => hid (operandR_any o w)
 rw [hk] at Hop
 have Hwc := fun w => hid (words_at o hrng.1 hrng.2 w)
 have hwl := word_le o
 obtain ⟨wd, hwd⟩ : ∃ wd, wordL o = wd := ⟨_, rfl⟩
 rw [hwd] at Hwc Hfin hwl
 have Ht := fun w => hid (refTextR_any r w hi.2)
 unfold refTextPost at Ht
 have Hrok := hid (hty.2.2.2 (by simp))
 rw [Hrok.out] at Ht
 unfold RefL.v at Ht
 have hn1 := hn.1
 have hn2 := hn.2
 simp only at hn1 hn2
 have hlt := hty.1
 have hw0 : (bs wd).size ≤ 20 := by rw [bs_size]; exact hwl
 have ho41 : o < 41 := by have := hrng.2; omega
 clear hfin hparts hwd hk hrng hty hwl
 have hU0 : Upd w (w.alloc (.cells #[.int .i64 o, .int .i64 n, .string (bs tx), .bool r.ifc, .string (bs r.cls), .string (bs r.nm), .string (bs r.ds)] 41)) [] := (Upd.refl _ _).alloc _
 unfold InstL.v InstL.cells at Hc ⊢
 simp only at Hc ⊢
 go_enter Tryz.func52, Tryz.ntmps52
 go_wp2_with fail
 refine (Hc _).out.mono ?_
 rintro e w1 ⟨rfl, hU1⟩
 obtain ⟨hc1, hf1, hz1⟩ := hU1.cells
 have hz1' : w.heap.size < w1.heap.size := by simp at hz1; omega
 simp only [errIf]
 have x0 : w1.cell? ⟨w.heap.size, 0, none⟩ = some (.int .i64 o) := by rw [hc1 _ _ (by simp)]; simp
 have Hc1 := hid hc1
 clear hc1 hf1
 go_upto_region 3 with fail
 go_cut [4] (fun s4 wx => s4 = .string (bs wd) ∧ Upd (w.alloc (.cells #[.int .i64 o, .int .i64 n, .string (bs tx), .bool r.ifc, .string (bs r.cls), .string (bs r.nm), .string (bs r.ds)] 41)) wx [])
 case first =>
  go_region_with (refine (Hwc _).out.mono ?_; rintro e w2 ⟨g, rfl, hg, hU2⟩; have x0' : w2.cell? ⟨w.heap.size, 0, none⟩ = some (.int .i64 o) := (by rw [hU2.cells.1 _ _ (by simpa using hz1')]; simpa using x0))
  all_goals
   go_wp2_with fail
   go_meet
   exact ⟨rfl, hU1.drew.trans hU2⟩
 case rest =>
  obtain ⟨rfl, hV⟩ := hcut
  obtain ⟨hcc, hfc, hzc⟩ := hV.cells
  have hzc' : w.heap.size < wc.heap.size := by simp at hzc; omega
  clear hz1' hU1 x0 Hc1
  go_wp2_with fail
  refine (Hop _).out.mono ?_
  rintro e w3 ⟨rfl, rfl⟩
  go_wp2_with fail
  refine (Ht _).out.mono ?_
  rintro e w4 ⟨rfl, hU4⟩
  have hl4 := RefL.text_le Hrok.out
  have hs4 : (bs r.text).size ≤ 4061 := by rw [bs_size]; exact hl4
  simp only [if_true, errIf]
  go_wp2
  go_ret2
  have h := Hfin.out _ _ rfl ((hU0.trans hV).trans hU4)
  rw [join2] at h
  rw [bs_blank, bs_append, bs_append]
  exact h
set_option maxHeartbeats 1000000 in
theorem printR_any (i : InstL) (w : World) (hi : i.fit) (hn : i.num) : Calls Tryz.prog 52 #[i.v] w (printPost i w) := by
 obtain ⟨op, n, tx, r⟩ := i
 cases ho : (InstL.mk op n tx r).ok with
 | true =>
  have h1 := (InstL.ok_ty ho).2.2.1
  have h2 := run_known op rfl h1
  obtain ⟨o, rfl⟩ := Int.eq_ofNat_of_zero_le (show 0 ≤ op by omega)
  rcases kindL_cases o with hk | hk | hk | hk | hk | hk | hk | hk | hk | hk
  ·exact absurd hk h1
  ·exact printR_0 o n tx r w hi hn ho hk
  ·exact printR_1 o n tx r w hi hn ho hk
  ·exact printR_2 o n tx r w hi hn ho hk
  ·exact printR_3 o n tx r w hi hn ho hk
  ·exact printR_4 o n tx r w hi hn ho hk
  ·exact printR_5 o n tx r w hi hn ho hk
  ·exact printR_6 o n tx r w hi hn ho hk
  ·exact printR_7 o n tx r w hi hn ho hk
  ·exact printR_8 o n tx r w hi hn ho hk
 | false =>
  have Hc := fun w => hid (checkR_any ⟨op, n, tx, r⟩ w hi)
  unfold checkPost at Hc
  rw [ho] at Hc
  have hfin : ∀ w', Upd w w' [] → printPost ⟨op, n, tx, r⟩ w (.returned (.tuple #[.string ⟨#[]⟩, .int .i64 1])) w' := fun w' h => by
   unfold printPost
   rw [ho]
   exact ⟨rfl, h⟩
  have Hfin := hid hfin
  have hU0 : Upd w (w.alloc (.cells #[.int .i64 op, .int .i64 n, .string (bs tx), .bool r.ifc, .string (bs r.cls), .string (bs r.nm), .string (bs r.ds)] 41)) [] := (Upd.refl _ _).alloc _
  clear hfin
  unfold InstL.v InstL.cells at Hc ⊢
  simp only at Hc ⊢
  go_enter Tryz.func52, Tryz.ntmps52
  go_wp2_with fail
  refine (Hc _).out.mono ?_
  rintro e w1 ⟨rfl, hU1⟩
  simp only [errIf]
  go_wp2
  go_ret2
  exact Hfin.out _ (hU0.trans hU1)
end Go.Proofs.YtjjdlgjofjfgmaaGreatDoor
/-
 The law CodePlays, walked.
-/
set_option linter.unusedSimpArgs false
set_option linter.unusedVariables false
namespace Go.Proofs.YtjjdlgjofjfgmaaGreatDoor
open Go.RowKit Go.Sort
theorem quiet_of {f : FuncId} {args : Array Value} {W : World} {d : Nat} {os : Array Obj} {v : Value} (h : ∀ w, Upd W w [] → Calls Tryz.prog f args w fun e w' => e = .returned v ∧ Upd w w' []) :
  Calls Tryz.prog f args (grow (redrawn W d) os) fun e w'' => e = .returned v ∧ ∃ p : Regrown, w'' = grow (redrawn W p.d) p.os :=
 Calls.regrown_of ((h _ (Upd.of_below (below_regrown W d os) [])).mono fun _ _ h => ⟨h.1, h.2.below⟩)
end Go.Proofs.YtjjdlgjofjfgmaaGreatDoor
/-
 Lists of instructions in memory; CheckAll, walked on both sides.
-/
set_option linter.unusedSimpArgs false
set_option linter.unusedVariables false
namespace Go.Proofs.YtjjdlgjofjfgmaaGreatDoor
open Go.RowKit
def InstsAt (w : World) (A : Option Addr) (l : List InstL) : Prop :=
 l ≠ [] → ∃ bk off, A = some ⟨bk, off, none⟩ ∧ bk < w.heap.size ∧ ∀ i (h : i < l.length), ∀ j, j < 7 → w.cell? ⟨bk, off + i * 7 + j, none⟩ = l[i].cells[j]?
theorem InstsAt.upd {w w' : World} {A : Option Addr} {l : List InstL} (h : InstsAt w A l) (u : Upd w w' []) : InstsAt w' A l := by
 intro hl
 obtain ⟨bk, off, e, hb, hc⟩ := h hl
 refine ⟨bk, off, e, Nat.lt_of_lt_of_le hb u.size, fun i hi j hj => ?_⟩
 rw [u.cells.1 _ _ hb]
 exact hc i hi j hj
theorem InstsAt.seven {w : World} {bk off : Nat} {l : List InstL} (hc : ∀ i (h : i < l.length), ∀ j, j < 7 → w.cell? ⟨bk, off + i * 7 + j, none⟩ = l[i].cells[j]?) {i : Nat} (h : i < l.length) {op n : Int} {tx : List UInt8} {r : RefL} (e : l[i] = ⟨op, n, tx, r⟩) :
  w.cell? ⟨bk, off + i * 7, none⟩ = some (.int .i64 op) ∧ w.cell? ⟨bk, off + i * 7 + 1, none⟩ = some (.int .i64 n) ∧ w.cell? ⟨bk, off + i * 7 + 2, none⟩ = some (.string (bs tx)) ∧ w.cell? ⟨bk, off + i * 7 + 3, none⟩ = some (.bool r.ifc) ∧
   w.cell? ⟨bk, off + i * 7 + 4, none⟩ = some (.string (bs r.cls)) ∧ w.cell? ⟨bk, off + i * 7 + 5, none⟩ = some (.string (bs r.nm)) ∧ w.cell? ⟨bk, off + i * 7 + 6, none⟩ = some (.string (bs r.ds)) := by
 have q := fun j hj => hc i h j hj
 rw [e] at q
 exact ⟨q 0 (by omega), q 1 (by omega), q 2 (by omega), q 3 (by omega), q 4 (by omega), q 5 (by omega), q 6 (by omega)⟩
def badI (i : InstL) (locals : Int) (n : Nat) : Bool := !i.ok || (decide (kindL i.op = 2) && decide (locals ≤ i.n)) || (decide (kindL i.op = 3) && decide ((n : Int) ≤ i.n))
def allOk (l : List InstL) (locals : Int) : Bool := decide (1 ≤ l.length ∧ l.length ≤ 200) && l.all fun i => !badI i locals l.length
theorem allOk_bad {l : List InstL} {locals : Int} {i : Nat} (h : i < l.length) (hb : badI l[i] locals l.length = true) : allOk l locals = false := by
 unfold allOk
 rw [Bool.and_eq_false_iff]
 right
 rw [List.all_eq_false]
 exact ⟨l[i], List.getElem_mem h, by simp [hb]⟩
theorem allOk_size {l : List InstL} {locals : Int} (h : ¬ (1 ≤ l.length ∧ l.length ≤ 200)) : allOk l locals = false := by
 unfold allOk
 rw [decide_eq_false h]
 rfl
theorem allOk_all {l : List InstL} {locals : Int} (h : 1 ≤ l.length ∧ l.length ≤ 200) (ha : ∀ i (hi : i < l.length), badI l[i] locals l.length = false) : allOk l locals = true := by
 unfold allOk
 rw [decide_eq_true h, Bool.true_and, List.all_eq_true]
 intro x hx
 obtain ⟨i, hi, rfl⟩ := List.getElem_of_mem hx
 simp [ha i hi]
def checkAll_anyRel (l : List InstL) (locals : Int) (w : World) (t : Value) (wr : World) : Prop :=
 ∃ k : Nat, t = .int .i64 k ∧ k ≤ l.length ∧ Hid (∀ i (hi : i < l.length), i < k → badI l[i] locals l.length = false) ∧ Upd w wr []
set_option maxHeartbeats 8000000 in
set_option maxRecDepth 100000 in
theorem checkAll_any (A : Option Addr) (cap : Nat) (l : List InstL) (locals : Int) (w : World) (hA : InstsAt w A l) (hl : l.length ≤ 2000000000000) (hfit : ∀ i, i ∈ l → i.fit) (hm : MaxLenAt w) :
  Calls Tryz.prog 80 #[.slice A l.length cap, .int .i64 locals] w fun e w' => e = .returned (.int .i64 (errIf (allOk l locals))) ∧ Upd w w' [] := by
 by_cases hsz : 1 ≤ l.length ∧ l.length ≤ 200
 ·have hne : l ≠ [] := by rintro rfl; simp at hsz
  obtain ⟨bk, off, rfl, hbk, hc⟩ := hA hne
  have Hc := hid hc
  obtain ⟨hs1, hs2⟩ := hsz
  have hlen : l.length ≤ 200 := hs2
  have hpos : ¬ l.length < 1 := by omega
  have hpos2 : ¬ 200 < l.length := by omega
  clear hc hA hl hne
  have Hw := fun w => hid (within_any l.length 1 200 w)
  rw [show withinB 1 200 l.length = true from decide_eq_true (by omega)] at Hw
  go_enter Tryz.func80, Tryz.ntmps80
  go_wp2_with fail
  refine (Hw _).out.mono ?_
  rintro e w0 ⟨rfl, rfl⟩
  go_wp2
  go_loopw [14] (fun t wr => checkAll_anyRel l locals w t wr) (fun t _ => l.length - (intOf t).toNat)
  case atStart => exact ⟨0, rfl, Nat.zero_le _, hid (fun i _ h => absurd h (Nat.not_lt_zero _)), Upd.refl _ _⟩
  case round =>
   obtain ⟨k, rfl, hk, hgood, hU⟩ := hrel
   by_cases hlt : k < l.length
   ·obtain ⟨op, n, tx, r, e⟩ : ∃ op n tx r, l[k] = InstL.mk op n tx r := ⟨_, _, _, _, rfl⟩
    have hf := hfit _ (List.getElem_mem hlt)
    rw [e] at hf
    have hbr : bk < wr.heap.size := Nat.lt_of_lt_of_le hbk hU.size
    obtain ⟨x0, x1, x2, x3, x4, x5, x6⟩ := InstsAt.seven (w := wr) (fun i hi j hj => by rw [hU.cells.1 _ _ hbk]; exact Hc.out i hi j hj) hlt e
    have Hop := fun w => hid (operand_any op w)
    have Hck := fun w hm => hid (check_any ⟨op, n, tx, r⟩ w hf hm)
    unfold checkPost InstL.v InstL.cells at Hck
    simp only at Hck
    have hUa : Upd wr (wr.alloc (.cells #[.int .i64 op, .int .i64 n, .string (bs tx), .bool r.ifc, .string (bs r.cls), .string (bs r.nm), .string (bs r.ds)] 41)) [] := (Upd.refl _ _).alloc _
    have hbad : badI l[k] locals l.length = (!(InstL.mk op n tx r).ok || (decide (kindL op = 2) && decide (locals ≤ n)) || (decide (kindL op = 3) && decide ((l.length : Int) ≤ n))) := by rw [e]; rfl
    have Hb := hid hbad
    have Hgd : badI l[k] locals l.length = false → Hid (∀ i (hi : i < l.length), i < k + 1 → badI l[i] locals l.length = false) := fun h => hid (fun i hi h2 => by
     rcases Nat.lt_or_ge i k with h3 | h3
     ·exact hgood.out i hi h3
     ·have : i = k := by omega
      subst this
      exact h)
    have Hgd' := hid Hgd
    have Hbd := hid (fun h => allOk_bad (locals := locals) hlt h)
    generalize (InstL.mk op n tx r).ok = bo at Hck Hb
    generalize kindL op = kk at Hop Hb
    clear hbad Hgd hgood e hf
    cases bo with
    | false =>
     have Hbad := hid (Hbd.out (by rw [Hb.out]; rfl))
     go_wp2_with fail
     refine (Hop _).out.mono ?_
     rintro e w1 ⟨rfl, hU1⟩
     obtain ⟨hc1, hf1, hz1⟩ := hU1.cells
     have hz1' : wr.heap.size < w1.heap.size := by simp at hz1; omega
     have hz2' : bk < w1.heap.size := by omega
     have hV1 := hU.trans ((hUa).trans hU1)
     go_wp2_with fail
     refine (Hck _ (hm.upd hV1 (by simp))).out.mono ?_
     rintro e w2 ⟨rfl, hU2⟩
     obtain ⟨hc2, hf2, hz3⟩ := hU2.cells
     have hz2 : wr.heap.size < w2.heap.size := by omega
     have hV2 := hV1.trans hU2
     clear hU1 hU2 hz1 hz3
     simp only [errIf]
     go_wp2
     go_ret
     exact ⟨ret_int (by rw [Hbad.out]; rfl), hV2⟩
    | true =>
     by_cases h2 : kk = 2
     ·subst h2
      by_cases hl2 : locals ≤ n
      ·have Hbad := hid (Hbd.out (by rw [Hb.out, decide_eq_true hl2]; rfl))
       go_wp2_with fail
       refine (Hop _).out.mono ?_
       rintro e w1 ⟨rfl, hU1⟩
       obtain ⟨hc1, hf1, hz1⟩ := hU1.cells
       have hz1' : wr.heap.size < w1.heap.size := by simp at hz1; omega
       have hz2' : bk < w1.heap.size := by omega
       have hV1 := hU.trans ((hUa).trans hU1)
       go_wp2_with fail
       refine (Hck _ (hm.upd hV1 (by simp))).out.mono ?_
       rintro e w2 ⟨rfl, hU2⟩
       obtain ⟨hc2, hf2, hz3⟩ := hU2.cells
       have hz2 : wr.heap.size < w2.heap.size := by omega
       have hV2 := hV1.trans hU2
       clear hU1 hU2 hz1 hz3
       simp only [errIf]
       go_wp2
       go_ret
       exact ⟨ret_int (by rw [Hbad.out]; rfl), hV2⟩
      ·have hl3 : n < locals := by omega
       have Hgood := hid (Hgd'.out (by rw [Hb.out, decide_eq_false hl2]; rfl))
       go_wp2_with fail
       refine (Hop _).out.mono ?_
       rintro e w1 ⟨rfl, hU1⟩
       obtain ⟨hc1, hf1, hz1⟩ := hU1.cells
       have hz1' : wr.heap.size < w1.heap.size := by simp at hz1; omega
       have hz2' : bk < w1.heap.size := by omega
       have hV1 := hU.trans ((hUa).trans hU1)
       go_wp2_with fail
       refine (Hck _ (hm.upd hV1 (by simp))).out.mono ?_
       rintro e w2 ⟨rfl, hU2⟩
       obtain ⟨hc2, hf2, hz3⟩ := hU2.cells
       have hz2 : wr.heap.size < w2.heap.size := by omega
       have hV2 := hV1.trans hU2
       clear hU1 hU2 hz1 hz3
       simp only [errIf]
       go_wp2
       go_roundw
       case rel => exact ⟨k + 1, by go_num, by omega, Hgood.out, hV2⟩
       case measure => simp [intOf]; omega
     ·have h2b : (kk == 2) = false := by simpa using h2
      by_cases h3 : kk = 3
      ·subst h3
       by_cases hc2 : (l.length : Int) ≤ n
       ·have Hbad := hid (Hbd.out (by rw [Hb.out, decide_eq_true hc2]; rfl))
        go_wp2_with fail
        refine (Hop _).out.mono ?_
        rintro e w1 ⟨rfl, hU1⟩
        obtain ⟨hc1, hf1, hz1⟩ := hU1.cells
        have hz1' : wr.heap.size < w1.heap.size := by simp at hz1; omega
        have hz2' : bk < w1.heap.size := by omega
        have hV1 := hU.trans ((hUa).trans hU1)
        go_wp2_with fail
        refine (Hck _ (hm.upd hV1 (by simp))).out.mono ?_
        rintro e w2 ⟨rfl, hU2⟩
        obtain ⟨hc2, hf2, hz3⟩ := hU2.cells
        have hz2 : wr.heap.size < w2.heap.size := by omega
        have hV2 := hV1.trans hU2
        clear hU1 hU2 hz1 hz3
        simp only [errIf]
        go_wp2
        go_ret
        exact ⟨ret_int (by rw [Hbad.out]; rfl), hV2⟩
       ·have hc3 : n < (l.length : Int) := by omega
        have Hgood := hid (Hgd'.out (by rw [Hb.out, decide_eq_false hc2]; rfl))
        go_wp2_with fail
        refine (Hop _).out.mono ?_
        rintro e w1 ⟨rfl, hU1⟩
        obtain ⟨hc1, hf1, hz1⟩ := hU1.cells
        have hz1' : wr.heap.size < w1.heap.size := by simp at hz1; omega
        have hz2' : bk < w1.heap.size := by omega
        have hV1 := hU.trans ((hUa).trans hU1)
        go_wp2_with fail
        refine (Hck _ (hm.upd hV1 (by simp))).out.mono ?_
        rintro e w2 ⟨rfl, hU2⟩
        obtain ⟨hc2, hf2, hz3⟩ := hU2.cells
        have hz2 : wr.heap.size < w2.heap.size := by omega
        have hV2 := hV1.trans hU2
        clear hU1 hU2 hz1 hz3
        simp only [errIf]
        go_wp2
        go_roundw
        case rel => exact ⟨k + 1, by go_num, by omega, Hgood.out, hV2⟩
        case measure => simp [intOf]; omega
      ·have h3b : (kk == 3) = false := by simpa using h3
       have Hgood := hid (Hgd'.out (by rw [Hb.out, decide_eq_false h2, decide_eq_false h3]; rfl))
       go_wp2_with fail
       refine (Hop _).out.mono ?_
       rintro e w1 ⟨rfl, hU1⟩
       obtain ⟨hc1, hf1, hz1⟩ := hU1.cells
       have hz1' : wr.heap.size < w1.heap.size := by simp at hz1; omega
       have hz2' : bk < w1.heap.size := by omega
       have hV1 := hU.trans ((hUa).trans hU1)
       go_wp2_with fail
       refine (Hck _ (hm.upd hV1 (by simp))).out.mono ?_
       rintro e w2 ⟨rfl, hU2⟩
       obtain ⟨hc2, hf2, hz3⟩ := hU2.cells
       have hz2 : wr.heap.size < w2.heap.size := by omega
       have hV2 := hV1.trans hU2
       clear hU1 hU2 hz1 hz3
       simp only [errIf]
       go_wp2
       go_roundw
       case rel => exact ⟨k + 1, by go_num, by omega, Hgood.out, hV2⟩
       case measure => simp [intOf]; omega
   ·obtain rfl : k = l.length := by omega
    have Hall := hid (allOk_all (l := l) (locals := locals) ⟨hs1, hs2⟩ (fun i hi => hgood.out i hi hi))
    clear hgood
    go_wp2
    go_ret
    exact ⟨ret_int (by rw [Hall.out]; rfl), hU⟩
 ·have hall := allOk_size (l := l) (locals := locals) hsz
  have Hall := hid hall
  clear hall
  have Hw := fun w => hid (within_any l.length 1 200 w)
  rw [show withinB 1 200 l.length = false from decide_eq_false (by omega)] at Hw
  clear hsz
  go_enter Tryz.func80, Tryz.ntmps80
  go_wp2_with fail
  refine (Hw _).out.mono ?_
  rintro e w0 ⟨rfl, rfl⟩
  go_wp2
  go_ret
  exact ⟨ret_int (by rw [Hall.out]; rfl), Upd.refl _ _⟩
def checkAllR_anyRel (l : List InstL) (locals : Int) (w : World) (t : Value) (wr : World) : Prop :=
 ∃ k : Nat, t = .int .i64 k ∧ k ≤ l.length ∧ Hid (∀ i (hi : i < l.length), i < k → badI l[i] locals l.length = false) ∧ Upd w wr []
set_option maxHeartbeats 8000000 in
set_option maxRecDepth 100000 in
theorem checkAllR_any (A : Option Addr) (cap : Nat) (l : List InstL) (locals : Int) (w : World) (hA : InstsAt w A l) (hl : l.length ≤ 2000000000000) (hfit : ∀ i, i ∈ l → i.fit) :
  Calls Tryz.prog 88 #[.slice A l.length cap, .int .i64 locals] w fun e w' => e = .returned (.int .i64 (errIf (allOk l locals))) ∧ Upd w w' [] := by
 by_cases hsz : 1 ≤ l.length ∧ l.length ≤ 200
 ·have hne : l ≠ [] := by rintro rfl; simp at hsz
  obtain ⟨bk, off, rfl, hbk, hc⟩ := hA hne
  have Hc := hid hc
  obtain ⟨hs1, hs2⟩ := hsz
  have hlen : l.length ≤ 200 := hs2
  have hpos : ¬ l.length < 1 := by omega
  have hpos2 : ¬ 200 < l.length := by omega
  clear hc hA hl hne
  go_enter Tryz.func88, Tryz.ntmps88
  go_wp2
  go_loopw [5] (fun t wr => checkAllR_anyRel l locals w t wr) (fun t _ => l.length - (intOf t).toNat)
  case atStart => exact ⟨0, rfl, Nat.zero_le _, hid (fun i _ h => absurd h (Nat.not_lt_zero _)), Upd.refl _ _⟩
  case round =>
   obtain ⟨k, rfl, hk, hgood, hU⟩ := hrel
   by_cases hlt : k < l.length
   ·obtain ⟨op, n, tx, r, e⟩ : ∃ op n tx r, l[k] = InstL.mk op n tx r := ⟨_, _, _, _, rfl⟩
    have hf := hfit _ (List.getElem_mem hlt)
    rw [e] at hf
    have hbr : bk < wr.heap.size := Nat.lt_of_lt_of_le hbk hU.size
    obtain ⟨x0, x1, x2, x3, x4, x5, x6⟩ := InstsAt.seven (w := wr) (fun i hi j hj => by rw [hU.cells.1 _ _ hbk]; exact Hc.out i hi j hj) hlt e
    have Hop := fun w => hid (operandR_any op w)
    have Hck := fun w => hid (checkR_any ⟨op, n, tx, r⟩ w hf)
    unfold checkPost InstL.v InstL.cells at Hck
    simp only at Hck
    have hbad : badI l[k] locals l.length = (!(InstL.mk op n tx r).ok || (decide (kindL op = 2) && decide (locals ≤ n)) || (decide (kindL op = 3) && decide ((l.length : Int) ≤ n))) := by rw [e]; rfl
    have Hb := hid hbad
    have Hgd : badI l[k] locals l.length = false → Hid (∀ i (hi : i < l.length), i < k + 1 → badI l[i] locals l.length = false) := fun h => hid (fun i hi h2 => by
     rcases Nat.lt_or_ge i k with h3 | h3
     ·exact hgood.out i hi h3
     ·have : i = k := by omega
      subst this
      exact h)
    have Hgd' := hid Hgd
    have Hbd := hid (fun h => allOk_bad (locals := locals) hlt h)
    generalize (InstL.mk op n tx r).ok = bo at Hck Hb
    generalize kindL op = kk at Hop Hb
    clear hbad Hgd hgood e hf
    cases bo with
    | false =>
     have Hbad := hid (Hbd.out (by rw [Hb.out]; rfl))
     go_wp2_with fail
     refine (Hop _).out.mono ?_
     rintro e w1 ⟨rfl, rfl⟩
     go_wp2_with fail
     refine (Hck _).out.mono ?_
     rintro e w2 ⟨rfl, hU2⟩
     obtain ⟨hc2, hf2, hz3⟩ := hU2.cells
     have hV2 := hU.trans hU2
     have hz2' : bk < w2.heap.size := by omega
     clear hU2
     simp only [errIf]
     go_wp2
     go_ret
     exact ⟨ret_int (by rw [Hbad.out]; rfl), hV2⟩
    | true =>
     by_cases h2 : kk = 2
     ·subst h2
      by_cases hl2 : locals ≤ n
      ·have Hbad := hid (Hbd.out (by rw [Hb.out, decide_eq_true hl2]; rfl))
       go_wp2_with fail
       refine (Hop _).out.mono ?_
       rintro e w1 ⟨rfl, rfl⟩
       go_wp2_with fail
       refine (Hck _).out.mono ?_
       rintro e w2 ⟨rfl, hU2⟩
       obtain ⟨hc2, hf2, hz3⟩ := hU2.cells
       have hV2 := hU.trans hU2
       have hz2' : bk < w2.heap.size := by omega
       clear hU2
       simp only [errIf]
       go_wp2
       go_ret
       exact ⟨ret_int (by rw [Hbad.out]; rfl), hV2⟩
      ·have hl3 : n < locals := by omega
       have Hgood := hid (Hgd'.out (by rw [Hb.out, decide_eq_false hl2]; rfl))
       go_wp2_with fail
       refine (Hop _).out.mono ?_
       rintro e w1 ⟨rfl, rfl⟩
       go_wp2_with fail
       refine (Hck _).out.mono ?_
       rintro e w2 ⟨rfl, hU2⟩
       obtain ⟨hc2, hf2, hz3⟩ := hU2.cells
       have hV2 := hU.trans hU2
       have hz2' : bk < w2.heap.size := by omega
       clear hU2
       simp only [errIf]
       go_wp2
       go_roundw
       case rel => exact ⟨k + 1, by go_num, by omega, Hgood.out, hV2⟩
       case measure => simp [intOf]; omega
     ·have h2b : (kk == 2) = false := by simpa using h2
      by_cases h3 : kk = 3
      ·subst h3
       by_cases hc2 : (l.length : Int) ≤ n
       ·have Hbad := hid (Hbd.out (by rw [Hb.out, decide_eq_true hc2]; rfl))
        go_wp2_with fail
        refine (Hop _).out.mono ?_
        rintro e w1 ⟨rfl, rfl⟩
        go_wp2_with fail
        refine (Hck _).out.mono ?_
        rintro e w2 ⟨rfl, hU2⟩
        obtain ⟨hc2, hf2, hz3⟩ := hU2.cells
        have hV2 := hU.trans hU2
        have hz2' : bk < w2.heap.size := by omega
        clear hU2
        simp only [errIf]
        go_wp2
        go_ret
        exact ⟨ret_int (by rw [Hbad.out]; rfl), hV2⟩
       ·have hc3 : n < (l.length : Int) := by omega
        have Hgood := hid (Hgd'.out (by rw [Hb.out, decide_eq_false hc2]; rfl))
        go_wp2_with fail
        refine (Hop _).out.mono ?_
        rintro e w1 ⟨rfl, rfl⟩
        go_wp2_with fail
        refine (Hck _).out.mono ?_
        rintro e w2 ⟨rfl, hU2⟩
        obtain ⟨hc2, hf2, hz3⟩ := hU2.cells
        have hV2 := hU.trans hU2
        have hz2' : bk < w2.heap.size := by omega
        clear hU2
        simp only [errIf]
        go_wp2
        go_roundw
        case rel => exact ⟨k + 1, by go_num, by omega, Hgood.out, hV2⟩
        case measure => simp [intOf]; omega
      ·have h3b : (kk == 3) = false := by simpa using h3
       have Hgood := hid (Hgd'.out (by rw [Hb.out, decide_eq_false h2, decide_eq_false h3]; rfl))
       go_wp2_with fail
       refine (Hop _).out.mono ?_
       rintro e w1 ⟨rfl, rfl⟩
       go_wp2_with fail
       refine (Hck _).out.mono ?_
       rintro e w2 ⟨rfl, hU2⟩
       obtain ⟨hc2, hf2, hz3⟩ := hU2.cells
       have hV2 := hU.trans hU2
       have hz2' : bk < w2.heap.size := by omega
       clear hU2
       simp only [errIf]
       go_wp2
       go_roundw
       case rel => exact ⟨k + 1, by go_num, by omega, Hgood.out, hV2⟩
       case measure => simp [intOf]; omega
   ·obtain rfl : k = l.length := by omega
    have Hall := hid (allOk_all (l := l) (locals := locals) ⟨hs1, hs2⟩ (fun i hi => hgood.out i hi hi))
    clear hgood
    go_wp2
    go_ret
    exact ⟨ret_int (by rw [Hall.out]; rfl), hU⟩
 ·have hall := allOk_size (l := l) (locals := locals) hsz
  have Hall := hid hall
  clear hall
  by_cases h1 : l.length < 1
  ·clear hsz
   go_enter Tryz.func88, Tryz.ntmps88
   go_wp2
   go_ret
   exact ⟨ret_int (by rw [Hall.out]; rfl), Upd.refl _ _⟩
  ·have h2 : 200 < l.length := by omega
   clear hsz
   go_enter Tryz.func88, Tryz.ntmps88
   go_wp2
   go_ret
   exact ⟨ret_int (by rw [Hall.out]; rfl), Upd.refl _ _⟩
end Go.Proofs.YtjjdlgjofjfgmaaGreatDoor
