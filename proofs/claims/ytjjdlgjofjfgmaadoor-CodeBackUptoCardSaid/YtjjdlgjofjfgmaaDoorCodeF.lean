/-
  Package code, walked: Print.
-/
import Derived.Test.YtjjdlgjofjfgmaaDoorCodeE
import Derived.Lib.ItoaLen
import Derived.Deep.DeepCutAuto
set_option linter.unusedSimpArgs false
set_option linter.unusedVariables false
namespace Go.Proofs.YtjjdlgjofjfgmaaDoor
open Go.RowKit

theorem InstL.text_le {i : InstL} (h : i.ok = true) (hn : i.num) : i.text.length ≤ 10000 ∧ i.parts.length ≤ 4 := by
  obtain ⟨h1, h2, h3, h4⟩ := InstL.ok_ty h
  have h5 := word_le i.op
  have h6 := Lib.itoa_length_le i.n hn.1 hn.2
  unfold InstL.text InstL.parts
  by_cases c1 : kindL i.op = 1 ∨ kindL i.op = 2 ∨ kindL i.op = 3 ∨ kindL i.op = 7
  · rw [if_pos c1]
    split <;> simp [Lib.join, List.intercalate, List.intersperse] <;> omega
  · rw [if_neg c1]
    by_cases c2 : kindL i.op = 8
    · have h7 := RefL.text_le (h4 c2)
      rw [if_pos c2]
      split <;> simp [Lib.join, List.intercalate, List.intersperse] <;> omega
    · rw [if_neg c2]
      split <;> simp [Lib.join, List.intercalate, List.intersperse] <;> omega

theorem run_known (op : Int) {k : Int} (hk : kindL op = k) (h : k ≠ -1) : 1 ≤ op ∧ op ≤ 40 := by
  unfold kindL at hk
  split at hk
  · assumption
  · exact absurd hk.symm h

set_option maxHeartbeats 4000000 in
set_option maxRecDepth 100000 in
theorem print_0 (op n : Int) (tx : List UInt8) (r : RefL) (w : World) (hi : (InstL.mk op n tx r).fit) (hn : (InstL.mk op n tx r).num) (hm : Rdy w) (ho : (InstL.mk op n tx r).ok = true) (hk : kindL op = 0) :
    Calls Tryd.prog 16 #[(InstL.mk op n tx r).v] w (printPost ⟨op, n, tx, r⟩ w) := by
  obtain ⟨i0, hi0, qz0, qz1, qz2⟩ := info_parts infoString
  have hrng := run_known op hk (by decide)
  have hty := InstL.ok_ty ho
  simp only [hk] at hty
  have hle := InstL.text_le ho hn
  have hparts : (InstL.mk op n tx r).parts = [wordL op] := by
    unfold InstL.parts
    simp only [hk]
    simp [hty.2.1]
  have hle1 := hle.1
  unfold InstL.text at hle1
  rw [hparts] at hle1
  have hfin : ∀ w', Upd w w' [] → printPost ⟨op, n, tx, r⟩ w (.returned (.tuple #[.string (bs (Lib.join [wordL op] [32])), .int .i64 0])) w' := fun w' h => by
    unfold printPost InstL.text
    rw [ho, hparts]
    exact ⟨rfl, h⟩
  have Hfin := hid hfin
  have Hc := fun w hm => hid (check_any ⟨op, n, tx, r⟩ w hi hm)
  unfold checkPost at Hc
  rw [ho] at Hc
  have Hop := fun w => hid (operand_any op w)
  rw [hk] at Hop
  have Hs := fun w => hid (specs_at op (by omega) hrng.2 w)
  generalize (specT.getD op.toNat ([], 0)).2 = sk at Hs
  obtain ⟨wd, hwd⟩ : ∃ wd, wordL op = wd := ⟨_, rfl⟩
  rw [hwd] at Hs Hfin hle1
  have hf := field_spec0
  have hn1 := hn.1
  have hn2 := hn.2
  simp only at hn1 hn2
  have hlt := hty.1
  clear hfin hparts hle hwd hk hrng
  have hU0 : Upd w (w.alloc (.cells #[.int .i64 op, .int .i64 n, .string (bs tx), .bool r.ifc, .string (bs r.cls), .string (bs r.nm), .string (bs r.ds)] 25)) [] := (Upd.refl _ _).alloc _
  have htx : tx = [] := by simpa using hty.2.1
  subst htx
  rw [bs_nil] at hU0
  clear hty
  unfold InstL.v InstL.cells at Hc ⊢
  simp only [bs_nil] at Hc ⊢
  go_enter Tryd.func16, Tryd.ntmps16
  go_wp2_with fail
  refine (Hc _ (hm.upd hU0).max).out.mono ?_
  rintro e w1 ⟨rfl, hU1⟩
  obtain ⟨hc1, hf1, hz1⟩ := hU1.cells
  have hz1' : w.heap.size < w1.heap.size := by simp at hz1; omega
  simp only [errIf]
  have x0 : w1.cell? ⟨w.heap.size, 0, none⟩ = some (.int .i64 op) := by rw [hc1 _ _ (by simp)]; simp
  have Hc1 := hid hc1
  clear hc1 hf1
  go_upto_region 4 with fail
  go_cut [5] (fun s5 wx => ∃ g : Nat, s5 = .slice (some ⟨g, 0, none⟩) 1 1 ∧ Blk wx g 9 #[.string (bs wd)] ∧ w.heap.size < g ∧ Upd (w.alloc (.cells #[.int .i64 op, .int .i64 n, .string ⟨#[]⟩, .bool r.ifc, .string (bs r.cls), .string (bs r.nm), .string (bs r.ds)] 25)) wx [])
  case first =>
    go_region_held3 (fun W => W.cell? ⟨w.heap.size, 0, none⟩ = some (.int .i64 op)) (first | exact x0 | go_keep) (first
      | (go_at_call 38; refine (Hs _).out.mono ?_; rintro e w2 ⟨S, rfl, hr, hU2⟩; have x0 : w2.cell? ⟨w.heap.size, 0, none⟩ = some (.int .i64 op) := (by rw [hU2.cells.1 _ _ (by simp; omega)]; simp [x0])))
    all_goals
      go_wp2_with fail
      go_meet
      exact ⟨w2.heap.size, rfl, Blk.new _ _ _, by have := hU2.size; simp at this; omega, (hU1.drew.trans hU2).alloc _⟩
  case rest =>
    obtain ⟨g0, rfl, hB2, hge, hV3⟩ := hcut
    obtain ⟨hcc, hfc, hzc⟩ := hV3.cells
    have hzc' : w.heap.size < wc.heap.size := by simp at hzc; omega
    go_wp2_with fail
    refine (Hop _).out.mono ?_
    rintro e w3 ⟨rfl, hU3⟩
    have hB3 := hU3.blk hB2 (by simp)
    have hV4 := hV3.trans hU3
    obtain ⟨hc3, hf3, hz3⟩ := hV4.cells
    have hz3' : w.heap.size < w3.heap.size := by simp at hz3; omega
    have hsz3 : g0 < w3.heap.size := hB3.lt
    have hown : w3.ownsRow 0 9 1 (.slice (some ⟨g0, 0, none⟩) 1 1) 1 [.string (bs wd)] := own_of_blk hB3 (by show 1 ≤ maxLen; decide)
    clear hB2 hB3 hV3 hU3 hz3 hz1' hU1 hcc hfc hzc
    go_wp2_with fail
    refine (join_any g0 1 1 [wd] _ hown rfl (by omega) (by simp)).mono ?_
    rintro e w9 ⟨rfl, hU9⟩
    go_wp2
    go_ret2
    exact Hfin.out _ ((hU0.trans hV4).trans hU9)

set_option maxHeartbeats 4000000 in
set_option maxRecDepth 100000 in
theorem print_1 (op n : Int) (tx : List UInt8) (r : RefL) (w : World) (hi : (InstL.mk op n tx r).fit) (hn : (InstL.mk op n tx r).num) (hm : Rdy w) (ho : (InstL.mk op n tx r).ok = true) (hk : kindL op = 1) :
    Calls Tryd.prog 16 #[(InstL.mk op n tx r).v] w (printPost ⟨op, n, tx, r⟩ w) := by
  obtain ⟨i0, hi0, qz0, qz1, qz2⟩ := info_parts infoString
  have hrng := run_known op hk (by decide)
  have hty := InstL.ok_ty ho
  simp only [hk] at hty
  have hle := InstL.text_le ho hn
  have hparts : (InstL.mk op n tx r).parts = [wordL op, Lib.itoa n] := by
    unfold InstL.parts
    simp only [hk]
    simp [hty.2.1]
  have hle1 := hle.1
  unfold InstL.text at hle1
  rw [hparts] at hle1
  have hfin : ∀ w', Upd w w' [] → printPost ⟨op, n, tx, r⟩ w (.returned (.tuple #[.string (bs (Lib.join [wordL op, Lib.itoa n] [32])), .int .i64 0])) w' := fun w' h => by
    unfold printPost InstL.text
    rw [ho, hparts]
    exact ⟨rfl, h⟩
  have Hfin := hid hfin
  have Hc := fun w hm => hid (check_any ⟨op, n, tx, r⟩ w hi hm)
  unfold checkPost at Hc
  rw [ho] at Hc
  have Hop := fun w => hid (operand_any op w)
  rw [hk] at Hop
  have Hs := fun w => hid (specs_at op (by omega) hrng.2 w)
  generalize (specT.getD op.toNat ([], 0)).2 = sk at Hs
  obtain ⟨wd, hwd⟩ : ∃ wd, wordL op = wd := ⟨_, rfl⟩
  rw [hwd] at Hs Hfin hle1
  have hf := field_spec0
  have hn1 := hn.1
  have hn2 := hn.2
  simp only at hn1 hn2
  have hlt := hty.1
  clear hfin hparts hle hwd hk hrng
  have hU0 : Upd w (w.alloc (.cells #[.int .i64 op, .int .i64 n, .string (bs tx), .bool r.ifc, .string (bs r.cls), .string (bs r.nm), .string (bs r.ds)] 25)) [] := (Upd.refl _ _).alloc _
  have htx : tx = [] := by simpa using hty.2.1
  subst htx
  rw [bs_nil] at hU0
  clear hty
  unfold InstL.v InstL.cells at Hc ⊢
  simp only [bs_nil] at Hc ⊢
  go_enter Tryd.func16, Tryd.ntmps16
  go_wp2_with fail
  refine (Hc _ (hm.upd hU0).max).out.mono ?_
  rintro e w1 ⟨rfl, hU1⟩
  obtain ⟨hc1, hf1, hz1⟩ := hU1.cells
  have hz1' : w.heap.size < w1.heap.size := by simp at hz1; omega
  simp only [errIf]
  have x0 : w1.cell? ⟨w.heap.size, 0, none⟩ = some (.int .i64 op) := by rw [hc1 _ _ (by simp)]; simp
  have Hc1 := hid hc1
  clear hc1 hf1
  go_upto_region 4 with fail
  go_cut [5] (fun s5 wx => ∃ g : Nat, s5 = .slice (some ⟨g, 0, none⟩) 1 1 ∧ Blk wx g 9 #[.string (bs wd)] ∧ w.heap.size < g ∧ Upd (w.alloc (.cells #[.int .i64 op, .int .i64 n, .string ⟨#[]⟩, .bool r.ifc, .string (bs r.cls), .string (bs r.nm), .string (bs r.ds)] 25)) wx [])
  case first =>
    go_region_held3 (fun W => W.cell? ⟨w.heap.size, 0, none⟩ = some (.int .i64 op)) (first | exact x0 | go_keep) (first
      | (go_at_call 38; refine (Hs _).out.mono ?_; rintro e w2 ⟨S, rfl, hr, hU2⟩; have x0 : w2.cell? ⟨w.heap.size, 0, none⟩ = some (.int .i64 op) := (by rw [hU2.cells.1 _ _ (by simp; omega)]; simp [x0])))
    all_goals
      go_wp2_with fail
      go_meet
      exact ⟨w2.heap.size, rfl, Blk.new _ _ _, by have := hU2.size; simp at this; omega, (hU1.drew.trans hU2).alloc _⟩
  case rest =>
    obtain ⟨g0, rfl, hB2, hge, hV3⟩ := hcut
    obtain ⟨hcc, hfc, hzc⟩ := hV3.cells
    have hzc' : w.heap.size < wc.heap.size := by simp at hzc; omega
    go_wp2_with fail
    refine (Hop _).out.mono ?_
    rintro e w3 ⟨rfl, hU3⟩
    have hB3 := hU3.blk hB2 (by simp)
    have hV4 := hV3.trans hU3
    obtain ⟨hc3, hf3, hz3⟩ := hV4.cells
    have hz3' : w.heap.size < w3.heap.size := by simp at hz3; omega
    have hsz3 : g0 < w3.heap.size := hB3.lt
    have hown : w3.ownsRow 0 9 1 (.slice (some ⟨g0, 0, none⟩) 1 1) 1 [.string (bs wd)] := own_of_blk hB3 (by show 1 ≤ maxLen; decide)
    clear hB2 hB3 hV3 hU3 hz3 hz1' hU1 hcc hfc hzc
    go_wp2_with fail
    refine (itoa_any n _ hn1 hn2 ((hm.upd hU0).upd hV4).tab).mono ?_
    rintro e w4 ⟨rfl, hU4⟩
    have hown4 := hU4.own hown (by simp)
    have hV5 := hV4.trans hU4
    obtain ⟨hc4, hf4, hz4⟩ := hV5.cells
    have hz4' : w.heap.size < w4.heap.size := by simp at hz4; omega
    go_wp2_with (at_builtin; go_must (refine wpList_append_one _ rfl (.tmp 27) (.tmp 31) 44 rfl 9 i0 _ 1 16 Tryd.underlying44 hi0 qz0 qz1 qz2 rfl (by decide) (by decide) (.slice (some ⟨g0, 0, none⟩) 1 1) 1 [.string (bs wd)] rfl (by exact hown4.alloc _) (by omega) w4.heap.size 9 #[.string (bs (Lib.itoa n))] rfl (by exact Blk.new_at (by simp)) rfl rfl ?_); intro ga5 capa5 wa5 howna5 hga5 hata5; have hgea5 : w.heap.size < ga5 := (by rcases hata5 with h | h <;> simp [Value.ownBlock] at h <;> omega); have hVa5 := (hV5.alloc (.cells #[.string (bs (Lib.itoa n))] 9)).grown hga5 (by intro q hq; right; simp [Value.ownBlock] at hq; simp; omega); obtain ⟨hca5, hfa5, hza5⟩ := hVa5.cells; have hya5 : w.heap.size < wa5.heap.size := (by simp at hza5; omega))
    refine (join_any ga5 2 capa5 [wd, Lib.itoa n] _ howna5 rfl (by omega) (by simp)).mono ?_
    rintro e w9 ⟨rfl, hU9⟩
    go_wp2
    go_ret2
    exact Hfin.out _ ((hU0.trans hVa5).trans hU9)

set_option maxHeartbeats 4000000 in
set_option maxRecDepth 100000 in
theorem print_2 (op n : Int) (tx : List UInt8) (r : RefL) (w : World) (hi : (InstL.mk op n tx r).fit) (hn : (InstL.mk op n tx r).num) (hm : Rdy w) (ho : (InstL.mk op n tx r).ok = true) (hk : kindL op = 2) :
    Calls Tryd.prog 16 #[(InstL.mk op n tx r).v] w (printPost ⟨op, n, tx, r⟩ w) := by
  obtain ⟨i0, hi0, qz0, qz1, qz2⟩ := info_parts infoString
  have hrng := run_known op hk (by decide)
  have hty := InstL.ok_ty ho
  simp only [hk] at hty
  have hle := InstL.text_le ho hn
  have hparts : (InstL.mk op n tx r).parts = [wordL op, Lib.itoa n] := by
    unfold InstL.parts
    simp only [hk]
    simp [hty.2.1]
  have hle1 := hle.1
  unfold InstL.text at hle1
  rw [hparts] at hle1
  have hfin : ∀ w', Upd w w' [] → printPost ⟨op, n, tx, r⟩ w (.returned (.tuple #[.string (bs (Lib.join [wordL op, Lib.itoa n] [32])), .int .i64 0])) w' := fun w' h => by
    unfold printPost InstL.text
    rw [ho, hparts]
    exact ⟨rfl, h⟩
  have Hfin := hid hfin
  have Hc := fun w hm => hid (check_any ⟨op, n, tx, r⟩ w hi hm)
  unfold checkPost at Hc
  rw [ho] at Hc
  have Hop := fun w => hid (operand_any op w)
  rw [hk] at Hop
  have Hs := fun w => hid (specs_at op (by omega) hrng.2 w)
  generalize (specT.getD op.toNat ([], 0)).2 = sk at Hs
  obtain ⟨wd, hwd⟩ : ∃ wd, wordL op = wd := ⟨_, rfl⟩
  rw [hwd] at Hs Hfin hle1
  have hf := field_spec0
  have hn1 := hn.1
  have hn2 := hn.2
  simp only at hn1 hn2
  have hlt := hty.1
  clear hfin hparts hle hwd hk hrng
  have hU0 : Upd w (w.alloc (.cells #[.int .i64 op, .int .i64 n, .string (bs tx), .bool r.ifc, .string (bs r.cls), .string (bs r.nm), .string (bs r.ds)] 25)) [] := (Upd.refl _ _).alloc _
  have htx : tx = [] := by simpa using hty.2.1
  subst htx
  rw [bs_nil] at hU0
  clear hty
  unfold InstL.v InstL.cells at Hc ⊢
  simp only [bs_nil] at Hc ⊢
  go_enter Tryd.func16, Tryd.ntmps16
  go_wp2_with fail
  refine (Hc _ (hm.upd hU0).max).out.mono ?_
  rintro e w1 ⟨rfl, hU1⟩
  obtain ⟨hc1, hf1, hz1⟩ := hU1.cells
  have hz1' : w.heap.size < w1.heap.size := by simp at hz1; omega
  simp only [errIf]
  have x0 : w1.cell? ⟨w.heap.size, 0, none⟩ = some (.int .i64 op) := by rw [hc1 _ _ (by simp)]; simp
  have Hc1 := hid hc1
  clear hc1 hf1
  go_upto_region 4 with fail
  go_cut [5] (fun s5 wx => ∃ g : Nat, s5 = .slice (some ⟨g, 0, none⟩) 1 1 ∧ Blk wx g 9 #[.string (bs wd)] ∧ w.heap.size < g ∧ Upd (w.alloc (.cells #[.int .i64 op, .int .i64 n, .string ⟨#[]⟩, .bool r.ifc, .string (bs r.cls), .string (bs r.nm), .string (bs r.ds)] 25)) wx [])
  case first =>
    go_region_held3 (fun W => W.cell? ⟨w.heap.size, 0, none⟩ = some (.int .i64 op)) (first | exact x0 | go_keep) (first
      | (go_at_call 38; refine (Hs _).out.mono ?_; rintro e w2 ⟨S, rfl, hr, hU2⟩; have x0 : w2.cell? ⟨w.heap.size, 0, none⟩ = some (.int .i64 op) := (by rw [hU2.cells.1 _ _ (by simp; omega)]; simp [x0])))
    all_goals
      go_wp2_with fail
      go_meet
      exact ⟨w2.heap.size, rfl, Blk.new _ _ _, by have := hU2.size; simp at this; omega, (hU1.drew.trans hU2).alloc _⟩
  case rest =>
    obtain ⟨g0, rfl, hB2, hge, hV3⟩ := hcut
    obtain ⟨hcc, hfc, hzc⟩ := hV3.cells
    have hzc' : w.heap.size < wc.heap.size := by simp at hzc; omega
    go_wp2_with fail
    refine (Hop _).out.mono ?_
    rintro e w3 ⟨rfl, hU3⟩
    have hB3 := hU3.blk hB2 (by simp)
    have hV4 := hV3.trans hU3
    obtain ⟨hc3, hf3, hz3⟩ := hV4.cells
    have hz3' : w.heap.size < w3.heap.size := by simp at hz3; omega
    have hsz3 : g0 < w3.heap.size := hB3.lt
    have hown : w3.ownsRow 0 9 1 (.slice (some ⟨g0, 0, none⟩) 1 1) 1 [.string (bs wd)] := own_of_blk hB3 (by show 1 ≤ maxLen; decide)
    clear hB2 hB3 hV3 hU3 hz3 hz1' hU1 hcc hfc hzc
    go_wp2_with fail
    refine (itoa_any n _ hn1 hn2 ((hm.upd hU0).upd hV4).tab).mono ?_
    rintro e w4 ⟨rfl, hU4⟩
    have hown4 := hU4.own hown (by simp)
    have hV5 := hV4.trans hU4
    obtain ⟨hc4, hf4, hz4⟩ := hV5.cells
    have hz4' : w.heap.size < w4.heap.size := by simp at hz4; omega
    go_wp2_with (at_builtin; go_must (refine wpList_append_one _ rfl (.tmp 27) (.tmp 31) 44 rfl 9 i0 _ 1 16 Tryd.underlying44 hi0 qz0 qz1 qz2 rfl (by decide) (by decide) (.slice (some ⟨g0, 0, none⟩) 1 1) 1 [.string (bs wd)] rfl (by exact hown4.alloc _) (by omega) w4.heap.size 9 #[.string (bs (Lib.itoa n))] rfl (by exact Blk.new_at (by simp)) rfl rfl ?_); intro ga5 capa5 wa5 howna5 hga5 hata5; have hgea5 : w.heap.size < ga5 := (by rcases hata5 with h | h <;> simp [Value.ownBlock] at h <;> omega); have hVa5 := (hV5.alloc (.cells #[.string (bs (Lib.itoa n))] 9)).grown hga5 (by intro q hq; right; simp [Value.ownBlock] at hq; simp; omega); obtain ⟨hca5, hfa5, hza5⟩ := hVa5.cells; have hya5 : w.heap.size < wa5.heap.size := (by simp at hza5; omega))
    refine (join_any ga5 2 capa5 [wd, Lib.itoa n] _ howna5 rfl (by omega) (by simp)).mono ?_
    rintro e w9 ⟨rfl, hU9⟩
    go_wp2
    go_ret2
    exact Hfin.out _ ((hU0.trans hVa5).trans hU9)

set_option maxHeartbeats 4000000 in
set_option maxRecDepth 100000 in
theorem print_3 (op n : Int) (tx : List UInt8) (r : RefL) (w : World) (hi : (InstL.mk op n tx r).fit) (hn : (InstL.mk op n tx r).num) (hm : Rdy w) (ho : (InstL.mk op n tx r).ok = true) (hk : kindL op = 3) :
    Calls Tryd.prog 16 #[(InstL.mk op n tx r).v] w (printPost ⟨op, n, tx, r⟩ w) := by
  obtain ⟨i0, hi0, qz0, qz1, qz2⟩ := info_parts infoString
  have hrng := run_known op hk (by decide)
  have hty := InstL.ok_ty ho
  simp only [hk] at hty
  have hle := InstL.text_le ho hn
  have hparts : (InstL.mk op n tx r).parts = [wordL op, Lib.itoa n] := by
    unfold InstL.parts
    simp only [hk]
    simp [hty.2.1]
  have hle1 := hle.1
  unfold InstL.text at hle1
  rw [hparts] at hle1
  have hfin : ∀ w', Upd w w' [] → printPost ⟨op, n, tx, r⟩ w (.returned (.tuple #[.string (bs (Lib.join [wordL op, Lib.itoa n] [32])), .int .i64 0])) w' := fun w' h => by
    unfold printPost InstL.text
    rw [ho, hparts]
    exact ⟨rfl, h⟩
  have Hfin := hid hfin
  have Hc := fun w hm => hid (check_any ⟨op, n, tx, r⟩ w hi hm)
  unfold checkPost at Hc
  rw [ho] at Hc
  have Hop := fun w => hid (operand_any op w)
  rw [hk] at Hop
  have Hs := fun w => hid (specs_at op (by omega) hrng.2 w)
  generalize (specT.getD op.toNat ([], 0)).2 = sk at Hs
  obtain ⟨wd, hwd⟩ : ∃ wd, wordL op = wd := ⟨_, rfl⟩
  rw [hwd] at Hs Hfin hle1
  have hf := field_spec0
  have hn1 := hn.1
  have hn2 := hn.2
  simp only at hn1 hn2
  have hlt := hty.1
  clear hfin hparts hle hwd hk hrng
  have hU0 : Upd w (w.alloc (.cells #[.int .i64 op, .int .i64 n, .string (bs tx), .bool r.ifc, .string (bs r.cls), .string (bs r.nm), .string (bs r.ds)] 25)) [] := (Upd.refl _ _).alloc _
  have htx : tx = [] := by simpa using hty.2.1
  subst htx
  rw [bs_nil] at hU0
  clear hty
  unfold InstL.v InstL.cells at Hc ⊢
  simp only [bs_nil] at Hc ⊢
  go_enter Tryd.func16, Tryd.ntmps16
  go_wp2_with fail
  refine (Hc _ (hm.upd hU0).max).out.mono ?_
  rintro e w1 ⟨rfl, hU1⟩
  obtain ⟨hc1, hf1, hz1⟩ := hU1.cells
  have hz1' : w.heap.size < w1.heap.size := by simp at hz1; omega
  simp only [errIf]
  have x0 : w1.cell? ⟨w.heap.size, 0, none⟩ = some (.int .i64 op) := by rw [hc1 _ _ (by simp)]; simp
  have Hc1 := hid hc1
  clear hc1 hf1
  go_upto_region 4 with fail
  go_cut [5] (fun s5 wx => ∃ g : Nat, s5 = .slice (some ⟨g, 0, none⟩) 1 1 ∧ Blk wx g 9 #[.string (bs wd)] ∧ w.heap.size < g ∧ Upd (w.alloc (.cells #[.int .i64 op, .int .i64 n, .string ⟨#[]⟩, .bool r.ifc, .string (bs r.cls), .string (bs r.nm), .string (bs r.ds)] 25)) wx [])
  case first =>
    go_region_held3 (fun W => W.cell? ⟨w.heap.size, 0, none⟩ = some (.int .i64 op)) (first | exact x0 | go_keep) (first
      | (go_at_call 38; refine (Hs _).out.mono ?_; rintro e w2 ⟨S, rfl, hr, hU2⟩; have x0 : w2.cell? ⟨w.heap.size, 0, none⟩ = some (.int .i64 op) := (by rw [hU2.cells.1 _ _ (by simp; omega)]; simp [x0])))
    all_goals
      go_wp2_with fail
      go_meet
      exact ⟨w2.heap.size, rfl, Blk.new _ _ _, by have := hU2.size; simp at this; omega, (hU1.drew.trans hU2).alloc _⟩
  case rest =>
    obtain ⟨g0, rfl, hB2, hge, hV3⟩ := hcut
    obtain ⟨hcc, hfc, hzc⟩ := hV3.cells
    have hzc' : w.heap.size < wc.heap.size := by simp at hzc; omega
    go_wp2_with fail
    refine (Hop _).out.mono ?_
    rintro e w3 ⟨rfl, hU3⟩
    have hB3 := hU3.blk hB2 (by simp)
    have hV4 := hV3.trans hU3
    obtain ⟨hc3, hf3, hz3⟩ := hV4.cells
    have hz3' : w.heap.size < w3.heap.size := by simp at hz3; omega
    have hsz3 : g0 < w3.heap.size := hB3.lt
    have hown : w3.ownsRow 0 9 1 (.slice (some ⟨g0, 0, none⟩) 1 1) 1 [.string (bs wd)] := own_of_blk hB3 (by show 1 ≤ maxLen; decide)
    clear hB2 hB3 hV3 hU3 hz3 hz1' hU1 hcc hfc hzc
    go_wp2_with fail
    refine (itoa_any n _ hn1 hn2 ((hm.upd hU0).upd hV4).tab).mono ?_
    rintro e w4 ⟨rfl, hU4⟩
    have hown4 := hU4.own hown (by simp)
    have hV5 := hV4.trans hU4
    obtain ⟨hc4, hf4, hz4⟩ := hV5.cells
    have hz4' : w.heap.size < w4.heap.size := by simp at hz4; omega
    go_wp2_with (at_builtin; go_must (refine wpList_append_one _ rfl (.tmp 27) (.tmp 31) 44 rfl 9 i0 _ 1 16 Tryd.underlying44 hi0 qz0 qz1 qz2 rfl (by decide) (by decide) (.slice (some ⟨g0, 0, none⟩) 1 1) 1 [.string (bs wd)] rfl (by exact hown4.alloc _) (by omega) w4.heap.size 9 #[.string (bs (Lib.itoa n))] rfl (by exact Blk.new_at (by simp)) rfl rfl ?_); intro ga5 capa5 wa5 howna5 hga5 hata5; have hgea5 : w.heap.size < ga5 := (by rcases hata5 with h | h <;> simp [Value.ownBlock] at h <;> omega); have hVa5 := (hV5.alloc (.cells #[.string (bs (Lib.itoa n))] 9)).grown hga5 (by intro q hq; right; simp [Value.ownBlock] at hq; simp; omega); obtain ⟨hca5, hfa5, hza5⟩ := hVa5.cells; have hya5 : w.heap.size < wa5.heap.size := (by simp at hza5; omega))
    refine (join_any ga5 2 capa5 [wd, Lib.itoa n] _ howna5 rfl (by omega) (by simp)).mono ?_
    rintro e w9 ⟨rfl, hU9⟩
    go_wp2
    go_ret2
    exact Hfin.out _ ((hU0.trans hVa5).trans hU9)

set_option maxHeartbeats 4000000 in
set_option maxRecDepth 100000 in
theorem print_4 (op n : Int) (tx : List UInt8) (r : RefL) (w : World) (hi : (InstL.mk op n tx r).fit) (hn : (InstL.mk op n tx r).num) (hm : Rdy w) (ho : (InstL.mk op n tx r).ok = true) (hk : kindL op = 4) :
    Calls Tryd.prog 16 #[(InstL.mk op n tx r).v] w (printPost ⟨op, n, tx, r⟩ w) := by
  obtain ⟨i0, hi0, qz0, qz1, qz2⟩ := info_parts infoString
  have hrng := run_known op hk (by decide)
  have hty := InstL.ok_ty ho
  simp only [hk] at hty
  have hle := InstL.text_le ho hn
  have hparts : (InstL.mk op n tx r).parts = [wordL op, tx] := by
    unfold InstL.parts
    simp only [hk]
    simp [hty.2.1]
  have hle1 := hle.1
  unfold InstL.text at hle1
  rw [hparts] at hle1
  have hfin : ∀ w', Upd w w' [] → printPost ⟨op, n, tx, r⟩ w (.returned (.tuple #[.string (bs (Lib.join [wordL op, tx] [32])), .int .i64 0])) w' := fun w' h => by
    unfold printPost InstL.text
    rw [ho, hparts]
    exact ⟨rfl, h⟩
  have Hfin := hid hfin
  have Hc := fun w hm => hid (check_any ⟨op, n, tx, r⟩ w hi hm)
  unfold checkPost at Hc
  rw [ho] at Hc
  have Hop := fun w => hid (operand_any op w)
  rw [hk] at Hop
  have Hs := fun w => hid (specs_at op (by omega) hrng.2 w)
  generalize (specT.getD op.toNat ([], 0)).2 = sk at Hs
  obtain ⟨wd, hwd⟩ : ∃ wd, wordL op = wd := ⟨_, rfl⟩
  rw [hwd] at Hs Hfin hle1
  have hf := field_spec0
  have hn1 := hn.1
  have hn2 := hn.2
  simp only at hn1 hn2
  have hlt := hty.1
  clear hfin hparts hle hwd hk hrng
  have hU0 : Upd w (w.alloc (.cells #[.int .i64 op, .int .i64 n, .string (bs tx), .bool r.ifc, .string (bs r.cls), .string (bs r.nm), .string (bs r.ds)] 25)) [] := (Upd.refl _ _).alloc _
  have htx : ¬ tx = [] := by simpa using hty.2.1
  have he1 : (bs tx).toList.isEmpty = false := by rw [bs_toList]; simpa using htx
  have he2 : ¬ (bs tx).toList = [] := by rw [bs_toList]; exact htx
  clear hty
  unfold InstL.v InstL.cells at Hc ⊢
  simp only at Hc ⊢
  go_enter Tryd.func16, Tryd.ntmps16
  go_wp2_with fail
  refine (Hc _ (hm.upd hU0).max).out.mono ?_
  rintro e w1 ⟨rfl, hU1⟩
  obtain ⟨hc1, hf1, hz1⟩ := hU1.cells
  have hz1' : w.heap.size < w1.heap.size := by simp at hz1; omega
  simp only [errIf]
  have x0 : w1.cell? ⟨w.heap.size, 0, none⟩ = some (.int .i64 op) := by rw [hc1 _ _ (by simp)]; simp
  have Hc1 := hid hc1
  clear hc1 hf1
  go_upto_region 4 with fail
  go_cut [5] (fun s5 wx => ∃ g : Nat, s5 = .slice (some ⟨g, 0, none⟩) 1 1 ∧ Blk wx g 9 #[.string (bs wd)] ∧ w.heap.size < g ∧ Upd (w.alloc (.cells #[.int .i64 op, .int .i64 n, .string (bs tx), .bool r.ifc, .string (bs r.cls), .string (bs r.nm), .string (bs r.ds)] 25)) wx [])
  case first =>
    go_region_held3 (fun W => W.cell? ⟨w.heap.size, 0, none⟩ = some (.int .i64 op)) (first | exact x0 | go_keep) (first
      | (go_at_call 38; refine (Hs _).out.mono ?_; rintro e w2 ⟨S, rfl, hr, hU2⟩; have x0 : w2.cell? ⟨w.heap.size, 0, none⟩ = some (.int .i64 op) := (by rw [hU2.cells.1 _ _ (by simp; omega)]; simp [x0])))
    all_goals
      go_wp2_with fail
      go_meet
      exact ⟨w2.heap.size, rfl, Blk.new _ _ _, by have := hU2.size; simp at this; omega, (hU1.drew.trans hU2).alloc _⟩
  case rest =>
    obtain ⟨g0, rfl, hB2, hge, hV3⟩ := hcut
    obtain ⟨hcc, hfc, hzc⟩ := hV3.cells
    have hzc' : w.heap.size < wc.heap.size := by simp at hzc; omega
    go_wp2_with fail
    refine (Hop _).out.mono ?_
    rintro e w3 ⟨rfl, hU3⟩
    have hB3 := hU3.blk hB2 (by simp)
    have hV4 := hV3.trans hU3
    obtain ⟨hc3, hf3, hz3⟩ := hV4.cells
    have hz3' : w.heap.size < w3.heap.size := by simp at hz3; omega
    have hsz3 : g0 < w3.heap.size := hB3.lt
    have hown : w3.ownsRow 0 9 1 (.slice (some ⟨g0, 0, none⟩) 1 1) 1 [.string (bs wd)] := own_of_blk hB3 (by show 1 ≤ maxLen; decide)
    clear hB2 hB3 hV3 hU3 hz3 hz1' hU1 hcc hfc hzc
    go_wp2_with (at_builtin; go_must (refine wpList_append_one _ rfl (.tmp 48) (.tmp 51) 44 rfl 9 i0 _ 1 16 Tryd.underlying44 hi0 qz0 qz1 qz2 rfl (by decide) (by decide) (.slice (some ⟨g0, 0, none⟩) 1 1) 1 [.string (bs wd)] rfl (by exact hown.alloc _) (by omega) w3.heap.size 9 #[.string (bs (tx))] rfl (by exact Blk.new_at (by simp)) rfl rfl ?_); intro ga5 capa5 wa5 howna5 hga5 hata5; have hgea5 : w.heap.size < ga5 := (by rcases hata5 with h | h <;> simp [Value.ownBlock] at h <;> omega); have hVa5 := (hV4.alloc (.cells #[.string (bs (tx))] 9)).grown hga5 (by intro q hq; right; simp [Value.ownBlock] at hq; simp; omega); obtain ⟨hca5, hfa5, hza5⟩ := hVa5.cells; have hya5 : w.heap.size < wa5.heap.size := (by simp at hza5; omega))
    refine (join_any ga5 2 capa5 [wd, tx] _ howna5 rfl (by omega) (by simp)).mono ?_
    rintro e w9 ⟨rfl, hU9⟩
    go_wp2
    go_ret2
    exact Hfin.out _ ((hU0.trans hVa5).trans hU9)

set_option maxHeartbeats 4000000 in
set_option maxRecDepth 100000 in
theorem print_5 (op n : Int) (tx : List UInt8) (r : RefL) (w : World) (hi : (InstL.mk op n tx r).fit) (hn : (InstL.mk op n tx r).num) (hm : Rdy w) (ho : (InstL.mk op n tx r).ok = true) (hk : kindL op = 5) :
    Calls Tryd.prog 16 #[(InstL.mk op n tx r).v] w (printPost ⟨op, n, tx, r⟩ w) := by
  obtain ⟨i0, hi0, qz0, qz1, qz2⟩ := info_parts infoString
  have hrng := run_known op hk (by decide)
  have hty := InstL.ok_ty ho
  simp only [hk] at hty
  have hle := InstL.text_le ho hn
  have hparts : (InstL.mk op n tx r).parts = [wordL op, tx] := by
    unfold InstL.parts
    simp only [hk]
    simp [hty.2.1]
  have hle1 := hle.1
  unfold InstL.text at hle1
  rw [hparts] at hle1
  have hfin : ∀ w', Upd w w' [] → printPost ⟨op, n, tx, r⟩ w (.returned (.tuple #[.string (bs (Lib.join [wordL op, tx] [32])), .int .i64 0])) w' := fun w' h => by
    unfold printPost InstL.text
    rw [ho, hparts]
    exact ⟨rfl, h⟩
  have Hfin := hid hfin
  have Hc := fun w hm => hid (check_any ⟨op, n, tx, r⟩ w hi hm)
  unfold checkPost at Hc
  rw [ho] at Hc
  have Hop := fun w => hid (operand_any op w)
  rw [hk] at Hop
  have Hs := fun w => hid (specs_at op (by omega) hrng.2 w)
  generalize (specT.getD op.toNat ([], 0)).2 = sk at Hs
  obtain ⟨wd, hwd⟩ : ∃ wd, wordL op = wd := ⟨_, rfl⟩
  rw [hwd] at Hs Hfin hle1
  have hf := field_spec0
  have hn1 := hn.1
  have hn2 := hn.2
  simp only at hn1 hn2
  have hlt := hty.1
  clear hfin hparts hle hwd hk hrng
  have hU0 : Upd w (w.alloc (.cells #[.int .i64 op, .int .i64 n, .string (bs tx), .bool r.ifc, .string (bs r.cls), .string (bs r.nm), .string (bs r.ds)] 25)) [] := (Upd.refl _ _).alloc _
  have htx : ¬ tx = [] := by simpa using hty.2.1
  have he1 : (bs tx).toList.isEmpty = false := by rw [bs_toList]; simpa using htx
  have he2 : ¬ (bs tx).toList = [] := by rw [bs_toList]; exact htx
  clear hty
  unfold InstL.v InstL.cells at Hc ⊢
  simp only at Hc ⊢
  go_enter Tryd.func16, Tryd.ntmps16
  go_wp2_with fail
  refine (Hc _ (hm.upd hU0).max).out.mono ?_
  rintro e w1 ⟨rfl, hU1⟩
  obtain ⟨hc1, hf1, hz1⟩ := hU1.cells
  have hz1' : w.heap.size < w1.heap.size := by simp at hz1; omega
  simp only [errIf]
  have x0 : w1.cell? ⟨w.heap.size, 0, none⟩ = some (.int .i64 op) := by rw [hc1 _ _ (by simp)]; simp
  have Hc1 := hid hc1
  clear hc1 hf1
  go_upto_region 4 with fail
  go_cut [5] (fun s5 wx => ∃ g : Nat, s5 = .slice (some ⟨g, 0, none⟩) 1 1 ∧ Blk wx g 9 #[.string (bs wd)] ∧ w.heap.size < g ∧ Upd (w.alloc (.cells #[.int .i64 op, .int .i64 n, .string (bs tx), .bool r.ifc, .string (bs r.cls), .string (bs r.nm), .string (bs r.ds)] 25)) wx [])
  case first =>
    go_region_held3 (fun W => W.cell? ⟨w.heap.size, 0, none⟩ = some (.int .i64 op)) (first | exact x0 | go_keep) (first
      | (go_at_call 38; refine (Hs _).out.mono ?_; rintro e w2 ⟨S, rfl, hr, hU2⟩; have x0 : w2.cell? ⟨w.heap.size, 0, none⟩ = some (.int .i64 op) := (by rw [hU2.cells.1 _ _ (by simp; omega)]; simp [x0])))
    all_goals
      go_wp2_with fail
      go_meet
      exact ⟨w2.heap.size, rfl, Blk.new _ _ _, by have := hU2.size; simp at this; omega, (hU1.drew.trans hU2).alloc _⟩
  case rest =>
    obtain ⟨g0, rfl, hB2, hge, hV3⟩ := hcut
    obtain ⟨hcc, hfc, hzc⟩ := hV3.cells
    have hzc' : w.heap.size < wc.heap.size := by simp at hzc; omega
    go_wp2_with fail
    refine (Hop _).out.mono ?_
    rintro e w3 ⟨rfl, hU3⟩
    have hB3 := hU3.blk hB2 (by simp)
    have hV4 := hV3.trans hU3
    obtain ⟨hc3, hf3, hz3⟩ := hV4.cells
    have hz3' : w.heap.size < w3.heap.size := by simp at hz3; omega
    have hsz3 : g0 < w3.heap.size := hB3.lt
    have hown : w3.ownsRow 0 9 1 (.slice (some ⟨g0, 0, none⟩) 1 1) 1 [.string (bs wd)] := own_of_blk hB3 (by show 1 ≤ maxLen; decide)
    clear hB2 hB3 hV3 hU3 hz3 hz1' hU1 hcc hfc hzc
    go_wp2_with (at_builtin; go_must (refine wpList_append_one _ rfl (.tmp 48) (.tmp 51) 44 rfl 9 i0 _ 1 16 Tryd.underlying44 hi0 qz0 qz1 qz2 rfl (by decide) (by decide) (.slice (some ⟨g0, 0, none⟩) 1 1) 1 [.string (bs wd)] rfl (by exact hown.alloc _) (by omega) w3.heap.size 9 #[.string (bs (tx))] rfl (by exact Blk.new_at (by simp)) rfl rfl ?_); intro ga5 capa5 wa5 howna5 hga5 hata5; have hgea5 : w.heap.size < ga5 := (by rcases hata5 with h | h <;> simp [Value.ownBlock] at h <;> omega); have hVa5 := (hV4.alloc (.cells #[.string (bs (tx))] 9)).grown hga5 (by intro q hq; right; simp [Value.ownBlock] at hq; simp; omega); obtain ⟨hca5, hfa5, hza5⟩ := hVa5.cells; have hya5 : w.heap.size < wa5.heap.size := (by simp at hza5; omega))
    refine (join_any ga5 2 capa5 [wd, tx] _ howna5 rfl (by omega) (by simp)).mono ?_
    rintro e w9 ⟨rfl, hU9⟩
    go_wp2
    go_ret2
    exact Hfin.out _ ((hU0.trans hVa5).trans hU9)

set_option maxHeartbeats 4000000 in
set_option maxRecDepth 100000 in
theorem print_6 (op n : Int) (tx : List UInt8) (r : RefL) (w : World) (hi : (InstL.mk op n tx r).fit) (hn : (InstL.mk op n tx r).num) (hm : Rdy w) (ho : (InstL.mk op n tx r).ok = true) (hk : kindL op = 6) :
    Calls Tryd.prog 16 #[(InstL.mk op n tx r).v] w (printPost ⟨op, n, tx, r⟩ w) := by
  obtain ⟨i0, hi0, qz0, qz1, qz2⟩ := info_parts infoString
  have hrng := run_known op hk (by decide)
  have hty := InstL.ok_ty ho
  simp only [hk] at hty
  have hle := InstL.text_le ho hn
  have hparts : (InstL.mk op n tx r).parts = [wordL op, tx] := by
    unfold InstL.parts
    simp only [hk]
    simp [hty.2.1]
  have hle1 := hle.1
  unfold InstL.text at hle1
  rw [hparts] at hle1
  have hfin : ∀ w', Upd w w' [] → printPost ⟨op, n, tx, r⟩ w (.returned (.tuple #[.string (bs (Lib.join [wordL op, tx] [32])), .int .i64 0])) w' := fun w' h => by
    unfold printPost InstL.text
    rw [ho, hparts]
    exact ⟨rfl, h⟩
  have Hfin := hid hfin
  have Hc := fun w hm => hid (check_any ⟨op, n, tx, r⟩ w hi hm)
  unfold checkPost at Hc
  rw [ho] at Hc
  have Hop := fun w => hid (operand_any op w)
  rw [hk] at Hop
  have Hs := fun w => hid (specs_at op (by omega) hrng.2 w)
  generalize (specT.getD op.toNat ([], 0)).2 = sk at Hs
  obtain ⟨wd, hwd⟩ : ∃ wd, wordL op = wd := ⟨_, rfl⟩
  rw [hwd] at Hs Hfin hle1
  have hf := field_spec0
  have hn1 := hn.1
  have hn2 := hn.2
  simp only at hn1 hn2
  have hlt := hty.1
  clear hfin hparts hle hwd hk hrng
  have hU0 : Upd w (w.alloc (.cells #[.int .i64 op, .int .i64 n, .string (bs tx), .bool r.ifc, .string (bs r.cls), .string (bs r.nm), .string (bs r.ds)] 25)) [] := (Upd.refl _ _).alloc _
  have htx : ¬ tx = [] := by simpa using hty.2.1
  have he1 : (bs tx).toList.isEmpty = false := by rw [bs_toList]; simpa using htx
  have he2 : ¬ (bs tx).toList = [] := by rw [bs_toList]; exact htx
  clear hty
  unfold InstL.v InstL.cells at Hc ⊢
  simp only at Hc ⊢
  go_enter Tryd.func16, Tryd.ntmps16
  go_wp2_with fail
  refine (Hc _ (hm.upd hU0).max).out.mono ?_
  rintro e w1 ⟨rfl, hU1⟩
  obtain ⟨hc1, hf1, hz1⟩ := hU1.cells
  have hz1' : w.heap.size < w1.heap.size := by simp at hz1; omega
  simp only [errIf]
  have x0 : w1.cell? ⟨w.heap.size, 0, none⟩ = some (.int .i64 op) := by rw [hc1 _ _ (by simp)]; simp
  have Hc1 := hid hc1
  clear hc1 hf1
  go_upto_region 4 with fail
  go_cut [5] (fun s5 wx => ∃ g : Nat, s5 = .slice (some ⟨g, 0, none⟩) 1 1 ∧ Blk wx g 9 #[.string (bs wd)] ∧ w.heap.size < g ∧ Upd (w.alloc (.cells #[.int .i64 op, .int .i64 n, .string (bs tx), .bool r.ifc, .string (bs r.cls), .string (bs r.nm), .string (bs r.ds)] 25)) wx [])
  case first =>
    go_region_held3 (fun W => W.cell? ⟨w.heap.size, 0, none⟩ = some (.int .i64 op)) (first | exact x0 | go_keep) (first
      | (go_at_call 38; refine (Hs _).out.mono ?_; rintro e w2 ⟨S, rfl, hr, hU2⟩; have x0 : w2.cell? ⟨w.heap.size, 0, none⟩ = some (.int .i64 op) := (by rw [hU2.cells.1 _ _ (by simp; omega)]; simp [x0])))
    all_goals
      go_wp2_with fail
      go_meet
      exact ⟨w2.heap.size, rfl, Blk.new _ _ _, by have := hU2.size; simp at this; omega, (hU1.drew.trans hU2).alloc _⟩
  case rest =>
    obtain ⟨g0, rfl, hB2, hge, hV3⟩ := hcut
    obtain ⟨hcc, hfc, hzc⟩ := hV3.cells
    have hzc' : w.heap.size < wc.heap.size := by simp at hzc; omega
    go_wp2_with fail
    refine (Hop _).out.mono ?_
    rintro e w3 ⟨rfl, hU3⟩
    have hB3 := hU3.blk hB2 (by simp)
    have hV4 := hV3.trans hU3
    obtain ⟨hc3, hf3, hz3⟩ := hV4.cells
    have hz3' : w.heap.size < w3.heap.size := by simp at hz3; omega
    have hsz3 : g0 < w3.heap.size := hB3.lt
    have hown : w3.ownsRow 0 9 1 (.slice (some ⟨g0, 0, none⟩) 1 1) 1 [.string (bs wd)] := own_of_blk hB3 (by show 1 ≤ maxLen; decide)
    clear hB2 hB3 hV3 hU3 hz3 hz1' hU1 hcc hfc hzc
    go_wp2_with (at_builtin; go_must (refine wpList_append_one _ rfl (.tmp 48) (.tmp 51) 44 rfl 9 i0 _ 1 16 Tryd.underlying44 hi0 qz0 qz1 qz2 rfl (by decide) (by decide) (.slice (some ⟨g0, 0, none⟩) 1 1) 1 [.string (bs wd)] rfl (by exact hown.alloc _) (by omega) w3.heap.size 9 #[.string (bs (tx))] rfl (by exact Blk.new_at (by simp)) rfl rfl ?_); intro ga5 capa5 wa5 howna5 hga5 hata5; have hgea5 : w.heap.size < ga5 := (by rcases hata5 with h | h <;> simp [Value.ownBlock] at h <;> omega); have hVa5 := (hV4.alloc (.cells #[.string (bs (tx))] 9)).grown hga5 (by intro q hq; right; simp [Value.ownBlock] at hq; simp; omega); obtain ⟨hca5, hfa5, hza5⟩ := hVa5.cells; have hya5 : w.heap.size < wa5.heap.size := (by simp at hza5; omega))
    refine (join_any ga5 2 capa5 [wd, tx] _ howna5 rfl (by omega) (by simp)).mono ?_
    rintro e w9 ⟨rfl, hU9⟩
    go_wp2
    go_ret2
    exact Hfin.out _ ((hU0.trans hVa5).trans hU9)

set_option maxHeartbeats 4000000 in
set_option maxRecDepth 100000 in
theorem print_7 (op n : Int) (tx : List UInt8) (r : RefL) (w : World) (hi : (InstL.mk op n tx r).fit) (hn : (InstL.mk op n tx r).num) (hm : Rdy w) (ho : (InstL.mk op n tx r).ok = true) (hk : kindL op = 7) :
    Calls Tryd.prog 16 #[(InstL.mk op n tx r).v] w (printPost ⟨op, n, tx, r⟩ w) := by
  obtain ⟨i0, hi0, qz0, qz1, qz2⟩ := info_parts infoString
  have hrng := run_known op hk (by decide)
  have hty := InstL.ok_ty ho
  simp only [hk] at hty
  have hle := InstL.text_le ho hn
  have hparts : (InstL.mk op n tx r).parts = [wordL op, Lib.itoa n, tx] := by
    unfold InstL.parts
    simp only [hk]
    simp [hty.2.1]
  have hle1 := hle.1
  unfold InstL.text at hle1
  rw [hparts] at hle1
  have hfin : ∀ w', Upd w w' [] → printPost ⟨op, n, tx, r⟩ w (.returned (.tuple #[.string (bs (Lib.join [wordL op, Lib.itoa n, tx] [32])), .int .i64 0])) w' := fun w' h => by
    unfold printPost InstL.text
    rw [ho, hparts]
    exact ⟨rfl, h⟩
  have Hfin := hid hfin
  have Hc := fun w hm => hid (check_any ⟨op, n, tx, r⟩ w hi hm)
  unfold checkPost at Hc
  rw [ho] at Hc
  have Hop := fun w => hid (operand_any op w)
  rw [hk] at Hop
  have Hs := fun w => hid (specs_at op (by omega) hrng.2 w)
  generalize (specT.getD op.toNat ([], 0)).2 = sk at Hs
  obtain ⟨wd, hwd⟩ : ∃ wd, wordL op = wd := ⟨_, rfl⟩
  rw [hwd] at Hs Hfin hle1
  have hf := field_spec0
  have hn1 := hn.1
  have hn2 := hn.2
  simp only at hn1 hn2
  have hlt := hty.1
  clear hfin hparts hle hwd hk hrng
  have hU0 : Upd w (w.alloc (.cells #[.int .i64 op, .int .i64 n, .string (bs tx), .bool r.ifc, .string (bs r.cls), .string (bs r.nm), .string (bs r.ds)] 25)) [] := (Upd.refl _ _).alloc _
  have htx : ¬ tx = [] := by simpa using hty.2.1
  have he1 : (bs tx).toList.isEmpty = false := by rw [bs_toList]; simpa using htx
  have he2 : ¬ (bs tx).toList = [] := by rw [bs_toList]; exact htx
  clear hty
  unfold InstL.v InstL.cells at Hc ⊢
  simp only at Hc ⊢
  go_enter Tryd.func16, Tryd.ntmps16
  go_wp2_with fail
  refine (Hc _ (hm.upd hU0).max).out.mono ?_
  rintro e w1 ⟨rfl, hU1⟩
  obtain ⟨hc1, hf1, hz1⟩ := hU1.cells
  have hz1' : w.heap.size < w1.heap.size := by simp at hz1; omega
  simp only [errIf]
  have x0 : w1.cell? ⟨w.heap.size, 0, none⟩ = some (.int .i64 op) := by rw [hc1 _ _ (by simp)]; simp
  have Hc1 := hid hc1
  clear hc1 hf1
  go_upto_region 4 with fail
  go_cut [5] (fun s5 wx => ∃ g : Nat, s5 = .slice (some ⟨g, 0, none⟩) 1 1 ∧ Blk wx g 9 #[.string (bs wd)] ∧ w.heap.size < g ∧ Upd (w.alloc (.cells #[.int .i64 op, .int .i64 n, .string (bs tx), .bool r.ifc, .string (bs r.cls), .string (bs r.nm), .string (bs r.ds)] 25)) wx [])
  case first =>
    go_region_held3 (fun W => W.cell? ⟨w.heap.size, 0, none⟩ = some (.int .i64 op)) (first | exact x0 | go_keep) (first
      | (go_at_call 38; refine (Hs _).out.mono ?_; rintro e w2 ⟨S, rfl, hr, hU2⟩; have x0 : w2.cell? ⟨w.heap.size, 0, none⟩ = some (.int .i64 op) := (by rw [hU2.cells.1 _ _ (by simp; omega)]; simp [x0])))
    all_goals
      go_wp2_with fail
      go_meet
      exact ⟨w2.heap.size, rfl, Blk.new _ _ _, by have := hU2.size; simp at this; omega, (hU1.drew.trans hU2).alloc _⟩
  case rest =>
    obtain ⟨g0, rfl, hB2, hge, hV3⟩ := hcut
    obtain ⟨hcc, hfc, hzc⟩ := hV3.cells
    have hzc' : w.heap.size < wc.heap.size := by simp at hzc; omega
    go_wp2_with fail
    refine (Hop _).out.mono ?_
    rintro e w3 ⟨rfl, hU3⟩
    have hB3 := hU3.blk hB2 (by simp)
    have hV4 := hV3.trans hU3
    obtain ⟨hc3, hf3, hz3⟩ := hV4.cells
    have hz3' : w.heap.size < w3.heap.size := by simp at hz3; omega
    have hsz3 : g0 < w3.heap.size := hB3.lt
    have hown : w3.ownsRow 0 9 1 (.slice (some ⟨g0, 0, none⟩) 1 1) 1 [.string (bs wd)] := own_of_blk hB3 (by show 1 ≤ maxLen; decide)
    clear hB2 hB3 hV3 hU3 hz3 hz1' hU1 hcc hfc hzc
    go_wp2_with fail
    refine (itoa_any n _ hn1 hn2 ((hm.upd hU0).upd hV4).tab).mono ?_
    rintro e w4 ⟨rfl, hU4⟩
    have hown4 := hU4.own hown (by simp)
    have hV5 := hV4.trans hU4
    obtain ⟨hc4, hf4, hz4⟩ := hV5.cells
    have hz4' : w.heap.size < w4.heap.size := by simp at hz4; omega
    go_wp2_with (first
      | (at_builtin; (refine wpList_append_one _ rfl (.tmp 27) (.tmp 31) 44 rfl 9 i0 _ 1 16 Tryd.underlying44 hi0 qz0 qz1 qz2 rfl (by decide) (by decide) (.slice (some ⟨g0, 0, none⟩) 1 1) 1 [.string (bs wd)] rfl (by exact hown4.alloc _) (by omega) w4.heap.size 9 #[.string (bs (Lib.itoa n))] rfl (by exact Blk.new_at (by simp)) rfl rfl ?_); intro ga5 capa5 wa5 howna5 hga5 hata5; have hgea5 : w.heap.size < ga5 := (by rcases hata5 with h | h <;> simp [Value.ownBlock] at h <;> omega); have hVa5 := (hV5.alloc (.cells #[.string (bs (Lib.itoa n))] 9)).grown hga5 (by intro q hq; right; simp [Value.ownBlock] at hq; simp; omega); obtain ⟨hca5, hfa5, hza5⟩ := hVa5.cells; have hya5 : w.heap.size < wa5.heap.size := (by simp at hza5; omega))
      | (at_builtin; (refine wpList_append_one _ rfl (.tmp 48) (.tmp 51) 44 rfl 9 i0 _ 1 16 Tryd.underlying44 hi0 qz0 qz1 qz2 rfl (by decide) (by decide) (.slice (some ⟨ga5, 0, none⟩) 2 capa5) 2 [.string (bs wd), .string (bs (Lib.itoa n))] rfl (by exact howna5.alloc _) (by omega) wa5.heap.size 9 #[.string (bs (tx))] rfl (by exact Blk.new_at (by simp)) rfl rfl ?_); intro ga6 capa6 wa6 howna6 hga6 hata6; have hgea6 : w.heap.size < ga6 := (by rcases hata6 with h | h <;> simp [Value.ownBlock] at h <;> omega); have hVa6 := (hVa5.alloc (.cells #[.string (bs (tx))] 9)).grown hga6 (by intro q hq; right; simp [Value.ownBlock] at hq; simp; omega); obtain ⟨hca6, hfa6, hza6⟩ := hVa6.cells; have hya6 : w.heap.size < wa6.heap.size := (by simp at hza6; omega)))
    refine (join_any ga6 3 capa6 [wd, Lib.itoa n, tx] _ howna6 rfl (by omega) (by simp)).mono ?_
    rintro e w9 ⟨rfl, hU9⟩
    go_wp2
    go_ret2
    exact Hfin.out _ ((hU0.trans hVa6).trans hU9)

set_option maxHeartbeats 4000000 in
set_option maxRecDepth 100000 in
theorem print_8 (op n : Int) (tx : List UInt8) (r : RefL) (w : World) (hi : (InstL.mk op n tx r).fit) (hn : (InstL.mk op n tx r).num) (hm : Rdy w) (ho : (InstL.mk op n tx r).ok = true) (hk : kindL op = 8) :
    Calls Tryd.prog 16 #[(InstL.mk op n tx r).v] w (printPost ⟨op, n, tx, r⟩ w) := by
  obtain ⟨i0, hi0, qz0, qz1, qz2⟩ := info_parts infoString
  have hrng := run_known op hk (by decide)
  have hty := InstL.ok_ty ho
  simp only [hk] at hty
  have hle := InstL.text_le ho hn
  have hparts : (InstL.mk op n tx r).parts = [wordL op, r.text] := by
    unfold InstL.parts
    simp only [hk]
    simp [hty.2.1]
  have hle1 := hle.1
  unfold InstL.text at hle1
  rw [hparts] at hle1
  have hfin : ∀ w', Upd w w' [] → printPost ⟨op, n, tx, r⟩ w (.returned (.tuple #[.string (bs (Lib.join [wordL op, r.text] [32])), .int .i64 0])) w' := fun w' h => by
    unfold printPost InstL.text
    rw [ho, hparts]
    exact ⟨rfl, h⟩
  have Hfin := hid hfin
  have Hc := fun w hm => hid (check_any ⟨op, n, tx, r⟩ w hi hm)
  unfold checkPost at Hc
  rw [ho] at Hc
  have Hop := fun w => hid (operand_any op w)
  rw [hk] at Hop
  have Hs := fun w => hid (specs_at op (by omega) hrng.2 w)
  generalize (specT.getD op.toNat ([], 0)).2 = sk at Hs
  obtain ⟨wd, hwd⟩ : ∃ wd, wordL op = wd := ⟨_, rfl⟩
  rw [hwd] at Hs Hfin hle1
  have hf := field_spec0
  have Ht := fun w hm => hid (refText_any r w hi.2 hm)
  unfold refTextPost at Ht
  rw [hty.2.2.2 (by simp)] at Ht
  unfold RefL.v at Ht
  have hn1 := hn.1
  have hn2 := hn.2
  simp only at hn1 hn2
  have hlt := hty.1
  clear hfin hparts hle hwd hk hrng
  have hU0 : Upd w (w.alloc (.cells #[.int .i64 op, .int .i64 n, .string (bs tx), .bool r.ifc, .string (bs r.cls), .string (bs r.nm), .string (bs r.ds)] 25)) [] := (Upd.refl _ _).alloc _
  have htx : tx = [] := by simpa using hty.2.1
  subst htx
  rw [bs_nil] at hU0
  clear hty
  unfold InstL.v InstL.cells at Hc ⊢
  simp only [bs_nil] at Hc ⊢
  go_enter Tryd.func16, Tryd.ntmps16
  go_wp2_with fail
  refine (Hc _ (hm.upd hU0).max).out.mono ?_
  rintro e w1 ⟨rfl, hU1⟩
  obtain ⟨hc1, hf1, hz1⟩ := hU1.cells
  have hz1' : w.heap.size < w1.heap.size := by simp at hz1; omega
  simp only [errIf]
  have x0 : w1.cell? ⟨w.heap.size, 0, none⟩ = some (.int .i64 op) := by rw [hc1 _ _ (by simp)]; simp
  have Hc1 := hid hc1
  clear hc1 hf1
  go_upto_region 4 with fail
  go_cut [5] (fun s5 wx => ∃ g : Nat, s5 = .slice (some ⟨g, 0, none⟩) 1 1 ∧ Blk wx g 9 #[.string (bs wd)] ∧ w.heap.size < g ∧ Upd (w.alloc (.cells #[.int .i64 op, .int .i64 n, .string ⟨#[]⟩, .bool r.ifc, .string (bs r.cls), .string (bs r.nm), .string (bs r.ds)] 25)) wx [])
  case first =>
    go_region_held3 (fun W => W.cell? ⟨w.heap.size, 0, none⟩ = some (.int .i64 op)) (first | exact x0 | go_keep) (first
      | (go_at_call 38; refine (Hs _).out.mono ?_; rintro e w2 ⟨S, rfl, hr, hU2⟩; have x0 : w2.cell? ⟨w.heap.size, 0, none⟩ = some (.int .i64 op) := (by rw [hU2.cells.1 _ _ (by simp; omega)]; simp [x0])))
    all_goals
      go_wp2_with fail
      go_meet
      exact ⟨w2.heap.size, rfl, Blk.new _ _ _, by have := hU2.size; simp at this; omega, (hU1.drew.trans hU2).alloc _⟩
  case rest =>
    obtain ⟨g0, rfl, hB2, hge, hV3⟩ := hcut
    obtain ⟨hcc, hfc, hzc⟩ := hV3.cells
    have hzc' : w.heap.size < wc.heap.size := by simp at hzc; omega
    go_wp2_with fail
    refine (Hop _).out.mono ?_
    rintro e w3 ⟨rfl, hU3⟩
    have hB3 := hU3.blk hB2 (by simp)
    have hV4 := hV3.trans hU3
    obtain ⟨hc3, hf3, hz3⟩ := hV4.cells
    have hz3' : w.heap.size < w3.heap.size := by simp at hz3; omega
    have hsz3 : g0 < w3.heap.size := hB3.lt
    have hown : w3.ownsRow 0 9 1 (.slice (some ⟨g0, 0, none⟩) 1 1) 1 [.string (bs wd)] := own_of_blk hB3 (by show 1 ≤ maxLen; decide)
    clear hB2 hB3 hV3 hU3 hz3 hz1' hU1 hcc hfc hzc
    go_wp2_with fail
    refine (Ht _ ((hm.upd hU0).upd hV4).max).out.mono ?_
    rintro e w4 ⟨rfl, hU4⟩
    have hown4 := hU4.own hown (by simp)
    have hV5 := hV4.trans hU4
    obtain ⟨hc4, hf4, hz4⟩ := hV5.cells
    have hz4' : w.heap.size < w4.heap.size := by simp at hz4; omega
    simp only [if_true, errIf]
    go_wp2_with (at_builtin; go_must (refine wpList_append_one _ rfl (.tmp 41) (.tmp 43) 44 rfl 9 i0 _ 1 16 Tryd.underlying44 hi0 qz0 qz1 qz2 rfl (by decide) (by decide) (.slice (some ⟨g0, 0, none⟩) 1 1) 1 [.string (bs wd)] rfl (by exact hown4.alloc _) (by omega) w4.heap.size 9 #[.string (bs (r.text))] rfl (by exact Blk.new_at (by simp)) rfl rfl ?_); intro ga5 capa5 wa5 howna5 hga5 hata5; have hgea5 : w.heap.size < ga5 := (by rcases hata5 with h | h <;> simp [Value.ownBlock] at h <;> omega); have hVa5 := (hV5.alloc (.cells #[.string (bs (r.text))] 9)).grown hga5 (by intro q hq; right; simp [Value.ownBlock] at hq; simp; omega); obtain ⟨hca5, hfa5, hza5⟩ := hVa5.cells; have hya5 : w.heap.size < wa5.heap.size := (by simp at hza5; omega))
    refine (join_any ga5 2 capa5 [wd, r.text] _ howna5 rfl (by omega) (by simp)).mono ?_
    rintro e w9 ⟨rfl, hU9⟩
    go_wp2
    go_ret2
    exact Hfin.out _ ((hU0.trans hVa5).trans hU9)


set_option maxHeartbeats 1000000 in
theorem print_any (i : InstL) (w : World) (hi : i.fit) (hn : i.num) (hm : Rdy w) : Calls Tryd.prog 16 #[i.v] w (printPost i w) := by
  obtain ⟨op, n, tx, r⟩ := i
  cases ho : (InstL.mk op n tx r).ok with
  | true =>
    have h1 := (InstL.ok_ty ho).2.2.1
    rcases kindL_cases op with hk | hk | hk | hk | hk | hk | hk | hk | hk | hk
    · exact absurd hk h1
    · exact print_0 op n tx r w hi hn hm ho hk
    · exact print_1 op n tx r w hi hn hm ho hk
    · exact print_2 op n tx r w hi hn hm ho hk
    · exact print_3 op n tx r w hi hn hm ho hk
    · exact print_4 op n tx r w hi hn hm ho hk
    · exact print_5 op n tx r w hi hn hm ho hk
    · exact print_6 op n tx r w hi hn hm ho hk
    · exact print_7 op n tx r w hi hn hm ho hk
    · exact print_8 op n tx r w hi hn hm ho hk
  | false =>
    have Hc := fun w hm => hid (check_any ⟨op, n, tx, r⟩ w hi hm)
    unfold checkPost at Hc
    rw [ho] at Hc
    have hfin : ∀ w', Upd w w' [] → printPost ⟨op, n, tx, r⟩ w (.returned (.tuple #[.string ⟨#[]⟩, .int .i64 1])) w' := fun w' h => by
      unfold printPost
      rw [ho]
      exact ⟨rfl, h⟩
    have Hfin := hid hfin
    have hU0 : Upd w (w.alloc (.cells #[.int .i64 op, .int .i64 n, .string (bs tx), .bool r.ifc, .string (bs r.cls), .string (bs r.nm), .string (bs r.ds)] 25)) [] := (Upd.refl _ _).alloc _
    clear hfin
    unfold InstL.v InstL.cells at Hc ⊢
    simp only at Hc ⊢
    go_enter Tryd.func16, Tryd.ntmps16
    go_wp2_with fail
    refine (Hc _ (hm.upd hU0).max).out.mono ?_
    rintro e w1 ⟨rfl, hU1⟩
    simp only [errIf]
    go_wp2
    go_ret2
    exact Hfin.out _ (hU0.trans hU1)
end Go.Proofs.YtjjdlgjofjfgmaaDoor
