/-
  Package code, walked: Print.
-/
import Derived.Deep.DeepCutAuto
import Derived.Deep.RegionWith
import Derived.Lib.ItoaLen
import Derived.Lib.QuietBelow
import Derived.Test.YtfpdeiefkimaaaaGreatDoorK1
import Derived.Test.YtfpdeiefkimaaaaGreatDoorK5
set_option linter.unusedSimpArgs false
set_option linter.unusedVariables false
namespace Go.Proofs.YtfpdeiefkimaaaaGreatDoor
open Go.RowKit

def Tab10 (w : World) : Prop := Lib.TabIs Tryz.prog w "internal/strconv.uint64pow10" .u64 Lib.pow10Tab
/-- The package-level variables that the library's functions read lie as the text lays them. -/
structure Rdy (w : World) : Prop where
  max : MaxLenAt w
  tab : Tab10 w
theorem Tab10.upd {w w' : World} (h : Tab10 w) (u : Upd w w' []) : Tab10 w' := by
  unfold Tab10 Lib.TabIs World.var? at h ⊢
  cases hg : Tryz.prog.globalNamed "internal/strconv.uint64pow10" with
  | none => rw [hg] at h; simp at h
  | some g =>
    rw [hg] at h
    simp only [Option.bind_some] at h ⊢
    have hlt : g < w.heap.size := by
      rcases Nat.lt_or_ge g w.heap.size with hl | hl
      · exact hl
      · rw [Array.getElem?_eq_none hl] at h; simp at h
    rw [u.block g hlt (by simp)]
    exact h
theorem Rdy.upd {w w' : World} (h : Rdy w) (u : Upd w w' []) : Rdy w' := ⟨h.max.upd u (by simp), h.tab.upd u⟩

theorem own_of_blk {w : World} {g : Nat} {t : TypeId} {cs : Array Value} (h : Blk w g t cs) (hz : cs.size ≤ maxLen) : w.ownsRow 0 t 1 (.slice (some ⟨g, 0, none⟩) cs.size cs.size) cs.size cs.toList :=
  ⟨by simp, .inr ⟨g, cs.size, cs, rfl, by omega, h, Nat.le_refl _, hz, by simp, by rw [Nat.mul_one]; exact List.take_of_length_le (by simp)⟩⟩

theorem grow_below (w : World) (k : Nat) (os : Array Obj) : Upd w (Go.Sort.grow (w.drewN k) os) [] :=
  ⟨rfl, rfl, rfl, by show w.heap.size ≤ (w.heap ++ os).size; simp, fun i hi _ => by show (w.heap ++ os)[i]? = _; rw [Array.getElem?_append_left hi]⟩

theorem itoa_any (n : Int) (w : World) (h0 : -9223372036854775808 ≤ n) (h1 : n ≤ 9223372036854775807) (ht : Tab10 w) : Calls Tryz.prog 48 #[.int .i64 n] w fun e w' => e = .returned (.string (bs (Lib.itoa n))) ∧ Upd w w' [] :=
  (Tryz.strconv_Itoa n h0 h1 w ht).mono fun _ _ ⟨h, k, os, hw⟩ => ⟨h, by rw [hw]; exact grow_below w k os⟩

theorem join_any (g n cap : Nat) (ps : List (List UInt8)) (w : World) (h : w.ownsRow 0 9 1 (.slice (some ⟨g, 0, none⟩) n cap) n (ps.map strV)) (hn : n = ps.length) (hl : (Lib.join ps [32]).length ≤ 140737488355328) (hp : ps.length ≤ 1000000) :
    Calls Tryz.prog 45 #[.slice (some ⟨g, 0, none⟩) n cap, .string ⟨#[32]⟩] w fun e w' => e = .returned (.string (bs (Lib.join ps [32]))) ∧ Upd w w' [] := by
  subst hn
  have hc : ps.length ≤ cap ∧ g < w.heap.size := by
    rcases h.2 with ⟨h1, _⟩ | ⟨g', cap', cur, hv, hb, hg, h1, h2, h3, h4⟩
    · cases h1
    · injection hv with hv1 hv2 hv3
      injection hv1 with hv1
      injection hv1 with hv1
      subst hv1 hv3
      exact ⟨h1, (Array.getElem?_eq_some_iff.1 hg).1⟩
  have e : (ps.map bs).map (fun p => p.data.toList) = ps := by simp [bs_data, Function.comp_def]
  have := Tryz.strings_Join g 0 cap (ps.map bs) ⟨#[32]⟩ w (fun j x hx => by
    have hj : j < ps.length := by
      have := (List.getElem?_eq_some_iff.1 hx).1
      simpa using this
    rw [Nat.zero_add, own_cell h j hj]
    simp only [List.getElem?_map] at hx ⊢
    rw [List.getElem?_eq_getElem hj] at hx ⊢
    simp only [Option.map_some, Option.some.injEq] at hx ⊢
    rw [← hx]
    rfl) hc.2 (by simp; omega) (by simpa using hc.1) (by rw [e]; exact hl)
  rw [e, List.length_map] at this
  exact this.mono fun _ _ h => ⟨h.1, Upd.of_below h.2 []⟩

/-- The words of a sound instruction's text. -/
def InstL.parts (i : InstL) : List (List UInt8) :=
  wordL i.op :: ((if kindL i.op = 1 ∨ kindL i.op = 2 ∨ kindL i.op = 3 ∨ kindL i.op = 7 then [Lib.itoa i.n] else if kindL i.op = 8 then [i.ref.text] else []) ++ if i.ty = [] then [] else [i.ty])
def InstL.text (i : InstL) : List UInt8 := Lib.join i.parts [32]
def printPost (i : InstL) (w : World) (e : Ending) (w' : World) : Prop :=
  e = .returned (.tuple #[.string (bs (if i.ok then i.text else [])), .int .i64 (errIf i.ok)]) ∧ Upd w w' []
def InstL.num (i : InstL) : Prop := -9223372036854775808 ≤ i.n ∧ i.n ≤ 9223372036854775807

theorem splitL_nil (c : UInt8) : splitL c [] = [[]] := rfl
theorem validB_nil : validB [] = false := by decide
theorem parseL_nil : (parseL []).2.2 = 4 := by decide
theorem parseRefL_nil : (parseRefL []).2.2 = 4 := by decide
theorem InstL.ok_fine {i : InstL} (h : i.ok = true) : i.bare = i ∧ i.fine = true := by
  unfold InstL.ok at h
  simpa using h

theorem word_le : ∀ op, (wordL op).length ≤ 20 := by
  intro op
  unfold wordL
  generalize op.toNat = n
  by_cases h : n < 41
  · have : ∀ n : Fin 41, (specT.getD n.val ([], 0)).1.length ≤ 20 := by decide
    exact this ⟨n, h⟩
  · have hl : specT.length = 41 := rfl
    rw [List.getD_eq_getElem?_getD, List.getElem?_eq_none (by omega)]
    decide
theorem RefL.text_le {r : RefL} (h : r.ok = true) : r.text.length ≤ 4061 := by
  obtain ⟨h1, h2, h3⟩ := RefL.ok_le h
  unfold RefL.text
  split <;> simp <;> omega

/-- What the kinds of a sound instruction leave. -/
theorem InstL.ok_ty {i : InstL} (h : i.ok = true) : i.ty.length ≤ 2000 ∧ (i.ty = [] ↔ ¬ (kindL i.op = 4 ∨ kindL i.op = 5 ∨ kindL i.op = 6 ∨ kindL i.op = 7)) ∧ kindL i.op ≠ -1 ∧ (kindL i.op = 8 → i.ref.ok = true) := by
  obtain ⟨h1, h2⟩ := InstL.ok_fine h
  obtain ⟨op, n, tx, r⟩ := i
  unfold InstL.bare at h1
  unfold InstL.fine at h2
  simp only at h1 h2 ⊢
  rcases kindL_cases op with hk | hk | hk | hk | hk | hk | hk | hk | hk | hk
  all_goals
    rw [hk] at h1 h2
    simp only [hk]
    simp at h1 h2
    try simp
  all_goals first
    | done
    | (have ht : tx = [] := by first | exact h1.2 | exact h1.2.1 | exact h1.1 | exact h1.2.1.symm | exact h1.1.symm
       subst ht
       simp_all
       done)
    | (have hl := validB_le h2
       refine ⟨by omega, ?_⟩
       rintro rfl
       rw [validB_nil] at h2
       cases h2)
    | (have hl := parseRefL_le h2
       refine ⟨by omega, ?_⟩
       rintro rfl
       rw [parseRefL_nil] at h2
       cases h2)
    | (have hl := parseL_le h2.1
       refine ⟨by omega, ?_⟩
       rintro rfl
       rw [parseL_nil] at h2
       cases h2.1)
    | (have hl := parseRefL_le h2.1
       refine ⟨by omega, ?_⟩
       rintro rfl
       rw [parseRefL_nil] at h2
       cases h2.1)
    | trace_state
end Go.Proofs.YtfpdeiefkimaaaaGreatDoor
/-
  Package code, walked: Print.
-/
set_option linter.unusedSimpArgs false
set_option linter.unusedVariables false
namespace Go.Proofs.YtfpdeiefkimaaaaGreatDoor
open Go.RowKit

theorem InstL.text_le {i : InstL} (h : i.ok = true) (hn : i.num) : i.text.length ≤ 10000 ∧ i.parts.length ≤ 4 := by
  obtain ⟨h1, h2, h3, h4⟩ := InstL.ok_ty h
  have h5 := word_le i.op
  have h6 := Lib.itoa_length_le i.n hn.1 hn.2
  unfold InstL.text InstL.parts
  by_cases c1 : kindL i.op = 1 ∨ kindL i.op = 2 ∨ kindL i.op = 3 ∨ kindL i.op = 7
  · rw [if_pos c1]
    split <;> simp [Lib.join, List.intercalate, List.intersperse] <;> omega
  · rw [if_neg c1]
    by_cases c2 : kindL i.op = 8
    · have h7 := RefL.text_le (h4 c2)
      rw [if_pos c2]
      split <;> simp [Lib.join, List.intercalate, List.intersperse] <;> omega
    · rw [if_neg c2]
      split <;> simp [Lib.join, List.intercalate, List.intersperse] <;> omega

theorem run_known (op : Int) {k : Int} (hk : kindL op = k) (h : k ≠ -1) : 1 ≤ op ∧ op ≤ 40 := by
  unfold kindL at hk
  split at hk
  · assumption
  · exact absurd hk.symm h

set_option maxHeartbeats 4000000 in
set_option maxRecDepth 100000 in
theorem print_0 (op n : Int) (tx : List UInt8) (r : RefL) (w : World) (hi : (InstL.mk op n tx r).fit) (hn : (InstL.mk op n tx r).num) (hm : Rdy w) (ho : (InstL.mk op n tx r).ok = true) (hk : kindL op = 0) :
    Calls Tryz.prog 50 #[(InstL.mk op n tx r).v] w (printPost ⟨op, n, tx, r⟩ w) := by
  obtain ⟨i0, hi0, qz0, qz1, qz2⟩ := info_parts infoString
  have hrng := run_known op hk (by decide)
  have hty := InstL.ok_ty ho
  simp only [hk] at hty
  have hle := InstL.text_le ho hn
  have hparts : (InstL.mk op n tx r).parts = [wordL op] := by
    unfold InstL.parts
    simp only [hk]
    simp [hty.2.1]
  have hle1 := hle.1
  unfold InstL.text at hle1
  rw [hparts] at hle1
  have hfin : ∀ w', Upd w w' [] → printPost ⟨op, n, tx, r⟩ w (.returned (.tuple #[.string (bs (Lib.join [wordL op] [32])), .int .i64 0])) w' := fun w' h => by
    unfold printPost InstL.text
    rw [ho, hparts]
    exact ⟨rfl, h⟩
  have Hfin := hid hfin
  have Hc := fun w hm => hid (check_any ⟨op, n, tx, r⟩ w hi hm)
  unfold checkPost at Hc
  rw [ho] at Hc
  have Hop := fun w => hid (operand_any op w)
  rw [hk] at Hop
  have Hs := fun w => hid (specs_at op (by omega) hrng.2 w)
  generalize (specT.getD op.toNat ([], 0)).2 = sk at Hs
  obtain ⟨wd, hwd⟩ : ∃ wd, wordL op = wd := ⟨_, rfl⟩
  rw [hwd] at Hs Hfin hle1
  have hf := field_spec0
  have hn1 := hn.1
  have hn2 := hn.2
  simp only at hn1 hn2
  have hlt := hty.1
  clear hfin hparts hle hwd hk hrng
  have hU0 : Upd w (w.alloc (.cells #[.int .i64 op, .int .i64 n, .string (bs tx), .bool r.ifc, .string (bs r.cls), .string (bs r.nm), .string (bs r.ds)] 90)) [] := (Upd.refl _ _).alloc _
  have htx : tx = [] := by simpa using hty.2.1
  subst htx
  rw [bs_nil] at hU0
  clear hty
  unfold InstL.v InstL.cells at Hc ⊢
  simp only [bs_nil] at Hc ⊢
  go_enter Tryz.func50, Tryz.ntmps50
  go_wp2_with fail
  refine (Hc _ (hm.upd hU0).max).out.mono ?_
  rintro e w1 ⟨rfl, hU1⟩
  obtain ⟨hc1, hf1, hz1⟩ := hU1.cells
  have hz1' : w.heap.size < w1.heap.size := by simp at hz1; omega
  simp only [errIf]
  have x0 : w1.cell? ⟨w.heap.size, 0, none⟩ = some (.int .i64 op) := by rw [hc1 _ _ (by simp)]; simp
  have Hc1 := hid hc1
  clear hc1 hf1
  go_upto_region 4 with fail
  go_cut [5] (fun s5 wx => ∃ g : Nat, s5 = .slice (some ⟨g, 0, none⟩) 1 1 ∧ Blk wx g 9 #[.string (bs wd)] ∧ w.heap.size < g ∧ Upd (w.alloc (.cells #[.int .i64 op, .int .i64 n, .string ⟨#[]⟩, .bool r.ifc, .string (bs r.cls), .string (bs r.nm), .string (bs r.ds)] 90)) wx [])
  case first =>
    go_region_held3 (fun W => W.cell? ⟨w.heap.size, 0, none⟩ = some (.int .i64 op)) (first | exact x0 | go_keep) (first
      | (go_at_call 91; refine (Hs _).out.mono ?_; rintro e w2 ⟨S, rfl, hr, hU2⟩; have x0 : w2.cell? ⟨w.heap.size, 0, none⟩ = some (.int .i64 op) := (by rw [hU2.cells.1 _ _ (by simp; omega)]; simp [x0])))
    all_goals
      go_wp2_with fail
      go_meet
      exact ⟨w2.heap.size, rfl, Blk.new _ _ _, by have := hU2.size; simp at this; omega, (hU1.drew.trans hU2).alloc _⟩
  case rest =>
    obtain ⟨g0, rfl, hB2, hge, hV3⟩ := hcut
    obtain ⟨hcc, hfc, hzc⟩ := hV3.cells
    have hzc' : w.heap.size < wc.heap.size := by simp at hzc; omega
    go_wp2_with fail
    refine (Hop _).out.mono ?_
    rintro e w3 ⟨rfl, hU3⟩
    have hB3 := hU3.blk hB2 (by simp)
    have hV4 := hV3.trans hU3
    obtain ⟨hc3, hf3, hz3⟩ := hV4.cells
    have hz3' : w.heap.size < w3.heap.size := by simp at hz3; omega
    have hsz3 : g0 < w3.heap.size := hB3.lt
    have hown : w3.ownsRow 0 9 1 (.slice (some ⟨g0, 0, none⟩) 1 1) 1 [.string (bs wd)] := own_of_blk hB3 (by show 1 ≤ maxLen; decide)
    clear hB2 hB3 hV3 hU3 hz3 hz1' hU1 hcc hfc hzc
    go_wp2_with fail
    refine (join_any g0 1 1 [wd] _ hown rfl (by omega) (by simp)).mono ?_
    rintro e w9 ⟨rfl, hU9⟩
    go_wp2
    go_ret2
    exact Hfin.out _ ((hU0.trans hV4).trans hU9)

set_option maxHeartbeats 4000000 in
set_option maxRecDepth 100000 in
theorem print_1 (op n : Int) (tx : List UInt8) (r : RefL) (w : World) (hi : (InstL.mk op n tx r).fit) (hn : (InstL.mk op n tx r).num) (hm : Rdy w) (ho : (InstL.mk op n tx r).ok = true) (hk : kindL op = 1) :
    Calls Tryz.prog 50 #[(InstL.mk op n tx r).v] w (printPost ⟨op, n, tx, r⟩ w) := by
  obtain ⟨i0, hi0, qz0, qz1, qz2⟩ := info_parts infoString
  have hrng := run_known op hk (by decide)
  have hty := InstL.ok_ty ho
  simp only [hk] at hty
  have hle := InstL.text_le ho hn
  have hparts : (InstL.mk op n tx r).parts = [wordL op, Lib.itoa n] := by
    unfold InstL.parts
    simp only [hk]
    simp [hty.2.1]
  have hle1 := hle.1
  unfold InstL.text at hle1
  rw [hparts] at hle1
  have hfin : ∀ w', Upd w w' [] → printPost ⟨op, n, tx, r⟩ w (.returned (.tuple #[.string (bs (Lib.join [wordL op, Lib.itoa n] [32])), .int .i64 0])) w' := fun w' h => by
    unfold printPost InstL.text
    rw [ho, hparts]
    exact ⟨rfl, h⟩
  have Hfin := hid hfin
  have Hc := fun w hm => hid (check_any ⟨op, n, tx, r⟩ w hi hm)
  unfold checkPost at Hc
  rw [ho] at Hc
  have Hop := fun w => hid (operand_any op w)
  rw [hk] at Hop
  have Hs := fun w => hid (specs_at op (by omega) hrng.2 w)
  generalize (specT.getD op.toNat ([], 0)).2 = sk at Hs
  obtain ⟨wd, hwd⟩ : ∃ wd, wordL op = wd := ⟨_, rfl⟩
  rw [hwd] at Hs Hfin hle1
  have hf := field_spec0
  have hn1 := hn.1
  have hn2 := hn.2
  simp only at hn1 hn2
  have hlt := hty.1
  clear hfin hparts hle hwd hk hrng
  have hU0 : Upd w (w.alloc (.cells #[.int .i64 op, .int .i64 n, .string (bs tx), .bool r.ifc, .string (bs r.cls), .string (bs r.nm), .string (bs r.ds)] 90)) [] := (Upd.refl _ _).alloc _
  have htx : tx = [] := by simpa using hty.2.1
  subst htx
  rw [bs_nil] at hU0
  clear hty
  unfold InstL.v InstL.cells at Hc ⊢
  simp only [bs_nil] at Hc ⊢
  go_enter Tryz.func50, Tryz.ntmps50
  go_wp2_with fail
  refine (Hc _ (hm.upd hU0).max).out.mono ?_
  rintro e w1 ⟨rfl, hU1⟩
  obtain ⟨hc1, hf1, hz1⟩ := hU1.cells
  have hz1' : w.heap.size < w1.heap.size := by simp at hz1; omega
  simp only [errIf]
  have x0 : w1.cell? ⟨w.heap.size, 0, none⟩ = some (.int .i64 op) := by rw [hc1 _ _ (by simp)]; simp
  have Hc1 := hid hc1
  clear hc1 hf1
  go_upto_region 4 with fail
  go_cut [5] (fun s5 wx => ∃ g : Nat, s5 = .slice (some ⟨g, 0, none⟩) 1 1 ∧ Blk wx g 9 #[.string (bs wd)] ∧ w.heap.size < g ∧ Upd (w.alloc (.cells #[.int .i64 op, .int .i64 n, .string ⟨#[]⟩, .bool r.ifc, .string (bs r.cls), .string (bs r.nm), .string (bs r.ds)] 90)) wx [])
  case first =>
    go_region_held3 (fun W => W.cell? ⟨w.heap.size, 0, none⟩ = some (.int .i64 op)) (first | exact x0 | go_keep) (first
      | (go_at_call 91; refine (Hs _).out.mono ?_; rintro e w2 ⟨S, rfl, hr, hU2⟩; have x0 : w2.cell? ⟨w.heap.size, 0, none⟩ = some (.int .i64 op) := (by rw [hU2.cells.1 _ _ (by simp; omega)]; simp [x0])))
    all_goals
      go_wp2_with fail
      go_meet
      exact ⟨w2.heap.size, rfl, Blk.new _ _ _, by have := hU2.size; simp at this; omega, (hU1.drew.trans hU2).alloc _⟩
  case rest =>
    obtain ⟨g0, rfl, hB2, hge, hV3⟩ := hcut
    obtain ⟨hcc, hfc, hzc⟩ := hV3.cells
    have hzc' : w.heap.size < wc.heap.size := by simp at hzc; omega
    go_wp2_with fail
    refine (Hop _).out.mono ?_
    rintro e w3 ⟨rfl, hU3⟩
    have hB3 := hU3.blk hB2 (by simp)
    have hV4 := hV3.trans hU3
    obtain ⟨hc3, hf3, hz3⟩ := hV4.cells
    have hz3' : w.heap.size < w3.heap.size := by simp at hz3; omega
    have hsz3 : g0 < w3.heap.size := hB3.lt
    have hown : w3.ownsRow 0 9 1 (.slice (some ⟨g0, 0, none⟩) 1 1) 1 [.string (bs wd)] := own_of_blk hB3 (by show 1 ≤ maxLen; decide)
    clear hB2 hB3 hV3 hU3 hz3 hz1' hU1 hcc hfc hzc
    go_wp2_with fail
    refine (itoa_any n _ hn1 hn2 ((hm.upd hU0).upd hV4).tab).mono ?_
    rintro e w4 ⟨rfl, hU4⟩
    have hown4 := hU4.own hown (by simp)
    have hV5 := hV4.trans hU4
    obtain ⟨hc4, hf4, hz4⟩ := hV5.cells
    have hz4' : w.heap.size < w4.heap.size := by simp at hz4; omega
    go_wp2_with (at_builtin; go_must (refine wpList_append_one _ rfl (.tmp 27) (.tmp 31) 43 rfl 9 i0 _ 1 16 Tryz.underlying43 hi0 qz0 qz1 qz2 rfl (by decide) (by decide) (.slice (some ⟨g0, 0, none⟩) 1 1) 1 [.string (bs wd)] rfl (by exact hown4.alloc _) (by omega) w4.heap.size 9 #[.string (bs (Lib.itoa n))] rfl (by exact Blk.new_at (by simp)) rfl rfl ?_); intro ga5 capa5 wa5 howna5 hga5 hata5; have hgea5 : w.heap.size < ga5 := (by rcases hata5 with h | h <;> simp [Value.ownBlock] at h <;> omega); have hVa5 := (hV5.alloc (.cells #[.string (bs (Lib.itoa n))] 9)).grown hga5 (by intro q hq; right; simp [Value.ownBlock] at hq; simp; omega); obtain ⟨hca5, hfa5, hza5⟩ := hVa5.cells; have hya5 : w.heap.size < wa5.heap.size := (by simp at hza5; omega))
    refine (join_any ga5 2 capa5 [wd, Lib.itoa n] _ howna5 rfl (by omega) (by simp)).mono ?_
    rintro e w9 ⟨rfl, hU9⟩
    go_wp2
    go_ret2
    exact Hfin.out _ ((hU0.trans hVa5).trans hU9)

set_option maxHeartbeats 4000000 in
set_option maxRecDepth 100000 in
theorem print_2 (op n : Int) (tx : List UInt8) (r : RefL) (w : World) (hi : (InstL.mk op n tx r).fit) (hn : (InstL.mk op n tx r).num) (hm : Rdy w) (ho : (InstL.mk op n tx r).ok = true) (hk : kindL op = 2) :
    Calls Tryz.prog 50 #[(InstL.mk op n tx r).v] w (printPost ⟨op, n, tx, r⟩ w) := by
  obtain ⟨i0, hi0, qz0, qz1, qz2⟩ := info_parts infoString
  have hrng := run_known op hk (by decide)
  have hty := InstL.ok_ty ho
  simp only [hk] at hty
  have hle := InstL.text_le ho hn
  have hparts : (InstL.mk op n tx r).parts = [wordL op, Lib.itoa n] := by
    unfold InstL.parts
    simp only [hk]
    simp [hty.2.1]
  have hle1 := hle.1
  unfold InstL.text at hle1
  rw [hparts] at hle1
  have hfin : ∀ w', Upd w w' [] → printPost ⟨op, n, tx, r⟩ w (.returned (.tuple #[.string (bs (Lib.join [wordL op, Lib.itoa n] [32])), .int .i64 0])) w' := fun w' h => by
    unfold printPost InstL.text
    rw [ho, hparts]
    exact ⟨rfl, h⟩
  have Hfin := hid hfin
  have Hc := fun w hm => hid (check_any ⟨op, n, tx, r⟩ w hi hm)
  unfold checkPost at Hc
  rw [ho] at Hc
  have Hop := fun w => hid (operand_any op w)
  rw [hk] at Hop
  have Hs := fun w => hid (specs_at op (by omega) hrng.2 w)
  generalize (specT.getD op.toNat ([], 0)).2 = sk at Hs
  obtain ⟨wd, hwd⟩ : ∃ wd, wordL op = wd := ⟨_, rfl⟩
  rw [hwd] at Hs Hfin hle1
  have hf := field_spec0
  have hn1 := hn.1
  have hn2 := hn.2
  simp only at hn1 hn2
  have hlt := hty.1
  clear hfin hparts hle hwd hk hrng
  have hU0 : Upd w (w.alloc (.cells #[.int .i64 op, .int .i64 n, .string (bs tx), .bool r.ifc, .string (bs r.cls), .string (bs r.nm), .string (bs r.ds)] 90)) [] := (Upd.refl _ _).alloc _
  have htx : tx = [] := by simpa using hty.2.1
  subst htx
  rw [bs_nil] at hU0
  clear hty
  unfold InstL.v InstL.cells at Hc ⊢
  simp only [bs_nil] at Hc ⊢
  go_enter Tryz.func50, Tryz.ntmps50
  go_wp2_with fail
  refine (Hc _ (hm.upd hU0).max).out.mono ?_
  rintro e w1 ⟨rfl, hU1⟩
  obtain ⟨hc1, hf1, hz1⟩ := hU1.cells
  have hz1' : w.heap.size < w1.heap.size := by simp at hz1; omega
  simp only [errIf]
  have x0 : w1.cell? ⟨w.heap.size, 0, none⟩ = some (.int .i64 op) := by rw [hc1 _ _ (by simp)]; simp
  have Hc1 := hid hc1
  clear hc1 hf1
  go_upto_region 4 with fail
  go_cut [5] (fun s5 wx => ∃ g : Nat, s5 = .slice (some ⟨g, 0, none⟩) 1 1 ∧ Blk wx g 9 #[.string (bs wd)] ∧ w.heap.size < g ∧ Upd (w.alloc (.cells #[.int .i64 op, .int .i64 n, .string ⟨#[]⟩, .bool r.ifc, .string (bs r.cls), .string (bs r.nm), .string (bs r.ds)] 90)) wx [])
  case first =>
    go_region_held3 (fun W => W.cell? ⟨w.heap.size, 0, none⟩ = some (.int .i64 op)) (first | exact x0 | go_keep) (first
      | (go_at_call 91; refine (Hs _).out.mono ?_; rintro e w2 ⟨S, rfl, hr, hU2⟩; have x0 : w2.cell? ⟨w.heap.size, 0, none⟩ = some (.int .i64 op) := (by rw [hU2.cells.1 _ _ (by simp; omega)]; simp [x0])))
    all_goals
      go_wp2_with fail
      go_meet
      exact ⟨w2.heap.size, rfl, Blk.new _ _ _, by have := hU2.size; simp at this; omega, (hU1.drew.trans hU2).alloc _⟩
  case rest =>
    obtain ⟨g0, rfl, hB2, hge, hV3⟩ := hcut
    obtain ⟨hcc, hfc, hzc⟩ := hV3.cells
    have hzc' : w.heap.size < wc.heap.size := by simp at hzc; omega
    go_wp2_with fail
    refine (Hop _).out.mono ?_
    rintro e w3 ⟨rfl, hU3⟩
    have hB3 := hU3.blk hB2 (by simp)
    have hV4 := hV3.trans hU3
    obtain ⟨hc3, hf3, hz3⟩ := hV4.cells
    have hz3' : w.heap.size < w3.heap.size := by simp at hz3; omega
    have hsz3 : g0 < w3.heap.size := hB3.lt
    have hown : w3.ownsRow 0 9 1 (.slice (some ⟨g0, 0, none⟩) 1 1) 1 [.string (bs wd)] := own_of_blk hB3 (by show 1 ≤ maxLen; decide)
    clear hB2 hB3 hV3 hU3 hz3 hz1' hU1 hcc hfc hzc
    go_wp2_with fail
    refine (itoa_any n _ hn1 hn2 ((hm.upd hU0).upd hV4).tab).mono ?_
    rintro e w4 ⟨rfl, hU4⟩
    have hown4 := hU4.own hown (by simp)
    have hV5 := hV4.trans hU4
    obtain ⟨hc4, hf4, hz4⟩ := hV5.cells
    have hz4' : w.heap.size < w4.heap.size := by simp at hz4; omega
    go_wp2_with (at_builtin; go_must (refine wpList_append_one _ rfl (.tmp 27) (.tmp 31) 43 rfl 9 i0 _ 1 16 Tryz.underlying43 hi0 qz0 qz1 qz2 rfl (by decide) (by decide) (.slice (some ⟨g0, 0, none⟩) 1 1) 1 [.string (bs wd)] rfl (by exact hown4.alloc _) (by omega) w4.heap.size 9 #[.string (bs (Lib.itoa n))] rfl (by exact Blk.new_at (by simp)) rfl rfl ?_); intro ga5 capa5 wa5 howna5 hga5 hata5; have hgea5 : w.heap.size < ga5 := (by rcases hata5 with h | h <;> simp [Value.ownBlock] at h <;> omega); have hVa5 := (hV5.alloc (.cells #[.string (bs (Lib.itoa n))] 9)).grown hga5 (by intro q hq; right; simp [Value.ownBlock] at hq; simp; omega); obtain ⟨hca5, hfa5, hza5⟩ := hVa5.cells; have hya5 : w.heap.size < wa5.heap.size := (by simp at hza5; omega))
    refine (join_any ga5 2 capa5 [wd, Lib.itoa n] _ howna5 rfl (by omega) (by simp)).mono ?_
    rintro e w9 ⟨rfl, hU9⟩
    go_wp2
    go_ret2
    exact Hfin.out _ ((hU0.trans hVa5).trans hU9)

set_option maxHeartbeats 4000000 in
set_option maxRecDepth 100000 in
theorem print_3 (op n : Int) (tx : List UInt8) (r : RefL) (w : World) (hi : (InstL.mk op n tx r).fit) (hn : (InstL.mk op n tx r).num) (hm : Rdy w) (ho : (InstL.mk op n tx r).ok = true) (hk : kindL op = 3) :
    Calls Tryz.prog 50 #[(InstL.mk op n tx r).v] w (printPost ⟨op, n, tx, r⟩ w) := by
  obtain ⟨i0, hi0, qz0, qz1, qz2⟩ := info_parts infoString
  have hrng := run_known op hk (by decide)
  have hty := InstL.ok_ty ho
  simp only [hk] at hty
  have hle := InstL.text_le ho hn
  have hparts : (InstL.mk op n tx r).parts = [wordL op, Lib.itoa n] := by
    unfold InstL.parts
    simp only [hk]
    simp [hty.2.1]
  have hle1 := hle.1
  unfold InstL.text at hle1
  rw [hparts] at hle1
  have hfin : ∀ w', Upd w w' [] → printPost ⟨op, n, tx, r⟩ w (.returned (.tuple #[.string (bs (Lib.join [wordL op, Lib.itoa n] [32])), .int .i64 0])) w' := fun w' h => by
    unfold printPost InstL.text
    rw [ho, hparts]
    exact ⟨rfl, h⟩
  have Hfin := hid hfin
  have Hc := fun w hm => hid (check_any ⟨op, n, tx, r⟩ w hi hm)
  unfold checkPost at Hc
  rw [ho] at Hc
  have Hop := fun w => hid (operand_any op w)
  rw [hk] at Hop
  have Hs := fun w => hid (specs_at op (by omega) hrng.2 w)
  generalize (specT.getD op.toNat ([], 0)).2 = sk at Hs
  obtain ⟨wd, hwd⟩ : ∃ wd, wordL op = wd := ⟨_, rfl⟩
  rw [hwd] at Hs Hfin hle1
  have hf := field_spec0
  have hn1 := hn.1
  have hn2 := hn.2
  simp only at hn1 hn2
  have hlt := hty.1
  clear hfin hparts hle hwd hk hrng
  have hU0 : Upd w (w.alloc (.cells #[.int .i64 op, .int .i64 n, .string (bs tx), .bool r.ifc, .string (bs r.cls), .string (bs r.nm), .string (bs r.ds)] 90)) [] := (Upd.refl _ _).alloc _
  have htx : tx = [] := by simpa using hty.2.1
  subst htx
  rw [bs_nil] at hU0
  clear hty
  unfold InstL.v InstL.cells at Hc ⊢
  simp only [bs_nil] at Hc ⊢
  go_enter Tryz.func50, Tryz.ntmps50
  go_wp2_with fail
  refine (Hc _ (hm.upd hU0).max).out.mono ?_
  rintro e w1 ⟨rfl, hU1⟩
  obtain ⟨hc1, hf1, hz1⟩ := hU1.cells
  have hz1' : w.heap.size < w1.heap.size := by simp at hz1; omega
  simp only [errIf]
  have x0 : w1.cell? ⟨w.heap.size, 0, none⟩ = some (.int .i64 op) := by rw [hc1 _ _ (by simp)]; simp
  have Hc1 := hid hc1
  clear hc1 hf1
  go_upto_region 4 with fail
  go_cut [5] (fun s5 wx => ∃ g : Nat, s5 = .slice (some ⟨g, 0, none⟩) 1 1 ∧ Blk wx g 9 #[.string (bs wd)] ∧ w.heap.size < g ∧ Upd (w.alloc (.cells #[.int .i64 op, .int .i64 n, .string ⟨#[]⟩, .bool r.ifc, .string (bs r.cls), .string (bs r.nm), .string (bs r.ds)] 90)) wx [])
  case first =>
    go_region_held3 (fun W => W.cell? ⟨w.heap.size, 0, none⟩ = some (.int .i64 op)) (first | exact x0 | go_keep) (first
      | (go_at_call 91; refine (Hs _).out.mono ?_; rintro e w2 ⟨S, rfl, hr, hU2⟩; have x0 : w2.cell? ⟨w.heap.size, 0, none⟩ = some (.int .i64 op) := (by rw [hU2.cells.1 _ _ (by simp; omega)]; simp [x0])))
    all_goals
      go_wp2_with fail
      go_meet
      exact ⟨w2.heap.size, rfl, Blk.new _ _ _, by have := hU2.size; simp at this; omega, (hU1.drew.trans hU2).alloc _⟩
  case rest =>
    obtain ⟨g0, rfl, hB2, hge, hV3⟩ := hcut
    obtain ⟨hcc, hfc, hzc⟩ := hV3.cells
    have hzc' : w.heap.size < wc.heap.size := by simp at hzc; omega
    go_wp2_with fail
    refine (Hop _).out.mono ?_
    rintro e w3 ⟨rfl, hU3⟩
    have hB3 := hU3.blk hB2 (by simp)
    have hV4 := hV3.trans hU3
    obtain ⟨hc3, hf3, hz3⟩ := hV4.cells
    have hz3' : w.heap.size < w3.heap.size := by simp at hz3; omega
    have hsz3 : g0 < w3.heap.size := hB3.lt
    have hown : w3.ownsRow 0 9 1 (.slice (some ⟨g0, 0, none⟩) 1 1) 1 [.string (bs wd)] := own_of_blk hB3 (by show 1 ≤ maxLen; decide)
    clear hB2 hB3 hV3 hU3 hz3 hz1' hU1 hcc hfc hzc
    go_wp2_with fail
    refine (itoa_any n _ hn1 hn2 ((hm.upd hU0).upd hV4).tab).mono ?_
    rintro e w4 ⟨rfl, hU4⟩
    have hown4 := hU4.own hown (by simp)
    have hV5 := hV4.trans hU4
    obtain ⟨hc4, hf4, hz4⟩ := hV5.cells
    have hz4' : w.heap.size < w4.heap.size := by simp at hz4; omega
    go_wp2_with (at_builtin; go_must (refine wpList_append_one _ rfl (.tmp 27) (.tmp 31) 43 rfl 9 i0 _ 1 16 Tryz.underlying43 hi0 qz0 qz1 qz2 rfl (by decide) (by decide) (.slice (some ⟨g0, 0, none⟩) 1 1) 1 [.string (bs wd)] rfl (by exact hown4.alloc _) (by omega) w4.heap.size 9 #[.string (bs (Lib.itoa n))] rfl (by exact Blk.new_at (by simp)) rfl rfl ?_); intro ga5 capa5 wa5 howna5 hga5 hata5; have hgea5 : w.heap.size < ga5 := (by rcases hata5 with h | h <;> simp [Value.ownBlock] at h <;> omega); have hVa5 := (hV5.alloc (.cells #[.string (bs (Lib.itoa n))] 9)).grown hga5 (by intro q hq; right; simp [Value.ownBlock] at hq; simp; omega); obtain ⟨hca5, hfa5, hza5⟩ := hVa5.cells; have hya5 : w.heap.size < wa5.heap.size := (by simp at hza5; omega))
    refine (join_any ga5 2 capa5 [wd, Lib.itoa n] _ howna5 rfl (by omega) (by simp)).mono ?_
    rintro e w9 ⟨rfl, hU9⟩
    go_wp2
    go_ret2
    exact Hfin.out _ ((hU0.trans hVa5).trans hU9)

set_option maxHeartbeats 4000000 in
set_option maxRecDepth 100000 in
theorem print_4 (op n : Int) (tx : List UInt8) (r : RefL) (w : World) (hi : (InstL.mk op n tx r).fit) (hn : (InstL.mk op n tx r).num) (hm : Rdy w) (ho : (InstL.mk op n tx r).ok = true) (hk : kindL op = 4) :
    Calls Tryz.prog 50 #[(InstL.mk op n tx r).v] w (printPost ⟨op, n, tx, r⟩ w) := by
  obtain ⟨i0, hi0, qz0, qz1, qz2⟩ := info_parts infoString
  have hrng := run_known op hk (by decide)
  have hty := InstL.ok_ty ho
  simp only [hk] at hty
  have hle := InstL.text_le ho hn
  have hparts : (InstL.mk op n tx r).parts = [wordL op, tx] := by
    unfold InstL.parts
    simp only [hk]
    simp [hty.2.1]
  have hle1 := hle.1
  unfold InstL.text at hle1
  rw [hparts] at hle1
  have hfin : ∀ w', Upd w w' [] → printPost ⟨op, n, tx, r⟩ w (.returned (.tuple #[.string (bs (Lib.join [wordL op, tx] [32])), .int .i64 0])) w' := fun w' h => by
    unfold printPost InstL.text
    rw [ho, hparts]
    exact ⟨rfl, h⟩
  have Hfin := hid hfin
  have Hc := fun w hm => hid (check_any ⟨op, n, tx, r⟩ w hi hm)
  unfold checkPost at Hc
  rw [ho] at Hc
  have Hop := fun w => hid (operand_any op w)
  rw [hk] at Hop
  have Hs := fun w => hid (specs_at op (by omega) hrng.2 w)
  generalize (specT.getD op.toNat ([], 0)).2 = sk at Hs
  obtain ⟨wd, hwd⟩ : ∃ wd, wordL op = wd := ⟨_, rfl⟩
  rw [hwd] at Hs Hfin hle1
  have hf := field_spec0
  have hn1 := hn.1
  have hn2 := hn.2
  simp only at hn1 hn2
  have hlt := hty.1
  clear hfin hparts hle hwd hk hrng
  have hU0 : Upd w (w.alloc (.cells #[.int .i64 op, .int .i64 n, .string (bs tx), .bool r.ifc, .string (bs r.cls), .string (bs r.nm), .string (bs r.ds)] 90)) [] := (Upd.refl _ _).alloc _
  have htx : ¬ tx = [] := by simpa using hty.2.1
  have he1 : (bs tx).toList.isEmpty = false := by rw [bs_toList]; simpa using htx
  have he2 : ¬ (bs tx).toList = [] := by rw [bs_toList]; exact htx
  clear hty
  unfold InstL.v InstL.cells at Hc ⊢
  simp only at Hc ⊢
  go_enter Tryz.func50, Tryz.ntmps50
  go_wp2_with fail
  refine (Hc _ (hm.upd hU0).max).out.mono ?_
  rintro e w1 ⟨rfl, hU1⟩
  obtain ⟨hc1, hf1, hz1⟩ := hU1.cells
  have hz1' : w.heap.size < w1.heap.size := by simp at hz1; omega
  simp only [errIf]
  have x0 : w1.cell? ⟨w.heap.size, 0, none⟩ = some (.int .i64 op) := by rw [hc1 _ _ (by simp)]; simp
  have Hc1 := hid hc1
  clear hc1 hf1
  go_upto_region 4 with fail
  go_cut [5] (fun s5 wx => ∃ g : Nat, s5 = .slice (some ⟨g, 0, none⟩) 1 1 ∧ Blk wx g 9 #[.string (bs wd)] ∧ w.heap.size < g ∧ Upd (w.alloc (.cells #[.int .i64 op, .int .i64 n, .string (bs tx), .bool r.ifc, .string (bs r.cls), .string (bs r.nm), .string (bs r.ds)] 90)) wx [])
  case first =>
    go_region_held3 (fun W => W.cell? ⟨w.heap.size, 0, none⟩ = some (.int .i64 op)) (first | exact x0 | go_keep) (first
      | (go_at_call 91; refine (Hs _).out.mono ?_; rintro e w2 ⟨S, rfl, hr, hU2⟩; have x0 : w2.cell? ⟨w.heap.size, 0, none⟩ = some (.int .i64 op) := (by rw [hU2.cells.1 _ _ (by simp; omega)]; simp [x0])))
    all_goals
      go_wp2_with fail
      go_meet
      exact ⟨w2.heap.size, rfl, Blk.new _ _ _, by have := hU2.size; simp at this; omega, (hU1.drew.trans hU2).alloc _⟩
  case rest =>
    obtain ⟨g0, rfl, hB2, hge, hV3⟩ := hcut
    obtain ⟨hcc, hfc, hzc⟩ := hV3.cells
    have hzc' : w.heap.size < wc.heap.size := by simp at hzc; omega
    go_wp2_with fail
    refine (Hop _).out.mono ?_
    rintro e w3 ⟨rfl, hU3⟩
    have hB3 := hU3.blk hB2 (by simp)
    have hV4 := hV3.trans hU3
    obtain ⟨hc3, hf3, hz3⟩ := hV4.cells
    have hz3' : w.heap.size < w3.heap.size := by simp at hz3; omega
    have hsz3 : g0 < w3.heap.size := hB3.lt
    have hown : w3.ownsRow 0 9 1 (.slice (some ⟨g0, 0, none⟩) 1 1) 1 [.string (bs wd)] := own_of_blk hB3 (by show 1 ≤ maxLen; decide)
    clear hB2 hB3 hV3 hU3 hz3 hz1' hU1 hcc hfc hzc
    go_wp2_with (at_builtin; go_must (refine wpList_append_one _ rfl (.tmp 48) (.tmp 51) 43 rfl 9 i0 _ 1 16 Tryz.underlying43 hi0 qz0 qz1 qz2 rfl (by decide) (by decide) (.slice (some ⟨g0, 0, none⟩) 1 1) 1 [.string (bs wd)] rfl (by exact hown.alloc _) (by omega) w3.heap.size 9 #[.string (bs (tx))] rfl (by exact Blk.new_at (by simp)) rfl rfl ?_); intro ga5 capa5 wa5 howna5 hga5 hata5; have hgea5 : w.heap.size < ga5 := (by rcases hata5 with h | h <;> simp [Value.ownBlock] at h <;> omega); have hVa5 := (hV4.alloc (.cells #[.string (bs (tx))] 9)).grown hga5 (by intro q hq; right; simp [Value.ownBlock] at hq; simp; omega); obtain ⟨hca5, hfa5, hza5⟩ := hVa5.cells; have hya5 : w.heap.size < wa5.heap.size := (by simp at hza5; omega))
    refine (join_any ga5 2 capa5 [wd, tx] _ howna5 rfl (by omega) (by simp)).mono ?_
    rintro e w9 ⟨rfl, hU9⟩
    go_wp2
    go_ret2
    exact Hfin.out _ ((hU0.trans hVa5).trans hU9)

set_option maxHeartbeats 4000000 in
set_option maxRecDepth 100000 in
theorem print_5 (op n : Int) (tx : List UInt8) (r : RefL) (w : World) (hi : (InstL.mk op n tx r).fit) (hn : (InstL.mk op n tx r).num) (hm : Rdy w) (ho : (InstL.mk op n tx r).ok = true) (hk : kindL op = 5) :
    Calls Tryz.prog 50 #[(InstL.mk op n tx r).v] w (printPost ⟨op, n, tx, r⟩ w) := by
  obtain ⟨i0, hi0, qz0, qz1, qz2⟩ := info_parts infoString
  have hrng := run_known op hk (by decide)
  have hty := InstL.ok_ty ho
  simp only [hk] at hty
  have hle := InstL.text_le ho hn
  have hparts : (InstL.mk op n tx r).parts = [wordL op, tx] := by
    unfold InstL.parts
    simp only [hk]
    simp [hty.2.1]
  have hle1 := hle.1
  unfold InstL.text at hle1
  rw [hparts] at hle1
  have hfin : ∀ w', Upd w w' [] → printPost ⟨op, n, tx, r⟩ w (.returned (.tuple #[.string (bs (Lib.join [wordL op, tx] [32])), .int .i64 0])) w' := fun w' h => by
    unfold printPost InstL.text
    rw [ho, hparts]
    exact ⟨rfl, h⟩
  have Hfin := hid hfin
  have Hc := fun w hm => hid (check_any ⟨op, n, tx, r⟩ w hi hm)
  unfold checkPost at Hc
  rw [ho] at Hc
  have Hop := fun w => hid (operand_any op w)
  rw [hk] at Hop
  have Hs := fun w => hid (specs_at op (by omega) hrng.2 w)
  generalize (specT.getD op.toNat ([], 0)).2 = sk at Hs
  obtain ⟨wd, hwd⟩ : ∃ wd, wordL op = wd := ⟨_, rfl⟩
  rw [hwd] at Hs Hfin hle1
  have hf := field_spec0
  have hn1 := hn.1
  have hn2 := hn.2
  simp only at hn1 hn2
  have hlt := hty.1
  clear hfin hparts hle hwd hk hrng
  have hU0 : Upd w (w.alloc (.cells #[.int .i64 op, .int .i64 n, .string (bs tx), .bool r.ifc, .string (bs r.cls), .string (bs r.nm), .string (bs r.ds)] 90)) [] := (Upd.refl _ _).alloc _
  have htx : ¬ tx = [] := by simpa using hty.2.1
  have he1 : (bs tx).toList.isEmpty = false := by rw [bs_toList]; simpa using htx
  have he2 : ¬ (bs tx).toList = [] := by rw [bs_toList]; exact htx
  clear hty
  unfold InstL.v InstL.cells at Hc ⊢
  simp only at Hc ⊢
  go_enter Tryz.func50, Tryz.ntmps50
  go_wp2_with fail
  refine (Hc _ (hm.upd hU0).max).out.mono ?_
  rintro e w1 ⟨rfl, hU1⟩
  obtain ⟨hc1, hf1, hz1⟩ := hU1.cells
  have hz1' : w.heap.size < w1.heap.size := by simp at hz1; omega
  simp only [errIf]
  have x0 : w1.cell? ⟨w.heap.size, 0, none⟩ = some (.int .i64 op) := by rw [hc1 _ _ (by simp)]; simp
  have Hc1 := hid hc1
  clear hc1 hf1
  go_upto_region 4 with fail
  go_cut [5] (fun s5 wx => ∃ g : Nat, s5 = .slice (some ⟨g, 0, none⟩) 1 1 ∧ Blk wx g 9 #[.string (bs wd)] ∧ w.heap.size < g ∧ Upd (w.alloc (.cells #[.int .i64 op, .int .i64 n, .string (bs tx), .bool r.ifc, .string (bs r.cls), .string (bs r.nm), .string (bs r.ds)] 90)) wx [])
  case first =>
    go_region_held3 (fun W => W.cell? ⟨w.heap.size, 0, none⟩ = some (.int .i64 op)) (first | exact x0 | go_keep) (first
      | (go_at_call 91; refine (Hs _).out.mono ?_; rintro e w2 ⟨S, rfl, hr, hU2⟩; have x0 : w2.cell? ⟨w.heap.size, 0, none⟩ = some (.int .i64 op) := (by rw [hU2.cells.1 _ _ (by simp; omega)]; simp [x0])))
    all_goals
      go_wp2_with fail
      go_meet
      exact ⟨w2.heap.size, rfl, Blk.new _ _ _, by have := hU2.size; simp at this; omega, (hU1.drew.trans hU2).alloc _⟩
  case rest =>
    obtain ⟨g0, rfl, hB2, hge, hV3⟩ := hcut
    obtain ⟨hcc, hfc, hzc⟩ := hV3.cells
    have hzc' : w.heap.size < wc.heap.size := by simp at hzc; omega
    go_wp2_with fail
    refine (Hop _).out.mono ?_
    rintro e w3 ⟨rfl, hU3⟩
    have hB3 := hU3.blk hB2 (by simp)
    have hV4 := hV3.trans hU3
    obtain ⟨hc3, hf3, hz3⟩ := hV4.cells
    have hz3' : w.heap.size < w3.heap.size := by simp at hz3; omega
    have hsz3 : g0 < w3.heap.size := hB3.lt
    have hown : w3.ownsRow 0 9 1 (.slice (some ⟨g0, 0, none⟩) 1 1) 1 [.string (bs wd)] := own_of_blk hB3 (by show 1 ≤ maxLen; decide)
    clear hB2 hB3 hV3 hU3 hz3 hz1' hU1 hcc hfc hzc
    go_wp2_with (at_builtin; go_must (refine wpList_append_one _ rfl (.tmp 48) (.tmp 51) 43 rfl 9 i0 _ 1 16 Tryz.underlying43 hi0 qz0 qz1 qz2 rfl (by decide) (by decide) (.slice (some ⟨g0, 0, none⟩) 1 1) 1 [.string (bs wd)] rfl (by exact hown.alloc _) (by omega) w3.heap.size 9 #[.string (bs (tx))] rfl (by exact Blk.new_at (by simp)) rfl rfl ?_); intro ga5 capa5 wa5 howna5 hga5 hata5; have hgea5 : w.heap.size < ga5 := (by rcases hata5 with h | h <;> simp [Value.ownBlock] at h <;> omega); have hVa5 := (hV4.alloc (.cells #[.string (bs (tx))] 9)).grown hga5 (by intro q hq; right; simp [Value.ownBlock] at hq; simp; omega); obtain ⟨hca5, hfa5, hza5⟩ := hVa5.cells; have hya5 : w.heap.size < wa5.heap.size := (by simp at hza5; omega))
    refine (join_any ga5 2 capa5 [wd, tx] _ howna5 rfl (by omega) (by simp)).mono ?_
    rintro e w9 ⟨rfl, hU9⟩
    go_wp2
    go_ret2
    exact Hfin.out _ ((hU0.trans hVa5).trans hU9)

set_option maxHeartbeats 4000000 in
set_option maxRecDepth 100000 in
theorem print_6 (op n : Int) (tx : List UInt8) (r : RefL) (w : World) (hi : (InstL.mk op n tx r).fit) (hn : (InstL.mk op n tx r).num) (hm : Rdy w) (ho : (InstL.mk op n tx r).ok = true) (hk : kindL op = 6) :
    Calls Tryz.prog 50 #[(InstL.mk op n tx r).v] w (printPost ⟨op, n, tx, r⟩ w) := by
  obtain ⟨i0, hi0, qz0, qz1, qz2⟩ := info_parts infoString
  have hrng := run_known op hk (by decide)
  have hty := InstL.ok_ty ho
  simp only [hk] at hty
  have hle := InstL.text_le ho hn
  have hparts : (InstL.mk op n tx r).parts = [wordL op, tx] := by
    unfold InstL.parts
    simp only [hk]
    simp [hty.2.1]
  have hle1 := hle.1
  unfold InstL.text at hle1
  rw [hparts] at hle1
  have hfin : ∀ w', Upd w w' [] → printPost ⟨op, n, tx, r⟩ w (.returned (.tuple #[.string (bs (Lib.join [wordL op, tx] [32])), .int .i64 0])) w' := fun w' h => by
    unfold printPost InstL.text
    rw [ho, hparts]
    exact ⟨rfl, h⟩
  have Hfin := hid hfin
  have Hc := fun w hm => hid (check_any ⟨op, n, tx, r⟩ w hi hm)
  unfold checkPost at Hc
  rw [ho] at Hc
  have Hop := fun w => hid (operand_any op w)
  rw [hk] at Hop
  have Hs := fun w => hid (specs_at op (by omega) hrng.2 w)
  generalize (specT.getD op.toNat ([], 0)).2 = sk at Hs
  obtain ⟨wd, hwd⟩ : ∃ wd, wordL op = wd := ⟨_, rfl⟩
  rw [hwd] at Hs Hfin hle1
  have hf := field_spec0
  have hn1 := hn.1
  have hn2 := hn.2
  simp only at hn1 hn2
  have hlt := hty.1
  clear hfin hparts hle hwd hk hrng
  have hU0 : Upd w (w.alloc (.cells #[.int .i64 op, .int .i64 n, .string (bs tx), .bool r.ifc, .string (bs r.cls), .string (bs r.nm), .string (bs r.ds)] 90)) [] := (Upd.refl _ _).alloc _
  have htx : ¬ tx = [] := by simpa using hty.2.1
  have he1 : (bs tx).toList.isEmpty = false := by rw [bs_toList]; simpa using htx
  have he2 : ¬ (bs tx).toList = [] := by rw [bs_toList]; exact htx
  clear hty
  unfold InstL.v InstL.cells at Hc ⊢
  simp only at Hc ⊢
  go_enter Tryz.func50, Tryz.ntmps50
  go_wp2_with fail
  refine (Hc _ (hm.upd hU0).max).out.mono ?_
  rintro e w1 ⟨rfl, hU1⟩
  obtain ⟨hc1, hf1, hz1⟩ := hU1.cells
  have hz1' : w.heap.size < w1.heap.size := by simp at hz1; omega
  simp only [errIf]
  have x0 : w1.cell? ⟨w.heap.size, 0, none⟩ = some (.int .i64 op) := by rw [hc1 _ _ (by simp)]; simp
  have Hc1 := hid hc1
  clear hc1 hf1
  go_upto_region 4 with fail
  go_cut [5] (fun s5 wx => ∃ g : Nat, s5 = .slice (some ⟨g, 0, none⟩) 1 1 ∧ Blk wx g 9 #[.string (bs wd)] ∧ w.heap.size < g ∧ Upd (w.alloc (.cells #[.int .i64 op, .int .i64 n, .string (bs tx), .bool r.ifc, .string (bs r.cls), .string (bs r.nm), .string (bs r.ds)] 90)) wx [])
  case first =>
    go_region_held3 (fun W => W.cell? ⟨w.heap.size, 0, none⟩ = some (.int .i64 op)) (first | exact x0 | go_keep) (first
      | (go_at_call 91; refine (Hs _).out.mono ?_; rintro e w2 ⟨S, rfl, hr, hU2⟩; have x0 : w2.cell? ⟨w.heap.size, 0, none⟩ = some (.int .i64 op) := (by rw [hU2.cells.1 _ _ (by simp; omega)]; simp [x0])))
    all_goals
      go_wp2_with fail
      go_meet
      exact ⟨w2.heap.size, rfl, Blk.new _ _ _, by have := hU2.size; simp at this; omega, (hU1.drew.trans hU2).alloc _⟩
  case rest =>
    obtain ⟨g0, rfl, hB2, hge, hV3⟩ := hcut
    obtain ⟨hcc, hfc, hzc⟩ := hV3.cells
    have hzc' : w.heap.size < wc.heap.size := by simp at hzc; omega
    go_wp2_with fail
    refine (Hop _).out.mono ?_
    rintro e w3 ⟨rfl, hU3⟩
    have hB3 := hU3.blk hB2 (by simp)
    have hV4 := hV3.trans hU3
    obtain ⟨hc3, hf3, hz3⟩ := hV4.cells
    have hz3' : w.heap.size < w3.heap.size := by simp at hz3; omega
    have hsz3 : g0 < w3.heap.size := hB3.lt
    have hown : w3.ownsRow 0 9 1 (.slice (some ⟨g0, 0, none⟩) 1 1) 1 [.string (bs wd)] := own_of_blk hB3 (by show 1 ≤ maxLen; decide)
    clear hB2 hB3 hV3 hU3 hz3 hz1' hU1 hcc hfc hzc
    go_wp2_with (at_builtin; go_must (refine wpList_append_one _ rfl (.tmp 48) (.tmp 51) 43 rfl 9 i0 _ 1 16 Tryz.underlying43 hi0 qz0 qz1 qz2 rfl (by decide) (by decide) (.slice (some ⟨g0, 0, none⟩) 1 1) 1 [.string (bs wd)] rfl (by exact hown.alloc _) (by omega) w3.heap.size 9 #[.string (bs (tx))] rfl (by exact Blk.new_at (by simp)) rfl rfl ?_); intro ga5 capa5 wa5 howna5 hga5 hata5; have hgea5 : w.heap.size < ga5 := (by rcases hata5 with h | h <;> simp [Value.ownBlock] at h <;> omega); have hVa5 := (hV4.alloc (.cells #[.string (bs (tx))] 9)).grown hga5 (by intro q hq; right; simp [Value.ownBlock] at hq; simp; omega); obtain ⟨hca5, hfa5, hza5⟩ := hVa5.cells; have hya5 : w.heap.size < wa5.heap.size := (by simp at hza5; omega))
    refine (join_any ga5 2 capa5 [wd, tx] _ howna5 rfl (by omega) (by simp)).mono ?_
    rintro e w9 ⟨rfl, hU9⟩
    go_wp2
    go_ret2
    exact Hfin.out _ ((hU0.trans hVa5).trans hU9)

set_option maxHeartbeats 4000000 in
set_option maxRecDepth 100000 in
theorem print_7 (op n : Int) (tx : List UInt8) (r : RefL) (w : World) (hi : (InstL.mk op n tx r).fit) (hn : (InstL.mk op n tx r).num) (hm : Rdy w) (ho : (InstL.mk op n tx r).ok = true) (hk : kindL op = 7) :
    Calls Tryz.prog 50 #[(InstL.mk op n tx r).v] w (printPost ⟨op, n, tx, r⟩ w) := by
  obtain ⟨i0, hi0, qz0, qz1, qz2⟩ := info_parts infoString
  have hrng := run_known op hk (by decide)
  have hty := InstL.ok_ty ho
  simp only [hk] at hty
  have hle := InstL.text_le ho hn
  have hparts : (InstL.mk op n tx r).parts = [wordL op, Lib.itoa n, tx] := by
    unfold InstL.parts
    simp only [hk]
    simp [hty.2.1]
  have hle1 := hle.1
  unfold InstL.text at hle1
  rw [hparts] at hle1
  have hfin : ∀ w', Upd w w' [] → printPost ⟨op, n, tx, r⟩ w (.returned (.tuple #[.string (bs (Lib.join [wordL op, Lib.itoa n, tx] [32])), .int .i64 0])) w' := fun w' h => by
    unfold printPost InstL.text
    rw [ho, hparts]
    exact ⟨rfl, h⟩
  have Hfin := hid hfin
  have Hc := fun w hm => hid (check_any ⟨op, n, tx, r⟩ w hi hm)
  unfold checkPost at Hc
  rw [ho] at Hc
  have Hop := fun w => hid (operand_any op w)
  rw [hk] at Hop
  have Hs := fun w => hid (specs_at op (by omega) hrng.2 w)
  generalize (specT.getD op.toNat ([], 0)).2 = sk at Hs
  obtain ⟨wd, hwd⟩ : ∃ wd, wordL op = wd := ⟨_, rfl⟩
  rw [hwd] at Hs Hfin hle1
  have hf := field_spec0
  have hn1 := hn.1
  have hn2 := hn.2
  simp only at hn1 hn2
  have hlt := hty.1
  clear hfin hparts hle hwd hk hrng
  have hU0 : Upd w (w.alloc (.cells #[.int .i64 op, .int .i64 n, .string (bs tx), .bool r.ifc, .string (bs r.cls), .string (bs r.nm), .string (bs r.ds)] 90)) [] := (Upd.refl _ _).alloc _
  have htx : ¬ tx = [] := by simpa using hty.2.1
  have he1 : (bs tx).toList.isEmpty = false := by rw [bs_toList]; simpa using htx
  have he2 : ¬ (bs tx).toList = [] := by rw [bs_toList]; exact htx
  clear hty
  unfold InstL.v InstL.cells at Hc ⊢
  simp only at Hc ⊢
  go_enter Tryz.func50, Tryz.ntmps50
  go_wp2_with fail
  refine (Hc _ (hm.upd hU0).max).out.mono ?_
  rintro e w1 ⟨rfl, hU1⟩
  obtain ⟨hc1, hf1, hz1⟩ := hU1.cells
  have hz1' : w.heap.size < w1.heap.size := by simp at hz1; omega
  simp only [errIf]
  have x0 : w1.cell? ⟨w.heap.size, 0, none⟩ = some (.int .i64 op) := by rw [hc1 _ _ (by simp)]; simp
  have Hc1 := hid hc1
  clear hc1 hf1
  go_upto_region 4 with fail
  go_cut [5] (fun s5 wx => ∃ g : Nat, s5 = .slice (some ⟨g, 0, none⟩) 1 1 ∧ Blk wx g 9 #[.string (bs wd)] ∧ w.heap.size < g ∧ Upd (w.alloc (.cells #[.int .i64 op, .int .i64 n, .string (bs tx), .bool r.ifc, .string (bs r.cls), .string (bs r.nm), .string (bs r.ds)] 90)) wx [])
  case first =>
    go_region_held3 (fun W => W.cell? ⟨w.heap.size, 0, none⟩ = some (.int .i64 op)) (first | exact x0 | go_keep) (first
      | (go_at_call 91; refine (Hs _).out.mono ?_; rintro e w2 ⟨S, rfl, hr, hU2⟩; have x0 : w2.cell? ⟨w.heap.size, 0, none⟩ = some (.int .i64 op) := (by rw [hU2.cells.1 _ _ (by simp; omega)]; simp [x0])))
    all_goals
      go_wp2_with fail
      go_meet
      exact ⟨w2.heap.size, rfl, Blk.new _ _ _, by have := hU2.size; simp at this; omega, (hU1.drew.trans hU2).alloc _⟩
  case rest =>
    obtain ⟨g0, rfl, hB2, hge, hV3⟩ := hcut
    obtain ⟨hcc, hfc, hzc⟩ := hV3.cells
    have hzc' : w.heap.size < wc.heap.size := by simp at hzc; omega
    go_wp2_with fail
    refine (Hop _).out.mono ?_
    rintro e w3 ⟨rfl, hU3⟩
    have hB3 := hU3.blk hB2 (by simp)
    have hV4 := hV3.trans hU3
    obtain ⟨hc3, hf3, hz3⟩ := hV4.cells
    have hz3' : w.heap.size < w3.heap.size := by simp at hz3; omega
    have hsz3 : g0 < w3.heap.size := hB3.lt
    have hown : w3.ownsRow 0 9 1 (.slice (some ⟨g0, 0, none⟩) 1 1) 1 [.string (bs wd)] := own_of_blk hB3 (by show 1 ≤ maxLen; decide)
    clear hB2 hB3 hV3 hU3 hz3 hz1' hU1 hcc hfc hzc
    go_wp2_with fail
    refine (itoa_any n _ hn1 hn2 ((hm.upd hU0).upd hV4).tab).mono ?_
    rintro e w4 ⟨rfl, hU4⟩
    have hown4 := hU4.own hown (by simp)
    have hV5 := hV4.trans hU4
    obtain ⟨hc4, hf4, hz4⟩ := hV5.cells
    have hz4' : w.heap.size < w4.heap.size := by simp at hz4; omega
    go_wp2_with (first
      | (at_builtin; (refine wpList_append_one _ rfl (.tmp 27) (.tmp 31) 43 rfl 9 i0 _ 1 16 Tryz.underlying43 hi0 qz0 qz1 qz2 rfl (by decide) (by decide) (.slice (some ⟨g0, 0, none⟩) 1 1) 1 [.string (bs wd)] rfl (by exact hown4.alloc _) (by omega) w4.heap.size 9 #[.string (bs (Lib.itoa n))] rfl (by exact Blk.new_at (by simp)) rfl rfl ?_); intro ga5 capa5 wa5 howna5 hga5 hata5; have hgea5 : w.heap.size < ga5 := (by rcases hata5 with h | h <;> simp [Value.ownBlock] at h <;> omega); have hVa5 := (hV5.alloc (.cells #[.string (bs (Lib.itoa n))] 9)).grown hga5 (by intro q hq; right; simp [Value.ownBlock] at hq; simp; omega); obtain ⟨hca5, hfa5, hza5⟩ := hVa5.cells; have hya5 : w.heap.size < wa5.heap.size := (by simp at hza5; omega))
      | (at_builtin; (refine wpList_append_one _ rfl (.tmp 48) (.tmp 51) 43 rfl 9 i0 _ 1 16 Tryz.underlying43 hi0 qz0 qz1 qz2 rfl (by decide) (by decide) (.slice (some ⟨ga5, 0, none⟩) 2 capa5) 2 [.string (bs wd), .string (bs (Lib.itoa n))] rfl (by exact howna5.alloc _) (by omega) wa5.heap.size 9 #[.string (bs (tx))] rfl (by exact Blk.new_at (by simp)) rfl rfl ?_); intro ga6 capa6 wa6 howna6 hga6 hata6; have hgea6 : w.heap.size < ga6 := (by rcases hata6 with h | h <;> simp [Value.ownBlock] at h <;> omega); have hVa6 := (hVa5.alloc (.cells #[.string (bs (tx))] 9)).grown hga6 (by intro q hq; right; simp [Value.ownBlock] at hq; simp; omega); obtain ⟨hca6, hfa6, hza6⟩ := hVa6.cells; have hya6 : w.heap.size < wa6.heap.size := (by simp at hza6; omega)))
    refine (join_any ga6 3 capa6 [wd, Lib.itoa n, tx] _ howna6 rfl (by omega) (by simp)).mono ?_
    rintro e w9 ⟨rfl, hU9⟩
    go_wp2
    go_ret2
    exact Hfin.out _ ((hU0.trans hVa6).trans hU9)

set_option maxHeartbeats 4000000 in
set_option maxRecDepth 100000 in
theorem print_8 (op n : Int) (tx : List UInt8) (r : RefL) (w : World) (hi : (InstL.mk op n tx r).fit) (hn : (InstL.mk op n tx r).num) (hm : Rdy w) (ho : (InstL.mk op n tx r).ok = true) (hk : kindL op = 8) :
    Calls Tryz.prog 50 #[(InstL.mk op n tx r).v] w (printPost ⟨op, n, tx, r⟩ w) := by
  obtain ⟨i0, hi0, qz0, qz1, qz2⟩ := info_parts infoString
  have hrng := run_known op hk (by decide)
  have hty := InstL.ok_ty ho
  simp only [hk] at hty
  have hle := InstL.text_le ho hn
  have hparts : (InstL.mk op n tx r).parts = [wordL op, r.text] := by
    unfold InstL.parts
    simp only [hk]
    simp [hty.2.1]
  have hle1 := hle.1
  unfold InstL.text at hle1
  rw [hparts] at hle1
  have hfin : ∀ w', Upd w w' [] → printPost ⟨op, n, tx, r⟩ w (.returned (.tuple #[.string (bs (Lib.join [wordL op, r.text] [32])), .int .i64 0])) w' := fun w' h => by
    unfold printPost InstL.text
    rw [ho, hparts]
    exact ⟨rfl, h⟩
  have Hfin := hid hfin
  have Hc := fun w hm => hid (check_any ⟨op, n, tx, r⟩ w hi hm)
  unfold checkPost at Hc
  rw [ho] at Hc
  have Hop := fun w => hid (operand_any op w)
  rw [hk] at Hop
  have Hs := fun w => hid (specs_at op (by omega) hrng.2 w)
  generalize (specT.getD op.toNat ([], 0)).2 = sk at Hs
  obtain ⟨wd, hwd⟩ : ∃ wd, wordL op = wd := ⟨_, rfl⟩
  rw [hwd] at Hs Hfin hle1
  have hf := field_spec0
  have Ht := fun w hm => hid (refText_any r w hi.2 hm)
  unfold refTextPost at Ht
  rw [hty.2.2.2 (by simp)] at Ht
  unfold RefL.v at Ht
  have hn1 := hn.1
  have hn2 := hn.2
  simp only at hn1 hn2
  have hlt := hty.1
  clear hfin hparts hle hwd hk hrng
  have hU0 : Upd w (w.alloc (.cells #[.int .i64 op, .int .i64 n, .string (bs tx), .bool r.ifc, .string (bs r.cls), .string (bs r.nm), .string (bs r.ds)] 90)) [] := (Upd.refl _ _).alloc _
  have htx : tx = [] := by simpa using hty.2.1
  subst htx
  rw [bs_nil] at hU0
  clear hty
  unfold InstL.v InstL.cells at Hc ⊢
  simp only [bs_nil] at Hc ⊢
  go_enter Tryz.func50, Tryz.ntmps50
  go_wp2_with fail
  refine (Hc _ (hm.upd hU0).max).out.mono ?_
  rintro e w1 ⟨rfl, hU1⟩
  obtain ⟨hc1, hf1, hz1⟩ := hU1.cells
  have hz1' : w.heap.size < w1.heap.size := by simp at hz1; omega
  simp only [errIf]
  have x0 : w1.cell? ⟨w.heap.size, 0, none⟩ = some (.int .i64 op) := by rw [hc1 _ _ (by simp)]; simp
  have Hc1 := hid hc1
  clear hc1 hf1
  go_upto_region 4 with fail
  go_cut [5] (fun s5 wx => ∃ g : Nat, s5 = .slice (some ⟨g, 0, none⟩) 1 1 ∧ Blk wx g 9 #[.string (bs wd)] ∧ w.heap.size < g ∧ Upd (w.alloc (.cells #[.int .i64 op, .int .i64 n, .string ⟨#[]⟩, .bool r.ifc, .string (bs r.cls), .string (bs r.nm), .string (bs r.ds)] 90)) wx [])
  case first =>
    go_region_held3 (fun W => W.cell? ⟨w.heap.size, 0, none⟩ = some (.int .i64 op)) (first | exact x0 | go_keep) (first
      | (go_at_call 91; refine (Hs _).out.mono ?_; rintro e w2 ⟨S, rfl, hr, hU2⟩; have x0 : w2.cell? ⟨w.heap.size, 0, none⟩ = some (.int .i64 op) := (by rw [hU2.cells.1 _ _ (by simp; omega)]; simp [x0])))
    all_goals
      go_wp2_with fail
      go_meet
      exact ⟨w2.heap.size, rfl, Blk.new _ _ _, by have := hU2.size; simp at this; omega, (hU1.drew.trans hU2).alloc _⟩
  case rest =>
    obtain ⟨g0, rfl, hB2, hge, hV3⟩ := hcut
    obtain ⟨hcc, hfc, hzc⟩ := hV3.cells
    have hzc' : w.heap.size < wc.heap.size := by simp at hzc; omega
    go_wp2_with fail
    refine (Hop _).out.mono ?_
    rintro e w3 ⟨rfl, hU3⟩
    have hB3 := hU3.blk hB2 (by simp)
    have hV4 := hV3.trans hU3
    obtain ⟨hc3, hf3, hz3⟩ := hV4.cells
    have hz3' : w.heap.size < w3.heap.size := by simp at hz3; omega
    have hsz3 : g0 < w3.heap.size := hB3.lt
    have hown : w3.ownsRow 0 9 1 (.slice (some ⟨g0, 0, none⟩) 1 1) 1 [.string (bs wd)] := own_of_blk hB3 (by show 1 ≤ maxLen; decide)
    clear hB2 hB3 hV3 hU3 hz3 hz1' hU1 hcc hfc hzc
    go_wp2_with fail
    refine (Ht _ ((hm.upd hU0).upd hV4).max).out.mono ?_
    rintro e w4 ⟨rfl, hU4⟩
    have hown4 := hU4.own hown (by simp)
    have hV5 := hV4.trans hU4
    obtain ⟨hc4, hf4, hz4⟩ := hV5.cells
    have hz4' : w.heap.size < w4.heap.size := by simp at hz4; omega
    simp only [if_true, errIf]
    go_wp2_with (at_builtin; go_must (refine wpList_append_one _ rfl (.tmp 41) (.tmp 43) 43 rfl 9 i0 _ 1 16 Tryz.underlying43 hi0 qz0 qz1 qz2 rfl (by decide) (by decide) (.slice (some ⟨g0, 0, none⟩) 1 1) 1 [.string (bs wd)] rfl (by exact hown4.alloc _) (by omega) w4.heap.size 9 #[.string (bs (r.text))] rfl (by exact Blk.new_at (by simp)) rfl rfl ?_); intro ga5 capa5 wa5 howna5 hga5 hata5; have hgea5 : w.heap.size < ga5 := (by rcases hata5 with h | h <;> simp [Value.ownBlock] at h <;> omega); have hVa5 := (hV5.alloc (.cells #[.string (bs (r.text))] 9)).grown hga5 (by intro q hq; right; simp [Value.ownBlock] at hq; simp; omega); obtain ⟨hca5, hfa5, hza5⟩ := hVa5.cells; have hya5 : w.heap.size < wa5.heap.size := (by simp at hza5; omega))
    refine (join_any ga5 2 capa5 [wd, r.text] _ howna5 rfl (by omega) (by simp)).mono ?_
    rintro e w9 ⟨rfl, hU9⟩
    go_wp2
    go_ret2
    exact Hfin.out _ ((hU0.trans hVa5).trans hU9)


set_option maxHeartbeats 1000000 in
theorem print_any (i : InstL) (w : World) (hi : i.fit) (hn : i.num) (hm : Rdy w) : Calls Tryz.prog 50 #[i.v] w (printPost i w) := by
  obtain ⟨op, n, tx, r⟩ := i
  cases ho : (InstL.mk op n tx r).ok with
  | true =>
    have h1 := (InstL.ok_ty ho).2.2.1
    rcases kindL_cases op with hk | hk | hk | hk | hk | hk | hk | hk | hk | hk
    · exact absurd hk h1
    · exact print_0 op n tx r w hi hn hm ho hk
    · exact print_1 op n tx r w hi hn hm ho hk
    · exact print_2 op n tx r w hi hn hm ho hk
    · exact print_3 op n tx r w hi hn hm ho hk
    · exact print_4 op n tx r w hi hn hm ho hk
    · exact print_5 op n tx r w hi hn hm ho hk
    · exact print_6 op n tx r w hi hn hm ho hk
    · exact print_7 op n tx r w hi hn hm ho hk
    · exact print_8 op n tx r w hi hn hm ho hk
  | false =>
    have Hc := fun w hm => hid (check_any ⟨op, n, tx, r⟩ w hi hm)
    unfold checkPost at Hc
    rw [ho] at Hc
    have hfin : ∀ w', Upd w w' [] → printPost ⟨op, n, tx, r⟩ w (.returned (.tuple #[.string ⟨#[]⟩, .int .i64 1])) w' := fun w' h => by
      unfold printPost
      rw [ho]
      exact ⟨rfl, h⟩
    have Hfin := hid hfin
    have hU0 : Upd w (w.alloc (.cells #[.int .i64 op, .int .i64 n, .string (bs tx), .bool r.ifc, .string (bs r.cls), .string (bs r.nm), .string (bs r.ds)] 90)) [] := (Upd.refl _ _).alloc _
    clear hfin
    unfold InstL.v InstL.cells at Hc ⊢
    simp only at Hc ⊢
    go_enter Tryz.func50, Tryz.ntmps50
    go_wp2_with fail
    refine (Hc _ (hm.upd hU0).max).out.mono ?_
    rintro e w1 ⟨rfl, hU1⟩
    simp only [errIf]
    go_wp2
    go_ret2
    exact Hfin.out _ (hU0.trans hU1)
end Go.Proofs.YtfpdeiefkimaaaaGreatDoor
/-
  A number's digits: the document's way of writing them is the library's. No program text.
-/
set_option linter.unusedSimpArgs false
set_option linter.unusedVariables false
namespace Go.Proofs.YtfpdeiefkimaaaaGreatDoor
open Go.RowKit

/-- The digits of a number, none of 0. -/
def ddig (a : Nat) : List UInt8 := if a = 0 then [] else Lib.decDigits a
theorem ddig_step (a : Nat) (h : 0 < a) : ddig a = ddig (a / 10) ++ [UInt8.ofNat (48 + a % 10)] := by
  unfold ddig
  rw [if_neg (by omega)]
  by_cases h10 : a < 10
  · rw [Lib.decDigits_one h10, if_pos (by omega), show a % 10 = a by omega]
    rfl
  · rw [if_neg (by omega), Lib.decDigits, dif_neg h10]
theorem ddig_pos (a : Nat) (h : 0 < a) : ddig a = Lib.decDigits a := by unfold ddig; rw [if_neg (by omega)]

/-- What stands of the digits of u when a is left. -/
def decRel (u a : Nat) (s : List UInt8) : Prop := ddig a ++ s = ddig u ∧ a ≤ u
theorem decRel_start (u : Nat) : decRel u u [] := ⟨by simp, Nat.le_refl _⟩
theorem decRel_step {u a : Nat} {s : List UInt8} (h : decRel u a s) (h0 : 0 < a) : decRel u (a / 10) (UInt8.ofNat (48 + a % 10) :: s) := by
  refine ⟨?_, by have := h.2; omega⟩
  rw [← h.1, ddig_step a h0]
  simp
theorem decRel_end {u : Nat} {s : List UInt8} (h : decRel u 0 s) (hu : 0 < u) : s = Lib.decDigits u := by
  have := h.1
  rw [ddig_pos u hu] at this
  simpa [ddig] using this
theorem decRel_len {u a : Nat} {s : List UInt8} (h : decRel u a s) (hu : u ≤ 9223372036854775808) : s.length ≤ 30 := by
  have h1 := congrArg List.length h.1
  rw [List.length_append] at h1
  have h2 : (ddig u).length ≤ 21 := by
    unfold ddig
    split
    · simp
    · have := Lib.itoa_length_le (-(u : Int)) (by omega) (by omega)
      by_cases h0 : 1 ≤ u
      · rw [Lib.itoa_neg u h0, List.length_cons] at this
        omega
      · omega
  omega
end Go.Proofs.YtfpdeiefkimaaaaGreatDoor
/-
  The document's answer on numbers, walked: Decimal.
-/
set_option linter.unusedSimpArgs false
set_option linter.unusedVariables false
namespace Go.Proofs.YtfpdeiefkimaaaaGreatDoor
open Go.RowKit

theorem str_ret {a b : ByteArray} (h : a = b) : Ending.returned (.string a) = .returned (.string b) := by rw [h]
theorem conv_one (c : UInt8) (w : World) (n : Int) (hn : n = c.toNat) :
    (convert 51 9 (.slice (some ⟨w.heap.size, 0, none⟩) 1 1)).run Tryz.prog (w.alloc (.cells #[.int .u8 n] 5)) = .ok (.string (bs [c])) (w.alloc (.cells #[.int .u8 n] 5)) := by
  subst hn
  refine run_convert_bytes_back _ 51 9 5 ⟨w.heap.size, 0, none⟩ 1 [c] Tryz.underlying51 Tryz.underlying5 Tryz.underlying9 ?_
  intro j hj
  have : j = 0 := by simpa using hj
  subst this
  rw [Addr.add_zero', (Blk.new w _ _).cell]
  rfl

def decInv (u : Nat) (w : World) (sg : Int) (s m : Value) (wr : World) : Prop :=
  ∃ (a : Nat) (l : List UInt8), m = .int .i64 (sg * a) ∧ s = .string (bs l) ∧ Hid (decRel u a l) ∧ a ≤ u ∧ (bs l).size ≤ 30 ∧ Upd w wr []

set_option maxHeartbeats 2000000 in
set_option maxRecDepth 100000 in
theorem decimal_pos (u : Nat) (w : World) (h0 : 0 < u) (h1 : u ≤ 9223372036854775807) : Calls Tryz.prog 53 #[.int .i64 u] w fun e w' => e = .returned (.string (bs (Lib.itoa u))) ∧ Upd w w' [] := by
  have hz : ((u : Int) == 0) = false := by rw [beq_eq_false_iff_ne]; omega
  have hz2 : ¬ (u : Int) < 0 := by omega
  go_enter Tryz.func53, Tryz.ntmps53
  go_wp2
  go_loopw [3, 4] (fun s m wr => decInv u w 1 s m wr) (fun _ m _ => (intOf m).toNat)
  case atStart => exact ⟨u, [], by rw [Int.one_mul], rfl, hid (decRel_start u), Nat.le_refl _, by simp [bs_size], Upd.refl _ _⟩
  case round =>
    obtain ⟨a, l, rfl, rfl, hr, hau, hl, hU⟩ := hrel
    rw [Int.one_mul]
    by_cases ha : a = 0
    · subst ha
      have hfin := hid (decRel_end hr.out h0)
      clear hr
      go_wp2
      go_ret
      exact ⟨str_ret (by rw [Lib.itoa_nonneg, ← hfin.out]), hU⟩
    · have hne : ((a : Int) != 0) = true := by rw [bne_iff_ne]; omega
      have hne2 : ¬ a = 0 := ha
      obtain ⟨c, hcn, hn⟩ : ∃ c : UInt8, c.toNat = 48 + a % 10 ∧ Hid (decRel u (a / 10) (c :: l)) := ⟨UInt8.ofNat (48 + a % 10), by simp [UInt8.toNat_ofNat']; omega, hid (decRel_step hr.out (by omega))⟩
      have hlen := decRel_len hn.out (by omega)
      clear hr ha
      have hc := conv_one c wr (48 + (a : Int) % 10) (by omega)
      have h10 : 0 ≤ (a : Int) % 10 := by omega
      clear hcn
      have hlen2 : ¬ 9223372036854775807 < (bs [c]).size + (bs l).size := by rw [bs_size]; simp; omega
      go_wp2
      go_roundw
      case rel => exact ⟨a / 10, c :: l, by rw [Int.one_mul]; go_num, by rw [bs_append]; rfl, hn, by omega, by rw [bs_size]; exact hlen, hU.alloc _⟩
      case measure => simp [intOf]; omega

set_option maxHeartbeats 2000000 in
set_option maxRecDepth 100000 in
theorem decimal_neg (u : Nat) (w : World) (h0 : 0 < u) (h1 : u ≤ 9223372036854775808) : Calls Tryz.prog 53 #[.int .i64 (-(u : Int))] w fun e w' => e = .returned (.string (bs (Lib.itoa (-(u : Int))))) ∧ Upd w w' [] := by
  have hz : (-(u : Int) == 0) = false := by rw [beq_eq_false_iff_ne]; omega
  have hz2 : -(u : Int) < 0 := by omega
  go_enter Tryz.func53, Tryz.ntmps53
  go_wp2
  go_loopw [3, 4] (fun s m wr => decInv u w (-1) s m wr) (fun _ m _ => (-(intOf m)).toNat)
  case atStart => exact ⟨u, [], by go_num, rfl, hid (decRel_start u), Nat.le_refl _, by simp [bs_size], Upd.refl _ _⟩
  case round =>
    obtain ⟨a, l, rfl, rfl, hr, hau, hl, hU⟩ := hrel
    rw [Int.neg_one_mul]
    by_cases ha : a = 0
    · subst ha
      have hfin := hid (decRel_end hr.out h0)
      clear hr
      go_wp2
      go_ret
      exact ⟨str_ret (by rw [Lib.itoa_neg u h0, ← hfin.out, show (⟨#[45]⟩ : ByteArray) = bs [45] from rfl, bs_append]; rfl), hU⟩
    · have hne : (-(a : Int) != 0) = true := by rw [bne_iff_ne]; omega
      have hne2 : ¬ a = 0 := ha
      obtain ⟨c, hcn, hn⟩ : ∃ c : UInt8, c.toNat = 48 + a % 10 ∧ Hid (decRel u (a / 10) (c :: l)) := ⟨UInt8.ofNat (48 + a % 10), by simp [UInt8.toNat_ofNat']; omega, hid (decRel_step hr.out (by omega))⟩
      have hlen := decRel_len hn.out (by omega)
      clear hr ha
      have hlen2 : ¬ 9223372036854775807 < (bs [c]).size + (bs l).size := by rw [bs_size]; simp; omega
      by_cases h10 : 0 < (a : Int) % 10
      · have hc := conv_one c wr (48 + (a : Int) % 10) (by omega)
        clear hcn
        go_wp2
        go_roundw
        case rel => exact ⟨a / 10, c :: l, by go_num, by rw [bs_append]; rfl, hn, by omega, by rw [bs_size]; exact hlen, hU.alloc _⟩
        case measure => simp [intOf]; omega
      · have hc := conv_one c wr (48 + -((a : Int) % 10)) (by omega)
        clear hcn
        go_wp2
        go_roundw
        case rel => exact ⟨a / 10, c :: l, by go_num, by rw [bs_append]; rfl, hn, by omega, by rw [bs_size]; exact hlen, hU.alloc _⟩
        case measure => simp [intOf]; omega

theorem decimal_any (n : Int) (w : World) (h0 : -9223372036854775808 ≤ n) (h1 : n ≤ 9223372036854775807) : Calls Tryz.prog 53 #[.int .i64 n] w fun e w' => e = .returned (.string (bs (Lib.itoa n))) ∧ Upd w w' [] := by
  rcases Int.lt_trichotomy n 0 with h | h | h
  · obtain ⟨u, hu⟩ : ∃ u : Nat, n = -(u : Int) := ⟨n.natAbs, by omega⟩
    rw [hu]
    exact decimal_neg u w (by omega) (by omega)
  · subst h
    have e : bs (Lib.itoa 0) = ⟨#[48]⟩ := by
      have := Lib.itoa_nonneg 0
      rw [show ((0 : Nat) : Int) = 0 from rfl] at this
      rw [this, Lib.decDigits_one (by omega)]
      rfl
    rw [e]
    go_enter Tryz.func53, Tryz.ntmps53
    go_wp2
    go_ret
    exact ⟨rfl, Upd.refl _ _⟩
  · obtain ⟨u, hu⟩ : ∃ u : Nat, n = (u : Int) := ⟨n.natAbs, by omega⟩
    rw [hu]
    exact decimal_pos u w (by omega) (by omega)
end Go.Proofs.YtfpdeiefkimaaaaGreatDoor
