/-
  Package types, walked: one type.
-/
import Derived.Test.YtjjdlgjofjfgmaaDoorTypesA
set_option linter.unusedSimpArgs false
set_option linter.unusedVariables false
namespace Go.Proofs.YtjjdlgjofjfgmaaDoor
open Go.RowKit

theorem MaxLenAt.upd {w w' : World} {F : List Nat} (h : MaxLenAt w) (u : Upd w w' F) (hF : 0 ∉ F) : MaxLenAt w' := by
  obtain ⟨m, hm⟩ := h
  have hlt : 0 < w.heap.size := by
    rcases Nat.lt_or_ge 0 w.heap.size with h | h
    · exact h
    · simp [World.cell?, Array.getElem?_eq_none h] at hm
  exact ⟨m, (World.cell?_of_block (u.block _ hlt hF)).trans hm⟩
theorem MaxLenAt.ne {w : World} (h : MaxLenAt w) {C : Nat} {t : TypeId} {s : ByteArray} {r : Value} (hC : Blk w C t #[.string s, r]) : 0 ≠ C := by
  obtain ⟨m, hm⟩ := h
  rintro rfl
  rw [hC.cell] at hm
  simp at hm

/-- Where the type lies, and what it says. -/
def ty (n : Nat) (nm : List UInt8) : Value := .agg #[.int .i64 n, .string (bs nm)]

def wideOr (b : Bool) (n : Nat) : Bool := b || decide (255 < n)

/-- one: what it leaves of the cursor. -/
def onePost (C : Nat) (l : List UInt8) (b : Bool) (w : World) (e : Ending) (w' : World) : Prop :=
  ∃ nm l', Upd w w' [C] ∧ Blk w' C 108 #[.string (bs l'), .bool (wideOr b (lead l))] ∧ l'.length ≤ l.length ∧
    ((oneL l = none ∧ e = .returned (.tuple #[ty (lead l) nm, .bool false])) ∨ (oneL l = some (nm, l') ∧ e = .returned (.tuple #[ty (lead l) nm, .bool true])))

theorem cut_none (t : List UInt8) (h : cutL 59 t = none) (w : World) (hl : t.length ≤ 4000) (hm : MaxLenAt w) :
    Calls Tryd.prog 99 #[.string (bs t), .string ⟨#[59]⟩] w fun e w' => e = .returned (.tuple #[.string (bs t), .string ⟨#[]⟩, .bool false]) ∧ ∃ n, w' = w.drewN n := by
  obtain ⟨m, hm⟩ := hm
  have := Tryd.strings_Cut (bs t) ⟨#[59]⟩ m w (by rw [bs_size]; omega) hm
  rw [bs_data, show ((⟨#[59]⟩ : ByteArray).data.toList) = [59] from rfl, cut_one, h] at this
  exact this
theorem cut_some (t nm t' : List UInt8) (h : cutL 59 t = some (nm, t')) (w : World) (hl : t.length ≤ 4000) (hm : MaxLenAt w) :
    Calls Tryd.prog 99 #[.string (bs t), .string ⟨#[59]⟩] w fun e w' => e = .returned (.tuple #[.string (bs nm), .string (bs t'), .bool true]) ∧ ∃ n, w' = w.drewN n := by
  obtain ⟨m, hm⟩ := hm
  have := Tryd.strings_Cut (bs t) ⟨#[59]⟩ m w (by rw [bs_size]; omega) hm
  rw [bs_data, show ((⟨#[59]⟩ : ByteArray).data.toList) = [59] from rfl, cut_one, h] at this
  exact this

set_option maxHeartbeats 8000000 in
theorem one_any (C : Nat) (l : List UInt8) (b : Bool) (w : World) (hC : Blk w C 108 #[.string (bs l), .bool b]) (hl : l.length ≤ 2000) (hm : MaxLenAt w) :
    Calls Tryd.prog 78 #[.pointer (some ⟨C, 0, none⟩)] w (onePost C l b w) := by
  have HC := hid hC
  have HCm := hid hC
  have hlt := hC.lt
  clear hC
  go_enter Tryd.func78, Tryd.ntmps78
  go_wp2
  have hT0 : Hid (Blk (w.alloc (.cells #[.int .i64 0, .string ⟨#[]⟩] 69)) w.heap.size 69 #[.int .i64 0, .string ⟨#[]⟩]) := Blk.new _ _ _
  have hC0 : Hid (Blk (w.alloc (.cells #[.int .i64 0, .string ⟨#[]⟩] 69)) C 108 #[.string (bs l), .bool b]) := HC.out.alloc _
  have hU0 : Hid (Upd w (w.alloc (.cells #[.int .i64 0, .string ⟨#[]⟩] 69)) [C]) := (Upd.refl _ _).alloc _
  have hCT : Hid (C ≠ w.heap.size) := by intro h; omega
  go_loopw [4] (fun _ wr => ∃ n l', n + lead l' = lead l ∧ l.drop n = l' ∧ n + l'.length = l.length ∧ Blk wr C 108 #[.string (bs l'), .bool b] ∧ Blk wr w.heap.size 69 #[.int .i64 n, .string ⟨#[]⟩] ∧ Upd w wr [C])
    (fun _ wr => match wr.cell? ⟨C, 0, none⟩ with | some (.string s) => s.size | _ => 0)
  case atStart => exact ⟨0, l, by omega, rfl, by omega, hC0.out, hT0.out, hU0.out⟩
  case round =>
    obtain ⟨n, l', h1, h2, h3, h4, h5, h6⟩ := hrel
    clear hT0 hC0 hU0
    have Hf := hid (take_any C l' b 91 91 _ rfl h4 (by omega))
    have hn : n ≤ 2000 := by omega
    have cC := h4.cell 0
    simp at cC
    by_cases hq : ∃ t, l' = 91 :: t
    · obtain ⟨t, rfl⟩ := hq
      rw [show takes 91 (91 :: t) = true from rfl, show left 91 (91 :: t) = t from rfl] at Hf
      go_wp2_with fail
      refine Hf.out.mono ?_
      rintro e w1 ⟨rfl, hC1, hU1⟩
      have hT1 := hU1.blk h5 (by have := hCT.out; simp; omega)
      have cT := hT1.cell 0
      have fT := hT1.frozen 0
      simp at cT
      go_wp2
      go_roundw
      case rel =>
        refine ⟨n + 1, t, ?_, ?_, ?_, hC1.far (by exact hCT.out) _, ?_, (h6.trans hU1).setCell (.inr (Nat.le_refl _)) _⟩
        · rw [lead_cons] at h1; omega
        · rw [← List.drop_drop, h2]; rfl
        · simp at h3; omega
        · have := hT1.set_ 0 (.int .i64 (n + 1))
          simpa using this
      case measure =>
        have c1 := (hC1.far (p := ⟨w.heap.size, 0, none⟩) (by exact hCT.out) (.int .i64 ((n : Int) + 1))).cell 0
        simp at c1
        rw [cC]
        simp only [c1, bs_size, List.length_cons]
        omega
    · have hl0 : lead l' = 0 := by
        cases l' with
        | nil => rfl
        | cons c t => exact lead_stop t (fun e => hq ⟨t, by rw [e]⟩)
      have ht0 : takes 91 l' = false := by
        cases l' with
        | nil => rfl
        | cons c t => simp [takes]; exact fun e => hq ⟨t, by rw [e]⟩
      have hL0 : left 91 l' = l' := by
        have : (l'.head? == some 91) = false := ht0
        simp [left, this]
      rw [ht0, hL0] at Hf
      obtain rfl : n = lead l := by omega
      have h1' := hid h1
      have h2' := hid h2
      clear h1 h2 ht0 hL0 hq hl0
      go_wp2_with fail
      refine Hf.out.mono ?_
      rintro e w1 ⟨rfl, hC1, hU1⟩
      have hT1 := hU1.blk h5 (by have := hCT.out; simp; omega)
      have cT := hT1.cell 0
      have fT := hT1.frozen 0
      have cb := hC1.cell 1
      have fb := hC1.frozen 1
      simp at cT cb
      have hU2 := h6.trans hU1
      have hb : (b || decide (255 < (lead l : Int))) = wideOr b (lead l) := by
        unfold wideOr
        congr 1
        rw [Bool.eq_iff_iff]
        simp
        omega
      have Hb := hid hb
      clear hb
      have hW : ∀ v : Bool, Blk (w1.setCell ⟨C, 1, none⟩ (.bool v)) C 108 #[.string (bs l'), .bool v] := fun v => by simpa using hC1.set_ 1 (.bool v)
      have hWT : ∀ v : Bool, Blk (w1.setCell ⟨C, 1, none⟩ (.bool v)) w.heap.size 69 #[.int .i64 (lead l), .string ⟨#[]⟩] := fun v => hT1.far (p := ⟨C, 1, none⟩) (by have := hCT.out; simp; omega) _
      have hWU : ∀ v : Bool, Upd w (w1.setCell ⟨C, 1, none⟩ (.bool v)) [C] := fun v => hU2.setCell (.inl (by simp)) _
      have HW := hid hW
      have HWT := hid hWT
      have HWU := hid hWU
      have hl' : l'.length ≤ 2000 := by omega
      clear hW hWT hWU hU2 hT1 hC1 hU1 Hf h4 h5 h6 HC
      by_cases hI : ∃ t, l' = 73 :: t
      · obtain ⟨t, rfl⟩ := hI
        have ho : oneL l = some ([], t) := by unfold oneL; rw [h2'.out]; rfl
        cases b
        all_goals
          go_wp2_with fail
          refine (take_any C _ _ 73 73 _ rfl (HW.out _) (Nat.le_trans hl' (by omega))).mono ?_
          rintro e w2 ⟨rfl, hC3, hU3⟩
          have hT3 := hU3.blk (HWT.out _) (by have := hCT.out; simp; omega)
          have hU4 := (HWU.out _).trans hU3
          have d0 := hT3.cell 0
          have d1 := hT3.cell 1
          have fd0 := hT3.frozen 0
          have fd1 := hT3.frozen 1
          simp at d0 d1
          rw [show left 73 (73 :: t) = t from rfl] at hC3
          rw [show takes 73 (73 :: t) = true from rfl]
          go_wp2
          have hT5 := (hT3.set_ 0 (.int .i64 (lead l))).set_ 1 (.string ⟨#[]⟩)
          have g0 := hT5.cell 0
          have g1 := hT5.cell 1
          simp at g0 g1
          have hC5 := (hC3.far (p := ⟨w.heap.size, 0, none⟩) (by exact hCT.out) (.int .i64 (lead l))).far (p := ⟨w.heap.size, 1, none⟩) (by exact hCT.out) (.string ⟨#[]⟩)
          have hU5 := (hU4.setCell (p := ⟨w.heap.size, 0, none⟩) (.inr (Nat.le_refl _)) (.int .i64 (lead l))).setCell (p := ⟨w.heap.size, 1, none⟩) (.inr (Nat.le_refl _)) (.string ⟨#[]⟩)
          refine bodyPost_ret (v := .tuple #[.agg #[.int .i64 (lead l), .string ⟨#[]⟩], .bool true]) (by simp [results, Tryd.results78, go_sem, g0, g1]) rfl ?_
          refine ⟨[], t, hU5, ?_, ?_, .inr ⟨ho, rfl⟩⟩
          · have := Hb.out
            simp only [Bool.false_or, Bool.true_or] at this
            rw [← this]
            exact hC5
          · simp at h3
            omega
      · have t73 : takes 73 l' = false := by
          cases l' with
          | nil => rfl
          | cons c t => simp [takes]; exact fun e => hI ⟨t, by rw [e]⟩
        have L73 : left 73 l' = l' := by
          have : (l'.head? == some 73) = false := t73
          simp [left, this]
        by_cases hL : ∃ t, l' = 76 :: t
        · obtain ⟨t, rfl⟩ := hL
          have ho : oneL l = bareL (76 :: t) := by unfold oneL; rw [h2'.out]
          rw [bareL_L] at ho
          have ht : t.length ≤ 4000 := by simp at hl'; omega
          have hTn : w.heap.size ∉ [C] := by have := hCT.out; simp; omega
          have hmn := hm.ne HCm.out
          clear hI
          cases hcut : cutL 59 t with
          | none =>
            rw [hcut] at ho
            cases b
            all_goals
              go_wp2_with fail
              refine (take_any C _ _ 73 73 _ rfl (HW.out _) (Nat.le_trans hl' (by omega))).mono ?_
              rintro e w2 ⟨rfl, hC3, hU3⟩
              rw [L73] at hC3
              rw [t73]
              go_wp2_with fail
              refine (take_any C _ _ 76 76 _ rfl hC3 (Nat.le_trans hl' (by omega))).mono ?_
              rintro e w3 ⟨rfl, hC4, hU4⟩
              rw [show left 76 (76 :: t) = t from rfl] at hC4
              rw [show takes 76 (76 :: t) = true from rfl]
              have hT3 := hU4.blk (hU3.blk (HWT.out _) hTn) hTn
              have hU5 := ((HWU.out _).trans hU3).trans hU4
              have hm5 := hm.upd hU5 (by simpa using hmn)
              have d0 := hT3.cell 0
              have d1 := hT3.cell 1
              have fd0 := hT3.frozen 0
              have fd1 := hT3.frozen 1
              have x0 := hC4.cell 0
              have fx0 := hC4.frozen 0
              simp at d0 d1 x0
              go_wp2_with fail
              refine (cut_none t hcut _ ht hm5).mono ?_
              rintro e w4 ⟨rfl, nd, rfl⟩
              go_wp2
              have hT4 := ((hT3.drewN nd).set_ 1 (.string (bs t))).far (p := ⟨C, 0, none⟩) (by have := hCT.out; simp; omega) (.string ⟨#[]⟩)
              have e0 := hT4.cell 0
              have e1 := hT4.cell 1
              have fe0 := hT4.frozen 0
              have fe1 := hT4.frozen 1
              have hC5 := ((hC4.drewN nd).far (p := ⟨w.heap.size, 1, none⟩) (by exact hCT.out) (.string (bs t))).set_ 0 (.string ⟨#[]⟩)
              have hU6 := ((hU5.drewN nd).setCell (p := ⟨w.heap.size, 1, none⟩) (.inr (Nat.le_refl _)) (.string (bs t))).setCell (p := ⟨C, 0, none⟩) (.inl (by simp)) (.string ⟨#[]⟩)
              simp at e0 e1 hC5
              go_region
              all_goals
                go_wp2
                have hT6 := (hT4.set_ 0 (.int .i64 (lead l))).set_ 1 (.string (bs t))
                have g0 := hT6.cell 0
                have g1 := hT6.cell 1
                simp at g0 g1
                refine bodyPost_ret (v := .tuple #[ty (lead l) t, .bool false]) (by simp [results, Tryd.results78, go_sem, g0, g1, ty]) rfl ?_
                refine ⟨t, [], ((hU6.setCell (.inr (Nat.le_refl _)) _).setCell (.inr (Nat.le_refl _)) _).drew, ?_, by simp, .inl ⟨ho, rfl⟩⟩
                have := Hb.out
                simp only [Bool.false_or, Bool.true_or] at this
                rw [← this]
                exact ((hC5.far (by exact hCT.out) _).far (by exact hCT.out) _).drewN 1
          | some p =>
            obtain ⟨nm, t'⟩ := p
            rw [hcut] at ho
            have hle := cutL_le 59 t hcut
            simp at hle
            have hn2 : nm.length ≤ 4000 := by omega
            have ho2 : oneL l = if validB nm then some (nm, t') else none := ho
            have hbs : (bs nm).data.toList = nm := bs_data nm
            have hbz : (bs nm).size ≤ 9223372036854775807 := by rw [bs_size]; omega
            have ht' : t'.length ≤ l.length := by simp at h3; omega
            obtain ⟨vb, hvb⟩ : ∃ vb : Bool, validB nm = vb := ⟨_, rfl⟩
            rw [hvb] at ho2
            clear ho h3 hle
            cases b
            all_goals
              go_wp2_with fail
              refine (take_any C _ _ 73 73 _ rfl (HW.out _) (Nat.le_trans hl' (by omega))).mono ?_
              rintro e w2 ⟨rfl, hC3, hU3⟩
              rw [L73] at hC3
              rw [t73]
              go_wp2_with fail
              refine (take_any C _ _ 76 76 _ rfl hC3 (Nat.le_trans hl' (by omega))).mono ?_
              rintro e w3 ⟨rfl, hC4, hU4⟩
              rw [show left 76 (76 :: t) = t from rfl] at hC4
              rw [show takes 76 (76 :: t) = true from rfl]
              have hT3 := hU4.blk (hU3.blk (HWT.out _) hTn) hTn
              have hU5 := ((HWU.out _).trans hU3).trans hU4
              have hm5 := hm.upd hU5 (by simpa using hmn)
              have d0 := hT3.cell 0
              have d1 := hT3.cell 1
              have fd0 := hT3.frozen 0
              have fd1 := hT3.frozen 1
              have x0 := hC4.cell 0
              have fx0 := hC4.frozen 0
              simp at d0 d1 x0
              go_wp2_with fail
              refine (cut_some t nm t' hcut _ ht hm5).mono ?_
              rintro e w4 ⟨rfl, nd, rfl⟩
              go_wp2_with fail
              have hT4 := ((hT3.drewN nd).set_ 1 (.string (bs nm))).far (p := ⟨C, 0, none⟩) (by have := hCT.out; simp; omega) (.string (bs t'))
              have hC5 := ((hC4.drewN nd).far (p := ⟨w.heap.size, 1, none⟩) (by exact hCT.out) (.string (bs nm))).set_ 0 (.string (bs t'))
              have hU6 := ((hU5.drewN nd).setCell (p := ⟨w.heap.size, 1, none⟩) (.inr (Nat.le_refl _)) (.string (bs nm))).setCell (p := ⟨C, 0, none⟩) (.inl (by simp)) (.string (bs t'))
              have e0 := hT4.cell 0
              have e1 := hT4.cell 1
              have fe0 := hT4.frozen 0
              have fe1 := hT4.frozen 1
              simp at e0 e1 hC5
              have hm6 := hm.upd hU6 (by simpa using hmn)
              have HV : ∀ k, Hid (Calls Tryd.prog 29 #[.string (bs nm)] (((((w3.drewN nd).setCell ⟨w.heap.size, 1, none⟩ (.string (bs nm))).setCell ⟨C, 0, none⟩ (.string (bs t')))).drewN k) (fun e w' => e = .returned (.bool vb) ∧ Upd (((((w3.drewN nd).setCell ⟨w.heap.size, 1, none⟩ (.string (bs nm))).setCell ⟨C, 0, none⟩ (.string (bs t')))).drewN k) w' [])) := by
                intro k
                have := valid_any (bs nm) (((((w3.drewN nd).setCell ⟨w.heap.size, 1, none⟩ (.string (bs nm))).setCell ⟨C, 0, none⟩ (.string (bs t')))).drewN k) hbz (hm6.upd ((Upd.refl _ []).drewN k) (by simp))
                rw [hbs, hvb] at this
                exact this
              go_region_with (go_at_call 29; refine (HV 1).out.mono ?_; rintro e w6 ⟨rfl, U6⟩; have U7 := (((Upd.refl _ []).drewN 1).trans U6); have e0' := (U7.blk hT4 (by simp)).cell 0; have e1' := (U7.blk hT4 (by simp)).cell 1; have fe0' := (U7.blk hT4 (by simp)).frozen 0; have fe1' := (U7.blk hT4 (by simp)).frozen 1; simp at e0' e1')
              all_goals
                go_wp2
                have hT7 := ((U7.blk hT4 (by simp)).set_ 0 (.int .i64 (lead l))).set_ 1 (.string (bs nm))
                have g0 := hT7.cell 0
                have g1 := hT7.cell 1
                simp at g0 g1
                refine bodyPost_ret (v := .tuple #[ty (lead l) nm, .bool vb]) (by simp [results, Tryd.results78, go_sem, g0, g1, ty]) rfl ?_
                refine ⟨nm, t', ((hU6.trans (U7.mono (by simp))).setCell (.inr (Nat.le_refl _)) _).setCell (.inr (Nat.le_refl _)) _, ?_, ht', ?_⟩
                · have := Hb.out
                  simp only [Bool.false_or, Bool.true_or] at this
                  rw [← this]
                  exact ((U7.blk hC5 (by simp)).far (by exact hCT.out) _).far (by exact hCT.out) _
                · cases vb
                  · exact .inl ⟨ho2, rfl⟩
                  · exact .inr ⟨ho2, rfl⟩
        · have t76 : takes 76 l' = false := by
            cases l' with
            | nil => rfl
            | cons c t => simp [takes]; exact fun e => hL ⟨t, by rw [e]⟩
          have L76 : left 76 l' = l' := by
            have : (l'.head? == some 76) = false := t76
            simp [left, this]
          have ho : oneL l = none := by
            unfold oneL
            rw [h2'.out]
            exact bareL_else hI hL
          clear hI hL
          cases b
          all_goals
            go_wp2_with fail
            refine (take_any C _ _ 73 73 _ rfl (HW.out _) (Nat.le_trans hl' (by omega))).mono ?_
            rintro e w2 ⟨rfl, hC3, hU3⟩
            rw [L73] at hC3
            rw [t73]
            go_wp2_with fail
            refine (take_any C _ _ 76 76 _ rfl hC3 (Nat.le_trans hl' (by omega))).mono ?_
            rintro e w3 ⟨rfl, hC4, hU4⟩
            rw [L76] at hC4
            rw [t76]
            have hT3 := hU4.blk (hU3.blk (HWT.out _) (by have := hCT.out; simp; omega)) (by have := hCT.out; simp; omega)
            have hU5 := ((HWU.out _).trans hU3).trans hU4
            have d0 := hT3.cell 0
            have d1 := hT3.cell 1
            have fd0 := hT3.frozen 0
            have fd1 := hT3.frozen 1
            simp at d0 d1
            go_wp2
            have hT5 := (hT3.set_ 0 (.int .i64 (lead l))).set_ 1 (.string ⟨#[]⟩)
            have g0 := hT5.cell 0
            have g1 := hT5.cell 1
            simp at g0 g1
            have hC5 := (hC4.far (p := ⟨w.heap.size, 0, none⟩) (by exact hCT.out) (.int .i64 (lead l))).far (p := ⟨w.heap.size, 1, none⟩) (by exact hCT.out) (.string ⟨#[]⟩)
            have hU6 := (hU5.setCell (p := ⟨w.heap.size, 0, none⟩) (.inr (Nat.le_refl _)) (.int .i64 (lead l))).setCell (p := ⟨w.heap.size, 1, none⟩) (.inr (Nat.le_refl _)) (.string ⟨#[]⟩)
            refine bodyPost_ret (v := .tuple #[.agg #[.int .i64 (lead l), .string ⟨#[]⟩], .bool false]) (by simp [results, Tryd.results78, go_sem, g0, g1]) rfl ?_
            refine ⟨[], l', hU6, ?_, by omega, .inl ⟨ho, rfl⟩⟩
            have := Hb.out
            simp only [Bool.false_or, Bool.true_or] at this
            rw [← this]
            exact hC5
end Go.Proofs.YtjjdlgjofjfgmaaDoor
