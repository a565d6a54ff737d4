/-
  Package types, walked: the cursor.
-/
import Derived.Deep.RegionHeld3
import Derived.OwnWalk
import Derived.WalkMore
import Derived.Test.YtfpdeiefkimaaaaGreatDoorK1
set_option linter.unusedSimpArgs false
set_option linter.unusedVariables false
namespace Go.Proofs.YtfpdeiefkimaaaaGreatDoor
open Go.RowKit

def takes (c : UInt8) (l : List UInt8) : Bool := l.head? == some c
def left (c : UInt8) (l : List UInt8) : List UInt8 := if l.head? == some c then l.tail else l

theorem take_any (C : Nat) (l : List UInt8) (b : Bool) (c : UInt8) (n : Nat) (w : World) (hn : c.toNat = n) (hC : Blk w C 226 #[.string (bs l), .bool b]) (hl : l.length ≤ 9223372036854775807) :
    Calls Tryz.prog 171 #[.pointer (some ⟨C, 0, none⟩), .int .u8 n] w fun e w' =>
      e = .returned (.bool (takes c l)) ∧ Blk w' C 226 #[.string (bs (left c l)), .bool b] ∧ Upd w w' [C] := by
  have c0 := hC.cell 0
  have f0 := hC.frozen 0
  simp at c0
  cases l with
  | nil =>
    rw [bs_nil] at c0
    go_enter Tryz.func171, Tryz.ntmps171
    go_wp2
    go_ret
    exact ⟨rfl, hC, Upd.refl _ _⟩
  | cons x t =>
    have hs : (bs (x :: t)).size = t.length + 1 := by rw [bs_size]; rfl
    have hg : ∀ h, ((bs (x :: t))[0]'h) = x := fun h => bs_get _ _ h
    have he : ((bs (x :: t)).toList == []) = false := by rw [bs_toList]; rfl
    have he2 : ¬ (bs (x :: t)).toList = [] := by rw [bs_toList]; simp
    have hx := x.toNat_lt
    have ht := bs_tail x t
    have hl2 : t.length + 1 ≤ 9223372036854775807 := hl
    have Hfin := hid (hC.set_ 0 (.string (bs t)))
    have HC := hid hC
    clear hC
    rw [hs] at ht
    by_cases hc : x = c
    · subst hc
      have e1 : takes x (x :: t) = true := by simp [takes]
      have e2 : left x (x :: t) = t := by simp [left]
      rw [e1, e2]
      clear e1 e2
      subst hn
      go_enter Tryz.func171, Tryz.ntmps171
      go_wp2
      go_ret
      exact ⟨rfl, Hfin.out, (Upd.refl _ _).setCell (.inl (by simp)) _⟩
    · have e1 : takes c (x :: t) = false := by simp [takes, hc]
      have e2 : left c (x :: t) = x :: t := by simp [left, hc]
      have hc' : x.toNat ≠ n := fun h => hc (UInt8.toNat_inj.1 (h.trans hn.symm))
      rw [e1, e2]
      clear e1 e2 hn hc
      go_enter Tryz.func171, Tryz.ntmps171
      go_wp2
      go_ret
      exact ⟨rfl, HC.out, Upd.refl _ _⟩
end Go.Proofs.YtfpdeiefkimaaaaGreatDoor
/-
  Package types, walked: one type.
-/
set_option linter.unusedSimpArgs false
set_option linter.unusedVariables false
namespace Go.Proofs.YtfpdeiefkimaaaaGreatDoor
open Go.RowKit

theorem MaxLenAt.upd {w w' : World} {F : List Nat} (h : MaxLenAt w) (u : Upd w w' F) (hF : 3 ∉ F) : MaxLenAt w' := by
  obtain ⟨m, hm⟩ := h
  have hlt : 3 < w.heap.size := by
    rcases Nat.lt_or_ge 3 w.heap.size with h | h
    · exact h
    · simp [World.cell?, Array.getElem?_eq_none h] at hm
  exact ⟨m, (World.cell?_of_block (u.block _ hlt hF)).trans hm⟩
theorem MaxLenAt.ne {w : World} (h : MaxLenAt w) {C : Nat} {t : TypeId} {s : ByteArray} {r : Value} (hC : Blk w C t #[.string s, r]) : 3 ≠ C := by
  obtain ⟨m, hm⟩ := h
  rintro rfl
  rw [hC.cell] at hm
  simp at hm

/-- Where the type lies, and what it says. -/
def ty (n : Nat) (nm : List UInt8) : Value := .agg #[.int .i64 n, .string (bs nm)]

def wideOr (b : Bool) (n : Nat) : Bool := b || decide (255 < n)

/-- one: what it leaves of the cursor. -/
def onePost (C : Nat) (l : List UInt8) (b : Bool) (w : World) (e : Ending) (w' : World) : Prop :=
  ∃ nm l', Upd w w' [C] ∧ Blk w' C 226 #[.string (bs l'), .bool (wideOr b (lead l))] ∧ l'.length ≤ l.length ∧
    ((oneL l = none ∧ e = .returned (.tuple #[ty (lead l) nm, .bool false])) ∨ (oneL l = some (nm, l') ∧ e = .returned (.tuple #[ty (lead l) nm, .bool true])))

theorem cut_none (t : List UInt8) (h : cutL 59 t = none) (w : World) (hl : t.length ≤ 4000) (hm : MaxLenAt w) :
    Calls Tryz.prog 104 #[.string (bs t), .string ⟨#[59]⟩] w fun e w' => e = .returned (.tuple #[.string (bs t), .string ⟨#[]⟩, .bool false]) ∧ ∃ n, w' = w.drewN n := by
  obtain ⟨m, hm⟩ := hm
  have := Tryz.strings_Cut (bs t) ⟨#[59]⟩ m w (by rw [bs_size]; omega) hm
  rw [bs_data, show ((⟨#[59]⟩ : ByteArray).data.toList) = [59] from rfl, cut_one, h] at this
  exact this
theorem cut_some (t nm t' : List UInt8) (h : cutL 59 t = some (nm, t')) (w : World) (hl : t.length ≤ 4000) (hm : MaxLenAt w) :
    Calls Tryz.prog 104 #[.string (bs t), .string ⟨#[59]⟩] w fun e w' => e = .returned (.tuple #[.string (bs nm), .string (bs t'), .bool true]) ∧ ∃ n, w' = w.drewN n := by
  obtain ⟨m, hm⟩ := hm
  have := Tryz.strings_Cut (bs t) ⟨#[59]⟩ m w (by rw [bs_size]; omega) hm
  rw [bs_data, show ((⟨#[59]⟩ : ByteArray).data.toList) = [59] from rfl, cut_one, h] at this
  exact this

set_option maxHeartbeats 8000000 in
theorem one_any (C : Nat) (l : List UInt8) (b : Bool) (w : World) (hC : Blk w C 226 #[.string (bs l), .bool b]) (hl : l.length ≤ 2000) (hm : MaxLenAt w) :
    Calls Tryz.prog 172 #[.pointer (some ⟨C, 0, none⟩)] w (onePost C l b w) := by
  have HC := hid hC
  have HCm := hid hC
  have hlt := hC.lt
  clear hC
  go_enter Tryz.func172, Tryz.ntmps172
  go_wp2
  have hT0 : Hid (Blk (w.alloc (.cells #[.int .i64 0, .string ⟨#[]⟩] 179)) w.heap.size 179 #[.int .i64 0, .string ⟨#[]⟩]) := Blk.new _ _ _
  have hC0 : Hid (Blk (w.alloc (.cells #[.int .i64 0, .string ⟨#[]⟩] 179)) C 226 #[.string (bs l), .bool b]) := HC.out.alloc _
  have hU0 : Hid (Upd w (w.alloc (.cells #[.int .i64 0, .string ⟨#[]⟩] 179)) [C]) := (Upd.refl _ _).alloc _
  have hCT : Hid (C ≠ w.heap.size) := by intro h; omega
  go_loopw [4] (fun _ wr => ∃ n l', n + lead l' = lead l ∧ l.drop n = l' ∧ n + l'.length = l.length ∧ Blk wr C 226 #[.string (bs l'), .bool b] ∧ Blk wr w.heap.size 179 #[.int .i64 n, .string ⟨#[]⟩] ∧ Upd w wr [C])
    (fun _ wr => match wr.cell? ⟨C, 0, none⟩ with | some (.string s) => s.size | _ => 0)
  case atStart => exact ⟨0, l, by omega, rfl, by omega, hC0.out, hT0.out, hU0.out⟩
  case round =>
    obtain ⟨n, l', h1, h2, h3, h4, h5, h6⟩ := hrel
    clear hT0 hC0 hU0
    have Hf := hid (take_any C l' b 91 91 _ rfl h4 (by omega))
    have hn : n ≤ 2000 := by omega
    have cC := h4.cell 0
    simp at cC
    by_cases hq : ∃ t, l' = 91 :: t
    · obtain ⟨t, rfl⟩ := hq
      rw [show takes 91 (91 :: t) = true from rfl, show left 91 (91 :: t) = t from rfl] at Hf
      go_wp2_with fail
      refine Hf.out.mono ?_
      rintro e w1 ⟨rfl, hC1, hU1⟩
      have hT1 := hU1.blk h5 (by have := hCT.out; simp; omega)
      have cT := hT1.cell 0
      have fT := hT1.frozen 0
      simp at cT
      go_wp2
      go_roundw
      case rel =>
        refine ⟨n + 1, t, ?_, ?_, ?_, hC1.far (by exact hCT.out) _, ?_, (h6.trans hU1).setCell (.inr (Nat.le_refl _)) _⟩
        · rw [lead_cons] at h1; omega
        · rw [← List.drop_drop, h2]; rfl
        · simp at h3; omega
        · have := hT1.set_ 0 (.int .i64 (n + 1))
          simpa using this
      case measure =>
        have c1 := (hC1.far (p := ⟨w.heap.size, 0, none⟩) (by exact hCT.out) (.int .i64 ((n : Int) + 1))).cell 0
        simp at c1
        rw [cC]
        simp only [c1, bs_size, List.length_cons]
        omega
    · have hl0 : lead l' = 0 := by
        cases l' with
        | nil => rfl
        | cons c t => exact lead_stop t (fun e => hq ⟨t, by rw [e]⟩)
      have ht0 : takes 91 l' = false := by
        cases l' with
        | nil => rfl
        | cons c t => simp [takes]; exact fun e => hq ⟨t, by rw [e]⟩
      have hL0 : left 91 l' = l' := by
        have : (l'.head? == some 91) = false := ht0
        simp [left, this]
      rw [ht0, hL0] at Hf
      obtain rfl : n = lead l := by omega
      have h1' := hid h1
      have h2' := hid h2
      clear h1 h2 ht0 hL0 hq hl0
      go_wp2_with fail
      refine Hf.out.mono ?_
      rintro e w1 ⟨rfl, hC1, hU1⟩
      have hT1 := hU1.blk h5 (by have := hCT.out; simp; omega)
      have cT := hT1.cell 0
      have fT := hT1.frozen 0
      have cb := hC1.cell 1
      have fb := hC1.frozen 1
      simp at cT cb
      have hU2 := h6.trans hU1
      have hb : (b || decide (255 < (lead l : Int))) = wideOr b (lead l) := by
        unfold wideOr
        congr 1
        rw [Bool.eq_iff_iff]
        simp
        omega
      have Hb := hid hb
      clear hb
      have hW : ∀ v : Bool, Blk (w1.setCell ⟨C, 1, none⟩ (.bool v)) C 226 #[.string (bs l'), .bool v] := fun v => by simpa using hC1.set_ 1 (.bool v)
      have hWT : ∀ v : Bool, Blk (w1.setCell ⟨C, 1, none⟩ (.bool v)) w.heap.size 179 #[.int .i64 (lead l), .string ⟨#[]⟩] := fun v => hT1.far (p := ⟨C, 1, none⟩) (by have := hCT.out; simp; omega) _
      have hWU : ∀ v : Bool, Upd w (w1.setCell ⟨C, 1, none⟩ (.bool v)) [C] := fun v => hU2.setCell (.inl (by simp)) _
      have HW := hid hW
      have HWT := hid hWT
      have HWU := hid hWU
      have hl' : l'.length ≤ 2000 := by omega
      clear hW hWT hWU hU2 hT1 hC1 hU1 Hf h4 h5 h6 HC
      by_cases hI : ∃ t, l' = 73 :: t
      · obtain ⟨t, rfl⟩ := hI
        have ho : oneL l = some ([], t) := by unfold oneL; rw [h2'.out]; rfl
        cases b
        all_goals
          go_wp2_with fail
          refine (take_any C _ _ 73 73 _ rfl (HW.out _) (Nat.le_trans hl' (by omega))).mono ?_
          rintro e w2 ⟨rfl, hC3, hU3⟩
          have hT3 := hU3.blk (HWT.out _) (by have := hCT.out; simp; omega)
          have hU4 := (HWU.out _).trans hU3
          have d0 := hT3.cell 0
          have d1 := hT3.cell 1
          have fd0 := hT3.frozen 0
          have fd1 := hT3.frozen 1
          simp at d0 d1
          rw [show left 73 (73 :: t) = t from rfl] at hC3
          rw [show takes 73 (73 :: t) = true from rfl]
          go_wp2
          have hT5 := (hT3.set_ 0 (.int .i64 (lead l))).set_ 1 (.string ⟨#[]⟩)
          have g0 := hT5.cell 0
          have g1 := hT5.cell 1
          simp at g0 g1
          have hC5 := (hC3.far (p := ⟨w.heap.size, 0, none⟩) (by exact hCT.out) (.int .i64 (lead l))).far (p := ⟨w.heap.size, 1, none⟩) (by exact hCT.out) (.string ⟨#[]⟩)
          have hU5 := (hU4.setCell (p := ⟨w.heap.size, 0, none⟩) (.inr (Nat.le_refl _)) (.int .i64 (lead l))).setCell (p := ⟨w.heap.size, 1, none⟩) (.inr (Nat.le_refl _)) (.string ⟨#[]⟩)
          refine bodyPost_ret (v := .tuple #[.agg #[.int .i64 (lead l), .string ⟨#[]⟩], .bool true]) (by simp [results, Tryz.results172, go_sem, g0, g1]) rfl ?_
          refine ⟨[], t, hU5, ?_, ?_, .inr ⟨ho, rfl⟩⟩
          · have := Hb.out
            simp only [Bool.false_or, Bool.true_or] at this
            rw [← this]
            exact hC5
          · simp at h3
            omega
      · have t73 : takes 73 l' = false := by
          cases l' with
          | nil => rfl
          | cons c t => simp [takes]; exact fun e => hI ⟨t, by rw [e]⟩
        have L73 : left 73 l' = l' := by
          have : (l'.head? == some 73) = false := t73
          simp [left, this]
        by_cases hL : ∃ t, l' = 76 :: t
        · obtain ⟨t, rfl⟩ := hL
          have ho : oneL l = bareL (76 :: t) := by unfold oneL; rw [h2'.out]
          rw [bareL_L] at ho
          have ht : t.length ≤ 4000 := by simp at hl'; omega
          have hTn : w.heap.size ∉ [C] := by have := hCT.out; simp; omega
          have hmn := hm.ne HCm.out
          clear hI
          cases hcut : cutL 59 t with
          | none =>
            rw [hcut] at ho
            cases b
            all_goals
              go_wp2_with fail
              refine (take_any C _ _ 73 73 _ rfl (HW.out _) (Nat.le_trans hl' (by omega))).mono ?_
              rintro e w2 ⟨rfl, hC3, hU3⟩
              rw [L73] at hC3
              rw [t73]
              go_wp2_with fail
              refine (take_any C _ _ 76 76 _ rfl hC3 (Nat.le_trans hl' (by omega))).mono ?_
              rintro e w3 ⟨rfl, hC4, hU4⟩
              rw [show left 76 (76 :: t) = t from rfl] at hC4
              rw [show takes 76 (76 :: t) = true from rfl]
              have hT3 := hU4.blk (hU3.blk (HWT.out _) hTn) hTn
              have hU5 := ((HWU.out _).trans hU3).trans hU4
              have hm5 := hm.upd hU5 (by simpa using hmn)
              have d0 := hT3.cell 0
              have d1 := hT3.cell 1
              have fd0 := hT3.frozen 0
              have fd1 := hT3.frozen 1
              have x0 := hC4.cell 0
              have fx0 := hC4.frozen 0
              simp at d0 d1 x0
              go_wp2_with fail
              refine (cut_none t hcut _ ht hm5).mono ?_
              rintro e w4 ⟨rfl, nd, rfl⟩
              go_wp2
              have hT4 := ((hT3.drewN nd).set_ 1 (.string (bs t))).far (p := ⟨C, 0, none⟩) (by have := hCT.out; simp; omega) (.string ⟨#[]⟩)
              have e0 := hT4.cell 0
              have e1 := hT4.cell 1
              have fe0 := hT4.frozen 0
              have fe1 := hT4.frozen 1
              have hC5 := ((hC4.drewN nd).far (p := ⟨w.heap.size, 1, none⟩) (by exact hCT.out) (.string (bs t))).set_ 0 (.string ⟨#[]⟩)
              have hU6 := ((hU5.drewN nd).setCell (p := ⟨w.heap.size, 1, none⟩) (.inr (Nat.le_refl _)) (.string (bs t))).setCell (p := ⟨C, 0, none⟩) (.inl (by simp)) (.string ⟨#[]⟩)
              simp at e0 e1 hC5
              go_region
              all_goals
                go_wp2
                have hT6 := (hT4.set_ 0 (.int .i64 (lead l))).set_ 1 (.string (bs t))
                have g0 := hT6.cell 0
                have g1 := hT6.cell 1
                simp at g0 g1
                refine bodyPost_ret (v := .tuple #[ty (lead l) t, .bool false]) (by simp [results, Tryz.results172, go_sem, g0, g1, ty]) rfl ?_
                refine ⟨t, [], ((hU6.setCell (.inr (Nat.le_refl _)) _).setCell (.inr (Nat.le_refl _)) _).drew, ?_, by simp, .inl ⟨ho, rfl⟩⟩
                have := Hb.out
                simp only [Bool.false_or, Bool.true_or] at this
                rw [← this]
                exact ((hC5.far (by exact hCT.out) _).far (by exact hCT.out) _).drewN 1
          | some p =>
            obtain ⟨nm, t'⟩ := p
            rw [hcut] at ho
            have hle := cutL_le 59 t hcut
            simp at hle
            have hn2 : nm.length ≤ 4000 := by omega
            have ho2 : oneL l = if validB nm then some (nm, t') else none := ho
            have hbs : (bs nm).data.toList = nm := bs_data nm
            have hbz : (bs nm).size ≤ 9223372036854775807 := by rw [bs_size]; omega
            have ht' : t'.length ≤ l.length := by simp at h3; omega
            obtain ⟨vb, hvb⟩ : ∃ vb : Bool, validB nm = vb := ⟨_, rfl⟩
            rw [hvb] at ho2
            clear ho h3 hle
            cases b
            all_goals
              go_wp2_with fail
              refine (take_any C _ _ 73 73 _ rfl (HW.out _) (Nat.le_trans hl' (by omega))).mono ?_
              rintro e w2 ⟨rfl, hC3, hU3⟩
              rw [L73] at hC3
              rw [t73]
              go_wp2_with fail
              refine (take_any C _ _ 76 76 _ rfl hC3 (Nat.le_trans hl' (by omega))).mono ?_
              rintro e w3 ⟨rfl, hC4, hU4⟩
              rw [show left 76 (76 :: t) = t from rfl] at hC4
              rw [show takes 76 (76 :: t) = true from rfl]
              have hT3 := hU4.blk (hU3.blk (HWT.out _) hTn) hTn
              have hU5 := ((HWU.out _).trans hU3).trans hU4
              have hm5 := hm.upd hU5 (by simpa using hmn)
              have d0 := hT3.cell 0
              have d1 := hT3.cell 1
              have fd0 := hT3.frozen 0
              have fd1 := hT3.frozen 1
              have x0 := hC4.cell 0
              have fx0 := hC4.frozen 0
              simp at d0 d1 x0
              go_wp2_with fail
              refine (cut_some t nm t' hcut _ ht hm5).mono ?_
              rintro e w4 ⟨rfl, nd, rfl⟩
              go_wp2_with fail
              have hT4 := ((hT3.drewN nd).set_ 1 (.string (bs nm))).far (p := ⟨C, 0, none⟩) (by have := hCT.out; simp; omega) (.string (bs t'))
              have hC5 := ((hC4.drewN nd).far (p := ⟨w.heap.size, 1, none⟩) (by exact hCT.out) (.string (bs nm))).set_ 0 (.string (bs t'))
              have hU6 := ((hU5.drewN nd).setCell (p := ⟨w.heap.size, 1, none⟩) (.inr (Nat.le_refl _)) (.string (bs nm))).setCell (p := ⟨C, 0, none⟩) (.inl (by simp)) (.string (bs t'))
              have e0 := hT4.cell 0
              have e1 := hT4.cell 1
              have fe0 := hT4.frozen 0
              have fe1 := hT4.frozen 1
              simp at e0 e1 hC5
              have hm6 := hm.upd hU6 (by simpa using hmn)
              have HV : ∀ k, Hid (Calls Tryz.prog 122 #[.string (bs nm)] (((((w3.drewN nd).setCell ⟨w.heap.size, 1, none⟩ (.string (bs nm))).setCell ⟨C, 0, none⟩ (.string (bs t')))).drewN k) (fun e w' => e = .returned (.bool vb) ∧ Upd (((((w3.drewN nd).setCell ⟨w.heap.size, 1, none⟩ (.string (bs nm))).setCell ⟨C, 0, none⟩ (.string (bs t')))).drewN k) w' [])) := by
                intro k
                have := valid_any (bs nm) (((((w3.drewN nd).setCell ⟨w.heap.size, 1, none⟩ (.string (bs nm))).setCell ⟨C, 0, none⟩ (.string (bs t')))).drewN k) hbz (hm6.upd ((Upd.refl _ []).drewN k) (by simp))
                rw [hbs, hvb] at this
                exact this
              go_region_with (go_at_call 122; refine (HV 1).out.mono ?_; rintro e w6 ⟨rfl, U6⟩; have U7 := (((Upd.refl _ []).drewN 1).trans U6); have e0' := (U7.blk hT4 (by simp)).cell 0; have e1' := (U7.blk hT4 (by simp)).cell 1; have fe0' := (U7.blk hT4 (by simp)).frozen 0; have fe1' := (U7.blk hT4 (by simp)).frozen 1; simp at e0' e1')
              all_goals
                go_wp2
                have hT7 := ((U7.blk hT4 (by simp)).set_ 0 (.int .i64 (lead l))).set_ 1 (.string (bs nm))
                have g0 := hT7.cell 0
                have g1 := hT7.cell 1
                simp at g0 g1
                refine bodyPost_ret (v := .tuple #[ty (lead l) nm, .bool vb]) (by simp [results, Tryz.results172, go_sem, g0, g1, ty]) rfl ?_
                refine ⟨nm, t', ((hU6.trans (U7.mono (by simp))).setCell (.inr (Nat.le_refl _)) _).setCell (.inr (Nat.le_refl _)) _, ?_, ht', ?_⟩
                · have := Hb.out
                  simp only [Bool.false_or, Bool.true_or] at this
                  rw [← this]
                  exact ((U7.blk hC5 (by simp)).far (by exact hCT.out) _).far (by exact hCT.out) _
                · cases vb
                  · exact .inl ⟨ho2, rfl⟩
                  · exact .inr ⟨ho2, rfl⟩
        · have t76 : takes 76 l' = false := by
            cases l' with
            | nil => rfl
            | cons c t => simp [takes]; exact fun e => hL ⟨t, by rw [e]⟩
          have L76 : left 76 l' = l' := by
            have : (l'.head? == some 76) = false := t76
            simp [left, this]
          have ho : oneL l = none := by
            unfold oneL
            rw [h2'.out]
            exact bareL_else hI hL
          clear hI hL
          cases b
          all_goals
            go_wp2_with fail
            refine (take_any C _ _ 73 73 _ rfl (HW.out _) (Nat.le_trans hl' (by omega))).mono ?_
            rintro e w2 ⟨rfl, hC3, hU3⟩
            rw [L73] at hC3
            rw [t73]
            go_wp2_with fail
            refine (take_any C _ _ 76 76 _ rfl hC3 (Nat.le_trans hl' (by omega))).mono ?_
            rintro e w3 ⟨rfl, hC4, hU4⟩
            rw [L76] at hC4
            rw [t76]
            have hT3 := hU4.blk (hU3.blk (HWT.out _) (by have := hCT.out; simp; omega)) (by have := hCT.out; simp; omega)
            have hU5 := ((HWU.out _).trans hU3).trans hU4
            have d0 := hT3.cell 0
            have d1 := hT3.cell 1
            have fd0 := hT3.frozen 0
            have fd1 := hT3.frozen 1
            simp at d0 d1
            go_wp2
            have hT5 := (hT3.set_ 0 (.int .i64 (lead l))).set_ 1 (.string ⟨#[]⟩)
            have g0 := hT5.cell 0
            have g1 := hT5.cell 1
            simp at g0 g1
            have hC5 := (hC4.far (p := ⟨w.heap.size, 0, none⟩) (by exact hCT.out) (.int .i64 (lead l))).far (p := ⟨w.heap.size, 1, none⟩) (by exact hCT.out) (.string ⟨#[]⟩)
            have hU6 := (hU5.setCell (p := ⟨w.heap.size, 0, none⟩) (.inr (Nat.le_refl _)) (.int .i64 (lead l))).setCell (p := ⟨w.heap.size, 1, none⟩) (.inr (Nat.le_refl _)) (.string ⟨#[]⟩)
            refine bodyPost_ret (v := .tuple #[.agg #[.int .i64 (lead l), .string ⟨#[]⟩], .bool false]) (by simp [results, Tryz.results172, go_sem, g0, g1]) rfl ?_
            refine ⟨[], l', hU6, ?_, by omega, .inl ⟨ho, rfl⟩⟩
            have := Hb.out
            simp only [Bool.false_or, Bool.true_or] at this
            rw [← this]
            exact hC5
end Go.Proofs.YtfpdeiefkimaaaaGreatDoor
/-
  Package types, walked: Parse, ParseRef.
-/
set_option linter.unusedSimpArgs false
set_option linter.unusedVariables false
namespace Go.Proofs.YtfpdeiefkimaaaaGreatDoor
open Go.RowKit

theorem MaxLenAt.lt {w : World} (h : MaxLenAt w) : 3 < w.heap.size := by
  obtain ⟨m, hm⟩ := h
  rcases Nat.lt_or_ge 3 w.heap.size with h | h
  · exact h
  · simp [World.cell?, Array.getElem?_eq_none h] at hm
theorem MaxLenAt.alloc {w : World} (h : MaxLenAt w) (o : Obj) : MaxLenAt (w.alloc o) := h.upd (F := []) ((Upd.refl w []).alloc o) (by simp)

theorem Upd.newer {w0 w w' : World} {F G : List Nat} (h : Upd w0 w F) (k : Upd w w' G) (hG : ∀ b, b ∈ G → b ∈ F ∨ w0.heap.size ≤ b) : Upd w0 w' F :=
  ⟨k.os.trans h.os, k.tape.trans h.tape, k.output.trans h.output, Nat.le_trans h.size k.size, fun b hb hF => (k.block b (Nat.lt_of_lt_of_le hb h.size) (fun hg => by
    rcases hG b hg with h1 | h1
    · exact hF h1
    · omega)).trans (h.block b hb hF)⟩

def parsePost (r : Nat × List UInt8 × Int) (w : World) (e : Ending) (w' : World) : Prop :=
  e = .returned (.tuple #[ty r.1 r.2.1, .int .i64 r.2.2]) ∧ Upd w w' []

set_option maxHeartbeats 4000000 in
theorem parse_any (l : List UInt8) (w : World) (hl : l.length ≤ 9223372036854775807) (hm : MaxLenAt w) : Calls Tryz.prog 187 #[.string (bs l)] w (parsePost (parseL l) w) := by
  have hs : (bs l).size = l.length := bs_size l
  by_cases hbig : 2000 < l.length
  · rw [show parseL l = (0, [], 5) by unfold parseL; rw [if_pos hbig]]
    go_enter Tryz.func187, Tryz.ntmps187
    go_wp2
    exact bodyPost_ret (v := .tuple #[ty 0 [], .int .i64 5]) (by simp [results, Tryz.results187, go_sem, ty, bs]) rfl ⟨rfl, (Upd.refl _ _).alloc _⟩
  · have hU0 : Upd w ((w.alloc (.cells #[.int .i64 0, .string ⟨#[]⟩] 179)).alloc (.cells #[.string (bs l), .bool false] 226)) [] := ((Upd.refl w []).alloc _).alloc _
    have hC0 : Blk ((w.alloc (.cells #[.int .i64 0, .string ⟨#[]⟩] 179)).alloc (.cells #[.string (bs l), .bool false] 226)) (w.heap.size + 1) 226 #[.string (bs l), .bool false] := Blk.new_at (by simp)
    have hR0 : Blk ((w.alloc (.cells #[.int .i64 0, .string ⟨#[]⟩] 179)).alloc (.cells #[.string (bs l), .bool false] 226)) w.heap.size 179 #[.int .i64 0, .string ⟨#[]⟩] := (Blk.new _ _ _).alloc _
    have Hone := hid (one_any (w.heap.size + 1) l false _ hC0 (by omega) (hm.upd hU0 (by simp)))
    have p0 : oneL l = none → parseL l = (0, [], 4) := fun h => by unfold parseL; rw [if_neg hbig, h]
    have p1 : ∀ nm c t, oneL l = some (nm, c :: t) → parseL l = (0, [], 4) := fun nm c t h => by unfold parseL; rw [if_neg hbig, h]
    have p2 : ∀ nm, oneL l = some (nm, []) → parseL l = if 255 < lead l then (0, [], 5) else (lead l, nm, 0) := fun nm h => by unfold parseL; rw [if_neg hbig, h]
    have HU0 := hid hU0
    have HR0 := hid hR0
    have hgl := hm.lt
    clear hU0 hC0 hR0
    go_enter Tryz.func187, Tryz.ntmps187
    go_wp2_with fail
    refine Hone.out.mono ?_
    rintro e w1 ⟨nm, l', hU1, hC1, hl', hres⟩
    have hU2 := HU0.out.newer hU1 (by intro b hb; simp at hb; right; omega)
    have hR1 := hU1.blk HR0.out (by simp)
    clear HU0 HR0 Hone
    have hw1 := hC1.lt
    have hC2 := hC1.alloc (.cells #[.int .i64 (lead l), .string (bs nm)] 179)
    have hR2 := hR1.alloc (.cells #[.int .i64 (lead l), .string (bs nm)] 179)
    have hT2 : Blk (w1.alloc (.cells #[.int .i64 (lead l), .string (bs nm)] 179)) w1.heap.size 179 #[.int .i64 (lead l), .string (bs nm)] := Blk.new _ _ _
    have hU3 := hU2.alloc (.cells #[.int .i64 (lead l), .string (bs nm)] 179)
    have c0 := hC2.cell 0
    have c1 := hC2.cell 1
    have r0 := hR2.cell 0
    have r1 := hR2.cell 1
    have rf0 := hR2.frozen 0
    have rf1 := hR2.frozen 1
    simp at c0 c1 r0 r1
    have fin : ∀ (n : Nat) (m : List UInt8) (k : Int), Hid (Blk (((w1.alloc (.cells #[.int .i64 (lead l), .string (bs nm)] 179)).setCell ⟨w.heap.size, 0, none⟩ (.int .i64 n)).setCell ⟨w.heap.size, 1, none⟩ (.string (bs m))) w.heap.size 179 #[.int .i64 n, .string (bs m)]) := by
      intro n m k
      exact (hR2.set_ 0 (.int .i64 n)).set_ 1 (.string (bs m))
    rcases hres with ⟨ho, rfl⟩ | ⟨ho, rfl⟩
    · unfold ty
      go_wp2
      have g0 := (fin 0 [] 0).out.cell 0
      have g1 := (fin 0 [] 0).out.cell 1
      simp [bs] at g0 g1
      refine bodyPost_ret (v := .tuple #[ty 0 [], .int .i64 4]) (by simp [results, Tryz.results187, go_sem, ty, bs, g0, g1]) rfl ?_
      rw [p0 ho]
      exact ⟨rfl, (hU3.setCell (.inr (Nat.le_refl _)) _).setCell (.inr (Nat.le_refl _)) _⟩
    · rcases l' with _ | ⟨c, t⟩
      · rw [show bs ([] : List UInt8) = ⟨#[]⟩ from rfl] at c0
        by_cases hw : 255 < lead l
        · rw [show wideOr false (lead l) = true by simp [wideOr, hw]] at c1
          unfold ty
          go_wp2
          have g0 := (fin 0 [] 0).out.cell 0
          have g1 := (fin 0 [] 0).out.cell 1
          simp [bs] at g0 g1
          refine bodyPost_ret (v := .tuple #[ty 0 [], .int .i64 5]) (by simp [results, Tryz.results187, go_sem, ty, bs, g0, g1]) rfl ?_
          rw [p2 _ ho, if_pos hw]
          exact ⟨rfl, (hU3.setCell (.inr (Nat.le_refl _)) _).setCell (.inr (Nat.le_refl _)) _⟩
        · rw [show wideOr false (lead l) = false by simp [wideOr]; omega] at c1
          unfold ty
          go_wp2
          have g0 := (fin (lead l) nm 0).out.cell 0
          have g1 := (fin (lead l) nm 0).out.cell 1
          simp [bs] at g0 g1
          refine bodyPost_ret (v := .tuple #[ty (lead l) nm, .int .i64 0]) (by simp [results, Tryz.results187, go_sem, ty, bs, g0, g1]) rfl ?_
          rw [p2 _ ho, if_neg hw]
          exact ⟨rfl, (hU3.setCell (.inr (Nat.le_refl _)) _).setCell (.inr (Nat.le_refl _)) _⟩
      · have he : (bs (c :: t)).toList.isEmpty = false := by rw [bs_toList]; rfl
        have he2 : ¬ (bs (c :: t)).toList = [] := by rw [bs_toList]; simp
        unfold ty
        go_wp2
        have g0 := (fin 0 [] 0).out.cell 0
        have g1 := (fin 0 [] 0).out.cell 1
        simp [bs] at g0 g1
        refine bodyPost_ret (v := .tuple #[ty 0 [], .int .i64 4]) (by simp [results, Tryz.results187, go_sem, ty, bs, g0, g1]) rfl ?_
        rw [p1 _ _ _ ho]
        exact ⟨rfl, (hU3.setCell (.inr (Nat.le_refl _)) _).setCell (.inr (Nat.le_refl _)) _⟩
end Go.Proofs.YtfpdeiefkimaaaaGreatDoor
/-
  Package types, walked: ParseRef.
-/
set_option linter.unusedSimpArgs false
set_option linter.unusedVariables false
namespace Go.Proofs.YtfpdeiefkimaaaaGreatDoor
open Go.RowKit

theorem prefix_any (l : List UInt8) (w : World) : Calls Tryz.prog 209 #[.string (bs l), .string ⟨#[91]⟩] w fun e w' => e = .returned (.bool (l.head? == some 91)) ∧ w = w' := by
  have h := Tryz.strings_HasPrefix (bs l) ⟨#[91]⟩ w
  rw [bs_data] at h
  have e : Lib.hasPrefix l (⟨#[91]⟩ : ByteArray).data.toList = (l.head? == some 91) := by
    cases l with
    | nil => rfl
    | cons c t =>
      rw [Bool.eq_iff_iff]
      simp [Lib.hasPrefix]
      try exact eq_comm
  rw [e] at h
  refine h.mono ?_
  rintro e w1 ⟨rfl, rfl⟩
  exact ⟨rfl, rfl⟩

set_option maxHeartbeats 4000000 in
theorem parseRef_any (l : List UInt8) (w : World) (hl : l.length ≤ 9223372036854775807) (hm : MaxLenAt w) : Calls Tryz.prog 186 #[.string (bs l)] w (parsePost (parseRefL l) w) := by
  have hs : (bs l).size = l.length := bs_size l
  have hp := hid (prefix_any l (w.alloc (.cells #[.int .i64 0, .string ⟨#[]⟩] 179)))
  have hU0 : Upd w (w.alloc (.cells #[.int .i64 0, .string ⟨#[]⟩] 179)) [] := (Upd.refl _ _).alloc _
  have hR0 : Blk (w.alloc (.cells #[.int .i64 0, .string ⟨#[]⟩] 179)) w.heap.size 179 #[.int .i64 0, .string ⟨#[]⟩] := Blk.new _ _ _
  have hm0 := hm.upd hU0 (by simp)
  cases h91 : (l.head? == some 91) with
  | true =>
    rw [h91] at hp
    have PE : parseRefL l = parseL l := by unfold parseRefL; rw [h91]; rfl
    have hq := hid (parse_any l _ (by omega) hm0)
    generalize parseL l = r at hq PE
    obtain ⟨n, nm, er⟩ := r
    go_enter Tryz.func186, Tryz.ntmps186
    go_wp2_with fail
    refine hp.out.mono ?_
    rintro e w1 ⟨rfl, rfl⟩
    go_wp2_with fail
    refine hq.out.mono ?_
    rintro e w1 ⟨rfl, hU1⟩
    have hR1 := hU1.blk hR0 (by simp)
    have hU2 := hU0.trans hU1
    have r0 := hR1.cell 0
    have r1 := hR1.cell 1
    have rf0 := hR1.frozen 0
    have rf1 := hR1.frozen 1
    simp at r0 r1
    unfold ty
    go_wp2
    have hR3 := (hR1.set_ 0 (.int .i64 n)).set_ 1 (.string (bs nm))
    have g0 := hR3.cell 0
    have g1 := hR3.cell 1
    simp at g0 g1
    refine bodyPost_ret (v := .tuple #[ty n nm, .int .i64 er]) (by simp [results, Tryz.results186, go_sem, ty, g0, g1]) rfl ?_
    rw [PE]
    exact ⟨rfl, (hU2.setCell (.inr (Nat.le_refl _)) _).setCell (.inr (Nat.le_refl _)) _⟩
  | false =>
    rw [h91] at hp
    by_cases hbig : 2000 < l.length
    · have PE : parseRefL l = (0, [], 5) := by unfold parseRefL; rw [h91, if_neg (by simp), if_pos hbig]
      go_enter Tryz.func186, Tryz.ntmps186
      go_wp2_with fail
      refine hp.out.mono ?_
      rintro e w1 ⟨rfl, rfl⟩
      go_wp2
      refine bodyPost_ret (v := .tuple #[ty 0 [], .int .i64 5]) (by simp [results, Tryz.results186, go_sem, ty, bs]) rfl ?_
      rw [PE]
      exact ⟨rfl, hU0⟩
    · have hv := hid (valid_any (bs l) _ (by omega) hm0)
      rw [bs_data] at hv
      cases hvb : validB l with
      | true =>
        rw [hvb] at hv
        have PE : parseRefL l = (0, l, 0) := by unfold parseRefL; rw [h91, if_neg (by simp), if_neg hbig, hvb]; rfl
        go_enter Tryz.func186, Tryz.ntmps186
        go_wp2_with fail
        refine hp.out.mono ?_
        rintro e w1 ⟨rfl, rfl⟩
        go_wp2_with fail
        refine hv.out.mono ?_
        rintro e w1 ⟨rfl, hU1⟩
        have hR1 := hU1.blk hR0 (by simp)
        have hU2 := hU0.trans hU1
        have r0 := hR1.cell 0
        have r1 := hR1.cell 1
        have rf0 := hR1.frozen 0
        have rf1 := hR1.frozen 1
        simp at r0 r1
        go_wp2
        have hR3 := (hR1.set_ 0 (.int .i64 0)).set_ 1 (.string (bs l))
        have g0 := hR3.cell 0
        have g1 := hR3.cell 1
        simp at g0 g1
        refine bodyPost_ret (v := .tuple #[ty 0 l, .int .i64 0]) (by simp [results, Tryz.results186, go_sem, ty, g0, g1]) rfl ?_
        rw [PE]
        exact ⟨rfl, (hU2.setCell (.inr (Nat.le_refl _)) _).setCell (.inr (Nat.le_refl _)) _⟩
      | false =>
        rw [hvb] at hv
        have PE : parseRefL l = (0, [], 4) := by unfold parseRefL; rw [h91, if_neg (by simp), if_neg hbig, hvb]; rfl
        go_enter Tryz.func186, Tryz.ntmps186
        go_wp2_with fail
        refine hp.out.mono ?_
        rintro e w1 ⟨rfl, rfl⟩
        go_wp2_with fail
        refine hv.out.mono ?_
        rintro e w1 ⟨rfl, hU1⟩
        have hR1 := hU1.blk hR0 (by simp)
        have hU2 := hU0.trans hU1
        have r0 := hR1.cell 0
        have r1 := hR1.cell 1
        have rf0 := hR1.frozen 0
        have rf1 := hR1.frozen 1
        simp at r0 r1
        go_wp2
        have hR3 := (hR1.set_ 0 (.int .i64 0)).set_ 1 (.string (bs []))
        have g0 := hR3.cell 0
        have g1 := hR3.cell 1
        simp [bs] at g0 g1
        refine bodyPost_ret (v := .tuple #[ty 0 [], .int .i64 4]) (by simp [results, Tryz.results186, go_sem, ty, bs, g0, g1]) rfl ?_
        rw [PE]
        exact ⟨rfl, (hU2.setCell (.inr (Nat.le_refl _)) _).setCell (.inr (Nat.le_refl _)) _⟩
end Go.Proofs.YtfpdeiefkimaaaaGreatDoor
/-
  The plain reading of a method's descriptor. No program text.
-/
set_option linter.unusedSimpArgs false
set_option linter.unusedVariables false
namespace Go.Proofs.YtfpdeiefkimaaaaGreatDoor
open Go.RowKit

theorem cutL_lt {c : UInt8} {l : List UInt8} {p} (h : cutL c l = some p) : p.2.length < l.length := by
  have := cutL_le c l h
  omega
theorem bareL_lt {l : List UInt8} {p} (h : bareL l = some p) : p.2.length < l.length := by
  cases l with
  | nil => simp [bareL] at h
  | cons c t =>
    simp only [bareL] at h
    split at h
    · cases h; simp
    · split at h
      · cases hq : cutL 59 t with
        | none => rw [hq] at h; simp at h
        | some q =>
          rw [hq] at h
          simp only [Option.bind_some] at h
          split at h
          · cases h
            have := cutL_lt hq
            simp
            omega
          · cases h
      · cases h
theorem oneL_lt {l : List UInt8} {p} (h : oneL l = some p) : p.2.length < l.length := by
  have h1 := bareL_lt h
  have h2 : (l.drop (lead l)).length ≤ l.length := by simp
  omega

/-- The arguments up to the closing ): how many, whether one has too many dimensions, what is left. -/
def argsL : Nat → List UInt8 → Option (Nat × Bool × List UInt8)
  | 0, _ => none
  | k + 1, l => if takes 41 l then some (0, false, l.tail) else
    match oneL l with
    | none => none
    | some p => (argsL k p.2).map fun q => (q.1 + 1, wideOr q.2.1 (lead l), q.2.2)
/-- A descriptor: how many arguments, the error. -/
def descL (l : List UInt8) : Nat × Int :=
  if 2000 < l.length then (0, 5) else if takes 40 l then
    match argsL l.length l.tail with
    | none => (0, 4)
    | some (n, wd, r) =>
      if takes 86 r then (if r.tail = [] then (if wd || decide (20 < n) then (0, 5) else (n, 0)) else (0, 4))
      else match oneL r with
        | some (_, []) => if wideOr wd (lead r) || decide (20 < n) then (0, 5) else (n, 0)
        | _ => (0, 4)
  else (0, 4)
end Go.Proofs.YtfpdeiefkimaaaaGreatDoor
/-
  Package types, walked: ParseDesc.
-/
set_option linter.unusedSimpArgs false
set_option linter.unusedVariables false
namespace Go.Proofs.YtfpdeiefkimaaaaGreatDoor
open Go.RowKit

theorem infoType : (Tryz.prog.info? 179).map (fun i => (i.zero, i.size, i.bytes)) = some (some (.agg #[.int .i64 0, .string ⟨#[]⟩]), 2, 24) := by kernel_rfl

def descPost (r : Nat × Int) (w : World) (e : Ending) (w' : World) : Prop :=
  (∃ A cap vd d nm, e = .returned (.tuple #[.agg #[.slice A r.1 cap, .bool vd, .int .i64 d, .string (bs nm)], .int .i64 r.2])) ∧ Upd w w' []

def descRel (l : List UInt8) : Bool → Nat → Bool → List UInt8 → Prop
  | true, n, b, l' => takes 40 l = true ∧ ∃ k, l'.length < k ∧ n + l'.length ≤ 2000 ∧ argsL l.length l.tail = (argsL k l').map fun q => (q.1 + n, q.2.1 || b, q.2.2)
  | false, _, _, l' => descL l = (0, 4) ∧ l'.length ≤ 2000

def descInv (l : List UInt8) (w : World) (t : Value) (wr : World) : Prop :=
  ∃ ok n b l' v xs, t = .bool ok ∧ Hid (descRel l ok n b l') ∧ Blk wr (w.heap.size + 1) 226 #[.string (bs l'), .bool b] ∧
    Blk wr (w.heap.size + 1 + 1) 181 #[v, .bool false, .int .i64 0, .string ⟨#[]⟩] ∧ Blk wr w.heap.size 181 #[.slice none 0 0, .bool false, .int .i64 0, .string ⟨#[]⟩] ∧
    wr.ownsRow 0 179 2 v n xs ∧ (∀ k, k ∈ Value.ob v → w.heap.size + 1 + 1 < k) ∧ Upd w wr []
def descM (w : World) (t : Value) (wr : World) : Nat :=
  match t with
  | .bool true => match wr.cell? ⟨w.heap.size + 1, 0, none⟩ with | some (.string s) => s.size + 1 | _ => 1
  | _ => 0

set_option maxHeartbeats 8000000 in
set_option maxRecDepth 100000 in
theorem parseDesc_any (l : List UInt8) (w : World) (hl : l.length ≤ 9223372036854775807) (hm : MaxLenAt w) : Calls Tryz.prog 125 #[.string (bs l)] w (descPost (descL l) w) := by
  have hs : (bs l).size = l.length := bs_size l
  by_cases hbig : 2000 < l.length
  · rw [show descL l = (0, 5) by unfold descL; rw [if_pos hbig]]
    go_enter Tryz.func125, Tryz.ntmps125
    go_wp2
    go_step3
    go_wp2
    rw [Exit.noGoto_ret]
    exact bodyPost_ret (v := .tuple #[.agg #[.slice none 0 0, .bool false, .int .i64 0, .string ⟨#[]⟩], .int .i64 5]) (by simp [results, Tryz.results125, go_sem]) rfl ⟨⟨none, 0, false, 0, [], rfl⟩, (Upd.refl _ _).alloc _⟩
  · have hU0 : Upd w (((w.alloc (.cells #[.slice none 0 0, .bool false, .int .i64 0, .string ⟨#[]⟩] 181)).alloc (.cells #[.string (bs l), .bool false] 226)).alloc (.cells #[.slice none 0 0, .bool false, .int .i64 0, .string ⟨#[]⟩] 181)) [] := (((Upd.refl w []).alloc _).alloc _).alloc _
    have hC0 : Blk (((w.alloc (.cells #[.slice none 0 0, .bool false, .int .i64 0, .string ⟨#[]⟩] 181)).alloc (.cells #[.string (bs l), .bool false] 226)).alloc (.cells #[.slice none 0 0, .bool false, .int .i64 0, .string ⟨#[]⟩] 181)) (w.heap.size + 1) 226 #[.string (bs l), .bool false] := (Blk.new_at (by simp)).alloc _
    have hD0 : Blk (((w.alloc (.cells #[.slice none 0 0, .bool false, .int .i64 0, .string ⟨#[]⟩] 181)).alloc (.cells #[.string (bs l), .bool false] 226)).alloc (.cells #[.slice none 0 0, .bool false, .int .i64 0, .string ⟨#[]⟩] 181)) (w.heap.size + 1 + 1) 181 #[.slice none 0 0, .bool false, .int .i64 0, .string ⟨#[]⟩] := Blk.new_at (by simp)
    have hR0 : Blk (((w.alloc (.cells #[.slice none 0 0, .bool false, .int .i64 0, .string ⟨#[]⟩] 181)).alloc (.cells #[.string (bs l), .bool false] 226)).alloc (.cells #[.slice none 0 0, .bool false, .int .i64 0, .string ⟨#[]⟩] 181)) w.heap.size 181 #[.slice none 0 0, .bool false, .int .i64 0, .string ⟨#[]⟩] := ((Blk.new _ _ _).alloc _).alloc _
    have Ht := hid (take_any (w.heap.size + 1) l false 40 40 _ rfl hC0 (by omega))
    obtain ⟨i0, hi0, hz0, hz1, hz2⟩ := info_parts infoType
    have HU0 := hid hU0
    have HD0 := hid hD0
    have HR0 := hid hR0
    clear hU0 hC0 hR0 hD0
    go_enter Tryz.func125, Tryz.ntmps125
    go_wp2
    go_step3
    go_wp2_with fail
    refine Ht.out.mono ?_
    rintro e w1 ⟨rfl, hC1, hU1⟩
    have hI : Hid (descInv l w (.bool (takes 40 l)) w1) := by
      refine ⟨takes 40 l, 0, false, left 40 l, .slice none 0 0, [], rfl, ?_, hC1, hU1.blk HD0.out (by simp), hU1.blk HR0.out (by simp), ⟨rfl, .inl ⟨rfl, rfl⟩⟩, ?_, HU0.out.newer hU1 (by intro b hb; simp at hb; right; omega)⟩
      · cases h40 : takes 40 l with
        | true =>
          have e : left 40 l = l.tail := by unfold left; rw [show (l.head? == some 40) = true from h40]; rfl
          rw [e]
          have hne : l ≠ [] := by rintro rfl; simp [takes] at h40
          have : l.tail.length < l.length := by
            cases l with
            | nil => exact absurd rfl hne
            | cons c t => simp
          exact ⟨h40, l.length, this, by simp; omega, by cases argsL l.length l.tail <;> simp⟩
        | false =>
          have e : left 40 l = l := by unfold left; rw [show (l.head? == some 40) = false from h40]; rfl
          rw [e]
          exact ⟨by unfold descL; rw [if_neg hbig, h40]; rfl, by omega⟩
      · intro k hk; simp [Value.ob, Value.ownBlock] at hk
    clear Ht HU0 HD0 HR0 hC1 hU1
    go_wp2
    go_step3
    go_wp2
    go_loopw [6] (fun t wr => descInv l w t wr) (fun t wr => descM w t wr)
    case atStart => exact hI.out
    case round =>
      clear hI
      obtain ⟨ok, n, b, l', v, xs, rfl, hq, hC, hD, hR, hown, hv, hU⟩ := hrel
      have r0 := hR.cell 0
      have r1 := hR.cell 1
      have r2 := hR.cell 2
      have r3 := hR.cell 3
      have rf0 := hR.frozen 0
      have rf1 := hR.frozen 1
      have rf2 := hR.frozen 2
      have rf3 := hR.frozen 3
      simp at r0 r1 r2 r3
      cases ok with
      | false =>
        have hd : Hid (descL l = (0, 4)) := hq.out.1
        go_wp2
        have hR4 := (((hR.set_ 0 (.slice none 0 0)).set_ 1 (.bool false)).set_ 2 (.int .i64 0)).set_ 3 (.string ⟨#[]⟩)
        have g0 := hR4.cell 0
        have g1 := hR4.cell 1
        have g2 := hR4.cell 2
        have g3 := hR4.cell 3
        simp at g0 g1 g2 g3
        rw [Exit.noGoto_ret]
        refine bodyPost_ret (v := .tuple #[.agg #[.slice none 0 0, .bool false, .int .i64 0, .string ⟨#[]⟩], .int .i64 4]) (by simp [results, Tryz.results125, go_sem, g0, g1, g2, g3]) rfl ?_
        rw [hd.out]
        exact ⟨⟨none, 0, false, 0, [], rfl⟩, (((hU.setCell (.inr (Nat.le_refl _)) _).setCell (.inr (Nat.le_refl _)) _).setCell (.inr (Nat.le_refl _)) _).setCell (.inr (Nat.le_refl _)) _⟩
      | true =>
        have hlen : l'.length ≤ 2000 := by obtain ⟨_, k, h1, h2, _⟩ := hq.out; omega
        have Ht := hid (take_any (w.heap.size + 1) l' b 41 41 _ rfl hC (by omega))
        cases h41 : takes 41 l' with
        | true =>
          rw [h41] at Ht
          go_wp2_with fail
          refine Ht.out.mono ?_
          rintro e w2 ⟨rfl, hC2, hU2⟩
          have hD2 := hU2.blk hD (by simp)
          have hR2 := hU2.blk hR (by simp)
          have hU3 := hU.newer hU2 (by intro b hb; simp at hb; right; omega)
          obtain ⟨A, cap, rfl, hcap⟩ := own_slice hown
          obtain ⟨r, hr⟩ : ∃ r, left 41 l' = r := ⟨_, rfl⟩
          rw [hr] at hC2
          have hr2 : l'.tail = r := by rw [← hr]; unfold left; rw [show (l'.head? == some 41) = true from h41]; rfl
          have hrl : r.length ≤ 2000 := by rw [← hr2]; simp; omega
          have hn : n ≤ 2000 := by obtain ⟨_, k, h1, h2, _⟩ := hq.out; omega
          have hdesc : descL l = (if takes 86 r then (if r.tail = [] then (if b || decide (20 < n) then ((0, 5) : Nat × Int) else (n, 0)) else (0, 4))
              else match oneL r with
                | some (_, []) => if wideOr b (lead r) || decide (20 < n) then (0, 5) else (n, 0)
                | _ => (0, 4)) := by
            obtain ⟨h40, k, h1, h2, h3⟩ := hq.out
            obtain ⟨k, rfl⟩ : ∃ m, k = m + 1 := ⟨k - 1, by omega⟩
            have h4 : argsL (k + 1) l' = some (0, false, r) := by unfold argsL; rw [h41, hr2]; rfl
            rw [h4] at h3
            unfold descL
            rw [if_neg hbig, h40, if_pos rfl, h3]
            simp only [Option.map_some, Nat.zero_add, Bool.false_or]
            try rfl
          have q1 : takes 86 r = true → r.tail ≠ [] → Hid (descL l = (0, 4)) := fun h1 h2 => hid (by rw [hdesc, h1, if_pos rfl, if_neg h2])
          have q2 : takes 86 r = true → r.tail = [] → (b || decide (20 < n)) = true → Hid (descL l = (0, 5)) := fun h1 h2 h3 => hid (by rw [hdesc, h1, if_pos rfl, if_pos h2, h3]; rfl)
          have q3 : takes 86 r = true → r.tail = [] → (b || decide (20 < n)) = false → Hid (descL l = (n, 0)) := fun h1 h2 h3 => hid (by rw [hdesc, h1, if_pos rfl, if_pos h2, h3]; rfl)
          have q4 : takes 86 r = false → oneL r = none → Hid (descL l = (0, 4)) := fun h1 h2 => hid (by rw [hdesc, h1, if_neg (by simp), h2])
          have q5 : takes 86 r = false → ∀ nm c t, oneL r = some (nm, c :: t) → Hid (descL l = (0, 4)) := fun h1 nm c t h2 => hid (by rw [hdesc, h1, if_neg (by simp), h2])
          have q6 : takes 86 r = false → ∀ nm, oneL r = some (nm, []) → (wideOr b (lead r) || decide (20 < n)) = true → Hid (descL l = (0, 5)) := fun h1 nm h2 h3 => hid (by rw [hdesc, h1, if_neg (by simp), h2]; simp only [h3]; rfl)
          have q7 : takes 86 r = false → ∀ nm, oneL r = some (nm, []) → (wideOr b (lead r) || decide (20 < n)) = false → Hid (descL l = (n, 0)) := fun h1 nm h2 h3 => hid (by rw [hdesc, h1, if_neg (by simp), h2]; simp only [h3]; rfl)
          have Q1 := hid q1
          have Q2 := hid q2
          have Q3 := hid q3
          have Q4 := hid q4
          have Q5 := hid q5
          have Q6 := hid q6
          have Q7 := hid q7
          clear q1 q2 q3 q4 q5 q6 q7 hdesc hq Ht r0 r1 r2 r3 rf0 rf1 rf2 rf3 hC hD hR hr hr2 h41 hlen
          have Ht := hid (take_any (w.heap.size + 1) r b 86 86 _ rfl hC2 (by omega))
          go_wp2_with fail
          refine Ht.out.mono ?_
          rintro e w3 ⟨rfl, hC3, hU4⟩
          have hD3 := hU4.blk hD2 (by simp)
          have hR3 := hU4.blk hR2 (by simp)
          have hU5 := hU3.newer hU4 (by intro b hb; simp at hb; right; omega)
          have d0 := hD3.cell 0
          have d1 := hD3.cell 1
          have df1 := hD3.frozen 1
          simp at d0 d1
          clear Ht hU2 hU4 hC2
          cases h86 : takes 86 r with
          | true =>
            have hl86 : left 86 r = r.tail := by unfold left; rw [show (r.head? == some 86) = true from h86]; rfl
            rw [hl86] at hC3
            have hC4 := hC3.far (p := ⟨w.heap.size + 1 + 1, 1, none⟩) (by simp) (.bool true)
            have hD4 := hD3.set_ 1 (.bool true)
            have hR4 := hR3.far (p := ⟨w.heap.size + 1 + 1, 1, none⟩) (by simp; omega) (.bool true)
            have hU6 := hU5.setCell (p := ⟨w.heap.size + 1 + 1, 1, none⟩) (.inr (by simp; omega)) (.bool true)
            have c0 := hC4.cell 0
            have c1 := hC4.cell 1
            have e0 := hD4.cell 0
            have e1 := hD4.cell 1
            have e2 := hD4.cell 2
            have e3 := hD4.cell 3
            have r0 := hR4.cell 0
            have r1 := hR4.cell 1
            have r2 := hR4.cell 2
            have r3 := hR4.cell 3
            have rf0 := hR4.frozen 0
            have rf1 := hR4.frozen 1
            have rf2 := hR4.frozen 2
            have rf3 := hR4.frozen 3
            simp at c0 c1 e0 e1 e2 e3 r0 r1 r2 r3
            by_cases hrt : r.tail = []
            · rw [hrt, show bs ([] : List UInt8) = ⟨#[]⟩ from rfl] at c0
              cases hbn : (b || decide (20 < n)) with
              | true =>
                have DE := Q2.out h86 hrt hbn
                clear Q1 Q2 Q3 Q4 Q5 Q6 Q7
                cases b
                all_goals
                  simp at hbn
                  go_wp2
                  have hR9 := (((hR4.set_ 0 (.slice none 0 0)).set_ 1 (.bool false)).set_ 2 (.int .i64 0)).set_ 3 (.string ⟨#[]⟩)
                  have g0 := hR9.cell 0
                  have g1 := hR9.cell 1
                  have g2 := hR9.cell 2
                  have g3 := hR9.cell 3
                  simp at g0 g1 g2 g3
                  rw [Exit.noGoto_ret]
                  refine bodyPost_ret (v := .tuple #[.agg #[.slice none 0 0, .bool false, .int .i64 0, .string ⟨#[]⟩], .int .i64 5]) (by simp [results, Tryz.results125, go_sem, g0, g1, g2, g3]) rfl ?_
                  rw [DE.out]
                  exact ⟨⟨none, 0, false, 0, [], rfl⟩, (((hU6.setCell (.inr (Nat.le_refl _)) _).setCell (.inr (Nat.le_refl _)) _).setCell (.inr (Nat.le_refl _)) _).setCell (.inr (Nat.le_refl _)) _⟩
              | false =>
                have DE := Q3.out h86 hrt hbn
                clear Q1 Q2 Q3 Q4 Q5 Q6 Q7
                simp at hbn
                obtain ⟨rfl, hn20⟩ := hbn
                go_wp2
                have hR9 := (((hR4.set_ 0 (.slice A n cap)).set_ 1 (.bool true)).set_ 2 (.int .i64 0)).set_ 3 (.string ⟨#[]⟩)
                have g0 := hR9.cell 0
                have g1 := hR9.cell 1
                have g2 := hR9.cell 2
                have g3 := hR9.cell 3
                simp at g0 g1 g2 g3
                rw [Exit.noGoto_ret]
                refine bodyPost_ret (v := .tuple #[.agg #[.slice A n cap, .bool true, .int .i64 0, .string ⟨#[]⟩], .int .i64 0]) (by simp [results, Tryz.results125, go_sem, g0, g1, g2, g3]) rfl ?_
                rw [DE.out]
                exact ⟨⟨A, cap, true, 0, [], rfl⟩, (((hU6.setCell (.inr (Nat.le_refl _)) _).setCell (.inr (Nat.le_refl _)) _).setCell (.inr (Nat.le_refl _)) _).setCell (.inr (Nat.le_refl _)) _⟩
            · have DE := Q1.out h86 hrt
              have he : (bs r.tail).toList.isEmpty = false := by rw [bs_toList]; simpa using hrt
              have he2 : ¬ (bs r.tail).toList = [] := by rw [bs_toList]; exact hrt
              clear Q1 Q2 Q3 Q4 Q5 Q6 Q7
              go_wp2
              have hR9 := (((hR4.set_ 0 (.slice none 0 0)).set_ 1 (.bool false)).set_ 2 (.int .i64 0)).set_ 3 (.string ⟨#[]⟩)
              have g0 := hR9.cell 0
              have g1 := hR9.cell 1
              have g2 := hR9.cell 2
              have g3 := hR9.cell 3
              simp at g0 g1 g2 g3
              rw [Exit.noGoto_ret]
              refine bodyPost_ret (v := .tuple #[.agg #[.slice none 0 0, .bool false, .int .i64 0, .string ⟨#[]⟩], .int .i64 4]) (by simp [results, Tryz.results125, go_sem, g0, g1, g2, g3]) rfl ?_
              rw [DE.out]
              exact ⟨⟨none, 0, false, 0, [], rfl⟩, (((hU6.setCell (.inr (Nat.le_refl _)) _).setCell (.inr (Nat.le_refl _)) _).setCell (.inr (Nat.le_refl _)) _).setCell (.inr (Nat.le_refl _)) _⟩
          | false =>
            have hl86 : left 86 r = r := by unfold left; rw [show (r.head? == some 86) = false from h86]; rfl
            rw [hl86] at hC3
            have hC4 := hC3.far (p := ⟨w.heap.size + 1 + 1, 1, none⟩) (by simp) (.bool false)
            have hD4 := hD3.set_ 1 (.bool false)
            have hR4 := hR3.far (p := ⟨w.heap.size + 1 + 1, 1, none⟩) (by simp; omega) (.bool false)
            have hU6 := hU5.setCell (p := ⟨w.heap.size + 1 + 1, 1, none⟩) (.inr (by simp; omega)) (.bool false)
            have d1' := hD4.cell 1
            have hz := hid (one_any (w.heap.size + 1) r b _ hC4 hrl (hm.upd hU6 (by simp)))
            simp at d1'
            go_wp2_with fail
            refine hz.out.mono ?_
            rintro e w5 ⟨nm, l5, hU7, hC5, hl5, hres⟩
            have hD5 := hU7.blk hD4 (by simp)
            have hR5 := hU7.blk hR4 (by simp)
            have hU8 := hU6.newer hU7 (by intro b hb; simp at hb; right; omega)
            have x2 := hD5.cell 2
            have x3 := hD5.cell 3
            have xf2 := hD5.frozen 2
            have xf3 := hD5.frozen 3
            simp at x2 x3
            have hC7 := (hC5.far (p := ⟨w.heap.size + 1 + 1, 2, none⟩) (by simp) (.int .i64 (lead r))).far (p := ⟨w.heap.size + 1 + 1, 3, none⟩) (by simp) (.string (bs nm))
            have hD7 := (hD5.set_ 2 (.int .i64 (lead r))).set_ 3 (.string (bs nm))
            have hR7 := (hR5.far (p := ⟨w.heap.size + 1 + 1, 2, none⟩) (by simp; omega) (.int .i64 (lead r))).far (p := ⟨w.heap.size + 1 + 1, 3, none⟩) (by simp; omega) (.string (bs nm))
            have hU9 := (hU8.setCell (p := ⟨w.heap.size + 1 + 1, 2, none⟩) (.inr (by simp; omega)) (.int .i64 (lead r))).setCell (p := ⟨w.heap.size + 1 + 1, 3, none⟩) (.inr (by simp; omega)) (.string (bs nm))
            have c0 := hC7.cell 0
            have c1 := hC7.cell 1
            have e0 := hD7.cell 0
            have e1 := hD7.cell 1
            have e2 := hD7.cell 2
            have e3 := hD7.cell 3
            have r0 := hR7.cell 0
            have r1 := hR7.cell 1
            have r2 := hR7.cell 2
            have r3 := hR7.cell 3
            have rf0 := hR7.frozen 0
            have rf1 := hR7.frozen 1
            have rf2 := hR7.frozen 2
            have rf3 := hR7.frozen 3
            simp at c0 c1 e0 e1 e2 e3 r0 r1 r2 r3
            clear hz hU7 hC3 hC4 hU5 hU6 hD3 hR3
            rcases hres with ⟨ho, rfl⟩ | ⟨ho, rfl⟩
            · have DE := Q4.out h86 ho
              clear Q1 Q2 Q3 Q4 Q5 Q6 Q7
              unfold ty
              go_wp2
              have hR9 := (((hR7.set_ 0 (.slice none 0 0)).set_ 1 (.bool false)).set_ 2 (.int .i64 0)).set_ 3 (.string ⟨#[]⟩)
              have g0 := hR9.cell 0
              have g1 := hR9.cell 1
              have g2 := hR9.cell 2
              have g3 := hR9.cell 3
              simp at g0 g1 g2 g3
              rw [Exit.noGoto_ret]
              refine bodyPost_ret (v := .tuple #[.agg #[.slice none 0 0, .bool false, .int .i64 0, .string ⟨#[]⟩], .int .i64 4]) (by simp [results, Tryz.results125, go_sem, g0, g1, g2, g3]) rfl ?_
              rw [DE.out]
              exact ⟨⟨none, 0, false, 0, [], rfl⟩, (((hU9.setCell (.inr (Nat.le_refl _)) _).setCell (.inr (Nat.le_refl _)) _).setCell (.inr (Nat.le_refl _)) _).setCell (.inr (Nat.le_refl _)) _⟩
            · rcases l5 with _ | ⟨c, t⟩
              · rw [show bs ([] : List UInt8) = ⟨#[]⟩ from rfl] at c0
                cases hbn : (wideOr b (lead r) || decide (20 < n)) with
                | true =>
                  have DE := Q6.out h86 nm ho hbn
                  clear Q1 Q2 Q3 Q4 Q5 Q6 Q7
                  generalize wideOr b (lead r) = wd at c1 hbn
                  unfold ty
                  cases wd
                  all_goals
                    simp at hbn
                    go_wp2
                    have hR9 := (((hR7.set_ 0 (.slice none 0 0)).set_ 1 (.bool false)).set_ 2 (.int .i64 0)).set_ 3 (.string ⟨#[]⟩)
                    have g0 := hR9.cell 0
                    have g1 := hR9.cell 1
                    have g2 := hR9.cell 2
                    have g3 := hR9.cell 3
                    simp at g0 g1 g2 g3
                    rw [Exit.noGoto_ret]
                    refine bodyPost_ret (v := .tuple #[.agg #[.slice none 0 0, .bool false, .int .i64 0, .string ⟨#[]⟩], .int .i64 5]) (by simp [results, Tryz.results125, go_sem, g0, g1, g2, g3]) rfl ?_
                    rw [DE.out]
                    exact ⟨⟨none, 0, false, 0, [], rfl⟩, (((hU9.setCell (.inr (Nat.le_refl _)) _).setCell (.inr (Nat.le_refl _)) _).setCell (.inr (Nat.le_refl _)) _).setCell (.inr (Nat.le_refl _)) _⟩
                | false =>
                  have DE := Q7.out h86 nm ho hbn
                  clear Q1 Q2 Q3 Q4 Q5 Q6 Q7
                  generalize wideOr b (lead r) = wd at c1 hbn
                  unfold ty
                  simp at hbn
                  obtain ⟨rfl, hn20⟩ := hbn
                  go_wp2
                  have hR9 := (((hR7.set_ 0 (.slice A n cap)).set_ 1 (.bool false)).set_ 2 (.int .i64 (lead r))).set_ 3 (.string (bs nm))
                  have g0 := hR9.cell 0
                  have g1 := hR9.cell 1
                  have g2 := hR9.cell 2
                  have g3 := hR9.cell 3
                  simp at g0 g1 g2 g3
                  rw [Exit.noGoto_ret]
                  refine bodyPost_ret (v := .tuple #[.agg #[.slice A n cap, .bool false, .int .i64 (lead r), .string (bs nm)], .int .i64 0]) (by simp [results, Tryz.results125, go_sem, g0, g1, g2, g3]) rfl ?_
                  rw [DE.out]
                  exact ⟨⟨A, cap, false, lead r, nm, rfl⟩, (((hU9.setCell (.inr (Nat.le_refl _)) _).setCell (.inr (Nat.le_refl _)) _).setCell (.inr (Nat.le_refl _)) _).setCell (.inr (Nat.le_refl _)) _⟩
              · have DE := Q5.out h86 nm c t ho
                have he : (bs (c :: t)).toList.isEmpty = false := by rw [bs_toList]; rfl
                have he2 : ¬ (bs (c :: t)).toList = [] := by rw [bs_toList]; simp
                clear Q1 Q2 Q3 Q4 Q5 Q6 Q7
                unfold ty
                go_wp2
                have hR9 := (((hR7.set_ 0 (.slice none 0 0)).set_ 1 (.bool false)).set_ 2 (.int .i64 0)).set_ 3 (.string ⟨#[]⟩)
                have g0 := hR9.cell 0
                have g1 := hR9.cell 1
                have g2 := hR9.cell 2
                have g3 := hR9.cell 3
                simp at g0 g1 g2 g3
                rw [Exit.noGoto_ret]
                refine bodyPost_ret (v := .tuple #[.agg #[.slice none 0 0, .bool false, .int .i64 0, .string ⟨#[]⟩], .int .i64 4]) (by simp [results, Tryz.results125, go_sem, g0, g1, g2, g3]) rfl ?_
                rw [DE.out]
                exact ⟨⟨none, 0, false, 0, [], rfl⟩, (((hU9.setCell (.inr (Nat.le_refl _)) _).setCell (.inr (Nat.le_refl _)) _).setCell (.inr (Nat.le_refl _)) _).setCell (.inr (Nat.le_refl _)) _⟩
        | false =>
          have hleft : left 41 l' = l' := by unfold left; rw [show (l'.head? == some 41) = false from h41]; rfl
          rw [h41, hleft] at Ht
          have hn : n ≤ 2000 := by obtain ⟨_, k, h1, h2, _⟩ := hq.out; omega
          obtain ⟨A, cap, rfl, hcap⟩ := own_slice hown
          go_wp2_with fail
          refine Ht.out.mono ?_
          rintro e w2 ⟨rfl, hC2, hU2⟩
          have hT0 : Blk (w2.alloc (.cells #[.int .i64 0, .string ⟨#[]⟩] 179)) w2.heap.size 179 #[.int .i64 0, .string ⟨#[]⟩] := Blk.new _ _ _
          have hU3 := hU2.alloc (.cells #[.int .i64 0, .string ⟨#[]⟩] 179)
          have hU3' := (hU.newer hU2 (by intro b hb; simp at hb; right; omega)).alloc (.cells #[.int .i64 0, .string ⟨#[]⟩] 179)
          have hz := hid (one_any (w.heap.size + 1) l' b _ (hC2.alloc (.cells #[.int .i64 0, .string ⟨#[]⟩] 179)) hlen (hm.upd hU3' (by simp)))
          have hDlt := hD.lt
          have hs2 := hU2.size
          go_wp2_with fail
          refine hz.out.mono ?_
          rintro e w5 ⟨nm, l5, hU7, hC5, hl5, hres⟩
          have hT5 := hU7.blk hT0 (by simp; omega)
          have hU8 := hU3.trans hU7
          have hU8' := hU3'.newer hU7 (by intro b hb; simp at hb; right; omega)
          have x0 := hT5.cell 0
          have x1 := hT5.cell 1
          have xf0 := hT5.frozen 0
          have xf1 := hT5.frozen 1
          simp at x0 x1
          have hT6 := (hT5.set_ 0 (.int .i64 (lead l'))).set_ 1 (.string (bs nm))
          have hU9 := (hU8.setCell (p := ⟨w2.heap.size, 0, none⟩) (.inr hs2) (.int .i64 (lead l'))).setCell (p := ⟨w2.heap.size, 1, none⟩) (.inr hs2) (.string (bs nm))
          have hU9' := (hU8'.setCell (p := ⟨w2.heap.size, 0, none⟩) (.inr (by simp; omega)) (.int .i64 (lead l'))).setCell (p := ⟨w2.heap.size, 1, none⟩) (.inr (by simp; omega)) (.string (bs nm))
          have hC6 := (hC5.far (p := ⟨w2.heap.size, 0, none⟩) (by simp; omega) (.int .i64 (lead l'))).far (p := ⟨w2.heap.size, 1, none⟩) (by simp; omega) (.string (bs nm))
          have hD6 := hU9.blk hD (by simp)
          have hR6 := hU9.blk hR (by simp)
          have hown6 := hU9.own hown (by intro k hk hk2; have := hv k hk; simp at hk2; omega)
          have y0 := hT6.cell 0
          have y1 := hT6.cell 1
          have e0 := hD6.cell 0
          simp at y0 y1 e0
          rcases hres with ⟨ho, rfl⟩ | ⟨ho, rfl⟩
          · have hDE : Hid (descL l = (0, 4)) := by
              obtain ⟨h40, k, h1, h2, h3⟩ := hq.out
              obtain ⟨k, rfl⟩ : ∃ m, k = m + 1 := ⟨k - 1, by omega⟩
              have h4 : argsL (k + 1) l' = none := by unfold argsL; rw [h41, if_neg (by simp), ho]
              rw [h4] at h3
              refine hid ?_
              unfold descL
              rw [if_neg hbig, h40, if_pos rfl, h3]
              rfl
            unfold ty
            go_wp2_with (at_builtin; go_must (refine wpList_append_one _ rfl (.tmp 31) (.tmp 33) 177 rfl 179 i0 _ 2 24 Tryz.underlying177 hi0 hz0 hz1 hz2 rfl (by decide) (by decide) (.slice A n cap) n xs rfl (by exact hown6.alloc _) (by omega) w5.heap.size 179 #[.int .i64 (lead l'), .string (bs nm)] rfl (by exact Blk.new_at (by simp)) rfl rfl ?_); intro g' cap' w9 hown' hg' hat'; have hD9 := (hD6.alloc (.cells #[.int .i64 (lead l'), .string (bs nm)] 179)).grown hg' (by intro h; have := hv _ (mem_ob.2 h.symm); omega); have e0' := hD9.cell 0; have ef0' := hD9.frozen 0; simp at e0')
            go_wp2
            have hU10 : Upd w w9 [] := (hU9'.alloc (.cells #[.int .i64 (lead l'), .string (bs nm)] 179)).grown hg' (by intro k hk; have := hv _ (mem_ob.2 hk); right; omega)
            have hC9 := ((hC6.alloc (.cells #[.int .i64 (lead l'), .string (bs nm)] 179)).grown hg' (by intro h; have := hv _ (mem_ob.2 h.symm); omega)).far (p := ⟨w.heap.size + 1 + 1, 0, none⟩) (by simp) (.slice (some ⟨g', 0, none⟩) (n + 1) cap')
            have hR9 := ((hR6.alloc (.cells #[.int .i64 (lead l'), .string (bs nm)] 179)).grown hg' (by intro h; have := hv _ (mem_ob.2 h.symm); omega)).far (p := ⟨w.heap.size + 1 + 1, 0, none⟩) (by simp; omega) (.slice (some ⟨g', 0, none⟩) (n + 1) cap')
            have hD10 := hD9.set_ 0 (.slice (some ⟨g', 0, none⟩) (n + 1) cap')
            have hgD : w.heap.size + 1 + 1 < g' := by
              rcases hat' with h | h
              · exact hv _ (mem_ob.2 h)
              · simp at h; have := hU9'.size; simp at this; have := hU9.size; simp at this; omega
            have hown10 := ownsRow_setCell_other (a := ⟨w.heap.size + 1 + 1, 0, none⟩) hown' (by simp [Value.ownBlock]; omega) (.slice (some ⟨g', 0, none⟩) (n + 1) cap')
            have hU11 := hU10.setCell (p := ⟨w.heap.size + 1 + 1, 0, none⟩) (.inr (by simp; omega)) (.slice (some ⟨g', 0, none⟩) (n + 1) cap')
            have hv10 : ∀ k, k ∈ Value.ob (.slice (some ⟨g', 0, none⟩) (n + 1) cap') → w.heap.size + 1 + 1 < k := by
              intro k hk
              have := mem_ob.1 hk
              simp [Value.ownBlock] at this
              omega
            have c9 := hC9.cell 0
            have cC := hC.cell 0
            simp at c9 cC
            go_roundw
            case rel => exact ⟨false, n + 1, _, l5, _, _, rfl, hid ⟨hDE.out, by omega⟩, hC9, hD10, hR9, hown10, hv10, hU11⟩
            case measure =>
              simp [descM, cC]
          · have hDE : Hid (descRel l true (n + 1) (wideOr b (lead l')) l5) := by
              obtain ⟨h40, k, h1, h2, h3⟩ := hq.out
              obtain ⟨k, rfl⟩ : ∃ m, k = m + 1 := ⟨k - 1, by omega⟩
              have h4 : argsL (k + 1) l' = (argsL k l5).map fun q => (q.1 + 1, wideOr q.2.1 (lead l'), q.2.2) := by
                rw [argsL, h41, if_neg (by simp), ho]
              have h5 := oneL_lt ho
              simp at h5
              refine hid ⟨h40, k, by omega, by omega, ?_⟩
              rw [h3, h4, Option.map_map]
              congr 1
              funext q
              simp only [Function.comp]
              have : (wideOr q.2.1 (lead l') || b) = (q.2.1 || wideOr b (lead l')) := by unfold wideOr; cases q.2.1 <;> cases b <;> simp
              rw [this, Nat.add_assoc, Nat.add_comm 1 n]
            have h5 := oneL_lt ho
            simp at h5
            unfold ty
            go_wp2_with (at_builtin; go_must (refine wpList_append_one _ rfl (.tmp 31) (.tmp 33) 177 rfl 179 i0 _ 2 24 Tryz.underlying177 hi0 hz0 hz1 hz2 rfl (by decide) (by decide) (.slice A n cap) n xs rfl (by exact hown6.alloc _) (by omega) w5.heap.size 179 #[.int .i64 (lead l'), .string (bs nm)] rfl (by exact Blk.new_at (by simp)) rfl rfl ?_); intro g' cap' w9 hown' hg' hat'; have hD9 := (hD6.alloc (.cells #[.int .i64 (lead l'), .string (bs nm)] 179)).grown hg' (by intro h; have := hv _ (mem_ob.2 h.symm); omega); have e0' := hD9.cell 0; have ef0' := hD9.frozen 0; simp at e0')
            go_wp2
            have hU10 : Upd w w9 [] := (hU9'.alloc (.cells #[.int .i64 (lead l'), .string (bs nm)] 179)).grown hg' (by intro k hk; have := hv _ (mem_ob.2 hk); right; omega)
            have hC9 := ((hC6.alloc (.cells #[.int .i64 (lead l'), .string (bs nm)] 179)).grown hg' (by intro h; have := hv _ (mem_ob.2 h.symm); omega)).far (p := ⟨w.heap.size + 1 + 1, 0, none⟩) (by simp) (.slice (some ⟨g', 0, none⟩) (n + 1) cap')
            have hR9 := ((hR6.alloc (.cells #[.int .i64 (lead l'), .string (bs nm)] 179)).grown hg' (by intro h; have := hv _ (mem_ob.2 h.symm); omega)).far (p := ⟨w.heap.size + 1 + 1, 0, none⟩) (by simp; omega) (.slice (some ⟨g', 0, none⟩) (n + 1) cap')
            have hD10 := hD9.set_ 0 (.slice (some ⟨g', 0, none⟩) (n + 1) cap')
            have hgD : w.heap.size + 1 + 1 < g' := by
              rcases hat' with h | h
              · exact hv _ (mem_ob.2 h)
              · simp at h; have := hU9'.size; simp at this; have := hU9.size; simp at this; omega
            have hown10 := ownsRow_setCell_other (a := ⟨w.heap.size + 1 + 1, 0, none⟩) hown' (by simp [Value.ownBlock]; omega) (.slice (some ⟨g', 0, none⟩) (n + 1) cap')
            have hU11 := hU10.setCell (p := ⟨w.heap.size + 1 + 1, 0, none⟩) (.inr (by simp; omega)) (.slice (some ⟨g', 0, none⟩) (n + 1) cap')
            have hv10 : ∀ k, k ∈ Value.ob (.slice (some ⟨g', 0, none⟩) (n + 1) cap') → w.heap.size + 1 + 1 < k := by
              intro k hk
              have := mem_ob.1 hk
              simp [Value.ownBlock] at this
              omega
            have c9 := hC9.cell 0
            have cC := hC.cell 0
            simp at c9 cC
            go_roundw
            case rel => exact ⟨true, n + 1, _, l5, _, _, rfl, hDE, hC9, hD10, hR9, hown10, hv10, hU11⟩
            case measure =>
              simp [descM, cC, c9, bs_size]
              omega
end Go.Proofs.YtfpdeiefkimaaaaGreatDoor
