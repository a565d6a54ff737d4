/-
  strings.IndexAny of ".:" in every text, walked.
-/
import Derived.Test.YtjjdlgjofjfgmaaDoorAnyA
import Derived.Test.YtjjdlgjofjfgmaaDoorRefF
import Derived.Lib.MapLaws
import Derived.Lib.QuoteLoop
import Derived.Lib.RuneCount
import Derived.Lib.OthersKept
set_option linter.unusedSimpArgs false
set_option linter.unusedVariables false
namespace Go.Proofs.YtjjdlgjofjfgmaaDoor
open Go.RowKit Go.Sort

theorem get_list (s : ByteArray) (j : Nat) (h : j < s.size) : s.data.toList[j]? = some (s.get! j) := by
  rw [bytes_get s j h]
  congr 1
  have : s.get! j = s.data[j]! := rfl
  rw [this]
  show s.data[j] = s.data[j]!
  rw [getElem!_pos s.data j h]

/-- A rune beyond ASCII: it and its bytes lie beyond ASCII. -/
theorem far_step (s : ByteArray) (i : Nat) (h : i < s.size) (hb : 128 ≤ (s.get! i).toNat) :
    ∃ r wd : Nat, Utf8.decode s i = (r, wd) ∧ 128 ≤ r ∧ Utf8.valid r = true ∧ 1 ≤ wd ∧ i + wd ≤ s.size ∧ ∀ j, i ≤ j → j < i + wd → 128 ≤ (s.get! j).toNat := by
  have hv := Lib.decodeN_valid (s.size - i) (s.get! i).toNat (s.get! (i + 1)).toNat (s.get! (i + 2)).toNat (s.get! (i + 3)).toNat (UInt8.toNat_lt _)
  have hsh := Lib.decodeN_shape (s.size - i) (s.get! i).toNat (s.get! (i + 1)).toNat (s.get! (i + 2)).toNat (s.get! (i + 3)).toNat
  rw [Lib.decode_at]
  generalize hd : Lib.decodeN (s.size - i) (s.get! i).toNat (s.get! (i + 1)).toNat (s.get! (i + 2)).toNat (s.get! (i + 3)).toNat = d at *
  obtain ⟨r, wd⟩ := d
  have hval : ∀ r : Nat, (r < 55296 ∨ (57343 < r ∧ r ≤ 1114111)) → Utf8.valid r = true := by
    intro r h
    unfold Utf8.valid
    simp
    omega
  simp only [Prod.mk.injEq] at hv hsh
  refine ⟨r, wd, rfl, ?_, hval r hv, ?_, ?_, ?_⟩
  · rcases hsh with h1 | h1 | h1 | h1 | h1 <;> omega
  · rcases hsh with h1 | h1 | h1 | h1 | h1 <;> omega
  · rcases hsh with h1 | h1 | h1 | h1 | h1 <;> omega
  · intro j hj1 hj2
    rcases hsh with h1 | h1 | h1 | h1 | h1
    · omega
    · obtain rfl | rfl : j = i ∨ j = i + 1 := by omega
      · exact hb
      · omega
    · obtain rfl | rfl | rfl : j = i ∨ j = i + 1 ∨ j = i + 2 := by omega
      · exact hb
      · omega
      · omega
    · obtain rfl | rfl | rfl | rfl : j = i ∨ j = i + 1 ∨ j = i + 2 ∨ j = i + 3 := by omega
      · exact hb
      · omega
      · omega
      · omega
    · obtain rfl : j = i := by omega
      exact hb

theorem noAny_more {s : ByteArray} {i wd : Nat} (h : Lib.NoAny s.data.toList [46, 58] i) (hw : i + wd ≤ s.size) (hf : ∀ j, i ≤ j → j < i + wd → 128 ≤ (s.get! j).toNat) : Lib.NoAny s.data.toList [46, 58] (i + wd) := by
  intro j b hj hb
  rcases Nat.lt_or_ge j i with h1 | h1
  · exact h j b h1 hb
  · have h2 := hf j h1 hj
    rw [get_list s j (by omega)] at hb
    injection hb with hb
    rw [hb] at h2
    simp only [List.contains_cons, List.contains_nil, Bool.or_false, Bool.or_eq_false_iff, beq_eq_false_iff_ne]
    constructor
    · rintro rfl; revert h2; decide
    · rintro rfl; revert h2; decide

theorem Upd.iterAt {w wx : World} {k : Nat} (h : Upd w wx []) (hk : w.heap.size ≤ k) (s : ByteArray) (p : Nat) : Upd w (wx.iterAt k s p) [] :=
  ⟨h.os, h.tape, h.output, by simpa [World.iterAt] using h.size, fun b hb _ => by
    show (wx.heap.setIfInBounds k (.stringIter s p))[b]? = _
    rw [Array.getElem?_setIfInBounds_ne (by omega)]
    exact h.block b hb (by simp)⟩
theorem iterAt_at {wx : World} {k : Nat} (s : ByteArray) (p : Nat) (h : k < wx.heap.size) : (wx.iterAt k s p).heap[k]? = some (.stringIter s p) := by
  show (wx.heap.setIfInBounds k (.stringIter s p))[k]? = _
  simp [h]

set_option maxHeartbeats 4000000 in
set_option maxRecDepth 100000 in
/-- The first . or : of a text of at most eight bytes. -/
theorem indexDot_short (s : ByteArray) (w : World) (h8 : s.size ≤ 8) :
    Calls Tryd.prog 53 #[.string s, .string ⟨#[46, 58]⟩] w fun e w' => e = .returned (.int .i64 (Lib.indexAny s.data.toList [46, 58])) ∧ Upd w w' [] := by
  have hu : ∀ w, Hid (Calls Tryd.prog 80 #[.int .i64 s.size] w fun e w' => e = .returned (.bool false) ∧ w = w') := fun w => hid (by
    refine (Tryd.strings_shouldUseASCIISet s.size w).mono ?_
    rintro e w' ⟨rfl, rfl⟩
    exact ⟨bool_ret (by simp; omega), rfl⟩)
  have HN0 := hid (Lib.NoAny.zero s.data.toList [46, 58])
  go_enter Tryd.func53, Tryd.ntmps53
  go_wp2_with fail
  refine (hu _).out.mono ?_
  rintro e w1 ⟨rfl, rfl⟩
  go_wp2
  go_loopg [9, 10] s.size (fun g _ _ wx => ∃ i : Nat, i + g = s.size ∧ Upd w wx [] ∧ wx.heap[w.heap.size]? = some (.stringIter s i) ∧ Hid (Lib.NoAny s.data.toList [46, 58] i))
  case atStart => exact ⟨0, by omega, (Upd.refl _ _).alloc _, heap_alloc_new w _, HN0⟩
  case round =>
    obtain ⟨i, hig, hU, hit, hno⟩ := hrel
    have hlk : w.heap.size < wr.heap.size := (Array.getElem?_eq_some_iff.1 hit).1
    cases gk with
    | zero =>
      obtain rfl : i = s.size := by omega
      have hnx := fun ty => Lib.run_next_end_at (P := Tryd.prog) wr w.heap.size s s.size ty hit (by omega)
      have HR := hid (Lib.indexAny_none (s := s.data.toList) (chars := [46, 58]) (by rw [← Lib.size_eq]; exact hno.out))
      clear hit hno
      go_wp2
      go_ret
      exact ⟨ret_int (by rw [HR.out]), hU⟩
    | succ g =>
      have hi : i < s.size := by omega
      have hxl := get_list s i hi
      have hxx : s[i]'hi = s.get! i := by
        have := bytes_get s i hi
        rw [hxl] at this
        injection this with this
        exact this.symm
      by_cases h128 : (s.get! i).toNat < 128
      · have hnx := fun ty => Lib.run_next_ascii_at (P := Tryd.prog) wr w.heap.size s i ty hit hi (by rw [hxx]; exact h128)
        have hcon := Lib.contains_iff_indexByte [46, 58] (s.get! i)
        have Hhit := hid (fun h => Lib.indexAny_hit hno.out hxl h)
        have Hsucc := hid (fun h => hid (Lib.NoAny.succ hno.out hxl h))
        rw [hxx] at hnx
        generalize s.get! i = x at *
        have hir : ∀ w, Hid (Calls Tryd.prog 79 #[.string ⟨#[46, 58]⟩, .int .i32 (x.toNat : Int)] w fun e w' => e = .returned (.int .i64 (Lib.indexByte [46, 58] x)) ∧ w = w') := fun w => hid (by
          refine (Tryd.strings_IndexRune_ascii ⟨#[46, 58]⟩ x.toNat w (by omega) (by omega)).mono ?_
          rintro e w' ⟨rfl, rfl⟩
          exact ⟨ret_int (by simp), rfl⟩)
        generalize Lib.indexByte [46, 58] x = q at hcon hir
        have HU2 := hid (hU.iterAt (Nat.le_refl _) s (i + 1))
        have Hit2 := hid (iterAt_at s (i + 1) hlk)
        clear hxl hxx hno hit hU
        cases hin : ([46, 58] : List UInt8).contains x with
        | true =>
          rw [hin] at hcon
          have hq : 0 ≤ q := of_decide_eq_true hcon.symm
          have HR := hid (Hhit.out hin)
          clear hcon Hsucc Hhit hin
          go_wp2_with fail
          refine (hir _).out.mono ?_
          rintro e w2 ⟨rfl, rfl⟩
          go_wp2
          go_ret
          exact ⟨ret_int (by rw [HR.out]), HU2.out⟩
        | false =>
          rw [hin] at hcon
          have hq : ¬ 0 ≤ q := of_decide_eq_false hcon.symm
          have HS := Hsucc.out hin
          clear hcon Hsucc Hhit hin
          go_wp2_with fail
          refine (hir _).out.mono ?_
          rintro e w2 ⟨rfl, rfl⟩
          go_wp2
          go_roundg g
          case measure => omega
          case rel => exact ⟨i + 1, by omega, HU2.out, Hit2.out, HS⟩
      · obtain ⟨r, wd, hd, hr, hv, hw1, hw2, hf⟩ := far_step s i hi (by omega)
        have hnx := fun ty => Lib.run_next_any_at (P := Tryd.prog) wr w.heap.size s i ty hit hi
        rw [hd] at hnx
        simp only at hnx
        have HS := hid (hid (noAny_more hno.out hw2 hf))
        have hir := fun w => hid (indexRune_far r w (by omega) hv)
        have HU2 := hid (hU.iterAt (Nat.le_refl _) s (i + wd))
        have Hit2 := hid (iterAt_at s (i + wd) hlk)
        have hl2 : w.heap.size < (wr.iterAt w.heap.size s (i + wd)).heap.size := by simpa [World.iterAt] using hlk
        clear hxl hxx hno hit hU hf hd hv
        go_wp2_with fail
        refine (hir _).out.mono ?_
        rintro e w2 ⟨rfl, hU3⟩
        have HU3 := hid (HU2.out.trans hU3)
        have Hit3 := hid ((hU3.block _ hl2 (by simp)).trans Hit2.out)
        clear hU3 hl2
        go_wp2
        go_roundg (g + 1 - wd)
        case measure => omega
        case rel => exact ⟨i + wd, by omega, HU3.out, Hit3.out, HS.out⟩
end Go.Proofs.YtjjdlgjofjfgmaaDoor
