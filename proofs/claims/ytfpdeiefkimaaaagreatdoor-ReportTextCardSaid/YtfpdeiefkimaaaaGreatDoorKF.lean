/-
  strings.IndexRune in ".:" at a rune beyond ASCII: there is none. Walked.
-/
import Derived.BigRegion
import Derived.Laws.RangeAny
import Derived.Laws.Runes
import Derived.Lib.MapLaws
import Derived.Lib.OthersKept
import Derived.Lib.QuoteLoop
import Derived.Lib.RuneCount
import Derived.StillTailTactics
import Derived.WalkMore
import Derived.Test.YtfpdeiefkimaaaaGreatDoorK5
import Derived.Test.YtfpdeiefkimaaaaGreatDoorK6
import Derived.Test.YtfpdeiefkimaaaaGreatDoorK7
set_option linter.unusedSimpArgs false
set_option linter.unusedVariables false
namespace Go.Proofs.YtfpdeiefkimaaaaGreatDoor
open Go.RowKit Go.Sort

theorem rune_val {r : Int} (h : Utf8.valid r = true) : Lib.validRune r = true := by
  unfold Utf8.valid at h
  unfold Lib.validRune
  simp at h ⊢
  omega

theorem quiet_of' {f : FuncId} {args : Array Value} {W : World} {d : Nat} {os : Array Obj} {v : Value} (h : ∀ w, Upd W w [] → Calls Tryz.prog f args w fun e w' => e = .returned v ∧ Upd w w' []) :
    Calls Tryz.prog f args (grow (redrawn W d) os) fun e w'' => e = .returned v ∧ ∃ p : Regrown, w'' = grow (redrawn W p.d) p.os :=
  Calls.regrown_of ((h _ (Upd.of_below (below_regrown W d os) [])).mono fun _ _ h => ⟨h.1, h.2.below⟩)

set_option maxHeartbeats 4000000 in
set_option maxRecDepth 100000 in
theorem indexRune_far (r : Int) (w : World) (h : 128 ≤ r) (hv : Utf8.valid r = true) :
    Calls Tryz.prog 240 #[.string ⟨#[46, 58]⟩, .int .i32 r] w fun e w' => e = .returned (.int .i64 (-1)) ∧ Upd w w' [] := by
  have h1 : ¬ r < 128 := by omega
  have h0 : 0 ≤ r := by omega
  by_cases hr : r = 65533
  · subst hr
    go_enter Tryz.func240, Tryz.ntmps240
    go_wp2
    go_loopg [5, 6] 2 (fun g _ _ wx => ∃ i : Nat, i + g = 2 ∧ wx = w.iter ⟨#[46, 58]⟩ i)
    case atStart => exact ⟨0, rfl, rfl⟩
    case round =>
      obtain ⟨i, hig, rfl⟩ := hrel
      cases gk with
      | zero =>
        obtain rfl : i = 2 := by omega
        have hnx := fun ty => run_next_end (P := Tryz.prog) w ⟨#[46, 58]⟩ 2 ty (by decide)
        go_wp2
        go_ret
        exact ⟨rfl, Upd.refl _ _ |>.alloc _⟩
      | succ g =>
        obtain rfl | rfl : i = 0 ∨ i = 1 := by omega
        · have hnx := fun ty => run_next_ascii (P := Tryz.prog) w ⟨#[46, 58]⟩ 0 ty (by decide) (by decide)
          go_wp2
          go_roundg g
          case measure => omega
          case rel => exact ⟨1, by omega, rfl⟩
        · have hnx := fun ty => run_next_ascii (P := Tryz.prog) w ⟨#[46, 58]⟩ 1 ty (by decide) (by decide)
          go_wp2
          go_roundg g
          case measure => omega
          case rel => exact ⟨2, by omega, rfl⟩
  · obtain ⟨e1, e2, e3⟩ := encode_facts r hv h
    have hrb : (r == 65533) = false := by simpa using hr
    have Hval : ∀ w, Hid (Calls Tryz.prog 246 #[.int .i32 r] w fun e w' => e = .returned (.bool true) ∧ w = w') := fun w => hid (by
      have := Tryz.utf8_ValidRune r w
      rw [rune_val hv] at this
      exact this.mono fun _ _ h => ⟨h.1, h.2.symm⟩)
    obtain ⟨s, hs⟩ : ∃ s, Utf8.encode r = s := ⟨_, rfl⟩
    rw [hs] at e1 e2 e3
    by_cases h2 : s.size = 2
    · obtain ⟨a, b, rfl⟩ : ∃ a b : UInt8, s = ⟨#[a, b]⟩ := by
        obtain ⟨⟨l⟩⟩ := s
        match l, h2 with
        | [a, b], _ => exact ⟨a, b, rfl⟩
      have hb2 : 128 ≤ b.toNat := e3 (show (2 : Nat) - 1 < 2 by omega)
      have hne : ((58 : Int) != (b.toNat : Int)) = true := by simp; omega
      have g1 : ∀ h, (⟨#[46, 58]⟩ : ByteArray)[1]'h = 58 := fun _ => rfl
      have g2 : ∀ h, (⟨#[a, b]⟩ : ByteArray)[1]'h = b := fun _ => rfl
      have HQ : ∀ (W : World) (s : ByteArray) (c : Int) d os, Hid (Calls Tryz.prog 234 #[.string s, .int .u8 c] (grow (redrawn W d) os) fun e w'' => e = .returned (.int .i64 (Lib.indexByte s.data.toList c.toNat.toUInt8)) ∧ ∃ p : Regrown, w'' = grow (redrawn W p.d) p.os) := fun W s c d os => hid (quiet_of' fun w _ => (Tryz.strings_IndexByte s c w).mono fun _ _ h => ⟨h.1, by rw [h.2]; exact Upd.refl _ _⟩)
      clear e1 e2 e3 h2
      go_enter Tryz.func240, Tryz.ntmps240
      go_wp2_with fail
      refine (Hval _).out.mono ?_
      rintro e w1 ⟨rfl, rfl⟩
      go_wp2
      go_step3
      go_wp2
      go_loopw [9, 10] (fun a b wr => a = .int .i64 1 ∧ b = .int .i64 0 ∧ wr = w) (fun _ _ _ => 0)
      case atStart => exact ⟨rfl, rfl, rfl⟩
      case round =>
        obtain ⟨rfl, rfl, hw⟩ := hrel
        go_wp2
        go_step3
        go_wp2
        refine wp_region_quiet_below (by kernel_rfl) (by kernel_rfl) ?_
        repeat (any_goals (first | go_big_quiet_step (fail) | quiet_step (fail)))
        refine wpQuiet_nil ?_
        intro _ hw'
        obtain ⟨⟨dq, osq⟩, hw''⟩ := hw'
        subst hw''
        have HU4 := hid (Upd.of_below (below_regrown w dq osq) [])
        revert HU4
        generalize grow (redrawn w dq) osq = w4
        intro HU4
        go_wp2
        refine wp_region_quiet_below (by kernel_rfl) (by kernel_rfl) ?_
        repeat (any_goals (first | go_big_quiet_step (exact (HQ _ _ _ _ _).out) | quiet_step (exact (HQ _ _ _ _ _).out)))
        refine wpQuiet_nil ?_
        intro _ hw'
        obtain ⟨⟨dq, osq⟩, hw''⟩ := hw'
        subst hw''
        have HU5 := hid (HU4.out.trans (Upd.of_below (below_regrown w4 dq osq) []))
        revert HU5
        generalize grow (redrawn w4 dq) osq = w5
        intro HU5
        go_wp2
        rw [Exit.noGoto_ret]
        simp +zetaDelta only [Exit.inBlock, Exit.then, Exit.noGoto_ret]
        go_ret
        exact ⟨rfl, HU5.out⟩
    · have h3 : ¬ ((s.size : Int) - 1 < 2) := by omega
      have hw : wrap64 ((s.size : Int) - 1) = (s.size : Int) - 1 := by unfold wrap64; omega
      clear e3
      go_enter Tryz.func240, Tryz.ntmps240
      go_wp2_with fail
      refine (Hval _).out.mono ?_
      rintro e w1 ⟨rfl, rfl⟩
      go_wp2
      go_step3
      go_wp2
      go_loopw [9, 10] (fun a b wr => a = .int .i64 ((s.size : Int) - 1) ∧ b = .int .i64 0 ∧ wr = w) (fun _ _ _ => 0)
      case atStart => exact ⟨rfl, rfl, rfl⟩
      case round =>
        obtain ⟨rfl, rfl, hw⟩ := hrel
        go_wp2
        rw [Exit.noGoto_ret]
        go_ret
        exact ⟨rfl, Upd.refl _ _⟩
end Go.Proofs.YtfpdeiefkimaaaaGreatDoor
/-
  strings.IndexAny of ".:" in every text, walked.
-/
set_option linter.unusedSimpArgs false
set_option linter.unusedVariables false
namespace Go.Proofs.YtfpdeiefkimaaaaGreatDoor
open Go.RowKit Go.Sort

theorem get_list (s : ByteArray) (j : Nat) (h : j < s.size) : s.data.toList[j]? = some (s.get! j) := by
  rw [bytes_get s j h]
  congr 1
  have : s.get! j = s.data[j]! := rfl
  rw [this]
  show s.data[j] = s.data[j]!
  rw [getElem!_pos s.data j h]

/-- A rune beyond ASCII: it and its bytes lie beyond ASCII. -/
theorem far_step (s : ByteArray) (i : Nat) (h : i < s.size) (hb : 128 ≤ (s.get! i).toNat) :
    ∃ r wd : Nat, Utf8.decode s i = (r, wd) ∧ 128 ≤ r ∧ Utf8.valid r = true ∧ 1 ≤ wd ∧ i + wd ≤ s.size ∧ ∀ j, i ≤ j → j < i + wd → 128 ≤ (s.get! j).toNat := by
  have hv := Lib.decodeN_valid (s.size - i) (s.get! i).toNat (s.get! (i + 1)).toNat (s.get! (i + 2)).toNat (s.get! (i + 3)).toNat (UInt8.toNat_lt _)
  have hsh := Lib.decodeN_shape (s.size - i) (s.get! i).toNat (s.get! (i + 1)).toNat (s.get! (i + 2)).toNat (s.get! (i + 3)).toNat
  rw [Lib.decode_at]
  generalize hd : Lib.decodeN (s.size - i) (s.get! i).toNat (s.get! (i + 1)).toNat (s.get! (i + 2)).toNat (s.get! (i + 3)).toNat = d at *
  obtain ⟨r, wd⟩ := d
  have hval : ∀ r : Nat, (r < 55296 ∨ (57343 < r ∧ r ≤ 1114111)) → Utf8.valid r = true := by
    intro r h
    unfold Utf8.valid
    simp
    omega
  simp only [Prod.mk.injEq] at hv hsh
  refine ⟨r, wd, rfl, ?_, hval r hv, ?_, ?_, ?_⟩
  · rcases hsh with h1 | h1 | h1 | h1 | h1 <;> omega
  · rcases hsh with h1 | h1 | h1 | h1 | h1 <;> omega
  · rcases hsh with h1 | h1 | h1 | h1 | h1 <;> omega
  · intro j hj1 hj2
    rcases hsh with h1 | h1 | h1 | h1 | h1
    · omega
    · obtain rfl | rfl : j = i ∨ j = i + 1 := by omega
      · exact hb
      · omega
    · obtain rfl | rfl | rfl : j = i ∨ j = i + 1 ∨ j = i + 2 := by omega
      · exact hb
      · omega
      · omega
    · obtain rfl | rfl | rfl | rfl : j = i ∨ j = i + 1 ∨ j = i + 2 ∨ j = i + 3 := by omega
      · exact hb
      · omega
      · omega
      · omega
    · obtain rfl : j = i := by omega
      exact hb

theorem noAny_more {s : ByteArray} {i wd : Nat} (h : Lib.NoAny s.data.toList [46, 58] i) (hw : i + wd ≤ s.size) (hf : ∀ j, i ≤ j → j < i + wd → 128 ≤ (s.get! j).toNat) : Lib.NoAny s.data.toList [46, 58] (i + wd) := by
  intro j b hj hb
  rcases Nat.lt_or_ge j i with h1 | h1
  · exact h j b h1 hb
  · have h2 := hf j h1 hj
    rw [get_list s j (by omega)] at hb
    injection hb with hb
    rw [hb] at h2
    simp only [List.contains_cons, List.contains_nil, Bool.or_false, Bool.or_eq_false_iff, beq_eq_false_iff_ne]
    constructor
    · rintro rfl; revert h2; decide
    · rintro rfl; revert h2; decide

theorem Upd.iterAt {w wx : World} {k : Nat} (h : Upd w wx []) (hk : w.heap.size ≤ k) (s : ByteArray) (p : Nat) : Upd w (wx.iterAt k s p) [] :=
  ⟨h.os, h.tape, h.output, by simpa [World.iterAt] using h.size, fun b hb _ => by
    show (wx.heap.setIfInBounds k (.stringIter s p))[b]? = _
    rw [Array.getElem?_setIfInBounds_ne (by omega)]
    exact h.block b hb (by simp)⟩
theorem iterAt_at {wx : World} {k : Nat} (s : ByteArray) (p : Nat) (h : k < wx.heap.size) : (wx.iterAt k s p).heap[k]? = some (.stringIter s p) := by
  show (wx.heap.setIfInBounds k (.stringIter s p))[k]? = _
  simp [h]

set_option maxHeartbeats 4000000 in
set_option maxRecDepth 100000 in
/-- The first . or : of a text of at most eight bytes. -/
theorem indexDot_short (s : ByteArray) (w : World) (h8 : s.size ≤ 8) :
    Calls Tryz.prog 233 #[.string s, .string ⟨#[46, 58]⟩] w fun e w' => e = .returned (.int .i64 (Lib.indexAny s.data.toList [46, 58])) ∧ Upd w w' [] := by
  have hu : ∀ w, Hid (Calls Tryz.prog 241 #[.int .i64 s.size] w fun e w' => e = .returned (.bool false) ∧ w = w') := fun w => hid (by
    refine (Tryz.strings_shouldUseASCIISet s.size w).mono ?_
    rintro e w' ⟨rfl, rfl⟩
    exact ⟨bool_ret (by simp; omega), rfl⟩)
  have HN0 := hid (Lib.NoAny.zero s.data.toList [46, 58])
  go_enter Tryz.func233, Tryz.ntmps233
  go_wp2_with fail
  refine (hu _).out.mono ?_
  rintro e w1 ⟨rfl, rfl⟩
  go_wp2
  go_loopg [9, 10] s.size (fun g _ _ wx => ∃ i : Nat, i + g = s.size ∧ Upd w wx [] ∧ wx.heap[w.heap.size]? = some (.stringIter s i) ∧ Hid (Lib.NoAny s.data.toList [46, 58] i))
  case atStart => exact ⟨0, by omega, (Upd.refl _ _).alloc _, heap_alloc_new w _, HN0⟩
  case round =>
    obtain ⟨i, hig, hU, hit, hno⟩ := hrel
    have hlk : w.heap.size < wr.heap.size := (Array.getElem?_eq_some_iff.1 hit).1
    cases gk with
    | zero =>
      obtain rfl : i = s.size := by omega
      have hnx := fun ty => Lib.run_next_end_at (P := Tryz.prog) wr w.heap.size s s.size ty hit (by omega)
      have HR := hid (Lib.indexAny_none (s := s.data.toList) (chars := [46, 58]) (by rw [← Lib.size_eq]; exact hno.out))
      clear hit hno
      go_wp2
      go_ret
      exact ⟨ret_int (by rw [HR.out]), hU⟩
    | succ g =>
      have hi : i < s.size := by omega
      have hxl := get_list s i hi
      have hxx : s[i]'hi = s.get! i := by
        have := bytes_get s i hi
        rw [hxl] at this
        injection this with this
        exact this.symm
      by_cases h128 : (s.get! i).toNat < 128
      · have hnx := fun ty => Lib.run_next_ascii_at (P := Tryz.prog) wr w.heap.size s i ty hit hi (by rw [hxx]; exact h128)
        have hcon := Lib.contains_iff_indexByte [46, 58] (s.get! i)
        have Hhit := hid (fun h => Lib.indexAny_hit hno.out hxl h)
        have Hsucc := hid (fun h => hid (Lib.NoAny.succ hno.out hxl h))
        rw [hxx] at hnx
        generalize s.get! i = x at *
        have hir : ∀ w, Hid (Calls Tryz.prog 240 #[.string ⟨#[46, 58]⟩, .int .i32 (x.toNat : Int)] w fun e w' => e = .returned (.int .i64 (Lib.indexByte [46, 58] x)) ∧ w = w') := fun w => hid (by
          refine (Tryz.strings_IndexRune_ascii ⟨#[46, 58]⟩ x.toNat w (by omega) (by omega)).mono ?_
          rintro e w' ⟨rfl, rfl⟩
          exact ⟨ret_int (by simp), rfl⟩)
        generalize Lib.indexByte [46, 58] x = q at hcon hir
        have HU2 := hid (hU.iterAt (Nat.le_refl _) s (i + 1))
        have Hit2 := hid (iterAt_at s (i + 1) hlk)
        clear hxl hxx hno hit hU
        cases hin : ([46, 58] : List UInt8).contains x with
        | true =>
          rw [hin] at hcon
          have hq : 0 ≤ q := of_decide_eq_true hcon.symm
          have HR := hid (Hhit.out hin)
          clear hcon Hsucc Hhit hin
          go_wp2_with fail
          refine (hir _).out.mono ?_
          rintro e w2 ⟨rfl, rfl⟩
          go_wp2
          go_ret
          exact ⟨ret_int (by rw [HR.out]), HU2.out⟩
        | false =>
          rw [hin] at hcon
          have hq : ¬ 0 ≤ q := of_decide_eq_false hcon.symm
          have HS := Hsucc.out hin
          clear hcon Hsucc Hhit hin
          go_wp2_with fail
          refine (hir _).out.mono ?_
          rintro e w2 ⟨rfl, rfl⟩
          go_wp2
          go_roundg g
          case measure => omega
          case rel => exact ⟨i + 1, by omega, HU2.out, Hit2.out, HS⟩
      · obtain ⟨r, wd, hd, hr, hv, hw1, hw2, hf⟩ := far_step s i hi (by omega)
        have hnx := fun ty => Lib.run_next_any_at (P := Tryz.prog) wr w.heap.size s i ty hit hi
        rw [hd] at hnx
        simp only at hnx
        have HS := hid (hid (noAny_more hno.out hw2 hf))
        have hir := fun w => hid (indexRune_far r w (by omega) hv)
        have HU2 := hid (hU.iterAt (Nat.le_refl _) s (i + wd))
        have Hit2 := hid (iterAt_at s (i + wd) hlk)
        have hl2 : w.heap.size < (wr.iterAt w.heap.size s (i + wd)).heap.size := by simpa [World.iterAt] using hlk
        clear hxl hxx hno hit hU hf hd hv
        go_wp2_with fail
        refine (hir _).out.mono ?_
        rintro e w2 ⟨rfl, hU3⟩
        have HU3 := hid (HU2.out.trans hU3)
        have Hit3 := hid ((hU3.block _ hl2 (by simp)).trans Hit2.out)
        clear hU3 hl2
        go_wp2
        go_roundg (g + 1 - wd)
        case measure => omega
        case rel => exact ⟨i + wd, by omega, HU3.out, Hit3.out, HS.out⟩
end Go.Proofs.YtfpdeiefkimaaaaGreatDoor
/-
  What bytes a sound reference is made of; its text cut up again. No program text.
-/
set_option linter.unusedSimpArgs false
set_option linter.unusedVariables false
namespace Go.Proofs.YtfpdeiefkimaaaaGreatDoor
open Go.RowKit

/-- A byte of a class's or an array's text. -/
def clsB (b : UInt8) : Prop := (letterB b.toNat = true ∨ digitB b.toNat = true) ∨ b.toNat = 47 ∨ b.toNat = 91 ∨ b.toNat = 59
theorem indexByte_at (c : UInt8) : ∀ (a b : List UInt8), c ∉ a → Lib.indexByte (a ++ c :: b) c = a.length
  | [], b, _ => by simp [Lib.indexByte]
  | x :: t, b, h => by
    simp only [List.mem_cons, not_or] at h
    have ih := indexByte_at c t b h.2
    rw [List.cons_append]
    unfold Lib.indexByte
    rw [if_neg (by simpa using fun e => h.1 e.symm), ih, if_neg (by simp)]
    simp
/-- A sound reference's text: where its parts lie. -/
def sepB (r : RefL) : UInt8 := if r.ifc then 58 else 46
theorem text_eq (r : RefL) : r.text = r.cls ++ sepB r :: (r.nm ++ r.ds) := by
  unfold RefL.text sepB
  cases r.ifc <;> simp
structure Sound (r : RefL) : Prop where
  small : r.text.length ≤ 4061
  ascii : ∀ (j : Nat) b, r.text[j]? = some b → b.toNat < 128
  dot : Lib.indexAny r.text [46, 58] = r.cls.length
  opens : Lib.indexByte r.text 40 = ((r.cls.length + 1 + r.nm.length : Nat) : Int)
end Go.Proofs.YtfpdeiefkimaaaaGreatDoor
/-
  ParseRefText of a sound reference's text, walked.
-/
set_option linter.unusedSimpArgs false
set_option linter.unusedVariables false
namespace Go.Proofs.YtfpdeiefkimaaaaGreatDoor
open Go.RowKit

theorem text_dot (r : RefL) : r.text[r.cls.length]? = some (sepB r) := by rw [text_eq, List.getElem?_append_right (Nat.le_refl _)]; simp
theorem text_cls (r : RefL) : (r.text.drop 0).take r.cls.length = r.cls := by rw [text_eq]; simp
theorem text_nm (r : RefL) : (r.text.drop (r.cls.length + 1)).take r.nm.length = r.nm := by
  rw [text_eq, show r.cls ++ sepB r :: (r.nm ++ r.ds) = (r.cls ++ [sepB r]) ++ (r.nm ++ r.ds) by simp, List.drop_append_of_le_length (by simp)]
  simp
theorem text_ds (r : RefL) : r.text.drop (r.cls.length + 1 + r.nm.length) = r.ds := by
  rw [text_eq, show r.cls ++ sepB r :: (r.nm ++ r.ds) = (r.cls ++ sepB r :: r.nm) ++ r.ds by simp, List.drop_append_of_le_length (by simp only [List.length_append, List.length_cons]; omega), List.drop_eq_nil_of_le (by simp only [List.length_append, List.length_cons]; omega)]
  simp
theorem text_len (r : RefL) : r.text.length = r.cls.length + 1 + r.nm.length + r.ds.length := by rw [text_eq]; simp; omega

end Go.Proofs.YtfpdeiefkimaaaaGreatDoor
/-
  code.ParseRefText at every text, walked.
-/
set_option linter.unusedSimpArgs false
set_option linter.unusedVariables false
namespace Go.Proofs.YtfpdeiefkimaaaaGreatDoor
open Go.RowKit

/-- The first . or : of every text. -/
theorem indexDot_any (l : List UInt8) (w : World) (h : l.length < 4294967281) :
    Calls Tryz.prog 233 #[.string (bs l), .string ⟨#[46, 58]⟩] w fun e w' => e = .returned (.int .i64 (Lib.indexAny l [46, 58])) ∧ Upd w w' [] := by
  by_cases h8 : l.length ≤ 8
  · have := indexDot_short (bs l) w (by rw [bs_size]; exact h8)
    rw [bs_data] at this
    exact this
  · have := Tryz.strings_IndexAny_long (fun w => by kernel_rfl) (bs l) (bs [46, 58]) w (by rw [bs_size]; decide) (by rw [bs_size]; omega) (by rw [bs_size]; exact h) (by rw [bs_size]; decide) (by
      rw [bs_data]
      intro j b hb
      have := List.mem_of_getElem? hb
      simp only [List.mem_cons, List.not_mem_nil, or_false] at this
      rcases this with rfl | rfl <;> decide)
    rw [bs_data, bs_data] at this
    refine this.mono ?_
    rintro e w' ⟨rfl, rfl⟩
    exact ⟨rfl, ((Upd.refl _ _).alloc _).alloc _⟩

/-- Where a text parts into class, name and descriptor. -/
def splitRef (l : List UInt8) : Option RefL :=
  if Lib.indexAny l [46, 58] < 0 ∨ Lib.indexByte l 40 < Lib.indexAny l [46, 58] then none
  else some ⟨decide (l[(Lib.indexAny l [46, 58]).toNat]? = some 58), l.take (Lib.indexAny l [46, 58]).toNat, (l.drop ((Lib.indexAny l [46, 58]).toNat + 1)).take ((Lib.indexByte l 40).toNat - (Lib.indexAny l [46, 58]).toNat - 1), l.drop (Lib.indexByte l 40).toNat⟩
/-- The reference that a text writes, and the error. -/
def refOut (l : List UInt8) : RefL × Int := match splitRef l with
  | some r => if r.ok then (r, 0) else (noRefL, 4)
  | none => (noRefL, 4)

theorem indexByte_get (c : UInt8) : ∀ (l : List UInt8), 0 ≤ Lib.indexByte l c → l[(Lib.indexByte l c).toNat]? = some c
  | [], h => by simp [Lib.indexByte] at h
  | b :: l, h => by
    have ih := indexByte_get c l
    rw [Lib.indexByte] at h ⊢
    by_cases hb : b = c
    · rw [if_pos (by simpa using hb)]
      simp [hb]
    · rw [if_neg (by simpa using hb)] at h ⊢
      by_cases hn : Lib.indexByte l c = -1
      · rw [hn] at h
        simp at h
      · rw [if_neg (by simpa using hn)] at h ⊢
        have hge : 0 ≤ Lib.indexByte l c := by
          have := Lib.indexByte_ge l c
          omega
        rw [show (Lib.indexByte l c + 1).toNat = (Lib.indexByte l c).toNat + 1 by omega, List.getElem?_cons_succ]
        exact ih hge
theorem indexAny_get (cs : List UInt8) : ∀ (l : List UInt8), 0 ≤ Lib.indexAny l cs → ∃ x, l[(Lib.indexAny l cs).toNat]? = some x ∧ cs.contains x = true
  | [], h => by simp [Lib.indexAny] at h
  | b :: l, h => by
    have ih := indexAny_get cs l
    rw [Lib.indexAny] at h ⊢
    by_cases hb : cs.contains b = true
    · rw [if_pos hb]
      exact ⟨b, by simp, hb⟩
    · rw [if_neg hb] at h ⊢
      by_cases hn : Lib.indexAny l cs = -1
      · rw [hn] at h
        simp at h
      · rw [if_neg (by simpa using hn)] at h ⊢
        have hge : 0 ≤ Lib.indexAny l cs := by
          have := Lib.indexAny_ge cs l
          omega
        rw [show (Lib.indexAny l cs + 1).toNat = (Lib.indexAny l cs).toNat + 1 by omega, List.getElem?_cons_succ]
        exact ih hge

theorem split_text {l : List UInt8} {r : RefL} (h : splitRef l = some r) : r.text = l ∧ Lib.indexAny l [46, 58] = r.cls.length ∧ Lib.indexByte l 40 = ((r.cls.length + 1 + r.nm.length : Nat) : Int) := by
  unfold splitRef at h
  split at h
  · cases h
  · rename_i hn
    have h1 : 0 ≤ Lib.indexAny l [46, 58] := by omega
    have h2 : Lib.indexAny l [46, 58] ≤ Lib.indexByte l 40 := by omega
    obtain ⟨x, hx, hc⟩ := indexAny_get [46, 58] l h1
    have ho := indexByte_get 40 l (by omega)
    injection h with h
    subst h
    generalize Lib.indexAny l [46, 58] = d at *
    generalize Lib.indexByte l 40 = o at *
    obtain ⟨d, rfl⟩ : ∃ n : Nat, d = n := ⟨d.toNat, by omega⟩
    obtain ⟨o, rfl⟩ : ∃ n : Nat, o = n := ⟨o.toNat, by omega⟩
    simp only [Int.toNat_natCast] at hx ho ⊢
    have hdl : d < l.length := (List.getElem?_eq_some_iff.1 hx).1
    have hol : o < l.length := (List.getElem?_eq_some_iff.1 ho).1
    have hx2 : x = 46 ∨ x = 58 := by simpa using hc
    have hne : d ≠ o := by
      rintro rfl
      rw [hx] at ho
      injection ho with ho
      rcases hx2 with rfl | rfl <;> simp at ho
    have hlt : d < o := by omega
    have hcl : (l.take d).length = d := by simp; omega
    have hnl : ((l.drop (d + 1)).take (o - d - 1)).length = o - d - 1 := by simp; omega
    refine ⟨?_, by rw [hcl], by rw [hcl, hnl]; omega⟩
    unfold RefL.text
    simp only
    have hsep : (if decide (l[d]? = some 58) = true then [58] else [46]) = [x] := by
      rw [hx]
      rcases hx2 with rfl | rfl <;> decide
    rw [hsep]
    have e1 : l.take d ++ [x] = l.take (d + 1) := by
      rw [List.take_succ_eq_append_getElem hdl]
      rw [List.getElem?_eq_getElem hdl] at hx
      rw [Option.some.inj hx]
    rw [e1]
    have e2 : l.take (d + 1) ++ (l.drop (d + 1)).take (o - d - 1) = l.take o := by
      have e3 : l.take o = l.take ((d + 1) + (o - d - 1)) := by congr 1; omega
      rw [e3, ← List.take_add]
    rw [e2, List.take_append_drop]

theorem refOut_fit (l : List UInt8) (h : l.length ≤ 9223372036854775807) : (refOut l).1.fit := by
  unfold refOut
  cases hs : splitRef l with
  | none => simp [RefL.fit, noRefL]
  | some r =>
    have ht := (split_text hs).1
    have hl := congrArg List.length ht
    rw [text_len] at hl
    simp only
    split
    · show r.fit
      unfold RefL.fit
      omega
    · simp [RefL.fit, noRefL]
theorem text_partsV (ifc : Bool) (cls nm ds : List UInt8) {l : List UInt8} (ht : (RefL.mk ifc cls nm ds).text = l) (hd : Lib.indexAny l [46, 58] = cls.length) (ho : Lib.indexByte l 40 = ((cls.length + 1 + nm.length : Nat) : Int)) :
    ∃ (s : ByteArray) (h : cls.length < s.size), bs l = s ∧ s.size = cls.length + 1 + nm.length + ds.length ∧ s.size = l.length ∧ s.extract 0 cls.length = bs cls ∧
      s.extract (cls.length + 1) (cls.length + 1 + nm.length) = bs nm ∧ s.extract (cls.length + 1 + nm.length) (cls.length + 1 + nm.length + ds.length) = bs ds ∧
      (((s[cls.length]'h).toNat : Int) == 58) = ifc := by
  have hlen := text_len (RefL.mk ifc cls nm ds)
  have edot := text_dot (RefL.mk ifc cls nm ds)
  have f1 := text_cls (RefL.mk ifc cls nm ds)
  have f2 := text_nm (RefL.mk ifc cls nm ds)
  have f3 := text_ds (RefL.mk ifc cls nm ds)
  have hsp : sepB (RefL.mk ifc cls nm ds) = if ifc then 58 else 46 := rfl
  rw [hsp] at edot
  rw [ht] at *
  simp only at hlen edot f1 f2 f3
  have hs : (bs l).size = cls.length + 1 + nm.length + ds.length := by rw [bs_size, hlen]
  have h : cls.length < (bs l).size := by omega
  refine ⟨bs l, h, rfl, hs, bs_size l, ?_, ?_, ?_, ?_⟩
  · rw [bs_extract, Nat.sub_zero, f1]
  · rw [bs_extract, show cls.length + 1 + nm.length - (cls.length + 1) = nm.length by omega, f2]
  · rw [bs_extract, f3, show cls.length + 1 + nm.length + ds.length - (cls.length + 1 + nm.length) = ds.length by omega, List.take_length]
  · rw [bs_get]
    rw [List.getElem?_eq_getElem (by omega)] at edot
    rw [Option.some.inj edot]
    cases ifc <;> decide

set_option maxHeartbeats 8000000 in
set_option maxRecDepth 1000000 in
theorem parseRefV_any (l : List UInt8) (w : World) (hl : l.length < 4294967281) (hm : MaxLenAt w) :
    Calls Tryz.prog 225 #[.string (bs l)] w fun e w' => e = .returned (.tuple #[(refOut l).1.v, .int .i64 (refOut l).2]) ∧ Upd w w' [] := by
  have Hany := fun w => hid (indexDot_any l w hl)
  have Hbyte0 := fun w => hid (Tryz.strings_IndexByte (bs l) 40 w)
  rw [show (40 : Int).toNat.toUInt8 = 40 from rfl, bs_data] at Hbyte0
  cases hs : splitRef l with
  | none =>
    have hout : refOut l = (noRefL, 4) := by unfold refOut; rw [hs]
    rw [hout]
    have hbad : Lib.indexAny l [46, 58] < 0 ∨ Lib.indexByte l 40 < Lib.indexAny l [46, 58] := by
      unfold splitRef at hs
      split at hs
      · assumption
      · cases hs
    clear hs hout
    generalize Lib.indexAny l [46, 58] = d at *
    generalize Lib.indexByte l 40 = o at *
    unfold RefL.v noRefL
    simp only [bs_nil]
    by_cases hd : d < 0
    · clear hbad
      go_enter Tryz.func225, Tryz.ntmps225
      go_wp2_with fail
      refine (Hany _).out.mono ?_
      rintro e w1 ⟨rfl, hU1⟩
      have hb1 := hU1.blk (Blk.new w 88 #[.bool false, .string ⟨#[]⟩, .string ⟨#[]⟩, .string ⟨#[]⟩]) (by simp)
      have hV1 : Upd w w1 [] := ((Upd.refl _ _).alloc _).trans hU1
      go_wp2_with fail
      refine (Hbyte0 _).out.mono ?_
      rintro e w2 ⟨rfl, rfl⟩
      have y0 := hb1.cell 0
      have y1 := hb1.cell 1
      have y2 := hb1.cell 2
      have y3 := hb1.cell 3
      have f0 := hb1.frozen 0
      have f1 := hb1.frozen 1
      have f2 := hb1.frozen 2
      have f3 := hb1.frozen 3
      simp at y0 y1 y2 y3
      have hfin := hid ((((hb1.set_ 0 (.bool false)).set_ 1 (.string ⟨#[]⟩)).set_ 2 (.string ⟨#[]⟩)).set_ 3 (.string ⟨#[]⟩))
      go_wp2
      have g0 := hfin.out.cell 0
      have g1 := hfin.out.cell 1
      have g2 := hfin.out.cell 2
      have g3 := hfin.out.cell 3
      simp at g0 g1 g2 g3
      refine bodyPost_ret (v := .tuple #[.agg #[.bool false, .string ⟨#[]⟩, .string ⟨#[]⟩, .string ⟨#[]⟩], .int .i64 4]) (by simp [results, Tryz.results225, go_sem, g0, g1, g2, g3]) rfl ?_
      exact ⟨rfl, (((hV1.setCell (.inr (Nat.le_refl _)) _).setCell (.inr (Nat.le_refl _)) _).setCell (.inr (Nat.le_refl _)) _).setCell (.inr (Nat.le_refl _)) _⟩
    · have ho : o < d := by omega
      clear hbad
      go_enter Tryz.func225, Tryz.ntmps225
      go_wp2_with fail
      refine (Hany _).out.mono ?_
      rintro e w1 ⟨rfl, hU1⟩
      have hb1 := hU1.blk (Blk.new w 88 #[.bool false, .string ⟨#[]⟩, .string ⟨#[]⟩, .string ⟨#[]⟩]) (by simp)
      have hV1 : Upd w w1 [] := ((Upd.refl _ _).alloc _).trans hU1
      go_wp2_with fail
      refine (Hbyte0 _).out.mono ?_
      rintro e w2 ⟨rfl, rfl⟩
      have y0 := hb1.cell 0
      have y1 := hb1.cell 1
      have y2 := hb1.cell 2
      have y3 := hb1.cell 3
      have f0 := hb1.frozen 0
      have f1 := hb1.frozen 1
      have f2 := hb1.frozen 2
      have f3 := hb1.frozen 3
      simp at y0 y1 y2 y3
      have hfin := hid ((((hb1.set_ 0 (.bool false)).set_ 1 (.string ⟨#[]⟩)).set_ 2 (.string ⟨#[]⟩)).set_ 3 (.string ⟨#[]⟩))
      go_wp2
      have g0 := hfin.out.cell 0
      have g1 := hfin.out.cell 1
      have g2 := hfin.out.cell 2
      have g3 := hfin.out.cell 3
      simp at g0 g1 g2 g3
      refine bodyPost_ret (v := .tuple #[.agg #[.bool false, .string ⟨#[]⟩, .string ⟨#[]⟩, .string ⟨#[]⟩], .int .i64 4]) (by simp [results, Tryz.results225, go_sem, g0, g1, g2, g3]) rfl ?_
      exact ⟨rfl, (((hV1.setCell (.inr (Nat.le_refl _)) _).setCell (.inr (Nat.le_refl _)) _).setCell (.inr (Nat.le_refl _)) _).setCell (.inr (Nat.le_refl _)) _⟩
  | some r =>
    obtain ⟨ht, hd, ho⟩ := split_text hs
    have hrl : r.fit := by
      have hl2 := congrArg List.length ht
      rw [text_len] at hl2
      unfold RefL.fit
      omega
    have Hck := fun w hm => hid (refCheck_any r w hrl hm)
    have hout : refOut l = if r.ok then (r, 0) else (noRefL, 4) := by unfold refOut; rw [hs]
    rw [hout]
    unfold refPost at Hck
    obtain ⟨b, hb⟩ : ∃ b, r.ok = b := ⟨_, rfl⟩
    rw [hb] at Hck ⊢
    clear hs hout hrl hb
    obtain ⟨ifc, cls, nm, ds⟩ := r
    unfold RefL.v at Hck ⊢
    simp only at Hck hd ho ⊢
    obtain ⟨s, hlt, es, hsz, hsm, e1, e2, e3, hb⟩ := text_partsV ifc cls nm ds ht hd ho
    rw [es] at Hany Hbyte0 ⊢
    rw [hd] at Hany
    rw [ho] at Hbyte0
    have Hbyte := Hbyte0
    clear es ht hd ho Hbyte0
    have HB := hid hb
    have HE1 := hid e1
    have HE2 := hid e2
    have HE3 := hid e3
    have hsm2 : s.size < 4294967281 := by omega
    clear hb e1 e2 e3 hsm hl
    cases b with
    | true =>
      simp only [errIf, if_true] at Hck ⊢
      go_enter Tryz.func225, Tryz.ntmps225
      go_wp2_with fail
      refine (Hany _).out.mono ?_
      rintro e w1 ⟨rfl, hU1⟩
      have hz1 : w.heap.size < w1.heap.size := by have := hU1.size; simp at this; omega
      have hb0 := (Blk.new w 88 #[.bool false, .string ⟨#[]⟩, .string ⟨#[]⟩, .string ⟨#[]⟩])
      have hV1 : Upd w w1 [] := ((Upd.refl _ _).alloc _).trans hU1
      have Hb1 : Hid (Blk w1 w.heap.size 88 #[.bool false, .string ⟨#[]⟩, .string ⟨#[]⟩, .string ⟨#[]⟩]) := hid (hU1.blk hb0 (by simp))
      have HV1 := hid hV1
      clear hU1 hb0 hV1
      go_wp2_with fail
      refine (Hbyte _).out.mono ?_
      rintro e w2 ⟨rfl, rfl⟩
      go_wp2
      have hb := HB.out
      have hq2 : cls.length + 1 + nm.length ≤ s.size := by omega
      have hq3 : s.extract (cls.length + 1 + nm.length) s.size = bs ds := by rw [hsz]; exact HE3.out
      have hq4 : ((cls.length : Int) + 1).toNat = cls.length + 1 := by omega
      have hq5 : ((cls.length : Int) + 1 + (nm.length : Int)).toNat = cls.length + 1 + nm.length := by omega
      have hq6 : (0 : Int) ≤ (cls.length : Int) + 1 := by omega
      have hq7 : (0 : Int) ≤ (cls.length : Int) + 1 + (nm.length : Int) := by omega
      have hq8 : (cls.length : Int) + 1 ≤ (cls.length : Int) + 1 + (nm.length : Int) := by omega
      have hq9 : (cls.length : Int) + 1 + (nm.length : Int) ≤ (s.size : Int) := by omega
      have hqa : (cls.length : Int) < (s.size : Int) := by omega
      have hqb : (cls.length : Int) ≤ (s.size : Int) := by omega
      have hw1 : wrap64 ((cls.length : Int) + 1) = (cls.length : Int) + 1 := by unfold wrap64; omega
      have e1 := HE1.out
      have e2 := HE2.out
      clear hsz
      go_big_region
      have hV3 : Upd w ((w2.alloc (.cells #[.bool ifc, .string (bs cls), .string (bs nm), .string (bs ds)] 88)).drew) [] := (HV1.out.alloc _).drew
      have hn3 : Blk ((w2.alloc (.cells #[.bool ifc, .string (bs cls), .string (bs nm), .string (bs ds)] 88)).drew) w2.heap.size 88 #[.bool ifc, .string (bs cls), .string (bs nm), .string (bs ds)] := Blk.new _ _ _
      have hr3 : Blk ((w2.alloc (.cells #[.bool ifc, .string (bs cls), .string (bs nm), .string (bs ds)] 88)).drew) w.heap.size 88 #[.bool false, .string ⟨#[]⟩, .string ⟨#[]⟩, .string ⟨#[]⟩] := Hb1.out.alloc _
      clear Hb1 HV1 hb hq2 hq3 hq4 hq5 hq6 hq7 hq8 hq9 hqb hw1 e1 e2 HE1 HE2 HE3 Hany Hbyte
      revert hV3 hn3 hr3
      generalize hgw : w2.heap.size = g
      generalize (w2.alloc (.cells #[.bool ifc, .string (bs cls), .string (bs nm), .string (bs ds)] 88)).drew = w3
      intro hV3 hn3 hr3
      rw [hgw] at hz1
      clear hgw
      have y0 := hn3.cell 0
      have y1 := hn3.cell 1
      have y2 := hn3.cell 2
      have y3 := hn3.cell 3
      simp at y0 y1 y2 y3
      go_wp2_with fail
      refine (Hck _ (hm.upd hV3 (by simp))).out.mono ?_
      rintro e w4 ⟨rfl, hU4⟩
      have hn4 := hU4.blk hn3 (by simp)
      have hr4 := hU4.blk hr3 (by simp)
      have hV4 := hV3.trans hU4
      clear hn3 hr3 hU4 hV3 y0 y1 y2 y3
      have y0 := hn4.cell 0
      have y1 := hn4.cell 1
      have y2 := hn4.cell 2
      have y3 := hn4.cell 3
      have z0 := hr4.cell 0
      have z1 := hr4.cell 1
      have z2 := hr4.cell 2
      have z3 := hr4.cell 3
      have f0 := hr4.frozen 0
      have f1 := hr4.frozen 1
      have f2 := hr4.frozen 2
      have f3 := hr4.frozen 3
      simp at y0 y1 y2 y3 z0 z1 z2 z3
      have hfin := hid ((((hr4.set_ 0 (.bool ifc)).set_ 1 (.string (bs cls))).set_ 2 (.string (bs nm))).set_ 3 (.string (bs ds)))
      go_wp2
      have g0 := hfin.out.cell 0
      have g1 := hfin.out.cell 1
      have g2 := hfin.out.cell 2
      have g3 := hfin.out.cell 3
      simp at g0 g1 g2 g3
      refine bodyPost_ret (v := .tuple #[.agg #[.bool ifc, .string (bs cls), .string (bs nm), .string (bs ds)], .int .i64 0]) (by simp [results, Tryz.results225, go_sem, g0, g1, g2, g3]) rfl ?_
      exact ⟨rfl, (((hV4.setCell (.inr (Nat.le_refl _)) _).setCell (.inr (Nat.le_refl _)) _).setCell (.inr (Nat.le_refl _)) _).setCell (.inr (Nat.le_refl _)) _⟩
    | false =>
      simp only [errIf] at Hck ⊢
      simp only [noRefL, bs_nil, Bool.false_eq_true, if_false] at Hck ⊢
      go_enter Tryz.func225, Tryz.ntmps225
      go_wp2_with fail
      refine (Hany _).out.mono ?_
      rintro e w1 ⟨rfl, hU1⟩
      have hz1 : w.heap.size < w1.heap.size := by have := hU1.size; simp at this; omega
      have hb0 := (Blk.new w 88 #[.bool false, .string ⟨#[]⟩, .string ⟨#[]⟩, .string ⟨#[]⟩])
      have hV1 : Upd w w1 [] := ((Upd.refl _ _).alloc _).trans hU1
      have Hb1 : Hid (Blk w1 w.heap.size 88 #[.bool false, .string ⟨#[]⟩, .string ⟨#[]⟩, .string ⟨#[]⟩]) := hid (hU1.blk hb0 (by simp))
      have HV1 := hid hV1
      clear hU1 hb0 hV1
      go_wp2_with fail
      refine (Hbyte _).out.mono ?_
      rintro e w2 ⟨rfl, rfl⟩
      go_wp2
      have hb := HB.out
      have hq2 : cls.length + 1 + nm.length ≤ s.size := by omega
      have hq3 : s.extract (cls.length + 1 + nm.length) s.size = bs ds := by rw [hsz]; exact HE3.out
      have hq4 : ((cls.length : Int) + 1).toNat = cls.length + 1 := by omega
      have hq5 : ((cls.length : Int) + 1 + (nm.length : Int)).toNat = cls.length + 1 + nm.length := by omega
      have hq6 : (0 : Int) ≤ (cls.length : Int) + 1 := by omega
      have hq7 : (0 : Int) ≤ (cls.length : Int) + 1 + (nm.length : Int) := by omega
      have hq8 : (cls.length : Int) + 1 ≤ (cls.length : Int) + 1 + (nm.length : Int) := by omega
      have hq9 : (cls.length : Int) + 1 + (nm.length : Int) ≤ (s.size : Int) := by omega
      have hqa : (cls.length : Int) < (s.size : Int) := by omega
      have hqb : (cls.length : Int) ≤ (s.size : Int) := by omega
      have hw1 : wrap64 ((cls.length : Int) + 1) = (cls.length : Int) + 1 := by unfold wrap64; omega
      have e1 := HE1.out
      have e2 := HE2.out
      clear hsz
      go_big_region
      have hV3 : Upd w ((w2.alloc (.cells #[.bool ifc, .string (bs cls), .string (bs nm), .string (bs ds)] 88)).drew) [] := (HV1.out.alloc _).drew
      have hn3 : Blk ((w2.alloc (.cells #[.bool ifc, .string (bs cls), .string (bs nm), .string (bs ds)] 88)).drew) w2.heap.size 88 #[.bool ifc, .string (bs cls), .string (bs nm), .string (bs ds)] := Blk.new _ _ _
      have hr3 : Blk ((w2.alloc (.cells #[.bool ifc, .string (bs cls), .string (bs nm), .string (bs ds)] 88)).drew) w.heap.size 88 #[.bool false, .string ⟨#[]⟩, .string ⟨#[]⟩, .string ⟨#[]⟩] := Hb1.out.alloc _
      clear Hb1 HV1 hb hq2 hq3 hq4 hq5 hq6 hq7 hq8 hq9 hqb hw1 e1 e2 HE1 HE2 HE3 Hany Hbyte
      revert hV3 hn3 hr3
      generalize hgw : w2.heap.size = g
      generalize (w2.alloc (.cells #[.bool ifc, .string (bs cls), .string (bs nm), .string (bs ds)] 88)).drew = w3
      intro hV3 hn3 hr3
      rw [hgw] at hz1
      clear hgw
      have y0 := hn3.cell 0
      have y1 := hn3.cell 1
      have y2 := hn3.cell 2
      have y3 := hn3.cell 3
      simp at y0 y1 y2 y3
      go_wp2_with fail
      refine (Hck _ (hm.upd hV3 (by simp))).out.mono ?_
      rintro e w4 ⟨rfl, hU4⟩
      have hn4 := hU4.blk hn3 (by simp)
      have hr4 := hU4.blk hr3 (by simp)
      have hV4 := hV3.trans hU4
      clear hn3 hr3 hU4 hV3 y0 y1 y2 y3
      have y0 := hn4.cell 0
      have y1 := hn4.cell 1
      have y2 := hn4.cell 2
      have y3 := hn4.cell 3
      have z0 := hr4.cell 0
      have z1 := hr4.cell 1
      have z2 := hr4.cell 2
      have z3 := hr4.cell 3
      have f0 := hr4.frozen 0
      have f1 := hr4.frozen 1
      have f2 := hr4.frozen 2
      have f3 := hr4.frozen 3
      simp at y0 y1 y2 y3 z0 z1 z2 z3
      have hfin := hid ((((hr4.set_ 0 (.bool false)).set_ 1 (.string ⟨#[]⟩)).set_ 2 (.string ⟨#[]⟩)).set_ 3 (.string ⟨#[]⟩))
      go_wp2
      have g0 := hfin.out.cell 0
      have g1 := hfin.out.cell 1
      have g2 := hfin.out.cell 2
      have g3 := hfin.out.cell 3
      simp at g0 g1 g2 g3
      refine bodyPost_ret (v := .tuple #[.agg #[.bool false, .string ⟨#[]⟩, .string ⟨#[]⟩, .string ⟨#[]⟩], .int .i64 4]) (by simp [results, Tryz.results225, go_sem, g0, g1, g2, g3]) rfl ?_
      exact ⟨rfl, (((hV4.setCell (.inr (Nat.le_refl _)) _).setCell (.inr (Nat.le_refl _)) _).setCell (.inr (Nat.le_refl _)) _).setCell (.inr (Nat.le_refl _)) _⟩
end Go.Proofs.YtfpdeiefkimaaaaGreatDoor
