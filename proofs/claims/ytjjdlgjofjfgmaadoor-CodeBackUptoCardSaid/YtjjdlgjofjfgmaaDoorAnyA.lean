/-
  strings.IndexRune in ".:" at a rune beyond ASCII: there is none. Walked.
-/
import Derived.Test.YtjjdlgjofjfgmaaDoorCodeE
import Derived.Laws.Runes
import Derived.Laws.RangeAny
import Derived.WalkMore
set_option linter.unusedSimpArgs false
set_option linter.unusedVariables false
namespace Go.Proofs.YtjjdlgjofjfgmaaDoor
open Go.RowKit Go.Sort

theorem rune_val {r : Int} (h : Utf8.valid r = true) : Lib.validRune r = true := by
  unfold Utf8.valid at h
  unfold Lib.validRune
  simp at h ⊢
  omega

theorem quiet_of' {f : FuncId} {args : Array Value} {W : World} {d : Nat} {os : Array Obj} {v : Value} (h : ∀ w, Upd W w [] → Calls Tryd.prog f args w fun e w' => e = .returned v ∧ Upd w w' []) :
    Calls Tryd.prog f args (grow (redrawn W d) os) fun e w'' => e = .returned v ∧ ∃ p : Regrown, w'' = grow (redrawn W p.d) p.os :=
  Calls.regrown_of ((h _ (Upd.of_below (below_regrown W d os) [])).mono fun _ _ h => ⟨h.1, h.2.below⟩)

set_option maxHeartbeats 4000000 in
set_option maxRecDepth 100000 in
theorem indexRune_far (r : Int) (w : World) (h : 128 ≤ r) (hv : Utf8.valid r = true) :
    Calls Tryd.prog 79 #[.string ⟨#[46, 58]⟩, .int .i32 r] w fun e w' => e = .returned (.int .i64 (-1)) ∧ Upd w w' [] := by
  have h1 : ¬ r < 128 := by omega
  have h0 : 0 ≤ r := by omega
  by_cases hr : r = 65533
  · subst hr
    go_enter Tryd.func79, Tryd.ntmps79
    go_wp2
    go_loopg [5, 6] 2 (fun g _ _ wx => ∃ i : Nat, i + g = 2 ∧ wx = w.iter ⟨#[46, 58]⟩ i)
    case atStart => exact ⟨0, rfl, rfl⟩
    case round =>
      obtain ⟨i, hig, rfl⟩ := hrel
      cases gk with
      | zero =>
        obtain rfl : i = 2 := by omega
        have hnx := fun ty => run_next_end (P := Tryd.prog) w ⟨#[46, 58]⟩ 2 ty (by decide)
        go_wp2
        go_ret
        exact ⟨rfl, Upd.refl _ _ |>.alloc _⟩
      | succ g =>
        obtain rfl | rfl : i = 0 ∨ i = 1 := by omega
        · have hnx := fun ty => run_next_ascii (P := Tryd.prog) w ⟨#[46, 58]⟩ 0 ty (by decide) (by decide)
          go_wp2
          go_roundg g
          case measure => omega
          case rel => exact ⟨1, by omega, rfl⟩
        · have hnx := fun ty => run_next_ascii (P := Tryd.prog) w ⟨#[46, 58]⟩ 1 ty (by decide) (by decide)
          go_wp2
          go_roundg g
          case measure => omega
          case rel => exact ⟨2, by omega, rfl⟩
  · obtain ⟨e1, e2, e3⟩ := encode_facts r hv h
    have hrb : (r == 65533) = false := by simpa using hr
    have Hval : ∀ w, Hid (Calls Tryd.prog 100 #[.int .i32 r] w fun e w' => e = .returned (.bool true) ∧ w = w') := fun w => hid (by
      have := Tryd.utf8_ValidRune r w
      rw [rune_val hv] at this
      exact this.mono fun _ _ h => ⟨h.1, h.2.symm⟩)
    obtain ⟨s, hs⟩ : ∃ s, Utf8.encode r = s := ⟨_, rfl⟩
    rw [hs] at e1 e2 e3
    by_cases h2 : s.size = 2
    · obtain ⟨a, b, rfl⟩ : ∃ a b : UInt8, s = ⟨#[a, b]⟩ := by
        obtain ⟨⟨l⟩⟩ := s
        match l, h2 with
        | [a, b], _ => exact ⟨a, b, rfl⟩
      have hb2 : 128 ≤ b.toNat := e3 (show (2 : Nat) - 1 < 2 by omega)
      have hne : ((58 : Int) != (b.toNat : Int)) = true := by simp; omega
      have g1 : ∀ h, (⟨#[46, 58]⟩ : ByteArray)[1]'h = 58 := fun _ => rfl
      have g2 : ∀ h, (⟨#[a, b]⟩ : ByteArray)[1]'h = b := fun _ => rfl
      have HQ : ∀ (W : World) (s : ByteArray) (c : Int) d os, Hid (Calls Tryd.prog 54 #[.string s, .int .u8 c] (grow (redrawn W d) os) fun e w'' => e = .returned (.int .i64 (Lib.indexByte s.data.toList c.toNat.toUInt8)) ∧ ∃ p : Regrown, w'' = grow (redrawn W p.d) p.os) := fun W s c d os => hid (quiet_of' fun w _ => (Tryd.strings_IndexByte s c w).mono fun _ _ h => ⟨h.1, by rw [h.2]; exact Upd.refl _ _⟩)
      clear e1 e2 e3 h2
      go_enter Tryd.func79, Tryd.ntmps79
      go_wp2_with fail
      refine (Hval _).out.mono ?_
      rintro e w1 ⟨rfl, rfl⟩
      go_wp2
      go_step3
      go_wp2
      go_loopw [9, 10] (fun a b wr => a = .int .i64 1 ∧ b = .int .i64 0 ∧ wr = w) (fun _ _ _ => 0)
      case atStart => exact ⟨rfl, rfl, rfl⟩
      case round =>
        obtain ⟨rfl, rfl, hw⟩ := hrel
        go_wp2
        go_step3
        go_wp2
        refine wp_region_quiet_below (by kernel_rfl) (by kernel_rfl) ?_
        repeat (any_goals (first | go_big_quiet_step (fail) | quiet_step (fail)))
        refine wpQuiet_nil ?_
        intro _ hw'
        obtain ⟨⟨dq, osq⟩, hw''⟩ := hw'
        subst hw''
        have HU4 := hid (Upd.of_below (below_regrown w dq osq) [])
        revert HU4
        generalize grow (redrawn w dq) osq = w4
        intro HU4
        go_wp2
        refine wp_region_quiet_below (by kernel_rfl) (by kernel_rfl) ?_
        repeat (any_goals (first | go_big_quiet_step (exact (HQ _ _ _ _ _).out) | quiet_step (exact (HQ _ _ _ _ _).out)))
        refine wpQuiet_nil ?_
        intro _ hw'
        obtain ⟨⟨dq, osq⟩, hw''⟩ := hw'
        subst hw''
        have HU5 := hid (HU4.out.trans (Upd.of_below (below_regrown w4 dq osq) []))
        revert HU5
        generalize grow (redrawn w4 dq) osq = w5
        intro HU5
        go_wp2
        rw [Exit.noGoto_ret]
        simp +zetaDelta only [Exit.inBlock, Exit.then, Exit.noGoto_ret]
        go_ret
        exact ⟨rfl, HU5.out⟩
    · have h3 : ¬ ((s.size : Int) - 1 < 2) := by omega
      have hw : wrap64 ((s.size : Int) - 1) = (s.size : Int) - 1 := by unfold wrap64; omega
      clear e3
      go_enter Tryd.func79, Tryd.ntmps79
      go_wp2_with fail
      refine (Hval _).out.mono ?_
      rintro e w1 ⟨rfl, rfl⟩
      go_wp2
      go_step3
      go_wp2
      go_loopw [9, 10] (fun a b wr => a = .int .i64 ((s.size : Int) - 1) ∧ b = .int .i64 0 ∧ wr = w) (fun _ _ _ => 0)
      case atStart => exact ⟨rfl, rfl, rfl⟩
      case round =>
        obtain ⟨rfl, rfl, hw⟩ := hrel
        go_wp2
        rw [Exit.noGoto_ret]
        go_ret
        exact ⟨rfl, Upd.refl _ _⟩
end Go.Proofs.YtjjdlgjofjfgmaaDoor
