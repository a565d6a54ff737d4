/-
  shapes.words, flags.ClassText, MethodText, and Print's own function line, walked.
-/
import Derived.Test.YtjjdlgjofjfgmaaDoorFlagsB
set_option linter.unusedSimpArgs false
set_option linter.unusedVariables false
namespace Go.Proofs.YtjjdlgjofjfgmaaDoor
open Go.RowKit

theorem classText_any (f : Int) (w : World) :
    Calls Tryd.prog 85 #[.int .i64 f] w fun e w' => e = .returned (.tuple #[.string (bs (flagText f 1585).1), .int .i64 (flagText f 1585).2]) ∧ Upd w w' [] := by
  have Ht := fun w => hid (text104_any f 1585 w)
  generalize flagText f 1585 = p at Ht ⊢
  obtain ⟨a, b⟩ := p
  simp only at Ht ⊢
  go_enter Tryd.func85, Tryd.ntmps85
  go_wp2_with fail
  refine (Ht _).out.mono ?_
  rintro e w1 ⟨rfl, hU1⟩
  go_wp2
  go_ret2
  exact ⟨rfl, hU1⟩
theorem methodText_any (f : Int) (w : World) :
    Calls Tryd.prog 87 #[.int .i64 f] w fun e w' => e = .returned (.tuple #[.string (bs (flagText f 1055).1), .int .i64 (flagText f 1055).2]) ∧ Upd w w' [] := by
  have Ht := fun w => hid (text104_any f 1055 w)
  generalize flagText f 1055 = p at Ht ⊢
  obtain ⟨a, b⟩ := p
  simp only at Ht ⊢
  go_enter Tryd.func87, Tryd.ntmps87
  go_wp2_with fail
  refine (Ht _).out.mono ?_
  rintro e w1 ⟨rfl, hU1⟩
  go_wp2
  go_ret2
  exact ⟨rfl, hU1⟩

/-- A word and more words, if there are any. -/
def wordT (a b : List UInt8) : List UInt8 := Lib.trimSuffix (a ++ [32] ++ b) [32]
theorem words86_any (a b : List UInt8) (w : World) (ha : a.length ≤ 10000000) (hb : b.length ≤ 10000000) :
    Calls Tryd.prog 86 #[.string (bs a), .string (bs b)] w fun e w' => e = .returned (.string (bs (wordT a b))) ∧ w = w' := by
  have s1 : (bs a).size ≤ 10000000 := by rw [bs_size]; exact ha
  have s2 : (bs b).size ≤ 10000000 := by rw [bs_size]; exact hb
  have Ht : ∀ w, Hid (Calls Tryd.prog 105 #[.string (bs a ++ ⟨#[32]⟩ ++ bs b), .string ⟨#[32]⟩] w fun e w' => e = .returned (.string (bs (wordT a b))) ∧ w' = w) := fun w => hid (by
    have := Tryd.strings_TrimSuffix (bs a ++ ⟨#[32]⟩ ++ bs b) ⟨#[32]⟩ w (by rw [show (⟨#[32]⟩ : ByteArray) = bs [32] from rfl, bs_append, bs_append, bs_size]; simp; omega)
    rw [show (bs a ++ ⟨#[32]⟩ ++ bs b) = bs (a ++ [32] ++ b) by rw [show (⟨#[32]⟩ : ByteArray) = bs [32] from rfl, bs_append, bs_append]] at this ⊢
    rw [bs_data] at this
    exact this)
  clear ha hb
  go_enter Tryd.func86, Tryd.ntmps86
  go_wp2_with fail
  refine (Ht _).out.mono ?_
  rintro e w1 ⟨rfl, rfl⟩
  go_wp2
  go_ret
  exact ⟨rfl, rfl⟩

/-- Print's line: the words, a blank between two, and an end of line, behind what the builder holds. -/
theorem line_any (b : Nat) (l : List UInt8) (ps : List (List UInt8)) (g : Nat) (w : World) (hb : BldAt b l w) (hB : Blk w g 9 (ps.map strV).toArray) (hps : ps.length ≤ 1000000) (hj : (Lib.join ps [32]).length ≤ 10000000) (hl : l.length ≤ 10000000000) :
    Calls Tryd.prog 84 #[.slice (some ⟨g, 0, none⟩) ps.length ps.length, .pointer (some ⟨b, 0, none⟩)] w fun e w' => e = .returned (.tuple #[]) ∧ BldAt b (l ++ (Lib.join ps [32] ++ [10])) w' ∧ Keep b w w' := by
  have hown : w.ownsRow 0 9 1 (.slice (some ⟨g, 0, none⟩) ps.length ps.length) ps.length (ps.map strV) := by
    have := own_of_blk hB (by unfold maxLen; simp; omega)
    simpa using this
  have Hj := hid (join_any g ps.length ps.length ps w hown rfl (by omega) hps)
  have hs : (bs (Lib.join ps [32])).size ≤ 10000000 := by rw [bs_size]; exact hj
  have hcat : bs (Lib.join ps [32]) ++ ⟨#[10]⟩ = bs (Lib.join ps [32] ++ [10]) := by rw [show (⟨#[10]⟩ : ByteArray) = bs [10] from rfl, bs_append]
  generalize Lib.join ps [32] = J at Hj hs hcat hj ⊢
  have Hw := fun w hb => hid (writeString_any b l (J ++ [10]) w hb (by simp; omega))
  rw [← hcat] at Hw
  have Hb := hid hb
  have hbl := hb.lt
  have Hcat := hid hcat
  clear hb hB hown hcat hj hl
  go_enter Tryd.func84, Tryd.ntmps84
  go_wp2_with fail
  refine Hj.out.mono ?_
  rintro e w1 ⟨rfl, hU1⟩
  go_wp2_with fail
  refine (Hw _ (Hb.out.upd hU1)).out.mono ?_
  rintro e w2 ⟨rfl, hB2, hL2⟩
  go_wp2
  go_end0
  exact ⟨rfl, hB2, (Keep.of_upd hU1).trans hL2⟩
end Go.Proofs.YtjjdlgjofjfgmaaDoor
