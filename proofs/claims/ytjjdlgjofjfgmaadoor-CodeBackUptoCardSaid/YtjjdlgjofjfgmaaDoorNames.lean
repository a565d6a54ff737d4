/-
  Package names, walked: what a name is made of, on lists of bytes.
-/
import Derived.Test.YtjjdlgjofjfgmaaDoorRows
import Derived.Test.YtjjdlgjofjfgmaaDoorMem
import Derived.Deep.QuietTactic
import Derived.BigQuiet
import Derived.WalkLawsBesides
import Derived.WalkSpells
set_option linter.unusedSimpArgs false
set_option linter.unusedVariables false
namespace Go.Proofs.YtjjdlgjofjfgmaaDoor
open Go.RowKit

def letterB (c : Nat) : Bool := decide (97 ≤ c ∧ c ≤ 122) || decide (65 ≤ c ∧ c ≤ 90) || decide (c = 95) || decide (c = 36)
def digitB (c : Nat) : Bool := decide (48 ≤ c ∧ c ≤ 57)
def charB (c : Nat) (first : Bool) : Bool := letterB c || (!first && digitB c)

theorem bool_ret {a b : Bool} (h : a = b) : Ending.returned (.bool a) = .returned (.bool b) := by rw [h]

set_option maxHeartbeats 800000 in
theorem letter_any (c : Nat) (first : Bool) (w : World) (hc : c < 256) : Calls Tryd.prog 90 #[.int .u8 c, .bool first] w fun e w' => e = .returned (.bool (charB c first)) ∧ w = w' := by
  cases first
  all_goals
    go_enter Tryd.func90, Tryd.ntmps90
    go_wp2
    all_goals go_ret
    all_goals refine ⟨bool_ret ?_, rfl⟩
    all_goals
      rw [Bool.eq_iff_iff]
      simp [charB, letterB, digitB, beq_eq_false_iff_ne] at *
      try omega

/-- A part of a name, on its bytes. -/
def partFrom : Nat → List UInt8 → Bool
  | _, [] => true
  | i, c :: t => charB c.toNat (i == 0) && partFrom (i + 1) t
def partB (l : List UInt8) : Bool := partFrom 0 l && !l.isEmpty

theorem bytes_get (s : ByteArray) (i : Nat) (h : i < s.size) : s.data.toList[i]? = some s[i] := by
  simp [ByteArray.getElem_eq_getElem_data, h]
theorem partFrom_drop (l : List UInt8) (i : Nat) (h : i < l.length) : partFrom i (l.drop i) = (charB l[i].toNat (i == 0) && partFrom (i + 1) (l.drop (i + 1))) := by
  rw [List.drop_eq_getElem_cons h]
  rfl

set_option maxHeartbeats 800000 in
theorem part_any (s : ByteArray) (w : World) (hs : s.size ≤ 9223372036854775807) : Calls Tryd.prog 61 #[.string s] w fun e w' => e = .returned (.bool (partB s.data.toList)) ∧ w = w' := by
  go_enter Tryd.func61, Tryd.ntmps61
  go_wp2
  go_loop [6] (fun t => ∃ k : Nat, k ≤ s.size ∧ t = .int .i64 k ∧ Hid (partFrom 0 s.data.toList = partFrom k (s.data.toList.drop k))) (fun t => s.size - (intOf t).toNat)
  case atStart => exact ⟨0, Nat.zero_le _, rfl, hid rfl⟩
  case round =>
    obtain ⟨k, hk, rfl, hp⟩ := hrel
    by_cases hlt : k < s.size
    · have hl : k < s.data.toList.length := by simpa using hlt
      have hq := hid (partFrom_drop s.data.toList k hl)
      have hc := letter_any (s[k]'hlt).toNat ((k : Int) == 0) w (by have := (s[k]'hlt).toNat_lt; omega)
      have eb : charB (s[k]'hlt).toNat ((k : Int) == 0) = charB (s.data.toList[k]'hl).toNat (k == 0) := by
        congr 1
        rw [Bool.eq_iff_iff]
        simp
      rw [eb] at hc
      obtain ⟨b, hb⟩ : ∃ b : Bool, charB (s.data.toList[k]'hl).toNat (k == 0) = b := ⟨_, rfl⟩
      rw [hb] at hc
      have Hc := hid hc
      have Hb := hid hb
      clear hc eb hb
      cases b with
      | true =>
        go_wp2_with fail
        refine Hc.out.mono ?_
        rintro e w1 ⟨rfl, rfl⟩
        go_wp2
        go_round
        case rel => exact ⟨k + 1, by omega, by go_num, hid (by rw [hp.out, hq.out, Hb.out]; rfl)⟩
        case measure => simp [intOf]; omega
      | false =>
        go_wp2_with fail
        refine Hc.out.mono ?_
        rintro e w1 ⟨rfl, rfl⟩
        go_wp2
        go_ret
        exact ⟨bool_ret (by unfold partB; rw [hp.out, hq.out, Hb.out]; rfl), rfl⟩
    · obtain rfl : k = s.size := by omega
      go_wp2
      go_ret
      refine ⟨bool_ret ?_, rfl⟩
      unfold partB
      rw [hp.out, List.drop_of_length_le (by simp)]
      show (!s.toList.isEmpty) = (true && !s.data.toList.isEmpty)
      rw [ByteArray.toList_eq, Bool.true_and]
end Go.Proofs.YtjjdlgjofjfgmaaDoor
