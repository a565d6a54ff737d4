/-
  The document's answer on numbers, walked: Decimal.
-/
import Derived.Test.YtjjdlgjofjfgmaaDoorDecimal
import Derived.Test.YtjjdlgjofjfgmaaDoorCodeB
set_option linter.unusedSimpArgs false
set_option linter.unusedVariables false
namespace Go.Proofs.YtjjdlgjofjfgmaaDoor
open Go.RowKit

theorem str_ret {a b : ByteArray} (h : a = b) : Ending.returned (.string a) = .returned (.string b) := by rw [h]
theorem conv_one (c : UInt8) (w : World) (n : Int) (hn : n = c.toNat) :
    (convert 98 9 (.slice (some ⟨w.heap.size, 0, none⟩) 1 1)).run Tryd.prog (w.alloc (.cells #[.int .u8 n] 5)) = .ok (.string (bs [c])) (w.alloc (.cells #[.int .u8 n] 5)) := by
  subst hn
  refine run_convert_bytes_back _ 98 9 5 ⟨w.heap.size, 0, none⟩ 1 [c] Tryd.underlying98 Tryd.underlying5 Tryd.underlying9 ?_
  intro j hj
  have : j = 0 := by simpa using hj
  subst this
  rw [Addr.add_zero', (Blk.new w _ _).cell]
  rfl

def decInv (u : Nat) (w : World) (sg : Int) (s m : Value) (wr : World) : Prop :=
  ∃ (a : Nat) (l : List UInt8), m = .int .i64 (sg * a) ∧ s = .string (bs l) ∧ Hid (decRel u a l) ∧ a ≤ u ∧ (bs l).size ≤ 30 ∧ Upd w wr []

set_option maxHeartbeats 2000000 in
set_option maxRecDepth 100000 in
theorem decimal_pos (u : Nat) (w : World) (h0 : 0 < u) (h1 : u ≤ 9223372036854775807) : Calls Tryd.prog 47 #[.int .i64 u] w fun e w' => e = .returned (.string (bs (Lib.itoa u))) ∧ Upd w w' [] := by
  have hz : ((u : Int) == 0) = false := by rw [beq_eq_false_iff_ne]; omega
  have hz2 : ¬ (u : Int) < 0 := by omega
  go_enter Tryd.func47, Tryd.ntmps47
  go_wp2
  go_loopw [3, 4] (fun s m wr => decInv u w 1 s m wr) (fun _ m _ => (intOf m).toNat)
  case atStart => exact ⟨u, [], by rw [Int.one_mul], rfl, hid (decRel_start u), Nat.le_refl _, by simp [bs_size], Upd.refl _ _⟩
  case round =>
    obtain ⟨a, l, rfl, rfl, hr, hau, hl, hU⟩ := hrel
    rw [Int.one_mul]
    by_cases ha : a = 0
    · subst ha
      have hfin := hid (decRel_end hr.out h0)
      clear hr
      go_wp2
      go_ret
      exact ⟨str_ret (by rw [Lib.itoa_nonneg, ← hfin.out]), hU⟩
    · have hne : ((a : Int) != 0) = true := by rw [bne_iff_ne]; omega
      have hne2 : ¬ a = 0 := ha
      obtain ⟨c, hcn, hn⟩ : ∃ c : UInt8, c.toNat = 48 + a % 10 ∧ Hid (decRel u (a / 10) (c :: l)) := ⟨UInt8.ofNat (48 + a % 10), by simp [UInt8.toNat_ofNat']; omega, hid (decRel_step hr.out (by omega))⟩
      have hlen := decRel_len hn.out (by omega)
      clear hr ha
      have hc := conv_one c wr (48 + (a : Int) % 10) (by omega)
      have h10 : 0 ≤ (a : Int) % 10 := by omega
      clear hcn
      have hlen2 : ¬ 9223372036854775807 < (bs [c]).size + (bs l).size := by rw [bs_size]; simp; omega
      go_wp2
      go_roundw
      case rel => exact ⟨a / 10, c :: l, by rw [Int.one_mul]; go_num, by rw [bs_append]; rfl, hn, by omega, by rw [bs_size]; exact hlen, hU.alloc _⟩
      case measure => simp [intOf]; omega

set_option maxHeartbeats 2000000 in
set_option maxRecDepth 100000 in
theorem decimal_neg (u : Nat) (w : World) (h0 : 0 < u) (h1 : u ≤ 9223372036854775808) : Calls Tryd.prog 47 #[.int .i64 (-(u : Int))] w fun e w' => e = .returned (.string (bs (Lib.itoa (-(u : Int))))) ∧ Upd w w' [] := by
  have hz : (-(u : Int) == 0) = false := by rw [beq_eq_false_iff_ne]; omega
  have hz2 : -(u : Int) < 0 := by omega
  go_enter Tryd.func47, Tryd.ntmps47
  go_wp2
  go_loopw [3, 4] (fun s m wr => decInv u w (-1) s m wr) (fun _ m _ => (-(intOf m)).toNat)
  case atStart => exact ⟨u, [], by go_num, rfl, hid (decRel_start u), Nat.le_refl _, by simp [bs_size], Upd.refl _ _⟩
  case round =>
    obtain ⟨a, l, rfl, rfl, hr, hau, hl, hU⟩ := hrel
    rw [Int.neg_one_mul]
    by_cases ha : a = 0
    · subst ha
      have hfin := hid (decRel_end hr.out h0)
      clear hr
      go_wp2
      go_ret
      exact ⟨str_ret (by rw [Lib.itoa_neg u h0, ← hfin.out, show (⟨#[45]⟩ : ByteArray) = bs [45] from rfl, bs_append]; rfl), hU⟩
    · have hne : (-(a : Int) != 0) = true := by rw [bne_iff_ne]; omega
      have hne2 : ¬ a = 0 := ha
      obtain ⟨c, hcn, hn⟩ : ∃ c : UInt8, c.toNat = 48 + a % 10 ∧ Hid (decRel u (a / 10) (c :: l)) := ⟨UInt8.ofNat (48 + a % 10), by simp [UInt8.toNat_ofNat']; omega, hid (decRel_step hr.out (by omega))⟩
      have hlen := decRel_len hn.out (by omega)
      clear hr ha
      have hlen2 : ¬ 9223372036854775807 < (bs [c]).size + (bs l).size := by rw [bs_size]; simp; omega
      by_cases h10 : 0 < (a : Int) % 10
      · have hc := conv_one c wr (48 + (a : Int) % 10) (by omega)
        clear hcn
        go_wp2
        go_roundw
        case rel => exact ⟨a / 10, c :: l, by go_num, by rw [bs_append]; rfl, hn, by omega, by rw [bs_size]; exact hlen, hU.alloc _⟩
        case measure => simp [intOf]; omega
      · have hc := conv_one c wr (48 + -((a : Int) % 10)) (by omega)
        clear hcn
        go_wp2
        go_roundw
        case rel => exact ⟨a / 10, c :: l, by go_num, by rw [bs_append]; rfl, hn, by omega, by rw [bs_size]; exact hlen, hU.alloc _⟩
        case measure => simp [intOf]; omega

theorem decimal_any (n : Int) (w : World) (h0 : -9223372036854775808 ≤ n) (h1 : n ≤ 9223372036854775807) : Calls Tryd.prog 47 #[.int .i64 n] w fun e w' => e = .returned (.string (bs (Lib.itoa n))) ∧ Upd w w' [] := by
  rcases Int.lt_trichotomy n 0 with h | h | h
  · obtain ⟨u, hu⟩ : ∃ u : Nat, n = -(u : Int) := ⟨n.natAbs, by omega⟩
    rw [hu]
    exact decimal_neg u w (by omega) (by omega)
  · subst h
    have e : bs (Lib.itoa 0) = ⟨#[48]⟩ := by
      have := Lib.itoa_nonneg 0
      rw [show ((0 : Nat) : Int) = 0 from rfl] at this
      rw [this, Lib.decDigits_one (by omega)]
      rfl
    rw [e]
    go_enter Tryd.func47, Tryd.ntmps47
    go_wp2
    go_ret
    exact ⟨rfl, Upd.refl _ _⟩
  · obtain ⟨u, hu⟩ : ∃ u : Nat, n = (u : Int) := ⟨n.natAbs, by omega⟩
    rw [hu]
    exact decimal_pos u w (by omega) (by omega)
end Go.Proofs.YtjjdlgjofjfgmaaDoor
