/-
  strconv.Atoi at every text: a number, and some error or none; what Itoa writes is read again.
-/
import Derived.Test.YtjjdlgjofjfgmaaDoorCodeE
import Derived.Lib.AtoiAllCases
import Derived.Lib.ItoaLen
set_option linter.unusedSimpArgs false
set_option linter.unusedVariables false
namespace Go.Proofs.YtjjdlgjofjfgmaaDoor
open Go.RowKit

/-- What the library's variables of errors hold, as far as Atoi asks. -/
structure ErrsAt (w : World) : Prop where
  range : ∃ ev, w.cell? ⟨2, 0, none⟩ = some ev ∧ (ev = .nilIface ∨ ∃ te pe, ev = .iface te pe)
  synt : ∃ ev, w.cell? ⟨1, 0, none⟩ = some ev ∧ (ev = .nilIface ∨ ∃ te pe, ev = .iface te pe)
theorem ErrsAt.upd {w w' : World} (h : ErrsAt w) (u : Upd w w' []) : ErrsAt w' := by
  obtain ⟨⟨a, ha, ha2⟩, ⟨b, hb, hb2⟩⟩ := h
  exact ⟨⟨a, (u.cells.1 _ _ (World.block_lt_of_cell? w ⟨_, 0, none⟩ ha)).trans ha, ha2⟩, ⟨b, (u.cells.1 _ _ (World.block_lt_of_cell? w ⟨_, 0, none⟩ hb)).trans hb, hb2⟩⟩

theorem bytesWorld_upd (w : World) (e : TypeId) (t : ByteArray) : Upd w (Lib.bytesWorld w e t) [] := by
  unfold Lib.bytesWorld
  have h : Upd w (w.drew.alloc (.cells (Lib.bytesCells w e t) e)) [] := ((Upd.refl w []).drew).alloc _
  refine ⟨h.os, h.tape, h.output, ?_, fun b hb _ => ?_⟩
  · unfold World.freeze
    split
    · exact h.size
    · simp
  · unfold World.freeze
    split
    · exact h.block b hb (by simp)
    · simp only [Array.getElem?_modify]
      rw [if_neg (by show ¬ w.heap.size = b; omega)]
      exact h.block b hb (by simp)

/-- The number that Atoi answers. -/
def atoiV (l : List UInt8) : Int := match Lib.atoiAll l with
  | .ok v => v
  | .range => Lib.atoiSat l
  | _ => 0
theorem atoiV_bd (l : List UInt8) : -9223372036854775808 ≤ atoiV l ∧ atoiV l ≤ 9223372036854775807 := by
  unfold atoiV
  cases h : Lib.atoiAll l with
  | ok v => exact Lib.atoiAll_bounds h
  | range =>
    simp only [Lib.atoiSat]
    split <;> omega
  | _ => simp only; omega

theorem atoi_any (l : List UInt8) (w : World) (hl : l.length ≤ 281474976710656) (he : ErrsAt w) :
    Calls Tryd.prog 67 #[.string (bs l)] w fun e w' => (∃ ev, e = .returned (.tuple #[.int .i64 (atoiV l), ev])) ∧ Upd w w' [] := by
  obtain ⟨⟨ra, ha, ha2⟩, ⟨rb, hb, hb2⟩⟩ := he
  have hs : (bs l).size ≤ 281474976710656 := by rw [bs_size]; exact hl
  unfold atoiV
  cases h : Lib.atoiAll l with
  | ok v =>
    refine (Tryd.strconv_Atoi_ok (bs l) (by omega) v (by rw [bs_data]; exact h) w).mono ?_
    rintro e w' ⟨rfl, hw⟩
    refine ⟨⟨_, rfl⟩, ?_⟩
    rcases hw with rfl | ⟨t, rfl⟩
    · exact Upd.refl _ _
    · exact bytesWorld_upd w _ t
  | range =>
    refine (Tryd.strconv_Atoi_range (bs l) hs (by rw [bs_data]; exact h) ra w ha ha2).mono ?_
    rintro e w' ⟨N, rfl, -, -, hB⟩
    rw [bs_data]
    exact ⟨⟨_, rfl⟩, Upd.of_below hB []⟩
  | _ =>
    refine (Any.strconv_Atoi_syntax Tryd.laysC172 (bs l) hs (by rw [bs_data]; exact h) rb w hb hb2).mono ?_
    rintro e w' ⟨N, rfl, -, -, hB⟩
    exact ⟨⟨_, rfl⟩, Upd.of_below hB []⟩

theorem dec_parse : ∀ (u : Nat) (r : List UInt8), u < 18446744073709551610 → Lib.parseUint10 0 (Lib.decDigits u ++ r) = Lib.parseUint10 u r := by
  intro u
  induction u using Nat.strongRecOn with
  | ind u ih =>
    intro r hu
    rw [Lib.decDigits]
    by_cases h : u < 10
    · rw [dif_pos h]
      have hc : (UInt8.ofNat (48 + u)).toNat = 48 + u := by simp; omega
      rw [List.singleton_append, Lib.parseUint10, hc, if_pos (by omega), if_neg (by omega), if_neg (by omega)]
      congr 1
      omega
    · rw [dif_neg h, List.append_assoc, ih (u / 10) (by omega) _ (by omega)]
      have hc : (UInt8.ofNat (48 + u % 10)).toNat = 48 + u % 10 := by simp; omega
      rw [List.singleton_append, Lib.parseUint10, hc, if_pos (by omega), if_neg (by omega), if_neg (by omega)]
      congr 1
      omega
theorem dec_head : ∀ u : Nat, ∃ c t, Lib.decDigits u = c :: t ∧ 48 ≤ c.toNat ∧ c.toNat ≤ 57 := by
  intro u
  induction u using Nat.strongRecOn with
  | ind u ih =>
    rw [Lib.decDigits]
    by_cases h : u < 10
    · rw [dif_pos h]
      exact ⟨_, _, rfl, by simp; omega, by simp; omega⟩
    · rw [dif_neg h]
      obtain ⟨c, t, e, h1, h2⟩ := ih (u / 10) (by omega)
      exact ⟨c, t ++ [UInt8.ofNat (48 + u % 10)], by rw [e]; rfl, h1, h2⟩
theorem mag_dec (u : Nat) (h : u < 18446744073709551610) : Lib.parseMag (Lib.decDigits u) = .ok u := by
  obtain ⟨c, t, e, -, -⟩ := dec_head u
  unfold Lib.parseMag
  rw [if_neg (by rw [e]; simp)]
  have := dec_parse u [] h
  rw [List.append_nil] at this
  rw [this]
  rfl
theorem atoi_itoa (n : Int) (h0 : -9223372036854775808 ≤ n) (h1 : n ≤ 9223372036854775807) : Lib.atoiAll (Lib.itoa n) = .ok n := by
  unfold Lib.itoa
  by_cases hn : n < 0
  · rw [if_pos hn, Lib.atoiAll_minus, mag_dec _ (by omega)]
    unfold Lib.signed
    simp only
    rw [if_neg (by omega)]
    congr 1
    omega
  · rw [if_neg hn]
    obtain ⟨c, t, e, h2, h3⟩ := dec_head n.toNat
    have hm := mag_dec n.toNat (by omega)
    rw [e] at hm ⊢
    rw [Lib.atoiAll_plain c t (by omega) (by omega), hm]
    unfold Lib.signless
    simp only
    rw [if_neg (by omega)]
    congr 1
    omega
theorem atoiV_itoa (n : Int) (h0 : -9223372036854775808 ≤ n) (h1 : n ≤ 9223372036854775807) : atoiV (Lib.itoa n) = n := by
  unfold atoiV
  rw [atoi_itoa n h0 h1]
end Go.Proofs.YtjjdlgjofjfgmaaDoor
