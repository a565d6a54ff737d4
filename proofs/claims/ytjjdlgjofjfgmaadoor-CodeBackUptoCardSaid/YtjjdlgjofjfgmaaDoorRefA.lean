/-
  The document's answer on names, walked: letter, Part, Member.
-/
import Derived.Test.YtjjdlgjofjfgmaaDoorNamesC
set_option linter.unusedSimpArgs false
set_option linter.unusedVariables false
namespace Go.Proofs.YtjjdlgjofjfgmaaDoor
open Go.RowKit

set_option maxHeartbeats 800000 in
theorem letterR_any (c : Nat) (w : World) (hc : c < 256) : Calls Tryd.prog 94 #[.int .u8 c] w fun e w' => e = .returned (.bool (letterB c)) ∧ w = w' := by
  go_enter Tryd.func94, Tryd.ntmps94
  go_wp2
  all_goals go_ret
  all_goals refine ⟨bool_ret ?_, rfl⟩
  all_goals
    rw [Bool.eq_iff_iff]
    simp [letterB, beq_eq_false_iff_ne] at *
    try omega

set_option maxHeartbeats 800000 in
theorem partR_any (s : ByteArray) (w : World) (hs : s.size ≤ 9223372036854775807) : Calls Tryd.prog 70 #[.string s] w fun e w' => e = .returned (.bool (partB s.data.toList)) ∧ w = w' := by
  go_enter Tryd.func70, Tryd.ntmps70
  go_wp2
  go_loop [3] (fun t => ∃ k : Nat, k ≤ s.size ∧ t = .int .i64 k ∧ Hid (partFrom 0 s.data.toList = partFrom k (s.data.toList.drop k))) (fun t => s.size - (intOf t).toNat)
  case atStart => exact ⟨0, Nat.zero_le _, rfl, hid rfl⟩
  case round =>
    obtain ⟨k, hk, rfl, hp⟩ := hrel
    by_cases hlt : k < s.size
    · have hl : k < s.data.toList.length := by simpa using hlt
      have hq := hid (partFrom_drop s.data.toList k hl)
      have hc := letterR_any (s[k]'hlt).toNat w (by have := (s[k]'hlt).toNat_lt; omega)
      have eb : s.data.toList[k]'hl = s[k]'hlt := by simp [ByteArray.getElem_eq_getElem_data]
      rw [eb] at hq
      obtain ⟨b, hb⟩ : ∃ b : Bool, letterB (s[k]'hlt).toNat = b := ⟨_, rfl⟩
      rw [hb] at hc
      have Hc := hid hc
      have Hb := hid hb
      clear hc eb hb
      have fin : partB s.data.toList = false ∨ partB s.data.toList = true := by cases partB s.data.toList <;> simp
      have htrue : (s[k]'hlt).toNat < 256 := (s[k]'hlt).toNat_lt
      cases b with
      | true =>
        go_wp2_with fail
        refine Hc.out.mono ?_
        rintro e w1 ⟨rfl, rfl⟩
        go_wp2
        go_round
        case rel => exact ⟨k + 1, by omega, by go_num, hid (by rw [hp.out, hq.out, charB, Hb.out]; rfl)⟩
        case measure => simp [intOf]; omega
      | false =>
        have no : charB (s[k]'hlt).toNat (k == 0) = false → Hid (partB s.data.toList = false) := by
          intro h
          exact hid (by unfold partB; rw [hp.out, hq.out, h]; rfl)
        have ye : charB (s[k]'hlt).toNat (k == 0) = true → Hid (partFrom 0 s.data.toList = partFrom (k + 1) (s.data.toList.drop (k + 1))) := by
          intro h
          exact hid (by rw [hp.out, hq.out, h]; rfl)
        have hch : charB (s[k]'hlt).toNat (k == 0) = (!(k == 0) && digitB (s[k]'hlt).toNat) := by rw [charB, Hb.out]; rfl
        rw [hch] at no ye
        clear hch hq hp fin
        have No := hid no
        have Ye := hid ye
        clear no ye
        go_wp2_with fail
        refine Hc.out.mono ?_
        rintro e w1 ⟨rfl, rfl⟩
        clear Hc
        by_cases h0 : k = 0
        · subst h0
          go_wp2
          go_ret
          exact ⟨bool_ret (No.out (by simp)).out.symm, rfl⟩
        · by_cases h1 : (s[k]'hlt).toNat < 48
          · go_wp2
            go_ret
            exact ⟨bool_ret (No.out (by simp [digitB]; omega)).out.symm, rfl⟩
          · by_cases h2 : 57 < (s[k]'hlt).toNat
            · go_wp2
              go_ret
              exact ⟨bool_ret (No.out (by simp [digitB]; omega)).out.symm, rfl⟩
            · go_wp2
              · exfalso
                rename_i hx
                simp at hx
                omega
              · go_round
                case rel => exact ⟨k + 1, by omega, by go_num, Ye.out (by simp [digitB, h0]; omega)⟩
                case measure => simp [intOf]; omega
    · obtain rfl : k = s.size := by omega
      go_wp2
      go_ret
      refine ⟨bool_ret ?_, rfl⟩
      unfold partB
      rw [hp.out, List.drop_of_length_le (by simp)]
      show _ = (true && !s.data.toList.isEmpty)
      have h3 : s.data.toList.length = s.size := by simp
      cases h : s.data.toList with
      | nil => rw [h] at h3
               have : s.size = 0 := h3.symm
               simp [this]
      | cons a t => rw [h, List.length_cons] at h3
                    rw [Bool.eq_iff_iff]
                    simp
                    omega
end Go.Proofs.YtjjdlgjofjfgmaaDoor
