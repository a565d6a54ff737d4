/-
  Package names, walked: Member, Valid and what Valid calls.
-/
import Derived.Test.YtjjdlgjofjfgmaaDoorNamesB
set_option linter.unusedSimpArgs false
set_option linter.unusedVariables false
namespace Go.Proofs.YtjjdlgjofjfgmaaDoor
open Go.RowKit

theorem member_any (s : ByteArray) (w : World) (hs : s.size ≤ 9223372036854775807) : Calls Tryd.prog 32 #[.string s] w fun e w' => e = .returned (.bool (memberB s.data.toList)) ∧ w = w' := by
  have Hc := hid (part_any s w hs)
  obtain ⟨b, hb⟩ : ∃ b : Bool, partB s.data.toList = b := ⟨_, rfl⟩
  rw [hb] at Hc
  have Hb := hid hb
  clear hb
  have hm : memberB s.data.toList = (decide (s.toList = [60, 105, 110, 105, 116, 62]) || (decide (s.size ≤ 60) && b)) := by
    rw [Bool.eq_iff_iff]
    simp [initB, memberB, Hb.out, ByteArray.toList_eq]
    exact or_congr decide_eq_true_iff Iff.rfl
  rw [hm]
  by_cases hi : s.toList = [60, 105, 110, 105, 116, 62]
  · go_enter Tryd.func32, Tryd.ntmps32
    go_wp2_with fail
    go_ret
    exact ⟨bool_ret (by simp [hi]), rfl⟩
  · by_cases hl : s.size ≤ 60
    · go_enter Tryd.func32, Tryd.ntmps32
      go_wp2_with fail
      refine Hc.out.mono ?_
      rintro e w1 ⟨rfl, rfl⟩
      go_wp2
      go_ret
      exact ⟨bool_ret (by simp [hi, hl]), rfl⟩
    · go_enter Tryd.func32, Tryd.ntmps32
      go_wp2
      go_ret
      exact ⟨bool_ret (by simp [hi, hl]), rfl⟩

theorem valid1_any (s : ByteArray) (w : World) (hs : s.size ≤ 9223372036854775807) : Calls Tryd.prog 60 #[.string s] w fun e w' => e = .returned (.bool (!partB s.data.toList)) ∧ w = w' := by
  have Hc := hid (part_any s w hs)
  go_enter Tryd.func60, Tryd.ntmps60
  go_wp2_with fail
  refine Hc.out.mono ?_
  rintro e w1 ⟨rfl, rfl⟩
  go_wp2
  go_ret
  exact ⟨rfl, rfl⟩

theorem indexFunc_any (ps : List ByteArray) (g : Nat) (w : World) (hb : Blk w g 9 (ps.map Value.string).toArray) (hl : ps.length ≤ 9223372036854775807) (hs : ∀ p, p ∈ ps → p.size ≤ 9223372036854775807) :
    Calls Tryd.prog 89 #[.slice (some ⟨g, 0, none⟩) ps.length ps.length, .func (.func 60) #[] #[]] w fun e w' =>
      ∃ i : Int, e = .returned (.int .i64 i) ∧ w = w' ∧ decide (0 ≤ i) = !ps.all fun p => partB p.data.toList := by
  have hget : ∀ k (h : k < ps.length), w.cell? ⟨g, k, none⟩ = some (.string ps[k]) := by
    intro k h
    rw [hb.cell]
    simp [h]
  go_enter Tryd.func89, Tryd.ntmps89
  go_wp2
  go_loop [8] (fun t => ∃ k : Nat, k ≤ ps.length ∧ t = .int .i64 k ∧ Hid ((ps.take k).all (fun p => partB p.data.toList) = true)) (fun t => ps.length - (intOf t).toNat)
  case atStart => exact ⟨0, Nat.zero_le _, rfl, hid (by simp)⟩
  case round =>
    obtain ⟨k, hk, rfl, hp⟩ := hrel
    by_cases hlt : k < ps.length
    · have hc := valid1_any ps[k] w (hs _ (List.getElem_mem hlt))
      have hg := hget k hlt
      obtain ⟨b, hb'⟩ : ∃ b : Bool, partB ps[k].data.toList = b := ⟨_, rfl⟩
      rw [hb'] at hc
      have Hc := hid hc
      have Hb := hid hb'
      clear hc hb'
      cases b with
      | true =>
        go_wp2_with fail
        refine Hc.out.mono ?_
        rintro e w1 ⟨rfl, rfl⟩
        go_wp2
        go_round
        case rel =>
          exact ⟨k + 1, by omega, by go_num, hid (by
            rw [List.take_succ_eq_append_getElem hlt, List.all_append, hp.out]
            simp [Hb.out])⟩
        case measure => simp [intOf]; omega
      | false =>
        go_wp2_with fail
        refine Hc.out.mono ?_
        rintro e w1 ⟨rfl, rfl⟩
        go_wp2
        go_ret
        refine ⟨k, rfl, rfl, ?_⟩
        have : ps.all (fun p => partB p.data.toList) = false := by
          rw [List.all_eq_false]
          exact ⟨ps[k], List.getElem_mem hlt, by simp [Hb.out]⟩
        rw [this]
        simp
    · obtain rfl : k = ps.length := by omega
      go_wp2
      go_ret
      refine ⟨-1, rfl, rfl, ?_⟩
      rw [List.take_length] at hp
      rw [hp.out]
      rfl

theorem containsFunc_any (ps : List ByteArray) (g : Nat) (w : World) (hb : Blk w g 9 (ps.map Value.string).toArray) (hl : ps.length ≤ 9223372036854775807) (hs : ∀ p, p ∈ ps → p.size ≤ 9223372036854775807) :
    Calls Tryd.prog 58 #[.slice (some ⟨g, 0, none⟩) ps.length ps.length, .func (.func 60) #[] #[]] w fun e w' =>
      e = .returned (.bool (!ps.all fun p => partB p.data.toList)) ∧ w = w' := by
  have hc := indexFunc_any ps g w hb hl hs
  obtain ⟨r, hr⟩ : ∃ r : Bool, (ps.all fun p => partB p.data.toList) = r := ⟨_, rfl⟩
  rw [hr] at hc
  rw [hr]
  have Hc := hid hc
  clear hc hr
  go_enter Tryd.func58, Tryd.ntmps58
  go_wp2_with fail
  refine Hc.out.mono ?_
  rintro e w1 ⟨i, rfl, rfl, hi⟩
  by_cases h0 : 0 ≤ i
  · have : r = false := by simpa [h0] using hi
    subst this
    go_wp2
    go_ret
    exact ⟨rfl, rfl⟩
  · have : r = true := by simpa [h0] using hi
    subst this
    go_wp2
    go_ret
    exact ⟨rfl, rfl⟩

/-- A world that says no more than the first, but for new memory. -/
theorem valid_any (s : ByteArray) (w : World) (hs : s.size ≤ 9223372036854775807) (hm : MaxLenAt w) : Calls Tryd.prog 29 #[.string s] w fun e w' => e = .returned (.bool (validB s.data.toList)) ∧ Upd w w' [] := by
  obtain ⟨b, hb⟩ : ∃ b : Bool, validB s.data.toList = b := ⟨_, rfl⟩
  rw [hb]
  by_cases hl : s.size ≤ 60
  · have Hc := hid (parts_any s w (by omega) hm)
    go_enter Tryd.func29, Tryd.ntmps29
    go_wp2_with fail
    refine Hc.out.mono ?_
    rintro e w1 ⟨ps, rfl, rfl, hps⟩
    have hlen : ps.length ≤ 61 := by
      have := congrArg List.length hps
      rw [List.length_map, splitL_length] at this
      have h2 : s.data.toList.count 47 ≤ s.data.toList.length := List.count_le_length
      have h3 : s.data.toList.length = s.size := by simp
      omega
    have hsz : ∀ p, p ∈ ps → p.size ≤ 9223372036854775807 := by
      intro p hp
      have h4 : p.data.toList ∈ splitL 47 s.data.toList := by rw [← hps]; exact List.mem_map_of_mem hp
      have h5 := splitL_le _ _ _ h4
      have h3 : s.data.toList.length = s.size := by simp
      have h6 : p.data.toList.length = p.size := by simp
      omega
    have Hk := hid (containsFunc_any ps w.heap.size (w.alloc (.cells (ps.map Value.string).toArray 9)) (Blk.new w _ _) (by omega) hsz)
    have hv : (ps.all fun p => partB p.data.toList) = b := by
      rw [← hb]
      unfold validB
      rw [← hps, List.all_map]
      simp [hl]
      rfl
    rw [hv] at Hk
    clear hv
    have hw : Upd w (w.alloc (.cells (ps.map Value.string).toArray 9)) [] := (Upd.refl w []).alloc _
    revert Hk hw
    generalize w.alloc (.cells (ps.map Value.string).toArray 9) = w2
    intro Hk hw
    go_wp2_with fail
    refine Hk.out.mono ?_
    rintro e w1 ⟨rfl, rfl⟩
    go_wp2
    go_ret
    exact ⟨bool_ret (by simp), hw⟩
  · have hv : validB s.data.toList = false := by
      unfold validB
      simp [hl]
    have : b = false := hb.symm.trans hv
    subst this
    clear hv hb
    go_enter Tryd.func29, Tryd.ntmps29
    go_wp2_with fail
    go_ret
    exact ⟨rfl, Upd.refl _ _⟩
end Go.Proofs.YtjjdlgjofjfgmaaDoor
