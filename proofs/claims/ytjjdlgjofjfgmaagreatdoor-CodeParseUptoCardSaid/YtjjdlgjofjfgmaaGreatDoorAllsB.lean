/-
  SameRef, Same, SameCode, walked.
-/
import Derived.Test.YtjjdlgjofjfgmaaGreatDoorK8
import Derived.Lib.QuietBelow
set_option linter.unusedSimpArgs false
set_option linter.unusedVariables false
namespace Go.Proofs.YtjjdlgjofjfgmaaGreatDoor
open Go.RowKit

theorem bs_beqF {a b : List UInt8} (h : a ≠ b) : ((bs a).toList == (bs b).toList) = false := by rw [bs_beq, decide_eq_false h]
theorem bs_beqT (a : List UInt8) : ((bs a).toList == (bs a).toList) = true := by rw [bs_beq, decide_eq_true rfl]

set_option maxHeartbeats 1000000 in
theorem sameRef_any (a b : RefL) (w : World) : Calls Tryz.prog 23 #[a.v, b.v] w fun e w' => e = .returned (.bool (decide (a = b))) ∧ Upd w w' [] := by
  obtain ⟨ai, ac, an, ad⟩ := a
  obtain ⟨bi, bc, bn, bd⟩ := b
  unfold RefL.v
  simp only
  have hU : Upd w ((w.alloc (.cells #[.bool ai, .string (bs ac), .string (bs an), .string (bs ad)] 39)).alloc (.cells #[.bool bi, .string (bs bc), .string (bs bn), .string (bs bd)] 39)) [] := ((Upd.refl _ _).alloc _).alloc _
  by_cases h1 : ai = bi
  · subst h1
    by_cases h2 : ac = bc
    · subst h2
      by_cases h3 : an = bn
      · subst h3
        by_cases h4 : ad = bd
        · subst h4
          have t1 : (ai == ai) = true := by simp
          have t2 := bs_beqT ac
          have t3 := bs_beqT an
          have t4 := bs_beqT ad
          go_enter Tryz.func23, Tryz.ntmps23
          go_wp2
          go_ret
          exact ⟨bool_ret (by simp_all), hU⟩
        · have t1 : (ai == ai) = true := by simp
          have t2 := bs_beqT ac
          have t3 := bs_beqT an
          have t4 := bs_beqF h4
          go_enter Tryz.func23, Tryz.ntmps23
          go_wp2
          go_ret
          exact ⟨bool_ret (by simp_all), hU⟩
      · have t1 : (ai == ai) = true := by simp
        have t2 := bs_beqT ac
        have t3 := bs_beqF h3
        go_enter Tryz.func23, Tryz.ntmps23
        go_wp2
        go_ret
        exact ⟨bool_ret (by simp_all), hU⟩
    · have t1 : (ai == ai) = true := by simp
      have t2 := bs_beqF h2
      go_enter Tryz.func23, Tryz.ntmps23
      go_wp2
      go_ret
      exact ⟨bool_ret (by simp_all), hU⟩
  · have t1 : (ai == bi) = false := by simpa using h1
    have e : decide (RefL.mk ai ac an ad = RefL.mk bi bc bn bd) = false := decide_eq_false fun h => h1 (by injection h)
    go_enter Tryz.func23, Tryz.ntmps23
    go_wp2
    go_ret
    exact ⟨bool_ret (by simp_all), hU⟩

set_option maxHeartbeats 2000000 in
set_option maxRecDepth 100000 in
theorem same_any (a b : InstL) (w : World) : Calls Tryz.prog 20 #[a.v, b.v] w fun e w' => e = .returned (.bool (decide (a = b))) ∧ Upd w w' [] := by
  obtain ⟨ao, ak, at_, ar⟩ := a
  obtain ⟨bo, bk, bt, br⟩ := b
  have Hs := fun w => hid (sameRef_any ar br w)
  have hd : ∀ x : Bool, decide (ar = br) = x → decide (InstL.mk ao ak at_ ar = InstL.mk ao ak at_ br) = x := by
    rintro x rfl
    rw [decide_eq_decide]
    simp
  have hU : ∀ l₁ l₂, Upd w ((w.alloc (.cells l₁ 41)).alloc (.cells l₂ 41)) [] := fun _ _ => ((Upd.refl _ _).alloc _).alloc _
  unfold InstL.v InstL.cells
  unfold RefL.v at Hs
  simp only
  by_cases h1 : ao = bo
  · subst h1
    by_cases h2 : ak = bk
    · subst h2
      by_cases h3 : at_ = bt
      · subst h3
        have t1 : (ao == ao) = true := by simp
        have t2 : (ak == ak) = true := by simp
        have t3 := bs_beqT at_
        generalize decide (ar = br) = x at Hs hd
        rw [hd x rfl]
        clear hd
        go_enter Tryz.func20, Tryz.ntmps20
        go_wp2_with fail
        refine (Hs _).out.mono ?_
        rintro e w1 ⟨rfl, hU1⟩
        go_wp2
        go_ret
        exact ⟨bool_ret (by simp_all), (hU _ _).trans hU1⟩
      · have t1 : (ao == ao) = true := by simp
        have t2 : (ak == ak) = true := by simp
        have t3 := bs_beqF h3
        have e : decide (InstL.mk ao ak at_ ar = InstL.mk ao ak bt br) = false := decide_eq_false fun h => h3 (by injection h)
        rw [e]
        clear hd e
        go_enter Tryz.func20, Tryz.ntmps20
        go_wp2
        go_ret
        exact ⟨bool_ret (by simp_all), hU _ _⟩
    · have t1 : (ao == ao) = true := by simp
      have t2 : (ak == bk) = false := by simpa using h2
      have e : decide (InstL.mk ao ak at_ ar = InstL.mk ao bk bt br) = false := decide_eq_false fun h => h2 (by injection h)
      rw [e]
      clear hd e
      go_enter Tryz.func20, Tryz.ntmps20
      go_wp2
      go_ret
      exact ⟨bool_ret (by simp_all), hU _ _⟩
  · have t1 : (ao == bo) = false := by simpa using h1
    have e : decide (InstL.mk ao ak at_ ar = InstL.mk bo bk bt br) = false := decide_eq_false fun h => h1 (by injection h)
    rw [e]
    clear hd e
    go_enter Tryz.func20, Tryz.ntmps20
    go_wp2
    go_ret
    exact ⟨bool_ret (by simp_all), hU _ _⟩
end Go.Proofs.YtjjdlgjofjfgmaaGreatDoor
