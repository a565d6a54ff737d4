/-
  Package types, walked: ParseRef.
-/
import Derived.Test.YtjjdlgjofjfgmaaDoorTypesC
set_option linter.unusedSimpArgs false
set_option linter.unusedVariables false
namespace Go.Proofs.YtjjdlgjofjfgmaaDoor
open Go.RowKit

theorem prefix_any (l : List UInt8) (w : World) : Calls Tryd.prog 76 #[.string (bs l), .string ⟨#[91]⟩] w fun e w' => e = .returned (.bool (l.head? == some 91)) ∧ w = w' := by
  have h := Tryd.strings_HasPrefix (bs l) ⟨#[91]⟩ w
  rw [bs_data] at h
  have e : Lib.hasPrefix l (⟨#[91]⟩ : ByteArray).data.toList = (l.head? == some 91) := by
    cases l with
    | nil => rfl
    | cons c t =>
      rw [Bool.eq_iff_iff]
      simp [Lib.hasPrefix]
      try exact eq_comm
  rw [e] at h
  refine h.mono ?_
  rintro e w1 ⟨rfl, rfl⟩
  exact ⟨rfl, rfl⟩

set_option maxHeartbeats 4000000 in
theorem parseRef_any (l : List UInt8) (w : World) (hl : l.length ≤ 9223372036854775807) (hm : MaxLenAt w) : Calls Tryd.prog 49 #[.string (bs l)] w (parsePost (parseRefL l) w) := by
  have hs : (bs l).size = l.length := bs_size l
  have hp := hid (prefix_any l (w.alloc (.cells #[.int .i64 0, .string ⟨#[]⟩] 69)))
  have hU0 : Upd w (w.alloc (.cells #[.int .i64 0, .string ⟨#[]⟩] 69)) [] := (Upd.refl _ _).alloc _
  have hR0 : Blk (w.alloc (.cells #[.int .i64 0, .string ⟨#[]⟩] 69)) w.heap.size 69 #[.int .i64 0, .string ⟨#[]⟩] := Blk.new _ _ _
  have hm0 := hm.upd hU0 (by simp)
  cases h91 : (l.head? == some 91) with
  | true =>
    rw [h91] at hp
    have PE : parseRefL l = parseL l := by unfold parseRefL; rw [h91]; rfl
    have hq := hid (parse_any l _ (by omega) hm0)
    generalize parseL l = r at hq PE
    obtain ⟨n, nm, er⟩ := r
    go_enter Tryd.func49, Tryd.ntmps49
    go_wp2_with fail
    refine hp.out.mono ?_
    rintro e w1 ⟨rfl, rfl⟩
    go_wp2_with fail
    refine hq.out.mono ?_
    rintro e w1 ⟨rfl, hU1⟩
    have hR1 := hU1.blk hR0 (by simp)
    have hU2 := hU0.trans hU1
    have r0 := hR1.cell 0
    have r1 := hR1.cell 1
    have rf0 := hR1.frozen 0
    have rf1 := hR1.frozen 1
    simp at r0 r1
    unfold ty
    go_wp2
    have hR3 := (hR1.set_ 0 (.int .i64 n)).set_ 1 (.string (bs nm))
    have g0 := hR3.cell 0
    have g1 := hR3.cell 1
    simp at g0 g1
    refine bodyPost_ret (v := .tuple #[ty n nm, .int .i64 er]) (by simp [results, Tryd.results49, go_sem, ty, g0, g1]) rfl ?_
    rw [PE]
    exact ⟨rfl, (hU2.setCell (.inr (Nat.le_refl _)) _).setCell (.inr (Nat.le_refl _)) _⟩
  | false =>
    rw [h91] at hp
    by_cases hbig : 2000 < l.length
    · have PE : parseRefL l = (0, [], 5) := by unfold parseRefL; rw [h91, if_neg (by simp), if_pos hbig]
      go_enter Tryd.func49, Tryd.ntmps49
      go_wp2_with fail
      refine hp.out.mono ?_
      rintro e w1 ⟨rfl, rfl⟩
      go_wp2
      refine bodyPost_ret (v := .tuple #[ty 0 [], .int .i64 5]) (by simp [results, Tryd.results49, go_sem, ty, bs]) rfl ?_
      rw [PE]
      exact ⟨rfl, hU0⟩
    · have hv := hid (valid_any (bs l) _ (by omega) hm0)
      rw [bs_data] at hv
      cases hvb : validB l with
      | true =>
        rw [hvb] at hv
        have PE : parseRefL l = (0, l, 0) := by unfold parseRefL; rw [h91, if_neg (by simp), if_neg hbig, hvb]; rfl
        go_enter Tryd.func49, Tryd.ntmps49
        go_wp2_with fail
        refine hp.out.mono ?_
        rintro e w1 ⟨rfl, rfl⟩
        go_wp2_with fail
        refine hv.out.mono ?_
        rintro e w1 ⟨rfl, hU1⟩
        have hR1 := hU1.blk hR0 (by simp)
        have hU2 := hU0.trans hU1
        have r0 := hR1.cell 0
        have r1 := hR1.cell 1
        have rf0 := hR1.frozen 0
        have rf1 := hR1.frozen 1
        simp at r0 r1
        go_wp2
        have hR3 := (hR1.set_ 0 (.int .i64 0)).set_ 1 (.string (bs l))
        have g0 := hR3.cell 0
        have g1 := hR3.cell 1
        simp at g0 g1
        refine bodyPost_ret (v := .tuple #[ty 0 l, .int .i64 0]) (by simp [results, Tryd.results49, go_sem, ty, g0, g1]) rfl ?_
        rw [PE]
        exact ⟨rfl, (hU2.setCell (.inr (Nat.le_refl _)) _).setCell (.inr (Nat.le_refl _)) _⟩
      | false =>
        rw [hvb] at hv
        have PE : parseRefL l = (0, [], 4) := by unfold parseRefL; rw [h91, if_neg (by simp), if_neg hbig, hvb]; rfl
        go_enter Tryd.func49, Tryd.ntmps49
        go_wp2_with fail
        refine hp.out.mono ?_
        rintro e w1 ⟨rfl, rfl⟩
        go_wp2_with fail
        refine hv.out.mono ?_
        rintro e w1 ⟨rfl, hU1⟩
        have hR1 := hU1.blk hR0 (by simp)
        have hU2 := hU0.trans hU1
        have r0 := hR1.cell 0
        have r1 := hR1.cell 1
        have rf0 := hR1.frozen 0
        have rf1 := hR1.frozen 1
        simp at r0 r1
        go_wp2
        have hR3 := (hR1.set_ 0 (.int .i64 0)).set_ 1 (.string (bs []))
        have g0 := hR3.cell 0
        have g1 := hR3.cell 1
        simp [bs] at g0 g1
        refine bodyPost_ret (v := .tuple #[ty 0 [], .int .i64 4]) (by simp [results, Tryd.results49, go_sem, ty, bs, g0, g1]) rfl ?_
        rw [PE]
        exact ⟨rfl, (hU2.setCell (.inr (Nat.le_refl _)) _).setCell (.inr (Nat.le_refl _)) _⟩
end Go.Proofs.YtjjdlgjofjfgmaaDoor
