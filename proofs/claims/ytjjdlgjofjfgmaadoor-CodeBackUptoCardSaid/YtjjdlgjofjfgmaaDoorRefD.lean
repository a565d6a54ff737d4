/-
  The document's answer on types, walked: Parse, ParseRef.
-/
import Derived.Test.YtjjdlgjofjfgmaaDoorRefC
import Derived.Test.YtjjdlgjofjfgmaaDoorCodeB
set_option linter.unusedSimpArgs false
set_option linter.unusedVariables false
namespace Go.Proofs.YtjjdlgjofjfgmaaDoor
open Go.RowKit

set_option maxHeartbeats 2000000 in
theorem parseR_any (l : List UInt8) (w : World) (hl : l.length ≤ 9223372036854775807) : Calls Tryd.prog 44 #[.string (bs l)] w (parsePost (parseL l) w) := by
  have hs : (bs l).size = l.length := bs_size l
  by_cases hbig : 2000 < l.length
  · rw [show parseL l = (0, [], 5) by unfold parseL; rw [if_pos hbig]]
    go_enter Tryd.func44, Tryd.ntmps44
    go_wp2
    exact bodyPost_ret (v := .tuple #[ty 0 [], .int .i64 5]) (by simp [results, Tryd.results44, go_sem, ty, bs]) rfl ⟨rfl, (Upd.refl _ _).alloc _⟩
  · have Hr := fun w => hid (read_any l 0 w (by omega) (Nat.zero_le _))
    have p0 : oneL l = none → parseL l = (0, [], 4) := fun h => by unfold parseL; rw [if_neg hbig, h]
    have p1 : ∀ nm c t, oneL l = some (nm, c :: t) → parseL l = (0, [], 4) := fun nm c t h => by unfold parseL; rw [if_neg hbig, h]
    have p2 : ∀ nm, oneL l = some (nm, []) → parseL l = if 255 < lead l then (0, [], 5) else (lead l, nm, 0) := fun nm h => by unfold parseL; rw [if_neg hbig, h]
    have P0 := hid p0
    have P1 := hid p1
    have P2 := hid p2
    have hU0 : Upd w (w.alloc (.cells #[.int .i64 0, .string ⟨#[]⟩] 69)) [] := (Upd.refl _ _).alloc _
    have hs2 : (bs l).size ≤ 2000 := by omega
    have Hs := hid hs
    clear p0 p1 p2 hs
    go_enter Tryd.func44, Tryd.ntmps44
    go_wp2_with fail
    refine (Hr _).out.mono ?_
    rintro e w1 ⟨d, nm, m, rfl, hU1, hres⟩
    rw [List.drop_zero] at hres
    have hU2 := (hU0.trans hU1).alloc (.cells #[.int .i64 d, .string (bs nm)] 69)
    have hR2 := (hU1.blk (Blk.new w 69 #[.int .i64 0, .string ⟨#[]⟩]) (by simp)).alloc (.cells #[.int .i64 d, .string (bs nm)] 69)
    have r0 := hR2.cell 0
    have r1 := hR2.cell 1
    have rf0 := hR2.frozen 0
    have rf1 := hR2.frozen 1
    simp at r0 r1
    unfold ty
    have fin : ∀ (x : Nat) (y : List UInt8), Hid (Blk (((w1.alloc (.cells #[.int .i64 d, .string (bs nm)] 69)).setCell ⟨w.heap.size, 0, none⟩ (.int .i64 x)).setCell ⟨w.heap.size, 1, none⟩ (.string (bs y))) w.heap.size 69 #[.int .i64 x, .string (bs y)]) := fun x y => (hR2.set_ 0 (.int .i64 x)).set_ 1 (.string (bs y))
    rcases hres with ⟨ho, rfl⟩ | ⟨j, rfl, hj0, hj1, hd, ho⟩
    · have hne : (-1 : Int) ≠ ((bs l).size : Int) := by omega
      have PE := hid (P0.out ho)
      clear ho
      go_wp2
      have g0 := (fin 0 []).out.cell 0
      have g1 := (fin 0 []).out.cell 1
      simp [bs] at g0 g1
      refine bodyPost_ret (v := .tuple #[ty 0 [], .int .i64 4]) (by simp [results, Tryd.results44, go_sem, ty, bs, g0, g1]) rfl ?_
      rw [PE.out]
      exact ⟨rfl, (hU2.setCell (.inr (Nat.le_refl _)) _).setCell (.inr (Nat.le_refl _)) _⟩
    · subst hd
      by_cases hje : j = l.length
      · have ho2 : oneL l = some (nm, []) := by rw [ho, hje]; simp
        have he : ((j : Int) != ((bs l).size : Int)) = false := by rw [Hs.out, hje]; simp
        by_cases hw : 255 < lead l
        · have PE := hid (P2.out _ ho2)
          clear ho ho2 hje
          rw [if_pos hw] at PE
          go_wp2
          have g0 := (fin 0 []).out.cell 0
          have g1 := (fin 0 []).out.cell 1
          simp [bs] at g0 g1
          refine bodyPost_ret (v := .tuple #[ty 0 [], .int .i64 5]) (by simp [results, Tryd.results44, go_sem, ty, bs, g0, g1]) rfl ?_
          rw [PE.out]
          exact ⟨rfl, (hU2.setCell (.inr (Nat.le_refl _)) _).setCell (.inr (Nat.le_refl _)) _⟩
        · have PE := hid (P2.out _ ho2)
          clear ho ho2 hje
          rw [if_neg hw] at PE
          go_wp2
          have g0 := (fin (lead l) nm).out.cell 0
          have g1 := (fin (lead l) nm).out.cell 1
          simp at g0 g1
          refine bodyPost_ret (v := .tuple #[ty (lead l) nm, .int .i64 0]) (by simp [results, Tryd.results44, go_sem, ty, g0, g1]) rfl ?_
          rw [PE.out]
          exact ⟨rfl, (hU2.setCell (.inr (Nat.le_refl _)) _).setCell (.inr (Nat.le_refl _)) _⟩
      · have hx : j < l.length := by omega
        have PE := hid (P1.out nm _ _ (by rw [ho, List.drop_eq_getElem_cons hx]))
        have he : (j != (bs l).size) = true := by rw [Hs.out, bne_iff_ne]; omega
        have he2 : ¬ j = (bs l).size := by rw [Hs.out]; omega
        clear hje
        clear ho
        go_wp2
        have g0 := (fin 0 []).out.cell 0
        have g1 := (fin 0 []).out.cell 1
        simp [bs] at g0 g1
        refine bodyPost_ret (v := .tuple #[ty 0 [], .int .i64 4]) (by simp [results, Tryd.results44, go_sem, ty, bs, g0, g1]) rfl ?_
        rw [PE.out]
        exact ⟨rfl, (hU2.setCell (.inr (Nat.le_refl _)) _).setCell (.inr (Nat.le_refl _)) _⟩

set_option maxHeartbeats 2000000 in
set_option maxRecDepth 100000 in
theorem parseRefR_any (l : List UInt8) (w : World) (hl : l.length ≤ 9223372036854775807) : Calls Tryd.prog 43 #[.string (bs l)] w (parsePost (parseRefL l) w) := by
  have hs : (bs l).size = l.length := bs_size l
  by_cases hbig : 2000 < l.length
  · have PE : parseRefL l = (0, [], 5) := by
      unfold parseRefL parseL
      rw [if_pos hbig]
      split <;> rfl
    rw [PE]
    go_enter Tryd.func43, Tryd.ntmps43
    go_wp2
    exact bodyPost_ret (v := .tuple #[ty 0 [], .int .i64 5]) (by simp [results, Tryd.results43, go_sem, ty, bs]) rfl ⟨rfl, (Upd.refl _ _).alloc _⟩
  · have hs2 : (bs l).size ≤ 2000 := by omega
    have hU0 : Upd w (w.alloc (.cells #[.int .i64 0, .string ⟨#[]⟩] 69)) [] := (Upd.refl _ _).alloc _
    have hR0 := Blk.new w 69 #[.int .i64 0, .string ⟨#[]⟩]
    by_cases h91 : ∃ t, l = 91 :: t
    · obtain ⟨t, rfl⟩ := h91
      have PE : parseRefL (91 :: t) = parseL (91 :: t) := rfl
      have h0 : 0 < (bs (91 :: t)).size := by rw [hs]; simp
      have hq := byte_eq (91 :: t) 0 h0 91 rfl
      rw [show (91 : UInt8).toNat = 91 from rfl] at hq
      have Hp := fun w => hid (parseR_any (91 :: t) w hl)
      rw [PE]
      clear PE hs
      generalize parseL (91 :: t) = p at Hp
      obtain ⟨pn, pl, pe⟩ := p
      go_enter Tryd.func43, Tryd.ntmps43
      go_wp2_with fail
      refine (Hp _).out.mono ?_
      rintro e w1 ⟨rfl, hU1⟩
      have hU2 := hU0.trans hU1
      have hR2 := hU1.blk hR0 (by simp)
      have r0 := hR2.cell 0
      have r1 := hR2.cell 1
      have rf0 := hR2.frozen 0
      have rf1 := hR2.frozen 1
      simp at r0 r1
      have hR9 := (hR2.set_ 0 (.int .i64 pn)).set_ 1 (.string (bs pl))
      have g0 := hR9.cell 0
      have g1 := hR9.cell 1
      simp at g0 g1
      unfold ty
      go_wp2
      refine bodyPost_ret (v := .tuple #[ty pn pl, .int .i64 pe]) (by simp [results, Tryd.results43, go_sem, ty, g0, g1]) rfl ?_
      exact ⟨rfl, (hU2.setCell (.inr (Nat.le_refl _)) _).setCell (.inr (Nat.le_refl _)) _⟩
    · have hh : (l.head? == some 91) = false := by
        cases l with
        | nil => rfl
        | cons c t =>
          simp
          exact fun e => h91 ⟨t, by rw [e]⟩
      have PE : parseRefL l = if validB l then (0, l, 0) else (0, [], 4) := by
        unfold parseRefL
        rw [hh, if_neg hbig]
        rfl
      rw [PE]
      have Hv := fun w => hid (validR_any l w hl)
      have hbyte : ∀ h : 0 < (bs l).size, ((((bs l)[0]'h).toNat : Int) == 91) = false := by
        intro h
        refine byte_ne l 0 h 91 ?_ 91 rfl
        intro h2
        cases l with
        | nil => rw [bs_size] at h; simp at h
        | cons c t => exact h91 ⟨t, by simpa using h2⟩
      clear PE h91 hh hs
      obtain ⟨vb, hvb⟩ : ∃ vb, validB l = vb := ⟨_, rfl⟩
      rw [hvb] at Hv ⊢
      clear hvb
      have hR9 := fun (w1 : World) (hR2 : Blk w1 w.heap.size 69 #[.int .i64 0, .string ⟨#[]⟩]) (x : ByteArray) => (hR2.set_ 0 (.int .i64 0)).set_ 1 (.string x)
      by_cases h0 : 0 < (bs l).size
      · have hq := hbyte h0
        clear hbyte
        cases vb
        all_goals
          go_enter Tryd.func43, Tryd.ntmps43
          go_wp2_with fail
          refine (Hv _).out.mono ?_
          rintro e w1 ⟨rfl, hU1⟩
          have hU2 := hU0.trans hU1
          have hR2 := hU1.blk hR0 (by simp)
          have r0 := hR2.cell 0
          have r1 := hR2.cell 1
          have rf0 := hR2.frozen 0
          have rf1 := hR2.frozen 1
          simp at r0 r1
          go_wp2
        · have g0 := (hR9 _ hR2 ⟨#[]⟩).cell 0
          have g1 := (hR9 _ hR2 ⟨#[]⟩).cell 1
          simp at g0 g1
          refine bodyPost_ret (v := .tuple #[ty 0 [], .int .i64 4]) (by simp [results, Tryd.results43, go_sem, ty, bs_nil, g0, g1]) rfl ?_
          exact ⟨rfl, (hU2.setCell (.inr (Nat.le_refl _)) _).setCell (.inr (Nat.le_refl _)) _⟩
        · have g0 := (hR9 _ hR2 (bs l)).cell 0
          have g1 := (hR9 _ hR2 (bs l)).cell 1
          simp at g0 g1
          refine bodyPost_ret (v := .tuple #[ty 0 l, .int .i64 0]) (by simp [results, Tryd.results43, go_sem, ty, g0, g1]) rfl ?_
          exact ⟨rfl, (hU2.setCell (.inr (Nat.le_refl _)) _).setCell (.inr (Nat.le_refl _)) _⟩
      · clear hbyte
        cases vb
        all_goals
          go_enter Tryd.func43, Tryd.ntmps43
          go_wp2_with fail
          refine (Hv _).out.mono ?_
          rintro e w1 ⟨rfl, hU1⟩
          have hU2 := hU0.trans hU1
          have hR2 := hU1.blk hR0 (by simp)
          have r0 := hR2.cell 0
          have r1 := hR2.cell 1
          have rf0 := hR2.frozen 0
          have rf1 := hR2.frozen 1
          simp at r0 r1
          go_wp2
        · have g0 := (hR9 _ hR2 ⟨#[]⟩).cell 0
          have g1 := (hR9 _ hR2 ⟨#[]⟩).cell 1
          simp at g0 g1
          refine bodyPost_ret (v := .tuple #[ty 0 [], .int .i64 4]) (by simp [results, Tryd.results43, go_sem, ty, bs_nil, g0, g1]) rfl ?_
          exact ⟨rfl, (hU2.setCell (.inr (Nat.le_refl _)) _).setCell (.inr (Nat.le_refl _)) _⟩
        · have g0 := (hR9 _ hR2 (bs l)).cell 0
          have g1 := (hR9 _ hR2 (bs l)).cell 1
          simp at g0 g1
          refine bodyPost_ret (v := .tuple #[ty 0 l, .int .i64 0]) (by simp [results, Tryd.results43, go_sem, ty, g0, g1]) rfl ?_
          exact ⟨rfl, (hU2.setCell (.inr (Nat.le_refl _)) _).setCell (.inr (Nat.le_refl _)) _⟩
end Go.Proofs.YtjjdlgjofjfgmaaDoor
