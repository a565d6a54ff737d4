/-
 The document's answer on types, walked: read.
-/
import Derived.Deep.DeepCutAuto
import Derived.Test.YtjjdlgjofjfgmaaGreatDoorK1
import Derived.Test.YtjjdlgjofjfgmaaGreatDoorK2
import Derived.Test.YtjjdlgjofjfgmaaGreatDoorK5
set_option linter.unusedSimpArgs false
set_option linter.unusedVariables false
namespace Go.Proofs.YtjjdlgjofjfgmaaGreatDoor
open Go.RowKit
theorem byte_eq (l : List UInt8) (i : Nat) (h : i < (bs l).size) (c : UInt8) (hc : l[i]'(by rw [← bs_size]; exact h) = c) : ((bs l)[i]'h).toNat = c.toNat := by rw [bs_get l i h, hc]
theorem byte_ne (l : List UInt8) (i : Nat) (h : i < (bs l).size) (c : UInt8) (hc : ¬ l[i]'(by rw [← bs_size]; exact h) = c) (n : Int) (hn : (c.toNat : Int) = n) : ((((bs l)[i]'h).toNat : Int) == n) = false := by
 rw [bs_get l i h, beq_eq_false_iff_ne, ← hn]
 intro h2
 exact hc (UInt8.toNat_inj.1 (Int.ofNat.inj h2))
theorem byte_ne' (l : List UInt8) (i : Nat) (h : i < (bs l).size) (c : UInt8) (hc : ¬ l[i]'(by rw [← bs_size]; exact h) = c) (n : Int) (hn : (c.toNat : Int) = n) : ((((bs l)[i]'h).toNat : Int) != n) = true := by
 have := byte_ne l i h c hc n hn
 simp [bne, this]
def readPost (l : List UInt8) (k : Nat) (w : World) (e : Ending) (w' : World) : Prop :=
 ∃ (d : Nat) (nm : List UInt8) (m : Int), e = .returned (.tuple #[ty d nm, .int .i64 m]) ∧ Upd w w' [] ∧
  ((oneL (l.drop k) = none ∧ m = -1) ∨ (∃ j : Nat, m = j ∧ k < j ∧ j ≤ l.length ∧ d = lead (l.drop k) ∧ oneL (l.drop k) = some (nm, l.drop j)))
theorem cutL_at (t : List UInt8) (k : Nat) (hk : k < t.length) (h : 59 ∉ t.take k) (hc : t[k] = 59) : cutL 59 t = some (t.take k, t.drop (k + 1)) := by
 have e : t = t.take k ++ 59 :: t.drop (k + 1) := by
  conv => lhs; rw [← List.take_append_drop k t, List.drop_eq_getElem_cons hk, hc]
 conv => lhs; rw [e]
 exact cutL_cut 59 _ _ h
set_option maxHeartbeats 4000000 in
set_option maxRecDepth 100000 in
theorem read_any (l : List UInt8) (k0 : Nat) (w : World) (hl : l.length ≤ 2000) (hk0 : k0 ≤ l.length) : Calls Tryz.prog 135 #[.string (bs l), .int .i64 k0] w (readPost l k0 w) := by
 have hs : (bs l).size = l.length := bs_size l
 have Hs := hid hs
 have hs1 : (bs l).size ≤ 2000 := by omega
 have hk1 : k0 ≤ (bs l).size := by omega
 have hU0 : Upd w ((w.alloc (.cells #[.int .i64 0, .string ⟨#[]⟩] 111)).alloc (.cells #[.int .i64 0, .string ⟨#[]⟩] 111)) [] := ((Upd.refl w []).alloc _).alloc _
 have hR0 : Blk ((w.alloc (.cells #[.int .i64 0, .string ⟨#[]⟩] 111)).alloc (.cells #[.int .i64 0, .string ⟨#[]⟩] 111)) w.heap.size 111 #[.int .i64 0, .string ⟨#[]⟩] := (Blk.new _ _ _).alloc _
 have hT0 : Blk ((w.alloc (.cells #[.int .i64 0, .string ⟨#[]⟩] 111)).alloc (.cells #[.int .i64 0, .string ⟨#[]⟩] 111)) (w.heap.size + 1) 111 #[.int .i64 0, .string ⟨#[]⟩] := Blk.new_at (by simp)
 have HU0 := hid hU0
 have HR0 := hid hR0
 have HT0 := hid hT0
 clear hs hU0 hR0 hT0
 go_enter Tryz.func135, Tryz.ntmps135
 go_wp2
 go_loopw [1] (fun a wr => ∃ n : Nat, a = .int .i64 ((k0 + n : Nat) : Int) ∧ k0 + n ≤ (bs l).size ∧ Hid (n + lead (l.drop (k0 + n)) = lead (l.drop k0)) ∧ Blk wr w.heap.size 111 #[.int .i64 0, .string ⟨#[]⟩] ∧ Blk wr (w.heap.size + 1) 111 #[.int .i64 n, .string ⟨#[]⟩] ∧ Upd w wr [])
  (fun a _ => (bs l).size - (intOf a).toNat)
 case atStart => exact ⟨0, rfl, by omega, hid (by simp), HR0.out, HT0.out, HU0.out⟩
 case round =>
  obtain ⟨n, rfl, hle, hlead, hR, hT, hU⟩ := hrel
  have r0 := hR.cell 0
  have r1 := hR.cell 1
  have rf0 := hR.frozen 0
  have rf1 := hR.frozen 1
  have t0 := hT.cell 0
  have t1 := hT.cell 1
  have tf0 := hT.frozen 0
  have tf1 := hT.frozen 1
  simp at r0 r1 t0 t1
  obtain ⟨at', hat⟩ : ∃ q, q = k0 + n := ⟨_, rfl⟩
  rw [← hat] at hle hlead ⊢
  have hn : n ≤ 2000 := by omega
  have Hat := hid hat
  clear hat
  by_cases hlt : at' < (bs l).size
  ·have hll : at' < l.length := by have := Hs.out; omega
   have hd : l.drop at' = l[at'] :: l.drop (at' + 1) := List.drop_eq_getElem_cons hll
   by_cases hc : l[at'] = 91
   ·have hq := byte_eq l at' hlt 91 hc
    rw [show (91 : UInt8).toNat = 91 from rfl] at hq
    have hl2 : Hid (n + 1 + lead (l.drop (k0 + (n + 1))) = lead (l.drop k0)) := hid (by
     rw [← hlead.out, hd, hc, lead_cons, ← Nat.add_assoc k0 n 1, ← Hat.out]; omega)
    clear hd hc
    go_wp2
    go_roundw
    case rel =>
     exact ⟨n + 1, by rw [← Nat.add_assoc, ← Hat.out]; go_num, by have := Hat.out; omega, hl2, hR.far (by simp) _, hT.set_ 0 _, hU.setCell (.inr (by simp)) _⟩
    case measure => simp [intOf]; omega
   ·have hl0 : lead (l.drop at') = 0 := by rw [hd]; exact lead_stop _ hc
    have hone : oneL (l.drop k0) = bareL (l.drop at') := by
     unfold oneL
     rw [List.drop_drop, ← hlead.out, Hat.out, ← Hat.out, hl0, Nat.add_zero, ← Hat.out]
    have hn0 : lead (l.drop k0) = n := by have h := hlead.out; rw [hl0] at h; omega
    have h91 := byte_ne l at' hlt 91 hc 91 rfl
    clear hl0 hlead
    have Hone := hid hone
    have Hn0 := hid hn0
    have Hd := hid hd
    clear hone hn0 hd hc
    by_cases hI : l[at'] = 73
    ·have hq := byte_eq l at' hlt 73 hI
     rw [show (73 : UInt8).toNat = 73 from rfl] at hq
     have ho : Hid (oneL (l.drop k0) = some ([], l.drop (at' + 1))) := hid (by rw [Hone.out, Hd.out, hI]; rfl)
     clear hI h91
     go_wp2
     have hR9 := (hR.set_ 0 (.int .i64 n)).set_ 1 (.string ⟨#[]⟩)
     have g0 := hR9.cell 0
     have g1 := hR9.cell 1
     simp at g0 g1
     refine bodyPost_ret (v := .tuple #[ty n [], .int .i64 (at' + 1 : Nat)]) (by simp [results, Tryz.results135, go_sem, g0, g1, ty, bs_nil]) rfl ?_
     exact ⟨n, [], _, rfl, (hU.setCell (.inr (Nat.le_refl _)) _).setCell (.inr (Nat.le_refl _)) _, (.inr ⟨at' + 1, rfl, by have := Hat.out; omega, by have := Hs.out; omega, Hn0.out.symm, ho.out⟩)⟩
    ·have h73 := byte_ne l at' hlt 73 hI 73 rfl
     by_cases hL : l[at'] = 76
     ·have hq := byte_eq l at' hlt 76 hL
      rw [show (76 : UInt8).toNat = 76 from rfl] at hq
      have ho : Hid (oneL (l.drop k0) = (cutL 59 (l.drop (at' + 1))).bind fun p => if validB p.1 then some p else none) := hid (by rw [Hone.out, Hd.out, hL]; rfl)
      clear hI hL h91 h73
      go_wp2
      go_loop [7] (fun i => ∃ j : Nat, i = .int .i64 ((at' + 1 + j : Nat) : Int) ∧ at' + 1 + j ≤ (bs l).size ∧ Hid (59 ∉ (l.drop (at' + 1)).take j)) (fun i => (bs l).size - (intOf i).toNat)
      case atStart => exact ⟨0, by go_num, by omega, hid (by simp)⟩
      case round =>
       obtain ⟨j, rfl, hj, hno⟩ := hrel
       obtain ⟨i', hi'⟩ : ∃ q, q = at' + 1 + j := ⟨_, rfl⟩
       rw [← hi'] at hj ⊢
       have Hi' := hid hi'
       have hge : at' + 1 ≤ i' := by omega
       clear hi'
       by_cases hlt2 : i' < (bs l).size
       ·have hll2 : i' < l.length := by have := Hs.out; omega
        have hjl : j < (l.drop (at' + 1)).length := by have := Hi'.out; simp; omega
        have hgj : (l.drop (at' + 1))[j] = l[i'] := by
         rw [List.getElem_drop]
         congr 1
         exact Hi'.out.symm
        by_cases hc2 : l[i'] = 59
        ·have hq2 := byte_eq l i' hlt2 59 hc2
         rw [show (59 : UInt8).toNat = 59 from rfl] at hq2
         have hcut := cutL_at _ j hjl hno.out (by rw [hgj, hc2])
         have he : (bs l).extract (at' + 1) i' = bs ((l.drop (at' + 1)).take j) := by
          rw [bs_extract]
          congr 2
          have := Hi'.out
          omega
         have ho2 : Hid (oneL (l.drop k0) = if validB ((l.drop (at' + 1)).take j) then some ((l.drop (at' + 1)).take j, l.drop (i' + 1)) else none) := hid (by
          rw [ho.out, hcut, Option.bind_some, List.drop_drop]
          have : at' + 1 + (j + 1) = i' + 1 := by have := Hi'.out; omega
          rw [this])
         generalize (l.drop (at' + 1)).take j = nm at he ho2 hcut
         have hnl : nm.length ≤ 2000 := by
          have := congrArg ByteArray.size he
          rw [bs_size, ByteArray.size_extract] at this
          omega
         have Hv := fun w => hid (validR_any nm w (by omega))
         have hT2 := hT.set_ 1 (.string (bs nm))
         have hR2 := hR.far (p := ⟨w.heap.size + 1, 1, none⟩) (by simp) (.string (bs nm))
         have hU2 := hU.setCell (p := ⟨w.heap.size + 1, 1, none⟩) (.inr (by simp)) (.string (bs nm))
         clear hc2 hgj hcut hno ho
         obtain ⟨vb, hvb⟩ : ∃ vb, validB nm = vb := ⟨_, rfl⟩
         rw [hvb] at Hv ho2
         clear hvb
         cases vb
         all_goals
          go_wp2_with fail
          refine (Hv _).out.mono ?_
          rintro e w3 ⟨rfl, hU3⟩
          have hT3 := hU3.blk hT2 (by simp)
          have hR3 := hU3.blk hR2 (by simp)
          have hU4 := hU2.trans hU3
          have t0 := hT3.cell 0
          have t1 := hT3.cell 1
          have r0 := hR3.cell 0
          have r1 := hR3.cell 1
          have rf0 := hR3.frozen 0
          have rf1 := hR3.frozen 1
          simp at t0 t1 r0 r1
          go_wp2
         ·have ho3 : Hid (oneL (l.drop k0) = none) := hid (by rw [ho2.out]; rfl)
          have hR9 := (hR3.set_ 0 (.int .i64 n)).set_ 1 (.string (bs nm))
          have g0 := hR9.cell 0
          have g1 := hR9.cell 1
          simp at g0 g1
          refine bodyPost_ret (v := .tuple #[ty n nm, .int .i64 (-1)]) (by simp [results, Tryz.results135, go_sem, g0, g1, ty, bs_nil]) rfl ?_
          exact ⟨n, nm, _, rfl, (hU4.setCell (.inr (Nat.le_refl _)) _).setCell (.inr (Nat.le_refl _)) _, (.inl ⟨ho3.out, rfl⟩)⟩
         ·have ho3 : Hid (oneL (l.drop k0) = some (nm, l.drop (i' + 1))) := hid (by rw [ho2.out]; rfl)
          have hR9 := (hR3.set_ 0 (.int .i64 n)).set_ 1 (.string (bs nm))
          have g0 := hR9.cell 0
          have g1 := hR9.cell 1
          simp at g0 g1
          refine bodyPost_ret (v := .tuple #[ty n nm, .int .i64 (i' + 1 : Nat)]) (by simp [results, Tryz.results135, go_sem, g0, g1, ty, bs_nil]) rfl ?_
          exact ⟨n, nm, _, rfl, (hU4.setCell (.inr (Nat.le_refl _)) _).setCell (.inr (Nat.le_refl _)) _, (.inr ⟨i' + 1, rfl, by have := Hat.out; omega, by have := Hs.out; omega, Hn0.out.symm, ho3.out⟩)⟩
        ·have hq2 := byte_ne l i' hlt2 59 hc2 59 rfl
         have hno2 : Hid (59 ∉ (l.drop (at' + 1)).take (j + 1)) := hid (by
          rw [List.take_succ_eq_append_getElem hjl, hgj]
          simp only [List.mem_append, List.mem_singleton, not_or]
          exact ⟨hno.out, fun h => hc2 h.symm⟩)
         clear hc2 hgj hno
         go_wp2
         go_round
         case rel => exact ⟨j + 1, by rw [← Nat.add_assoc, ← Hi'.out]; go_num, by have := Hi'.out; omega, hno2⟩
         case measure => simp [intOf]; omega
       ·have ho3 : Hid (oneL (l.drop k0) = none) := hid (by
         rw [ho.out, cutL_none 59 (l.drop (at' + 1)) (by
          have h := hno.out
          rwa [List.take_of_length_le (by have := Hi'.out; have := Hs.out; simp; omega)] at h)]
         rfl)
        clear ho hno
        go_wp2
        have hR9 := (hR.set_ 0 (.int .i64 n)).set_ 1 (.string ⟨#[]⟩)
        have g0 := hR9.cell 0
        have g1 := hR9.cell 1
        simp at g0 g1
        refine bodyPost_ret (v := .tuple #[ty n [], .int .i64 (-1)]) (by simp [results, Tryz.results135, go_sem, g0, g1, ty, bs_nil]) rfl ?_
        exact ⟨n, [], _, rfl, (hU.setCell (.inr (Nat.le_refl _)) _).setCell (.inr (Nat.le_refl _)) _, (.inl ⟨ho3.out, rfl⟩)⟩
     ·have h76 := byte_ne' l at' hlt 76 hL 76 rfl
      have ho : Hid (oneL (l.drop k0) = none) := hid (by
       rw [Hone.out, Hd.out]
       exact bareL_else (by rintro ⟨t, ht⟩; injection ht with h1 h2; exact hI h1) (by rintro ⟨t, ht⟩; injection ht with h1 h2; exact hL h1))
      clear hI hL
      go_wp2
      have hR9 := (hR.set_ 0 (.int .i64 n)).set_ 1 (.string ⟨#[]⟩)
      have g0 := hR9.cell 0
      have g1 := hR9.cell 1
      simp at g0 g1
      refine bodyPost_ret (v := .tuple #[ty n [], .int .i64 (-1)]) (by simp [results, Tryz.results135, go_sem, g0, g1, ty, bs_nil]) rfl ?_
      exact ⟨n, [], _, rfl, (hU.setCell (.inr (Nat.le_refl _)) _).setCell (.inr (Nat.le_refl _)) _, (.inl ⟨ho.out, rfl⟩)⟩
  ·obtain rfl : at' = (bs l).size := by omega
   have hd : l.drop (bs l).size = [] := by rw [Hs.out]; simp
   have hl0 : lead (l.drop (bs l).size) = 0 := by rw [hd]; rfl
   have ho : Hid (oneL (l.drop k0) = none) := hid (by
    unfold oneL
    rw [List.drop_drop, ← hlead.out, Hat.out, ← Hat.out, hl0, Nat.add_zero, ← Hat.out, hd]
    rfl)
   clear hd hl0 hlead
   go_wp2
   have hR9 := (hR.set_ 0 (.int .i64 n)).set_ 1 (.string ⟨#[]⟩)
   have g0 := hR9.cell 0
   have g1 := hR9.cell 1
   simp at g0 g1
   refine bodyPost_ret (v := .tuple #[ty n [], .int .i64 (-1)]) (by simp [results, Tryz.results135, go_sem, g0, g1, ty, bs_nil]) rfl ?_
   exact ⟨n, [], _, rfl, (hU.setCell (.inr (Nat.le_refl _)) _).setCell (.inr (Nat.le_refl _)) _, (.inl ⟨ho.out, rfl⟩)⟩
end Go.Proofs.YtjjdlgjofjfgmaaGreatDoor
/-
 The document's answer on types, walked: Parse, ParseRef.
-/
set_option linter.unusedSimpArgs false
set_option linter.unusedVariables false
namespace Go.Proofs.YtjjdlgjofjfgmaaGreatDoor
open Go.RowKit
set_option maxHeartbeats 2000000 in
theorem parseR_any (l : List UInt8) (w : World) (hl : l.length ≤ 9223372036854775807) : Calls Tryz.prog 108 #[.string (bs l)] w (parsePost (parseL l) w) := by
 have hs : (bs l).size = l.length := bs_size l
 by_cases hbig : 2000 < l.length
 ·rw [show parseL l = (0, [], 5) by unfold parseL; rw [if_pos hbig]]
  go_enter Tryz.func108, Tryz.ntmps108
  go_wp2
  exact bodyPost_ret (v := .tuple #[ty 0 [], .int .i64 5]) (by simp [results, Tryz.results108, go_sem, ty, bs]) rfl ⟨rfl, (Upd.refl _ _).alloc _⟩
 ·have Hr := fun w => hid (read_any l 0 w (by omega) (Nat.zero_le _))
  have p0 : oneL l = none → parseL l = (0, [], 4) := fun h => by unfold parseL; rw [if_neg hbig, h]
  have p1 : ∀ nm c t, oneL l = some (nm, c :: t) → parseL l = (0, [], 4) := fun nm c t h => by unfold parseL; rw [if_neg hbig, h]
  have p2 : ∀ nm, oneL l = some (nm, []) → parseL l = if 255 < lead l then (0, [], 5) else (lead l, nm, 0) := fun nm h => by unfold parseL; rw [if_neg hbig, h]
  have P0 := hid p0
  have P1 := hid p1
  have P2 := hid p2
  have hU0 : Upd w (w.alloc (.cells #[.int .i64 0, .string ⟨#[]⟩] 111)) [] := (Upd.refl _ _).alloc _
  have hs2 : (bs l).size ≤ 2000 := by omega
  have Hs := hid hs
  clear p0 p1 p2 hs
  go_enter Tryz.func108, Tryz.ntmps108
  go_wp2_with fail
  refine (Hr _).out.mono ?_
  rintro e w1 ⟨d, nm, m, rfl, hU1, hres⟩
  rw [List.drop_zero] at hres
  have hU2 := (hU0.trans hU1).alloc (.cells #[.int .i64 d, .string (bs nm)] 111)
  have hR2 := (hU1.blk (Blk.new w 111 #[.int .i64 0, .string ⟨#[]⟩]) (by simp)).alloc (.cells #[.int .i64 d, .string (bs nm)] 111)
  have r0 := hR2.cell 0
  have r1 := hR2.cell 1
  have rf0 := hR2.frozen 0
  have rf1 := hR2.frozen 1
  simp at r0 r1
  unfold ty
  have fin : ∀ (x : Nat) (y : List UInt8), Hid (Blk (((w1.alloc (.cells #[.int .i64 d, .string (bs nm)] 111)).setCell ⟨w.heap.size, 0, none⟩ (.int .i64 x)).setCell ⟨w.heap.size, 1, none⟩ (.string (bs y))) w.heap.size 111 #[.int .i64 x, .string (bs y)]) := fun x y => (hR2.set_ 0 (.int .i64 x)).set_ 1 (.string (bs y))
  rcases hres with ⟨ho, rfl⟩ | ⟨j, rfl, hj0, hj1, hd, ho⟩
  ·have hne : (-1 : Int) ≠ ((bs l).size : Int) := by omega
   have PE := hid (P0.out ho)
   clear ho
   go_wp2
   have g0 := (fin 0 []).out.cell 0
   have g1 := (fin 0 []).out.cell 1
   simp [bs] at g0 g1
   refine bodyPost_ret (v := .tuple #[ty 0 [], .int .i64 4]) (by simp [results, Tryz.results108, go_sem, ty, bs, g0, g1]) rfl ?_
   rw [PE.out]
   exact ⟨rfl, (hU2.setCell (.inr (Nat.le_refl _)) _).setCell (.inr (Nat.le_refl _)) _⟩
  ·subst hd
   by_cases hje : j = l.length
   ·have ho2 : oneL l = some (nm, []) := by rw [ho, hje]; simp
    have he : ((j : Int) != ((bs l).size : Int)) = false := by rw [Hs.out, hje]; simp
    by_cases hw : 255 < lead l
    ·have PE := hid (P2.out _ ho2)
     clear ho ho2 hje
     rw [if_pos hw] at PE
     go_wp2
     have g0 := (fin 0 []).out.cell 0
     have g1 := (fin 0 []).out.cell 1
     simp [bs] at g0 g1
     refine bodyPost_ret (v := .tuple #[ty 0 [], .int .i64 5]) (by simp [results, Tryz.results108, go_sem, ty, bs, g0, g1]) rfl ?_
     rw [PE.out]
     exact ⟨rfl, (hU2.setCell (.inr (Nat.le_refl _)) _).setCell (.inr (Nat.le_refl _)) _⟩
    ·have PE := hid (P2.out _ ho2)
     clear ho ho2 hje
     rw [if_neg hw] at PE
     go_wp2
     have g0 := (fin (lead l) nm).out.cell 0
     have g1 := (fin (lead l) nm).out.cell 1
     simp at g0 g1
     refine bodyPost_ret (v := .tuple #[ty (lead l) nm, .int .i64 0]) (by simp [results, Tryz.results108, go_sem, ty, g0, g1]) rfl ?_
     rw [PE.out]
     exact ⟨rfl, (hU2.setCell (.inr (Nat.le_refl _)) _).setCell (.inr (Nat.le_refl _)) _⟩
   ·have hx : j < l.length := by omega
    have PE := hid (P1.out nm _ _ (by rw [ho, List.drop_eq_getElem_cons hx]))
    have he : (j != (bs l).size) = true := by rw [Hs.out, bne_iff_ne]; omega
    have he2 : ¬ j = (bs l).size := by rw [Hs.out]; omega
    clear hje
    clear ho
    go_wp2
    have g0 := (fin 0 []).out.cell 0
    have g1 := (fin 0 []).out.cell 1
    simp [bs] at g0 g1
    refine bodyPost_ret (v := .tuple #[ty 0 [], .int .i64 4]) (by simp [results, Tryz.results108, go_sem, ty, bs, g0, g1]) rfl ?_
    rw [PE.out]
    exact ⟨rfl, (hU2.setCell (.inr (Nat.le_refl _)) _).setCell (.inr (Nat.le_refl _)) _⟩
set_option maxHeartbeats 2000000 in
set_option maxRecDepth 100000 in
theorem parseRefR_any (l : List UInt8) (w : World) (hl : l.length ≤ 9223372036854775807) : Calls Tryz.prog 107 #[.string (bs l)] w (parsePost (parseRefL l) w) := by
 have hs : (bs l).size = l.length := bs_size l
 by_cases hbig : 2000 < l.length
 ·have PE : parseRefL l = (0, [], 5) := by
   unfold parseRefL parseL
   rw [if_pos hbig]
   split <;> rfl
  rw [PE]
  go_enter Tryz.func107, Tryz.ntmps107
  go_wp2
  exact bodyPost_ret (v := .tuple #[ty 0 [], .int .i64 5]) (by simp [results, Tryz.results107, go_sem, ty, bs]) rfl ⟨rfl, (Upd.refl _ _).alloc _⟩
 ·have hs2 : (bs l).size ≤ 2000 := by omega
  have hU0 : Upd w (w.alloc (.cells #[.int .i64 0, .string ⟨#[]⟩] 111)) [] := (Upd.refl _ _).alloc _
  have hR0 := Blk.new w 111 #[.int .i64 0, .string ⟨#[]⟩]
  by_cases h91 : ∃ t, l = 91 :: t
  ·obtain ⟨t, rfl⟩ := h91
   have PE : parseRefL (91 :: t) = parseL (91 :: t) := rfl
   have h0 : 0 < (bs (91 :: t)).size := by rw [hs]; simp
   have hq := byte_eq (91 :: t) 0 h0 91 rfl
   rw [show (91 : UInt8).toNat = 91 from rfl] at hq
   have Hp := fun w => hid (parseR_any (91 :: t) w hl)
   rw [PE]
   clear PE hs
   generalize parseL (91 :: t) = p at Hp
   obtain ⟨pn, pl, pe⟩ := p
   go_enter Tryz.func107, Tryz.ntmps107
   go_wp2_with fail
   refine (Hp _).out.mono ?_
   rintro e w1 ⟨rfl, hU1⟩
   have hU2 := hU0.trans hU1
   have hR2 := hU1.blk hR0 (by simp)
   have r0 := hR2.cell 0
   have r1 := hR2.cell 1
   have rf0 := hR2.frozen 0
   have rf1 := hR2.frozen 1
   simp at r0 r1
   have hR9 := (hR2.set_ 0 (.int .i64 pn)).set_ 1 (.string (bs pl))
   have g0 := hR9.cell 0
   have g1 := hR9.cell 1
   simp at g0 g1
   unfold ty
   go_wp2
   refine bodyPost_ret (v := .tuple #[ty pn pl, .int .i64 pe]) (by simp [results, Tryz.results107, go_sem, ty, g0, g1]) rfl ?_
   exact ⟨rfl, (hU2.setCell (.inr (Nat.le_refl _)) _).setCell (.inr (Nat.le_refl _)) _⟩
  ·have hh : (l.head? == some 91) = false := by
    cases l with
    | nil => rfl
    | cons c t =>
     simp
     exact fun e => h91 ⟨t, by rw [e]⟩
   have PE : parseRefL l = if validB l then (0, l, 0) else (0, [], 4) := by
    unfold parseRefL
    rw [hh, if_neg hbig]
    rfl
   rw [PE]
   have Hv := fun w => hid (validR_any l w hl)
   have hbyte : ∀ h : 0 < (bs l).size, ((((bs l)[0]'h).toNat : Int) == 91) = false := by
    intro h
    refine byte_ne l 0 h 91 ?_ 91 rfl
    intro h2
    cases l with
    | nil => rw [bs_size] at h; simp at h
    | cons c t => exact h91 ⟨t, by simpa using h2⟩
   clear PE h91 hh hs
   obtain ⟨vb, hvb⟩ : ∃ vb, validB l = vb := ⟨_, rfl⟩
   rw [hvb] at Hv ⊢
   clear hvb
   have hR9 := fun (w1 : World) (hR2 : Blk w1 w.heap.size 111 #[.int .i64 0, .string ⟨#[]⟩]) (x : ByteArray) => (hR2.set_ 0 (.int .i64 0)).set_ 1 (.string x)
   by_cases h0 : 0 < (bs l).size
   ·have hq := hbyte h0
    clear hbyte
    cases vb
    all_goals
     go_enter Tryz.func107, Tryz.ntmps107
     go_wp2_with fail
     refine (Hv _).out.mono ?_
     rintro e w1 ⟨rfl, hU1⟩
     have hU2 := hU0.trans hU1
     have hR2 := hU1.blk hR0 (by simp)
     have r0 := hR2.cell 0
     have r1 := hR2.cell 1
     have rf0 := hR2.frozen 0
     have rf1 := hR2.frozen 1
     simp at r0 r1
     go_wp2
    ·have g0 := (hR9 _ hR2 ⟨#[]⟩).cell 0
     have g1 := (hR9 _ hR2 ⟨#[]⟩).cell 1
     simp at g0 g1
     refine bodyPost_ret (v := .tuple #[ty 0 [], .int .i64 4]) (by simp [results, Tryz.results107, go_sem, ty, bs_nil, g0, g1]) rfl ?_
     exact ⟨rfl, (hU2.setCell (.inr (Nat.le_refl _)) _).setCell (.inr (Nat.le_refl _)) _⟩
    ·have g0 := (hR9 _ hR2 (bs l)).cell 0
     have g1 := (hR9 _ hR2 (bs l)).cell 1
     simp at g0 g1
     refine bodyPost_ret (v := .tuple #[ty 0 l, .int .i64 0]) (by simp [results, Tryz.results107, go_sem, ty, g0, g1]) rfl ?_
     exact ⟨rfl, (hU2.setCell (.inr (Nat.le_refl _)) _).setCell (.inr (Nat.le_refl _)) _⟩
   ·clear hbyte
    cases vb
    all_goals
     go_enter Tryz.func107, Tryz.ntmps107
     go_wp2_with fail
     refine (Hv _).out.mono ?_
     rintro e w1 ⟨rfl, hU1⟩
     have hU2 := hU0.trans hU1
     have hR2 := hU1.blk hR0 (by simp)
     have r0 := hR2.cell 0
     have r1 := hR2.cell 1
     have rf0 := hR2.frozen 0
     have rf1 := hR2.frozen 1
     simp at r0 r1
     go_wp2
    ·have g0 := (hR9 _ hR2 ⟨#[]⟩).cell 0
     have g1 := (hR9 _ hR2 ⟨#[]⟩).cell 1
     simp at g0 g1
     refine bodyPost_ret (v := .tuple #[ty 0 [], .int .i64 4]) (by simp [results, Tryz.results107, go_sem, ty, bs_nil, g0, g1]) rfl ?_
     exact ⟨rfl, (hU2.setCell (.inr (Nat.le_refl _)) _).setCell (.inr (Nat.le_refl _)) _⟩
    ·have g0 := (hR9 _ hR2 (bs l)).cell 0
     have g1 := (hR9 _ hR2 (bs l)).cell 1
     simp at g0 g1
     refine bodyPost_ret (v := .tuple #[ty 0 l, .int .i64 0]) (by simp [results, Tryz.results107, go_sem, ty, g0, g1]) rfl ?_
     exact ⟨rfl, (hU2.setCell (.inr (Nat.le_refl _)) _).setCell (.inr (Nat.le_refl _)) _⟩
end Go.Proofs.YtjjdlgjofjfgmaaGreatDoor
/-
 The document's answer on types, walked: ParseDesc.
-/
set_option linter.unusedSimpArgs false
set_option linter.unusedVariables false
namespace Go.Proofs.YtjjdlgjofjfgmaaGreatDoor
open Go.RowKit
theorem takes_drop {c : UInt8} {l : List UInt8} {k : Nat} (h : k < l.length) : takes c (l.drop k) = decide (l[k] = c) := by
 unfold takes
 rw [List.drop_eq_getElem_cons h, Bool.eq_iff_iff]
 simp [List.getElem?_eq_getElem h]
theorem takes_end {c : UInt8} {l : List UInt8} {k : Nat} (h : l.length ≤ k) : takes c (l.drop k) = false := by
 unfold takes
 rw [List.drop_of_length_le h]
 rfl
theorem descL_behind {l : List UInt8} {n : Nat} {b : Bool} {l' r : List UInt8} (hbig : ¬ 2000 < l.length) (h : descRel l true n b l') (h41 : takes 41 l' = true) (hr : l'.tail = r) :
  descL l = (if takes 86 r then (if r.tail = [] then (if b || decide (20 < n) then ((0, 5) : Nat × Int) else (n, 0)) else (0, 4))
   else match oneL r with
    | some (_, []) => if wideOr b (lead r) || decide (20 < n) then (0, 5) else (n, 0)
    | _ => (0, 4)) := by
 obtain ⟨h40, k, h1, h2, h3⟩ := h
 obtain ⟨k, rfl⟩ : ∃ m, k = m + 1 := ⟨k - 1, by omega⟩
 have h4 : argsL (k + 1) l' = some (0, false, r) := by unfold argsL; rw [h41, hr]; rfl
 rw [h4] at h3
 unfold descL
 rw [if_neg hbig, h40, if_pos rfl, h3]
 simp only [Option.map_some, Nat.zero_add, Bool.false_or]
 try rfl
theorem descL_none {l : List UInt8} {n : Nat} {b : Bool} {l' : List UInt8} (hbig : ¬ 2000 < l.length) (h : descRel l true n b l') (h41 : takes 41 l' = false) (ho : oneL l' = none) : descL l = (0, 4) := by
 obtain ⟨h40, k, h1, h2, h3⟩ := h
 obtain ⟨k, rfl⟩ : ∃ m, k = m + 1 := ⟨k - 1, by omega⟩
 have h4 : argsL (k + 1) l' = none := by unfold argsL; rw [h41, if_neg (by simp), ho]
 rw [h4] at h3
 unfold descL
 rw [if_neg hbig, h40, if_pos rfl, h3]
 rfl
theorem descRel_next {l : List UInt8} {n : Nat} {b : Bool} {l' nm l5 : List UInt8} (h : descRel l true n b l') (h41 : takes 41 l' = false) (ho : oneL l' = some (nm, l5)) : descRel l true (n + 1) (wideOr b (lead l')) l5 := by
 obtain ⟨h40, k, h1, h2, h3⟩ := h
 obtain ⟨k, rfl⟩ : ∃ m, k = m + 1 := ⟨k - 1, by omega⟩
 have h4 : argsL (k + 1) l' = (argsL k l5).map fun q => (q.1 + 1, wideOr q.2.1 (lead l'), q.2.2) := by
  rw [argsL, h41, if_neg (by simp), ho]
 have h5 := oneL_lt ho
 simp at h5
 refine ⟨h40, k, by omega, by omega, ?_⟩
 rw [h3, h4, Option.map_map]
 congr 1
 funext q
 simp only [Function.comp]
 have : (wideOr q.2.1 (lead l') || b) = (q.2.1 || wideOr b (lead l')) := by unfold wideOr; cases q.2.1 <;> cases b <;> simp
 rw [this, Nat.add_assoc, Nat.add_comm 1 n]
def endRel (l : List UInt8) (n : Nat) (b : Bool) (m : Int) : Prop := descL l = if m = l.length then (if b || decide (20 < n) then ((0, 5) : Nat × Int) else (n, 0)) else (0, 4)
def descInvR (l : List UInt8) (w : World) (s5 s6 : Value) (wr : World) : Prop :=
 ∃ (b : Bool) (k n : Nat) (v : Value) (xs : List Value), s5 = .bool b ∧ s6 = .int .i64 (k : Int) ∧ k ≤ (bs l).size ∧ Hid (descRel l true n b (l.drop k)) ∧ n ≤ 2000 ∧ Blk wr w.heap.size 113 #[.slice none 0 0, .bool false, .int .i64 0, .string ⟨#[]⟩] ∧
  Blk wr (w.heap.size + 1) 113 #[v, .bool false, .int .i64 0, .string ⟨#[]⟩] ∧ wr.ownsRow 0 111 2 v n xs ∧ (∀ q, q ∈ Value.ob v → w.heap.size + 1 < q) ∧ Upd w wr []
set_option maxHeartbeats 8000000 in
set_option maxRecDepth 100000 in
theorem parseDescVR_any (l : List UInt8) (w : World) (hl : l.length ≤ 9223372036854775807) : Calls Tryz.prog 87 #[.string (bs l)] w (descPostV l (descL l) w) := by
 have hs : (bs l).size = l.length := bs_size l
 by_cases hbig : 2000 < l.length
 ·rw [show descL l = (0, 5) by unfold descL; rw [if_pos hbig]]
  go_enter Tryz.func87, Tryz.ntmps87
  go_wp2
  exact bodyPost_ret (v := .tuple #[.agg #[.slice none 0 0, .bool false, .int .i64 0, .string ⟨#[]⟩], .int .i64 5]) (by simp [results, Tryz.results87, go_sem]) rfl ⟨⟨none, 0, false, 0, [], rfl, fun h => by simp at h⟩, (Upd.refl _ _).alloc _⟩
 ·have hs2 : (bs l).size ≤ 2000 := by omega
  have Hs := hid hs
  clear hs
  cases h40 : takes 40 l with
  | false =>
   have DE : descL l = (0, 4) := by unfold descL; rw [if_neg hbig, h40]; rfl
   rw [DE]
   clear DE
   by_cases h0 : 0 < (bs l).size
   ·have hq := byte_ne' l 0 h0 40 (by
     have h := takes_drop (c := 40) (l := l) (k := 0) (by have := Hs.out; omega)
     rw [List.drop_zero, h40] at h
     simpa using h.symm) 40 rfl
    have hz : ((bs l).size == 0) = false := by rw [beq_eq_false_iff_ne]; omega
    have hz2 : ¬ (bs l).size = 0 := by omega
    clear h40
    go_enter Tryz.func87, Tryz.ntmps87
    go_wp2
    exact bodyPost_ret (v := .tuple #[.agg #[.slice none 0 0, .bool false, .int .i64 0, .string ⟨#[]⟩], .int .i64 4]) (by simp [results, Tryz.results87, go_sem]) rfl ⟨⟨none, 0, false, 0, [], rfl, fun h => by simp at h⟩, ((Upd.refl _ _).alloc _).alloc _⟩
   ·have hz : (bs l).size = 0 := by omega
    clear h40 h0
    go_enter Tryz.func87, Tryz.ntmps87
    go_wp2
    exact bodyPost_ret (v := .tuple #[.agg #[.slice none 0 0, .bool false, .int .i64 0, .string ⟨#[]⟩], .int .i64 4]) (by simp [results, Tryz.results87, go_sem]) rfl ⟨⟨none, 0, false, 0, [], rfl, fun h => by simp at h⟩, ((Upd.refl _ _).alloc _).alloc _⟩
  | true =>
   have hne : l ≠ [] := by rintro rfl; simp [takes] at h40
   have h0 : 0 < (bs l).size := by rw [Hs.out]; exact List.length_pos_iff.2 hne
   have hq := byte_eq l 0 h0 40 (by
    have h := takes_drop (c := 40) (l := l) (k := 0) (by have := Hs.out; omega)
    rw [List.drop_zero, h40] at h
    simpa using h.symm)
   rw [show (40 : UInt8).toNat = 40 from rfl] at hq
   have hrel0 : Hid (descRel l true 0 false (l.drop 1)) := hid ⟨h40, l.length, by have := Hs.out; simp; omega, by have := Hs.out; simp; omega, by rw [List.drop_one]; cases argsL l.length l.tail <;> simp⟩
   have hz : ((bs l).size == 0) = false := by rw [beq_eq_false_iff_ne]; omega
   have hz2 : ¬ (bs l).size = 0 := by omega
   have Hbig := hid hbig
   clear h40 hne hbig
   obtain ⟨i0, hi0, qz0, qz1, qz2⟩ := info_parts infoType
   have hU0 : Upd w ((w.alloc (.cells #[.slice none 0 0, .bool false, .int .i64 0, .string ⟨#[]⟩] 113)).alloc (.cells #[.slice none 0 0, .bool false, .int .i64 0, .string ⟨#[]⟩] 113)) [] := ((Upd.refl w []).alloc _).alloc _
   have hR0 : Blk ((w.alloc (.cells #[.slice none 0 0, .bool false, .int .i64 0, .string ⟨#[]⟩] 113)).alloc (.cells #[.slice none 0 0, .bool false, .int .i64 0, .string ⟨#[]⟩] 113)) w.heap.size 113 #[.slice none 0 0, .bool false, .int .i64 0, .string ⟨#[]⟩] := (Blk.new _ _ _).alloc _
   have hD0 : Blk ((w.alloc (.cells #[.slice none 0 0, .bool false, .int .i64 0, .string ⟨#[]⟩] 113)).alloc (.cells #[.slice none 0 0, .bool false, .int .i64 0, .string ⟨#[]⟩] 113)) (w.heap.size + 1) 113 #[.slice none 0 0, .bool false, .int .i64 0, .string ⟨#[]⟩] := Blk.new_at (by simp)
   have HU0 := hid hU0
   have HR0 := hid hR0
   have HD0 := hid hD0
   clear hU0 hR0 hD0
   have Hread := fun k w h => hid (read_any l k w (by have := Hs.out; omega) h)
   go_enter Tryz.func87, Tryz.ntmps87
   go_wp2
   go_loopw [5, 6] (fun s5 s6 wr => descInvR l w s5 s6 wr)
    (fun _ s6 _ => (bs l).size - (intOf s6).toNat)
   case atStart => exact ⟨false, 1, 0, .slice none 0 0, [], rfl, rfl, by omega, hrel0, by omega, HR0.out, HD0.out, ⟨rfl, .inl ⟨rfl, rfl⟩⟩, by intro q hq; simp [Value.ob, Value.ownBlock] at hq, HU0.out⟩
   case round =>
    obtain ⟨b, k, n, v, xs, rfl, rfl, hk, hr, hn, hR, hD, hown, hv, hU⟩ := hrel
    clear HU0 HR0 HD0 hrel0 hq hz hz2
    obtain ⟨A, cap, rfl, hcap⟩ := own_slice hown
    have r0 := hR.cell 0
    have r1 := hR.cell 1
    have r2 := hR.cell 2
    have r3 := hR.cell 3
    have rf0 := hR.frozen 0
    have rf1 := hR.frozen 1
    have rf2 := hR.frozen 2
    have rf3 := hR.frozen 3
    simp at r0 r1 r2 r3
    by_cases hlt : k < (bs l).size
    ·have hll : k < l.length := by have := Hs.out; omega
     have htd := takes_drop (c := 41) hll
     by_cases h41 : l[k] = 41
     ·have hq := byte_eq l k hlt 41 h41
      rw [show (41 : UInt8).toNat = 41 from rfl] at hq
      have ht41 : takes 41 (l.drop k) = true := by rw [htd, h41]; rfl
      have hb := descL_behind Hbig.out hr.out ht41 (r := l.drop (k + 1)) (by simp)
      have Hb := hid hb
      have hvoid : voidL l = takes 86 (l.drop (k + 1)) := by
       obtain ⟨h40, kk, h1, h2, h3⟩ := hr.out
       obtain ⟨kk, rfl⟩ : ∃ m, kk = m + 1 := ⟨kk - 1, by omega⟩
       have h4 : argsL (kk + 1) (l.drop k) = some (0, false, l.drop (k + 1)) := by unfold argsL; rw [ht41]; simp
       rw [h4] at h3
       unfold voidL
       rw [h3]
       rfl
      have Hvoid := hid hvoid
      clear hb htd h41 ht41 hr hvoid
      have e0 := hD.cell 0
      have e1 := hD.cell 1
      have e2 := hD.cell 2
      have e3 := hD.cell 3
      have ef1 := hD.frozen 1
      have ef2 := hD.frozen 2
      have ef3 := hD.frozen 3
      simp at e0 e1 e2 e3
      cases h86 : takes 86 (l.drop (k + 1)) with
      | true =>
       have hl1 : k + 1 < l.length := by
        rcases Nat.lt_or_ge (k + 1) l.length with h | h
        ·exact h
        ·rw [takes_end h] at h86; cases h86
       have hl2 : k + 1 < (bs l).size := by rw [Hs.out]; exact hl1
       have hV : l[k + 1] = 86 := by
        have h := takes_drop (c := 86) hl1
        rw [h86] at h
        exact of_decide_eq_true h.symm
       have hq2 := byte_eq l (k + 1) hl2 86 hV
       rw [show (86 : UInt8).toNat = 86 from rfl] at hq2
       have hE : Hid (endRel l n b ((k : Int) + 1 + 1)) := hid (by
        unfold endRel
        rw [Hb.out, h86, if_pos rfl]
        by_cases hj : k + 1 + 1 = l.length
        ·rw [if_pos (by rw [List.tail_drop]; exact List.drop_of_length_le (by omega)), if_pos (show ((k : Int) + 1 + 1 = (l.length : Int)) by omega)]
        ·rw [if_neg (by rw [List.tail_drop]; intro h0; have := congrArg List.length h0; simp at this; omega), if_neg (show ¬ ((k : Int) + 1 + 1 = (l.length : Int)) by omega)])
       have HV : Hid (true = voidL l) := hid (by rw [Hvoid.out, h86])
       clear h86 hV
       go_upto_if 73 with fail
       go_cut [5, 6] (fun s5 s6 wx => ∃ (b2 vd : Bool) (m : Int) (dd : Nat) (nm : List UInt8), s5 = .bool b2 ∧ s6 = .int .i64 m ∧ Hid (endRel l n b2 m) ∧ Blk wx w.heap.size 113 #[.slice none 0 0, .bool false, .int .i64 0, .string ⟨#[]⟩] ∧
        Blk wx (w.heap.size + 1) 113 #[.slice A n cap, .bool vd, .int .i64 dd, .string (bs nm)] ∧ Upd w wx [] ∧ Hid (vd = voidL l))
       case first =>
        go_wp2
        go_meet
        exact ⟨b, true, _, 0, [], rfl, rfl, hE, hR.far (by simp) _, hD.set_ 1 _, hU.setCell (.inr (by simp)) _, HV⟩
       case rest =>
        obtain ⟨b2, vd, m, dd, nm, rfl, rfl, he, hR2, hD2, hU2, hvd⟩ := hcut
        clear r0 r1 r2 r3 rf0 rf1 rf2 rf3 e0 e1 e2 e3 ef1 ef2 ef3 hR hD Hb hown hv hU
        have r0 := hR2.cell 0
        have r1 := hR2.cell 1
        have r2 := hR2.cell 2
        have r3 := hR2.cell 3
        have rf0 := hR2.frozen 0
        have rf1 := hR2.frozen 1
        have rf2 := hR2.frozen 2
        have rf3 := hR2.frozen 3
        have e0 := hD2.cell 0
        have e1 := hD2.cell 1
        have e2 := hD2.cell 2
        have e3 := hD2.cell 3
        simp at r0 r1 r2 r3 e0 e1 e2 e3
        by_cases hm : m = ((bs l).size : Int)
        ·have hm2 : (m != ((bs l).size : Int)) = false := by simp [hm]
         have hend : descL l = (if b2 || decide (20 < n) then ((0, 5) : Nat × Int) else (n, 0)) := by
          have h := he.out
          unfold endRel at h
          rw [if_pos (by rw [hm, Hs.out])] at h
          exact h
         cases hbn : (b2 || decide (20 < n)) with
         | true =>
          have DE := hid (hend.trans (by rw [hbn]; first | done | rfl))
          clear hend he hm
          cases b2
          all_goals
           simp at hbn
           go_wp2
           have hR9 := (((hR2.set_ 0 (.slice none 0 0)).set_ 1 (.bool false)).set_ 2 (.int .i64 0)).set_ 3 (.string ⟨#[]⟩)
           have g0 := hR9.cell 0
           have g1 := hR9.cell 1
           have g2 := hR9.cell 2
           have g3 := hR9.cell 3
           simp at g0 g1 g2 g3
           refine bodyPost_ret (v := .tuple #[.agg #[.slice none 0 0, .bool false, .int .i64 0, .string ⟨#[]⟩], .int .i64 5]) (by simp [results, Tryz.results87, go_sem, g0, g1, g2, g3]) rfl ?_
           rw [DE.out]
           exact ⟨⟨none, 0, false, 0, [], rfl, fun h => by simp at h⟩, (((hU2.setCell (.inr (by simp)) _).setCell (.inr (by simp)) _).setCell (.inr (by simp)) _).setCell (.inr (by simp)) _⟩
         | false =>
          have DE := hid (hend.trans (by rw [hbn]; first | done | rfl))
          simp at hbn
          obtain ⟨rfl, hn20⟩ := hbn
          clear hend he hm
          go_wp2
          have hR9 := (((hR2.set_ 0 (.slice A n cap)).set_ 1 (.bool vd)).set_ 2 (.int .i64 dd)).set_ 3 (.string (bs nm))
          have g0 := hR9.cell 0
          have g1 := hR9.cell 1
          have g2 := hR9.cell 2
          have g3 := hR9.cell 3
          simp at g0 g1 g2 g3
          refine bodyPost_ret (v := .tuple #[.agg #[.slice A n cap, .bool vd, .int .i64 dd, .string (bs nm)], .int .i64 0]) (by simp [results, Tryz.results87, go_sem, g0, g1, g2, g3]) rfl ?_
          rw [DE.out]
          exact ⟨⟨A, cap, vd, dd, nm, rfl, fun _ => hvd.out⟩, (((hU2.setCell (.inr (by simp)) _).setCell (.inr (by simp)) _).setCell (.inr (by simp)) _).setCell (.inr (by simp)) _⟩
        ·have hm2 : (m != ((bs l).size : Int)) = true := by simpa using hm
         have DE : Hid (descL l = (0, 4)) := hid (by
          have h := he.out
          unfold endRel at h
          rwa [if_neg (by rw [← Hs.out]; exact hm)] at h)
         clear he
         go_wp2
         have hR9 := (((hR2.set_ 0 (.slice none 0 0)).set_ 1 (.bool false)).set_ 2 (.int .i64 0)).set_ 3 (.string ⟨#[]⟩)
         have g0 := hR9.cell 0
         have g1 := hR9.cell 1
         have g2 := hR9.cell 2
         have g3 := hR9.cell 3
         simp at g0 g1 g2 g3
         refine bodyPost_ret (v := .tuple #[.agg #[.slice none 0 0, .bool false, .int .i64 0, .string ⟨#[]⟩], .int .i64 4]) (by simp [results, Tryz.results87, go_sem, g0, g1, g2, g3]) rfl ?_
         rw [DE.out]
         exact ⟨⟨none, 0, false, 0, [], rfl, fun h => by simp at h⟩, (((hU2.setCell (.inr (by simp)) _).setCell (.inr (by simp)) _).setCell (.inr (by simp)) _).setCell (.inr (by simp)) _⟩
      | false =>
       have hE : Hid (∀ (d2 : Nat) (nm2 : List UInt8) (m2 : Int), ((oneL (l.drop (k + 1)) = none ∧ m2 = -1) ∨ (∃ j : Nat, m2 = j ∧ k + 1 < j ∧ j ≤ l.length ∧ d2 = lead (l.drop (k + 1)) ∧ oneL (l.drop (k + 1)) = some (nm2, l.drop j))) → endRel l n (b || decide (255 < (d2 : Int))) m2) := hid (by
        intro d2 nm2 m2 h
        unfold endRel
        rw [Hb.out, h86, if_neg (by simp)]
        rcases h with ⟨ho, rfl⟩ | ⟨j, rfl, hj0, hj1, rfl, ho⟩
        ·rw [ho, if_neg (show ¬ ((-1 : Int) = (l.length : Int)) by omega)]
        ·rw [ho]
         by_cases hj : j = l.length
         ·rw [hj]
          have e : (b || decide (255 < ((lead (l.drop (k + 1)) : Nat) : Int))) = wideOr b (lead (l.drop (k + 1))) := by
           unfold wideOr
           congr 1
           rw [decide_eq_decide]
           omega
          rw [if_pos rfl, e]
          simp
         ·rw [if_neg (show ¬ ((j : Int) = (l.length : Int)) by omega), List.drop_eq_getElem_cons (by omega)])
       by_cases hl2 : k + 1 < (bs l).size
       ·have hl1 : k + 1 < l.length := by have := Hs.out; omega
        have hq2 := byte_ne l (k + 1) hl2 86 (by
         have h := takes_drop (c := 86) hl1
         rw [h86] at h
         simpa using h.symm) 86 rfl
        have HV : Hid (false = voidL l) := hid (by rw [Hvoid.out, h86])
        clear h86
        go_upto_if 73 with fail
        go_cut [5, 6] (fun s5 s6 wx => ∃ (b2 vd : Bool) (m : Int) (dd : Nat) (nm : List UInt8), s5 = .bool b2 ∧ s6 = .int .i64 m ∧ Hid (endRel l n b2 m) ∧ Blk wx w.heap.size 113 #[.slice none 0 0, .bool false, .int .i64 0, .string ⟨#[]⟩] ∧
         Blk wx (w.heap.size + 1) 113 #[.slice A n cap, .bool vd, .int .i64 dd, .string (bs nm)] ∧ Upd w wx [] ∧ Hid (vd = voidL l))
        case first =>
         go_wp2_with fail
         refine (Hread (k + 1) _ (by have := Hs.out; omega)).out.mono ?_
         rintro e w2 ⟨d2, nm2, m2, rfl, hU2, hres⟩
         have hE2 := hid (hE.out _ _ _ hres)
         have hR2 := (hU2.blk hR (by simp)).alloc (.cells #[.int .i64 d2, .string (bs nm2)] 111)
         have hD2 := (hU2.blk hD (by simp)).alloc (.cells #[.int .i64 d2, .string (bs nm2)] 111)
         have hT2 : Blk (w2.alloc (.cells #[.int .i64 d2, .string (bs nm2)] 111)) w2.heap.size 111 #[.int .i64 d2, .string (bs nm2)] := Blk.new _ _ _
         have hV2 := (hU.trans hU2).alloc (.cells #[.int .i64 d2, .string (bs nm2)] 111)
         have hlt2 : Hid (w.heap.size + 1 < w2.heap.size) := hid (by have := hU2.size; have := hD.lt; omega)
         have e2 := hD2.cell 2
         have e3 := hD2.cell 3
         have ef2 := hD2.frozen 2
         have ef3 := hD2.frozen 3
         have x0 := hT2.cell 0
         have x1 := hT2.cell 1
         simp at e2 e3 x0 x1
         clear hres
         cases b
         all_goals
          unfold ty
          go_wp2
          go_meet
          refine ⟨_, false, m2, d2, nm2, rfl, rfl, ?_, (hR2.far (by simp) _).far (by simp) _, (hD2.set_ 2 (.int .i64 d2)).set_ 3 (.string (bs nm2)), (hV2.setCell (.inr (by simp)) _).setCell (.inr (by simp)) _, HV⟩
          first | exact hE2 | (have h := hE2.out; simp only [wideOr, Bool.false_or, Bool.true_or] at h ⊢; exact hid h)
        case rest =>
         obtain ⟨b2, vd, m, dd, nm, rfl, rfl, he, hR2, hD2, hU2, hvd⟩ := hcut
         clear r0 r1 r2 r3 rf0 rf1 rf2 rf3 e0 e1 e2 e3 ef1 ef2 ef3 hR hD Hb hown hv hU
         have r0 := hR2.cell 0
         have r1 := hR2.cell 1
         have r2 := hR2.cell 2
         have r3 := hR2.cell 3
         have rf0 := hR2.frozen 0
         have rf1 := hR2.frozen 1
         have rf2 := hR2.frozen 2
         have rf3 := hR2.frozen 3
         have e0 := hD2.cell 0
         have e1 := hD2.cell 1
         have e2 := hD2.cell 2
         have e3 := hD2.cell 3
         simp at r0 r1 r2 r3 e0 e1 e2 e3
         by_cases hm : m = ((bs l).size : Int)
         ·have hm2 : (m != ((bs l).size : Int)) = false := by simp [hm]
          have hend : descL l = (if b2 || decide (20 < n) then ((0, 5) : Nat × Int) else (n, 0)) := by
           have h := he.out
           unfold endRel at h
           rw [if_pos (by rw [hm, Hs.out])] at h
           exact h
          cases hbn : (b2 || decide (20 < n)) with
          | true =>
           have DE := hid (hend.trans (by rw [hbn]; first | done | rfl))
           clear hend he hm
           cases b2
           all_goals
            simp at hbn
            go_wp2
            have hR9 := (((hR2.set_ 0 (.slice none 0 0)).set_ 1 (.bool false)).set_ 2 (.int .i64 0)).set_ 3 (.string ⟨#[]⟩)
            have g0 := hR9.cell 0
            have g1 := hR9.cell 1
            have g2 := hR9.cell 2
            have g3 := hR9.cell 3
            simp at g0 g1 g2 g3
            refine bodyPost_ret (v := .tuple #[.agg #[.slice none 0 0, .bool false, .int .i64 0, .string ⟨#[]⟩], .int .i64 5]) (by simp [results, Tryz.results87, go_sem, g0, g1, g2, g3]) rfl ?_
            rw [DE.out]
            exact ⟨⟨none, 0, false, 0, [], rfl, fun h => by simp at h⟩, (((hU2.setCell (.inr (by simp)) _).setCell (.inr (by simp)) _).setCell (.inr (by simp)) _).setCell (.inr (by simp)) _⟩
          | false =>
           have DE := hid (hend.trans (by rw [hbn]; first | done | rfl))
           simp at hbn
           obtain ⟨rfl, hn20⟩ := hbn
           clear hend he hm
           go_wp2
           have hR9 := (((hR2.set_ 0 (.slice A n cap)).set_ 1 (.bool vd)).set_ 2 (.int .i64 dd)).set_ 3 (.string (bs nm))
           have g0 := hR9.cell 0
           have g1 := hR9.cell 1
           have g2 := hR9.cell 2
           have g3 := hR9.cell 3
           simp at g0 g1 g2 g3
           refine bodyPost_ret (v := .tuple #[.agg #[.slice A n cap, .bool vd, .int .i64 dd, .string (bs nm)], .int .i64 0]) (by simp [results, Tryz.results87, go_sem, g0, g1, g2, g3]) rfl ?_
           rw [DE.out]
           exact ⟨⟨A, cap, vd, dd, nm, rfl, fun _ => hvd.out⟩, (((hU2.setCell (.inr (by simp)) _).setCell (.inr (by simp)) _).setCell (.inr (by simp)) _).setCell (.inr (by simp)) _⟩
         ·have hm2 : (m != ((bs l).size : Int)) = true := by simpa using hm
          have DE : Hid (descL l = (0, 4)) := hid (by
           have h := he.out
           unfold endRel at h
           rwa [if_neg (by rw [← Hs.out]; exact hm)] at h)
          clear he
          go_wp2
          have hR9 := (((hR2.set_ 0 (.slice none 0 0)).set_ 1 (.bool false)).set_ 2 (.int .i64 0)).set_ 3 (.string ⟨#[]⟩)
          have g0 := hR9.cell 0
          have g1 := hR9.cell 1
          have g2 := hR9.cell 2
          have g3 := hR9.cell 3
          simp at g0 g1 g2 g3
          refine bodyPost_ret (v := .tuple #[.agg #[.slice none 0 0, .bool false, .int .i64 0, .string ⟨#[]⟩], .int .i64 4]) (by simp [results, Tryz.results87, go_sem, g0, g1, g2, g3]) rfl ?_
          rw [DE.out]
          exact ⟨⟨none, 0, false, 0, [], rfl, fun h => by simp at h⟩, (((hU2.setCell (.inr (by simp)) _).setCell (.inr (by simp)) _).setCell (.inr (by simp)) _).setCell (.inr (by simp)) _⟩
       ·have HV : Hid (false = voidL l) := hid (by rw [Hvoid.out, h86])
        clear h86
        go_upto_if 73 with fail
        go_cut [5, 6] (fun s5 s6 wx => ∃ (b2 vd : Bool) (m : Int) (dd : Nat) (nm : List UInt8), s5 = .bool b2 ∧ s6 = .int .i64 m ∧ Hid (endRel l n b2 m) ∧ Blk wx w.heap.size 113 #[.slice none 0 0, .bool false, .int .i64 0, .string ⟨#[]⟩] ∧
         Blk wx (w.heap.size + 1) 113 #[.slice A n cap, .bool vd, .int .i64 dd, .string (bs nm)] ∧ Upd w wx [] ∧ Hid (vd = voidL l))
        case first =>
         go_wp2_with fail
         refine (Hread (k + 1) _ (by have := Hs.out; omega)).out.mono ?_
         rintro e w2 ⟨d2, nm2, m2, rfl, hU2, hres⟩
         have hE2 := hid (hE.out _ _ _ hres)
         have hR2 := (hU2.blk hR (by simp)).alloc (.cells #[.int .i64 d2, .string (bs nm2)] 111)
         have hD2 := (hU2.blk hD (by simp)).alloc (.cells #[.int .i64 d2, .string (bs nm2)] 111)
         have hT2 : Blk (w2.alloc (.cells #[.int .i64 d2, .string (bs nm2)] 111)) w2.heap.size 111 #[.int .i64 d2, .string (bs nm2)] := Blk.new _ _ _
         have hV2 := (hU.trans hU2).alloc (.cells #[.int .i64 d2, .string (bs nm2)] 111)
         have hlt2 : Hid (w.heap.size + 1 < w2.heap.size) := hid (by have := hU2.size; have := hD.lt; omega)
         have e2 := hD2.cell 2
         have e3 := hD2.cell 3
         have ef2 := hD2.frozen 2
         have ef3 := hD2.frozen 3
         have x0 := hT2.cell 0
         have x1 := hT2.cell 1
         simp at e2 e3 x0 x1
         clear hres
         cases b
         all_goals
          unfold ty
          go_wp2
          go_meet
          refine ⟨_, false, m2, d2, nm2, rfl, rfl, ?_, (hR2.far (by simp) _).far (by simp) _, (hD2.set_ 2 (.int .i64 d2)).set_ 3 (.string (bs nm2)), (hV2.setCell (.inr (by simp)) _).setCell (.inr (by simp)) _, HV⟩
          first | exact hE2 | (have h := hE2.out; simp only [wideOr, Bool.false_or, Bool.true_or] at h ⊢; exact hid h)
        case rest =>
         obtain ⟨b2, vd, m, dd, nm, rfl, rfl, he, hR2, hD2, hU2, hvd⟩ := hcut
         clear r0 r1 r2 r3 rf0 rf1 rf2 rf3 e0 e1 e2 e3 ef1 ef2 ef3 hR hD Hb hown hv hU
         have r0 := hR2.cell 0
         have r1 := hR2.cell 1
         have r2 := hR2.cell 2
         have r3 := hR2.cell 3
         have rf0 := hR2.frozen 0
         have rf1 := hR2.frozen 1
         have rf2 := hR2.frozen 2
         have rf3 := hR2.frozen 3
         have e0 := hD2.cell 0
         have e1 := hD2.cell 1
         have e2 := hD2.cell 2
         have e3 := hD2.cell 3
         simp at r0 r1 r2 r3 e0 e1 e2 e3
         by_cases hm : m = ((bs l).size : Int)
         ·have hm2 : (m != ((bs l).size : Int)) = false := by simp [hm]
          have hend : descL l = (if b2 || decide (20 < n) then ((0, 5) : Nat × Int) else (n, 0)) := by
           have h := he.out
           unfold endRel at h
           rw [if_pos (by rw [hm, Hs.out])] at h
           exact h
          cases hbn : (b2 || decide (20 < n)) with
          | true =>
           have DE := hid (hend.trans (by rw [hbn]; first | done | rfl))
           clear hend he hm
           cases b2
           all_goals
            simp at hbn
            go_wp2
            have hR9 := (((hR2.set_ 0 (.slice none 0 0)).set_ 1 (.bool false)).set_ 2 (.int .i64 0)).set_ 3 (.string ⟨#[]⟩)
            have g0 := hR9.cell 0
            have g1 := hR9.cell 1
            have g2 := hR9.cell 2
            have g3 := hR9.cell 3
            simp at g0 g1 g2 g3
            refine bodyPost_ret (v := .tuple #[.agg #[.slice none 0 0, .bool false, .int .i64 0, .string ⟨#[]⟩], .int .i64 5]) (by simp [results, Tryz.results87, go_sem, g0, g1, g2, g3]) rfl ?_
            rw [DE.out]
            exact ⟨⟨none, 0, false, 0, [], rfl, fun h => by simp at h⟩, (((hU2.setCell (.inr (by simp)) _).setCell (.inr (by simp)) _).setCell (.inr (by simp)) _).setCell (.inr (by simp)) _⟩
          | false =>
           have DE := hid (hend.trans (by rw [hbn]; first | done | rfl))
           simp at hbn
           obtain ⟨rfl, hn20⟩ := hbn
           clear hend he hm
           go_wp2
           have hR9 := (((hR2.set_ 0 (.slice A n cap)).set_ 1 (.bool vd)).set_ 2 (.int .i64 dd)).set_ 3 (.string (bs nm))
           have g0 := hR9.cell 0
           have g1 := hR9.cell 1
           have g2 := hR9.cell 2
           have g3 := hR9.cell 3
           simp at g0 g1 g2 g3
           refine bodyPost_ret (v := .tuple #[.agg #[.slice A n cap, .bool vd, .int .i64 dd, .string (bs nm)], .int .i64 0]) (by simp [results, Tryz.results87, go_sem, g0, g1, g2, g3]) rfl ?_
           rw [DE.out]
           exact ⟨⟨A, cap, vd, dd, nm, rfl, fun _ => hvd.out⟩, (((hU2.setCell (.inr (by simp)) _).setCell (.inr (by simp)) _).setCell (.inr (by simp)) _).setCell (.inr (by simp)) _⟩
         ·have hm2 : (m != ((bs l).size : Int)) = true := by simpa using hm
          have DE : Hid (descL l = (0, 4)) := hid (by
           have h := he.out
           unfold endRel at h
           rwa [if_neg (by rw [← Hs.out]; exact hm)] at h)
          clear he
          go_wp2
          have hR9 := (((hR2.set_ 0 (.slice none 0 0)).set_ 1 (.bool false)).set_ 2 (.int .i64 0)).set_ 3 (.string ⟨#[]⟩)
          have g0 := hR9.cell 0
          have g1 := hR9.cell 1
          have g2 := hR9.cell 2
          have g3 := hR9.cell 3
          simp at g0 g1 g2 g3
          refine bodyPost_ret (v := .tuple #[.agg #[.slice none 0 0, .bool false, .int .i64 0, .string ⟨#[]⟩], .int .i64 4]) (by simp [results, Tryz.results87, go_sem, g0, g1, g2, g3]) rfl ?_
          rw [DE.out]
          exact ⟨⟨none, 0, false, 0, [], rfl, fun h => by simp at h⟩, (((hU2.setCell (.inr (by simp)) _).setCell (.inr (by simp)) _).setCell (.inr (by simp)) _).setCell (.inr (by simp)) _⟩
     ·have hq := byte_ne' l k hlt 41 h41 41 rfl
      have ht41 : takes 41 (l.drop k) = false := by rw [htd]; simpa using h41
      have hone : ∀ (d2 : Nat) (nm2 : List UInt8) (m2 : Int), ((oneL (l.drop k) = none ∧ m2 = -1) ∨ (∃ j : Nat, m2 = j ∧ k < j ∧ j ≤ l.length ∧ d2 = lead (l.drop k) ∧ oneL (l.drop k) = some (nm2, l.drop j))) →
        (m2 = -1 ∧ Hid (descL l = (0, 4))) ∨ ∃ j : Nat, m2 = j ∧ k < j ∧ j ≤ (bs l).size ∧ n + 1 ≤ 2000 ∧ Hid (descRel l true (n + 1) (b || decide (255 < (d2 : Int))) (l.drop j)) := by
       intro d2 nm2 m2 h
       rcases h with ⟨ho, rfl⟩ | ⟨j, rfl, hj0, hj1, rfl, ho⟩
       ·exact .inl ⟨rfl, hid (descL_none Hbig.out hr.out ht41 ho)⟩
       ·refine .inr ⟨j, rfl, hj0, by rw [Hs.out]; exact hj1, ?_, hid ?_⟩
        ·obtain ⟨_, q, _, h2, _⟩ := (descRel_next hr.out ht41 ho)
         omega
        ·have e : (b || decide (255 < ((lead (l.drop k) : Nat) : Int))) = wideOr b (lead (l.drop k)) := by
          unfold wideOr
          congr 1
          rw [decide_eq_decide]
          omega
         rw [e]
         exact descRel_next hr.out ht41 ho
      have Hone := hid hone
      clear hone ht41 htd h41 hr
      go_wp2_with fail
      refine (Hread k _ (by have := Hs.out; omega)).out.mono ?_
      rintro e w2 ⟨d2, nm2, m2, rfl, hU2, hres⟩
      have hR2 := (hU2.blk hR (by simp)).alloc (.cells #[.int .i64 d2, .string (bs nm2)] 111)
      have hD2 := (hU2.blk hD (by simp)).alloc (.cells #[.int .i64 d2, .string (bs nm2)] 111)
      have hT2 : Blk (w2.alloc (.cells #[.int .i64 d2, .string (bs nm2)] 111)) w2.heap.size 111 #[.int .i64 d2, .string (bs nm2)] := Blk.new _ _ _
      have hV2 := (hU.trans hU2).alloc (.cells #[.int .i64 d2, .string (bs nm2)] 111)
      have hown2 := (hU2.own hown (by simp)).alloc (.cells #[.int .i64 d2, .string (bs nm2)] 111)
      have hlt2 : Hid (w.heap.size + 1 < w2.heap.size) := hid (by have := hU2.size; have := hD.lt; omega)
      have r0 := hR2.cell 0
      have r1 := hR2.cell 1
      have r2 := hR2.cell 2
      have r3 := hR2.cell 3
      have rf0 := hR2.frozen 0
      have rf1 := hR2.frozen 1
      have rf2 := hR2.frozen 2
      have rf3 := hR2.frozen 3
      have e0 := hD2.cell 0
      have ef0 := hD2.frozen 0
      have x0 := hT2.cell 0
      have x1 := hT2.cell 1
      simp at r0 r1 r2 r3 e0 x0 x1
      rcases Hone.out _ _ _ hres with ⟨rfl, DE⟩ | ⟨j, rfl, hj0, hj1, hn1, hr2⟩
      ·clear hres Hone
       unfold ty
       go_wp2
       have hR9 := (((hR2.set_ 0 (.slice none 0 0)).set_ 1 (.bool false)).set_ 2 (.int .i64 0)).set_ 3 (.string ⟨#[]⟩)
       have g0 := hR9.cell 0
       have g1 := hR9.cell 1
       have g2 := hR9.cell 2
       have g3 := hR9.cell 3
       simp at g0 g1 g2 g3
       refine bodyPost_ret (v := .tuple #[.agg #[.slice none 0 0, .bool false, .int .i64 0, .string ⟨#[]⟩], .int .i64 4]) (by simp [results, Tryz.results87, go_sem, g0, g1, g2, g3]) rfl ?_
       rw [DE.out]
       exact ⟨⟨none, 0, false, 0, [], rfl, fun h => by simp at h⟩, (((hV2.setCell (.inr (by simp)) _).setCell (.inr (by simp)) _).setCell (.inr (by simp)) _).setCell (.inr (by simp)) _⟩
      ·clear hres Hone
       unfold ty
       cases b
       all_goals
        go_wp2_with (at_builtin; go_must (refine wpList_append_one _ rfl (.tmp 51) (.tmp 53) 109 rfl 111 i0 _ 2 24 Tryz.underlying109 hi0 qz0 qz1 qz2 rfl (by decide) (by decide) (.slice A n cap) n xs rfl (by exact hown2.alloc _) (by omega) (w2.heap.size + 1) 111 #[.int .i64 d2, .string (bs nm2)] rfl (by exact Blk.new_at (by simp)) rfl rfl ?_); intro g' cap' w9 hown9 hg9 hat9; have hD9 := (hD2.alloc (.cells #[.int .i64 d2, .string (bs nm2)] 111)).grown hg9 (by intro h; have := hv _ (mem_ob.2 h.symm); omega); have e9 := hD9.cell 0; have ef9 := hD9.frozen 0; simp at e9)
        have hU9 : Upd w w9 [] := (hV2.alloc (.cells #[.int .i64 d2, .string (bs nm2)] 111)).grown hg9 (by intro q hq; have := hv _ (mem_ob.2 hq); right; omega)
        have hR9 := ((hR2.alloc (.cells #[.int .i64 d2, .string (bs nm2)] 111)).grown hg9 (by intro h; have := hv _ (mem_ob.2 h.symm); omega)).far (p := ⟨w.heap.size + 1, 0, none⟩) (by simp) (.slice (some ⟨g', 0, none⟩) (n + 1) cap')
        have hD10 := hD9.set_ 0 (.slice (some ⟨g', 0, none⟩) (n + 1) cap')
        have hgD : w.heap.size + 1 < g' := by
         rcases hat9 with h | h
         ·exact hv _ (mem_ob.2 h)
         ·have := hlt2.out; simp at h; omega
        have hown10 := ownsRow_setCell_other (a := ⟨w.heap.size + 1, 0, none⟩) hown9 (by simp [Value.ownBlock]; omega) (.slice (some ⟨g', 0, none⟩) (n + 1) cap')
        have hU10 := hU9.setCell (p := ⟨w.heap.size + 1, 0, none⟩) (.inr (by simp)) (.slice (some ⟨g', 0, none⟩) (n + 1) cap')
        have hv10 : ∀ q, q ∈ Value.ob (.slice (some ⟨g', 0, none⟩) (n + 1) cap') → w.heap.size + 1 < q := by
         intro q hq
         have := mem_ob.1 hq
         simp [Value.ownBlock] at this
         omega
        go_wp2
        go_roundw
        case rel =>
         refine ⟨_, _, _, ⟨_, j, n + 1, _, _, rfl, rfl, hj1, ?_, hn1, hR9, hD10, hown10, hv10, hU10⟩, rfl, rfl, rfl⟩
         first | exact hr2 | (have h := hr2.out; simp only [Bool.false_or, Bool.true_or] at h ⊢; exact hid h)
        case measure => simp [intOf]; omega
    ·obtain rfl : k = (bs l).size := by omega
     have hd : l.drop (bs l).size = [] := by rw [Hs.out]; simp
     have DE := hid (descL_none Hbig.out hr.out (by rw [hd]; rfl) (by rw [hd]; rfl))
     clear hd hr
     go_wp2
     have hR9 := (((hR.set_ 0 (.slice none 0 0)).set_ 1 (.bool false)).set_ 2 (.int .i64 0)).set_ 3 (.string ⟨#[]⟩)
     have g0 := hR9.cell 0
     have g1 := hR9.cell 1
     have g2 := hR9.cell 2
     have g3 := hR9.cell 3
     simp at g0 g1 g2 g3
     refine bodyPost_ret (v := .tuple #[.agg #[.slice none 0 0, .bool false, .int .i64 0, .string ⟨#[]⟩], .int .i64 4]) (by simp [results, Tryz.results87, go_sem, g0, g1, g2, g3]) rfl ?_
     rw [DE.out]
     exact ⟨⟨none, 0, false, 0, [], rfl, fun h => by simp at h⟩, (((hU.setCell (.inr (by simp)) _).setCell (.inr (by simp)) _).setCell (.inr (by simp)) _).setCell (.inr (by simp)) _⟩
theorem parseDescR_any (l : List UInt8) (w : World) (hl : l.length ≤ 9223372036854775807) : Calls Tryz.prog 87 #[.string (bs l)] w (descPost (descL l) w) :=
 (parseDescVR_any l w hl).mono fun _ _ ⟨⟨A, cap, vd, d, nm, h, _⟩, u⟩ => ⟨⟨A, cap, vd, d, nm, h⟩, u⟩
end Go.Proofs.YtjjdlgjofjfgmaaGreatDoor
