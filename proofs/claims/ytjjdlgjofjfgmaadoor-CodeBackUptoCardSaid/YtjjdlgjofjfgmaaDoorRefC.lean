/-
  The document's answer on types, walked: read.
-/
import Derived.Test.YtjjdlgjofjfgmaaDoorRefB
import Derived.Test.YtjjdlgjofjfgmaaDoorTypesD
set_option linter.unusedSimpArgs false
set_option linter.unusedVariables false
namespace Go.Proofs.YtjjdlgjofjfgmaaDoor
open Go.RowKit

theorem byte_eq (l : List UInt8) (i : Nat) (h : i < (bs l).size) (c : UInt8) (hc : l[i]'(by rw [← bs_size]; exact h) = c) : ((bs l)[i]'h).toNat = c.toNat := by rw [bs_get l i h, hc]
theorem byte_ne (l : List UInt8) (i : Nat) (h : i < (bs l).size) (c : UInt8) (hc : ¬ l[i]'(by rw [← bs_size]; exact h) = c) (n : Int) (hn : (c.toNat : Int) = n) : ((((bs l)[i]'h).toNat : Int) == n) = false := by
  rw [bs_get l i h, beq_eq_false_iff_ne, ← hn]
  intro h2
  exact hc (UInt8.toNat_inj.1 (Int.ofNat.inj h2))
theorem byte_ne' (l : List UInt8) (i : Nat) (h : i < (bs l).size) (c : UInt8) (hc : ¬ l[i]'(by rw [← bs_size]; exact h) = c) (n : Int) (hn : (c.toNat : Int) = n) : ((((bs l)[i]'h).toNat : Int) != n) = true := by
  have := byte_ne l i h c hc n hn
  simp [bne, this]

/-- What read answers: the type and the place behind it. -/
def readPost (l : List UInt8) (k : Nat) (w : World) (e : Ending) (w' : World) : Prop :=
  ∃ (d : Nat) (nm : List UInt8) (m : Int), e = .returned (.tuple #[ty d nm, .int .i64 m]) ∧ Upd w w' [] ∧
    ((oneL (l.drop k) = none ∧ m = -1) ∨ (∃ j : Nat, m = j ∧ k < j ∧ j ≤ l.length ∧ d = lead (l.drop k) ∧ oneL (l.drop k) = some (nm, l.drop j)))

theorem cutL_at (t : List UInt8) (k : Nat) (hk : k < t.length) (h : 59 ∉ t.take k) (hc : t[k] = 59) : cutL 59 t = some (t.take k, t.drop (k + 1)) := by
  have e : t = t.take k ++ 59 :: t.drop (k + 1) := by
    conv => lhs; rw [← List.take_append_drop k t, List.drop_eq_getElem_cons hk, hc]
  conv => lhs; rw [e]
  exact cutL_cut 59 _ _ h

set_option maxHeartbeats 4000000 in
set_option maxRecDepth 100000 in
theorem read_any (l : List UInt8) (k0 : Nat) (w : World) (hl : l.length ≤ 2000) (hk0 : k0 ≤ l.length) : Calls Tryd.prog 71 #[.string (bs l), .int .i64 k0] w (readPost l k0 w) := by
  have hs : (bs l).size = l.length := bs_size l
  have Hs := hid hs
  have hs1 : (bs l).size ≤ 2000 := by omega
  have hk1 : k0 ≤ (bs l).size := by omega
  have hU0 : Upd w ((w.alloc (.cells #[.int .i64 0, .string ⟨#[]⟩] 69)).alloc (.cells #[.int .i64 0, .string ⟨#[]⟩] 69)) [] := ((Upd.refl w []).alloc _).alloc _
  have hR0 : Blk ((w.alloc (.cells #[.int .i64 0, .string ⟨#[]⟩] 69)).alloc (.cells #[.int .i64 0, .string ⟨#[]⟩] 69)) w.heap.size 69 #[.int .i64 0, .string ⟨#[]⟩] := (Blk.new _ _ _).alloc _
  have hT0 : Blk ((w.alloc (.cells #[.int .i64 0, .string ⟨#[]⟩] 69)).alloc (.cells #[.int .i64 0, .string ⟨#[]⟩] 69)) (w.heap.size + 1) 69 #[.int .i64 0, .string ⟨#[]⟩] := Blk.new_at (by simp)
  have HU0 := hid hU0
  have HR0 := hid hR0
  have HT0 := hid hT0
  clear hs hU0 hR0 hT0
  go_enter Tryd.func71, Tryd.ntmps71
  go_wp2
  go_loopw [1] (fun a wr => ∃ n : Nat, a = .int .i64 ((k0 + n : Nat) : Int) ∧ k0 + n ≤ (bs l).size ∧ Hid (n + lead (l.drop (k0 + n)) = lead (l.drop k0)) ∧ Blk wr w.heap.size 69 #[.int .i64 0, .string ⟨#[]⟩] ∧ Blk wr (w.heap.size + 1) 69 #[.int .i64 n, .string ⟨#[]⟩] ∧ Upd w wr [])
    (fun a _ => (bs l).size - (intOf a).toNat)
  case atStart => exact ⟨0, rfl, by omega, hid (by simp), HR0.out, HT0.out, HU0.out⟩
  case round =>
    obtain ⟨n, rfl, hle, hlead, hR, hT, hU⟩ := hrel
    have r0 := hR.cell 0
    have r1 := hR.cell 1
    have rf0 := hR.frozen 0
    have rf1 := hR.frozen 1
    have t0 := hT.cell 0
    have t1 := hT.cell 1
    have tf0 := hT.frozen 0
    have tf1 := hT.frozen 1
    simp at r0 r1 t0 t1
    obtain ⟨at', hat⟩ : ∃ q, q = k0 + n := ⟨_, rfl⟩
    rw [← hat] at hle hlead ⊢
    have hn : n ≤ 2000 := by omega
    have Hat := hid hat
    clear hat
    by_cases hlt : at' < (bs l).size
    · have hll : at' < l.length := by have := Hs.out; omega
      have hd : l.drop at' = l[at'] :: l.drop (at' + 1) := List.drop_eq_getElem_cons hll
      by_cases hc : l[at'] = 91
      · have hq := byte_eq l at' hlt 91 hc
        rw [show (91 : UInt8).toNat = 91 from rfl] at hq
        have hl2 : Hid (n + 1 + lead (l.drop (k0 + (n + 1))) = lead (l.drop k0)) := hid (by
          rw [← hlead.out, hd, hc, lead_cons, ← Nat.add_assoc k0 n 1, ← Hat.out]; omega)
        clear hd hc
        go_wp2
        go_roundw
        case rel =>
          exact ⟨n + 1, by rw [← Nat.add_assoc, ← Hat.out]; go_num, by have := Hat.out; omega, hl2, hR.far (by simp) _, hT.set_ 0 _, hU.setCell (.inr (by simp)) _⟩
        case measure => simp [intOf]; omega
      · have hl0 : lead (l.drop at') = 0 := by rw [hd]; exact lead_stop _ hc
        have hone : oneL (l.drop k0) = bareL (l.drop at') := by
          unfold oneL
          rw [List.drop_drop, ← hlead.out, Hat.out, ← Hat.out, hl0, Nat.add_zero, ← Hat.out]
        have hn0 : lead (l.drop k0) = n := by have h := hlead.out; rw [hl0] at h; omega
        have h91 := byte_ne l at' hlt 91 hc 91 rfl
        clear hl0 hlead
        have Hone := hid hone
        have Hn0 := hid hn0
        have Hd := hid hd
        clear hone hn0 hd hc
        by_cases hI : l[at'] = 73
        · have hq := byte_eq l at' hlt 73 hI
          rw [show (73 : UInt8).toNat = 73 from rfl] at hq
          have ho : Hid (oneL (l.drop k0) = some ([], l.drop (at' + 1))) := hid (by rw [Hone.out, Hd.out, hI]; rfl)
          clear hI h91
          go_wp2
          have hR9 := (hR.set_ 0 (.int .i64 n)).set_ 1 (.string ⟨#[]⟩)
          have g0 := hR9.cell 0
          have g1 := hR9.cell 1
          simp at g0 g1
          refine bodyPost_ret (v := .tuple #[ty n [], .int .i64 (at' + 1 : Nat)]) (by simp [results, Tryd.results71, go_sem, g0, g1, ty, bs_nil]) rfl ?_
          exact ⟨n, [], _, rfl, (hU.setCell (.inr (Nat.le_refl _)) _).setCell (.inr (Nat.le_refl _)) _, (.inr ⟨at' + 1, rfl, by have := Hat.out; omega, by have := Hs.out; omega, Hn0.out.symm, ho.out⟩)⟩
        · have h73 := byte_ne l at' hlt 73 hI 73 rfl
          by_cases hL : l[at'] = 76
          · have hq := byte_eq l at' hlt 76 hL
            rw [show (76 : UInt8).toNat = 76 from rfl] at hq
            have ho : Hid (oneL (l.drop k0) = (cutL 59 (l.drop (at' + 1))).bind fun p => if validB p.1 then some p else none) := hid (by rw [Hone.out, Hd.out, hL]; rfl)
            clear hI hL h91 h73
            go_wp2
            go_loop [7] (fun i => ∃ j : Nat, i = .int .i64 ((at' + 1 + j : Nat) : Int) ∧ at' + 1 + j ≤ (bs l).size ∧ Hid (59 ∉ (l.drop (at' + 1)).take j)) (fun i => (bs l).size - (intOf i).toNat)
            case atStart => exact ⟨0, by go_num, by omega, hid (by simp)⟩
            case round =>
              obtain ⟨j, rfl, hj, hno⟩ := hrel
              obtain ⟨i', hi'⟩ : ∃ q, q = at' + 1 + j := ⟨_, rfl⟩
              rw [← hi'] at hj ⊢
              have Hi' := hid hi'
              have hge : at' + 1 ≤ i' := by omega
              clear hi'
              by_cases hlt2 : i' < (bs l).size
              · have hll2 : i' < l.length := by have := Hs.out; omega
                have hjl : j < (l.drop (at' + 1)).length := by have := Hi'.out; simp; omega
                have hgj : (l.drop (at' + 1))[j] = l[i'] := by
                  rw [List.getElem_drop]
                  congr 1
                  exact Hi'.out.symm
                by_cases hc2 : l[i'] = 59
                · have hq2 := byte_eq l i' hlt2 59 hc2
                  rw [show (59 : UInt8).toNat = 59 from rfl] at hq2
                  have hcut := cutL_at _ j hjl hno.out (by rw [hgj, hc2])
                  have he : (bs l).extract (at' + 1) i' = bs ((l.drop (at' + 1)).take j) := by
                    rw [bs_extract]
                    congr 2
                    have := Hi'.out
                    omega
                  have ho2 : Hid (oneL (l.drop k0) = if validB ((l.drop (at' + 1)).take j) then some ((l.drop (at' + 1)).take j, l.drop (i' + 1)) else none) := hid (by
                    rw [ho.out, hcut, Option.bind_some, List.drop_drop]
                    have : at' + 1 + (j + 1) = i' + 1 := by have := Hi'.out; omega
                    rw [this])
                  generalize (l.drop (at' + 1)).take j = nm at he ho2 hcut
                  have hnl : nm.length ≤ 2000 := by
                    have := congrArg ByteArray.size he
                    rw [bs_size, ByteArray.size_extract] at this
                    omega
                  have Hv := fun w => hid (validR_any nm w (by omega))
                  have hT2 := hT.set_ 1 (.string (bs nm))
                  have hR2 := hR.far (p := ⟨w.heap.size + 1, 1, none⟩) (by simp) (.string (bs nm))
                  have hU2 := hU.setCell (p := ⟨w.heap.size + 1, 1, none⟩) (.inr (by simp)) (.string (bs nm))
                  clear hc2 hgj hcut hno ho
                  obtain ⟨vb, hvb⟩ : ∃ vb, validB nm = vb := ⟨_, rfl⟩
                  rw [hvb] at Hv ho2
                  clear hvb
                  cases vb
                  all_goals
                    go_wp2_with fail
                    refine (Hv _).out.mono ?_
                    rintro e w3 ⟨rfl, hU3⟩
                    have hT3 := hU3.blk hT2 (by simp)
                    have hR3 := hU3.blk hR2 (by simp)
                    have hU4 := hU2.trans hU3
                    have t0 := hT3.cell 0
                    have t1 := hT3.cell 1
                    have r0 := hR3.cell 0
                    have r1 := hR3.cell 1
                    have rf0 := hR3.frozen 0
                    have rf1 := hR3.frozen 1
                    simp at t0 t1 r0 r1
                    go_wp2
                  · have ho3 : Hid (oneL (l.drop k0) = none) := hid (by rw [ho2.out]; rfl)
                    have hR9 := (hR3.set_ 0 (.int .i64 n)).set_ 1 (.string (bs nm))
                    have g0 := hR9.cell 0
                    have g1 := hR9.cell 1
                    simp at g0 g1
                    refine bodyPost_ret (v := .tuple #[ty n nm, .int .i64 (-1)]) (by simp [results, Tryd.results71, go_sem, g0, g1, ty, bs_nil]) rfl ?_
                    exact ⟨n, nm, _, rfl, (hU4.setCell (.inr (Nat.le_refl _)) _).setCell (.inr (Nat.le_refl _)) _, (.inl ⟨ho3.out, rfl⟩)⟩
                  · have ho3 : Hid (oneL (l.drop k0) = some (nm, l.drop (i' + 1))) := hid (by rw [ho2.out]; rfl)
                    have hR9 := (hR3.set_ 0 (.int .i64 n)).set_ 1 (.string (bs nm))
                    have g0 := hR9.cell 0
                    have g1 := hR9.cell 1
                    simp at g0 g1
                    refine bodyPost_ret (v := .tuple #[ty n nm, .int .i64 (i' + 1 : Nat)]) (by simp [results, Tryd.results71, go_sem, g0, g1, ty, bs_nil]) rfl ?_
                    exact ⟨n, nm, _, rfl, (hU4.setCell (.inr (Nat.le_refl _)) _).setCell (.inr (Nat.le_refl _)) _, (.inr ⟨i' + 1, rfl, by have := Hat.out; omega, by have := Hs.out; omega, Hn0.out.symm, ho3.out⟩)⟩
                · have hq2 := byte_ne l i' hlt2 59 hc2 59 rfl
                  have hno2 : Hid (59 ∉ (l.drop (at' + 1)).take (j + 1)) := hid (by
                    rw [List.take_succ_eq_append_getElem hjl, hgj]
                    simp only [List.mem_append, List.mem_singleton, not_or]
                    exact ⟨hno.out, fun h => hc2 h.symm⟩)
                  clear hc2 hgj hno
                  go_wp2
                  go_round
                  case rel => exact ⟨j + 1, by rw [← Nat.add_assoc, ← Hi'.out]; go_num, by have := Hi'.out; omega, hno2⟩
                  case measure => simp [intOf]; omega
              · have ho3 : Hid (oneL (l.drop k0) = none) := hid (by
                  rw [ho.out, cutL_none 59 (l.drop (at' + 1)) (by
                    have h := hno.out
                    rwa [List.take_of_length_le (by have := Hi'.out; have := Hs.out; simp; omega)] at h)]
                  rfl)
                clear ho hno
                go_wp2
                have hR9 := (hR.set_ 0 (.int .i64 n)).set_ 1 (.string ⟨#[]⟩)
                have g0 := hR9.cell 0
                have g1 := hR9.cell 1
                simp at g0 g1
                refine bodyPost_ret (v := .tuple #[ty n [], .int .i64 (-1)]) (by simp [results, Tryd.results71, go_sem, g0, g1, ty, bs_nil]) rfl ?_
                exact ⟨n, [], _, rfl, (hU.setCell (.inr (Nat.le_refl _)) _).setCell (.inr (Nat.le_refl _)) _, (.inl ⟨ho3.out, rfl⟩)⟩
          · have h76 := byte_ne' l at' hlt 76 hL 76 rfl
            have ho : Hid (oneL (l.drop k0) = none) := hid (by
              rw [Hone.out, Hd.out]
              exact bareL_else (by rintro ⟨t, ht⟩; injection ht with h1 h2; exact hI h1) (by rintro ⟨t, ht⟩; injection ht with h1 h2; exact hL h1))
            clear hI hL
            go_wp2
            have hR9 := (hR.set_ 0 (.int .i64 n)).set_ 1 (.string ⟨#[]⟩)
            have g0 := hR9.cell 0
            have g1 := hR9.cell 1
            simp at g0 g1
            refine bodyPost_ret (v := .tuple #[ty n [], .int .i64 (-1)]) (by simp [results, Tryd.results71, go_sem, g0, g1, ty, bs_nil]) rfl ?_
            exact ⟨n, [], _, rfl, (hU.setCell (.inr (Nat.le_refl _)) _).setCell (.inr (Nat.le_refl _)) _, (.inl ⟨ho.out, rfl⟩)⟩
    · obtain rfl : at' = (bs l).size := by omega
      have hd : l.drop (bs l).size = [] := by rw [Hs.out]; simp
      have hl0 : lead (l.drop (bs l).size) = 0 := by rw [hd]; rfl
      have ho : Hid (oneL (l.drop k0) = none) := hid (by
        unfold oneL
        rw [List.drop_drop, ← hlead.out, Hat.out, ← Hat.out, hl0, Nat.add_zero, ← Hat.out, hd]
        rfl)
      clear hd hl0 hlead
      go_wp2
      have hR9 := (hR.set_ 0 (.int .i64 n)).set_ 1 (.string ⟨#[]⟩)
      have g0 := hR9.cell 0
      have g1 := hR9.cell 1
      simp at g0 g1
      refine bodyPost_ret (v := .tuple #[ty n [], .int .i64 (-1)]) (by simp [results, Tryd.results71, go_sem, g0, g1, ty, bs_nil]) rfl ?_
      exact ⟨n, [], _, rfl, (hU.setCell (.inr (Nat.le_refl _)) _).setCell (.inr (Nat.le_refl _)) _, (.inl ⟨ho.out, rfl⟩)⟩
end Go.Proofs.YtjjdlgjofjfgmaaDoor
