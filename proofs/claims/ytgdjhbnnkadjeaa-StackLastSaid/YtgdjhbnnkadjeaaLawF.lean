/- The law StackLast, walked. -/
import Derived.Test.YtgdjhbnnkadjeaaRowOpen
import Derived.Test.YtgdjhbnnkadjeaaLastSpec
namespace Go.Proofs.Ytgdjhbnnkadjeaa
open Go.RowKit

theorem ImpP.sum {P : Nat → Prop} {w : World} {S : Nat} {s : List M} (h : ImpP P w S s) : s.length ≤ 4000 := by
  obtain ⟨vf, fs, hs, ha, hp⟩ := h
  rw [← ha, show (abs fs).length = fs.length by simp [abs]]
  exact Nat.le_trans (wsum_len fs) hs.words

theorem Below_upd {w a b : World} (h : Below w.heap.size w a) (U : Upd a b []) : Below w.heap.size w b := h.trans (U.below.mono h.size)

/-- The list that came in. -/
def ValsAt (w : World) (A : Option Addr) (vs : List V2) : Prop := ∀ i, i < vs.length → ∃ bk off, A = some ⟨bk, off, none⟩ ∧ bk < w.heap.size ∧
  w.cell? ⟨bk, off + i * 2, none⟩ = some (.bool (vs.getD i zero2).ref) ∧ w.cell? ⟨bk, off + i * 2 + 1, none⟩ = some (.int .i64 (vs.getD i zero2).n)
def OpsAt (w : World) (A : Option Addr) (n : Nat) : Prop := ∀ i, i < n → ∃ bk off, A = some ⟨bk, off, none⟩ ∧ bk < w.heap.size ∧ OpAt w bk off i

set_option maxHeartbeats 4000000 in
set_option maxRecDepth 100000 in
theorem last_bad (l r : Int) (x y : Value) (w : World) (hbad : l < 0 ∨ 40 < l ∨ r < 0 ∨ 40 < r) : Calls Try.prog 4 #[.int .i64 l, .int .i64 r, x, y] w fun e w' => e = .returned (.bool true) ∧ Below w.heap.size w w' := by
  have Hb := hid hbad
  clear hbad
  go_enter Try.func4, Try.ntmps4
  go_wp2_with fail
  refine (awake_any _).mono ?_
  rintro e w1 ⟨rfl, U1⟩
  go_wp2_with fail
  refine (pNew _).mono ?_
  rintro e w2 ⟨rfl, h2, F2⟩
  have B2 : Below w.heap.size w w2 := (U1.trans F2.upd1).below
  have hS : w.heap.size ≤ w1.heap.size := U1.size
  go_wp2_with fail
  refine (pEnter h2 l r).mono ?_
  rintro e w3 ⟨he, h3, F3⟩
  rw [show (sEnter [] l r).2 = 2 by simp [sEnter, Hb.out]] at he
  rw [show (sEnter [] l r).1 = [] by simp [sEnter, Hb.out]] at h3
  subst he
  go_wp2_with fail
  refine (pFrames h3).mono ?_
  rintro e w4 ⟨he, h4, F4⟩
  rw [show ([] : List M).length = 0 from rfl] at he
  subst he
  go_wp2_with fail
  refine (pLeave h4).mono ?_
  rintro e w5 ⟨he, h5, F5⟩
  rw [show (sLeave []).2 = 6 from rfl] at he
  subst he
  have BB := B2.trans (((F3.trans F4).trans F5).below (B := w.heap.size) (fun b hb => by omega))
  go_wp2
  go_ret
  exact ⟨rfl, BB⟩

set_option maxHeartbeats 8000000 in
set_option maxRecDepth 100000 in
theorem last_good (l r : Nat) (A C : Option Addr) (vs : List V2) (ca n cc : Nat) (w : World) (hl : l ≤ 40) (hr : r ≤ 40) (hvs : vs.length ≤ 9223372036854775807) (hn : n ≤ 9223372036854775807)
    (hA : ValsAt w A vs) (hC : OpsAt w C n) :
    Calls Try.prog 4 #[.int .i64 l, .int .i64 r, .slice A vs.length ca, .slice C n cc] w fun e w' => e = .returned (.bool true) ∧ Below w.heap.size w w' := by
  have HA := hid hA
  have HC := hid hC
  clear hA hC
  obtain ⟨N, hN⟩ : ∃ N : Nat, N = vs.length := ⟨_, rfl⟩
  rw [← hN] at hvs ⊢
  have HN := hid hN
  clear hN
  go_enter Try.func4, Try.ntmps4
  go_wp2_with fail
  refine (awake_any _).mono ?_
  rintro e w1 ⟨rfl, U1⟩
  go_wp2_with fail
  refine (pNew _).mono ?_
  rintro e w2 ⟨rfl, h2, F2⟩
  have B2 : Below w.heap.size w w2 := (U1.trans F2.upd1).below
  have hS : w.heap.size ≤ w1.heap.size := U1.size
  clear U1 F2
  go_wp2_with fail
  refine (pEnter h2 l r).mono ?_
  rintro e w3 ⟨he, h3, F3⟩
  rw [sEnter_good l r hl hr vs] at he h3
  subst he
  have B3 := B2.trans (F3.below (B := w.heap.size) (fun b hb => by omega))
  clear B2 F3 h2
  go_wp2_with fail
  go_loopw [10, 11] (fun tn ti wr => ∃ i : Nat, i ≤ N ∧ ti = .int .i64 i ∧ tn = .int .i64 (min i r : Nat) ∧ ImpP (fun b => b < w1.heap.size) wr w1.heap.size [mJ vs l r i i] ∧ Below w.heap.size w wr) (fun _ ti _ => N - (intOf ti).toNat)
  case atStart => exact ⟨0, by omega, rfl, by simp, h3, B3⟩
  case round =>
    obtain ⟨i, hi, rfl, rfl, hI, hB⟩ := hrel
    clear h3 B3
    by_cases hlt : i < N
    · obtain ⟨bk, off, rfl, hbk, x0, x1⟩ := HA.out i (by rw [← HN.out]; exact hlt)
      have z0 := (hB.cell (p := ⟨bk, off + i * 2, none⟩) hbk).trans x0
      have z1 := (hB.cell (p := ⟨bk, off + i * 2 + 1, none⟩) hbk).trans x1
      clear x0 x1
      obtain ⟨v, hv⟩ : ∃ v : V2, v = vs.getD i zero2 := ⟨_, rfl⟩
      rw [← hv] at z0 z1
      have c1 := hid (pPut hI (vs.getD i zero2))
      rw [sPut_mJ vs l r i i (by rw [← HN.out]; exact hlt), ← hv] at c1
      unfold V2.val at c1
      have Hv := hid hv
      clear hv
      by_cases hir : i < r
      · rw [show min i r = i by omega]
        rw [if_pos hir] at c1
        have hir' : (i : Int) < r := by omega
        by_cases hil : i < l
        · have hil' : (i : Int) < l := by omega
          go_wp2_with fail
          refine c1.out.mono ?_
          rintro e w4 ⟨rfl, h4, F4⟩
          have hB4 := hB.trans (F4.below (B := w.heap.size) (fun b hb => by omega))
          have y0 := (F4.below (B := w.heap.size) (fun b hb => by omega)).cell (p := ⟨bk, off + i * 2, none⟩) hbk |>.trans z0
          have y1 := (F4.below (B := w.heap.size) (fun b hb => by omega)).cell (p := ⟨bk, off + i * 2 + 1, none⟩) hbk |>.trans z1
          clear z0 z1 hI hB F4 c1
          have c2 := hid (pSet h4 i (vs.getD i zero2))
          rw [sSet_mJ vs l r (i + 1) i (by rw [← HN.out]; exact hlt) hil, ← Hv.out] at c2
          unfold V2.val at c2
          go_wp2_with fail
          refine c2.out.mono ?_
          rintro e w5 ⟨rfl, h5, F5⟩
          have hB5 := hB4.trans (F5.below (B := w.heap.size) (fun b hb => by omega))
          clear c2 y0 y1 h4 hB4 F5
          go_wp2
          go_roundw
          case rel => exact ⟨i + 1, by omega, by go_num, by rw [show min (i + 1) r = i + 1 by omega]; go_num, h5, hB5⟩
          case measure => simp [intOf]; omega
        · have hil' : ¬ (i : Int) < l := by omega
          go_wp2_with fail
          refine c1.out.mono ?_
          rintro e w4 ⟨rfl, h4, F4⟩
          have hB4 := hB.trans (F4.below (B := w.heap.size) (fun b hb => by omega))
          have y0 := (F4.below (B := w.heap.size) (fun b hb => by omega)).cell (p := ⟨bk, off + i * 2, none⟩) hbk |>.trans z0
          have y1 := (F4.below (B := w.heap.size) (fun b hb => by omega)).cell (p := ⟨bk, off + i * 2 + 1, none⟩) hbk |>.trans z1
          clear z0 z1 hI hB F4 c1
          rw [← mJ_set vs l r (i + 1) i hil] at h4
          go_wp2
          go_roundw
          case rel => exact ⟨i + 1, by omega, by go_num, by rw [show min (i + 1) r = i + 1 by omega]; go_num, h4, hB4⟩
          case measure => simp [intOf]; omega
      · rw [show min i r = r by omega]
        rw [if_neg hir] at c1
        by_cases hil : i < l
        · have hil' : (i : Int) < l := by omega
          go_wp2_with fail
          refine c1.out.mono ?_
          rintro e w4 ⟨rfl, h4, F4⟩
          have hB4 := hB.trans (F4.below (B := w.heap.size) (fun b hb => by omega))
          have y0 := (F4.below (B := w.heap.size) (fun b hb => by omega)).cell (p := ⟨bk, off + i * 2, none⟩) hbk |>.trans z0
          have y1 := (F4.below (B := w.heap.size) (fun b hb => by omega)).cell (p := ⟨bk, off + i * 2 + 1, none⟩) hbk |>.trans z1
          clear z0 z1 hI hB F4 c1
          have c2 := hid (pSet h4 i (vs.getD i zero2))
          rw [sSet_mJ vs l r (i + 1) i (by rw [← HN.out]; exact hlt) hil, ← Hv.out] at c2
          unfold V2.val at c2
          go_wp2_with fail
          refine c2.out.mono ?_
          rintro e w5 ⟨rfl, h5, F5⟩
          have hB5 := hB4.trans (F5.below (B := w.heap.size) (fun b hb => by omega))
          clear c2 y0 y1 h4 hB4 F5
          go_wp2
          go_roundw
          case rel => exact ⟨i + 1, by omega, by go_num, by rw [show min (i + 1) r = r by omega], h5, hB5⟩
          case measure => simp [intOf]; omega
        · have hil' : ¬ (i : Int) < l := by omega
          go_wp2_with fail
          refine c1.out.mono ?_
          rintro e w4 ⟨rfl, h4, F4⟩
          have hB4 := hB.trans (F4.below (B := w.heap.size) (fun b hb => by omega))
          have y0 := (F4.below (B := w.heap.size) (fun b hb => by omega)).cell (p := ⟨bk, off + i * 2, none⟩) hbk |>.trans z0
          have y1 := (F4.below (B := w.heap.size) (fun b hb => by omega)).cell (p := ⟨bk, off + i * 2 + 1, none⟩) hbk |>.trans z1
          clear z0 z1 hI hB F4 c1
          rw [← mJ_set vs l r (i + 1) i hil] at h4
          go_wp2
          go_roundw
          case rel => exact ⟨i + 1, by omega, by go_num, by rw [show min (i + 1) r = r by omega], h4, hB4⟩
          case measure => simp [intOf]; omega
    · obtain rfl : i = N := by omega
      have c1 := hid (pEnter hI 0 3)
      rw [sEnter_top _ (by rw [mJ_words vs l r i i (by rw [← HN.out]; omega)]; omega)] at c1
      go_wp2_with fail
      refine c1.out.mono ?_
      rintro e w4 ⟨rfl, h4, F4⟩
      have hB4 := hB.trans (F4.below (B := w.heap.size) (fun b hb => by omega))
      clear hI hB F4 c1
      generalize hB0 : mJ vs l r i i = m0 at h4
      have HB0 := hid hB0
      clear hB0
      go_wp2_with fail
      go_loopw [14, 15] (fun td ti wr => ∃ (j : Nat) (t : List M), j ≤ n ∧ ti = .int .i64 j ∧ td = .int .i64 t.length ∧ t ≠ [] ∧ ImpP (fun b => b < w1.heap.size) wr w1.heap.size (m0 :: t) ∧ Below w.heap.size w wr) (fun _ ti _ => n - (intOf ti).toNat)
      case atStart => exact ⟨0, [⟨[], [], 3⟩], by omega, rfl, rfl, by simp, h4, hB4⟩
      case round =>
        obtain ⟨j, t, hj, rfl, rfl, ht, hI, hB⟩ := hrel
        clear h4 hB4
        have Ht := hid ht
        clear ht
        by_cases hlt : j < n
        · obtain ⟨bk, off, rfl, hbk, k, a, b, v, x0, x1, x2, x3, x4⟩ := HC.out j hlt
          have z0 := (hB.cell (p := ⟨bk, off + j * 5, none⟩) hbk).trans x0
          have z1 := (hB.cell (p := ⟨bk, off + j * 5 + 1, none⟩) hbk).trans x1
          have z2 := (hB.cell (p := ⟨bk, off + j * 5 + 2, none⟩) hbk).trans x2
          have z3 := (hB.cell (p := ⟨bk, off + j * 5 + 3, none⟩) hbk).trans x3
          have z4 := (hB.cell (p := ⟨bk, off + j * 5 + 4, none⟩) hbk).trans x4
          clear x0 x1 x2 x3 x4
          have hbr : bk < wr.heap.size := by have := hB.size; omega
          by_cases k1 : k = 1
          · subst k1
            have hIb := hid (hI.with_ ((Upd.refl wr []).alloc (.cells #[.int .i64 1, .int .i64 a, .int .i64 b, .bool v.ref, .int .i64 v.n] 37)) (b0 := wr.heap.size) (Nat.le_refl _) (by simp))
            have hbx := hid (Blk.new wr 37 #[.int .i64 1, .int .i64 a, .int .i64 b, .bool v.ref, .int .i64 v.n])
            have hBb := hid (hB.alloc hB.size (.cells #[.int .i64 1, .int .i64 a, .int .i64 b, .bool v.ref, .int .i64 v.n] 37))
            clear hI hB
            obtain ⟨t', e1, hc⟩ := sEnter_cons m0 t a b
            have c1 := hid (fun W (hW : ImpP (fun b => b < w1.heap.size ∨ b = wr.heap.size) W w1.heap.size (m0 :: t)) => pEnter hW a b)
            rw [e1] at c1
            obtain ⟨r1, hr1⟩ : ∃ r1, r1 = (sEnter (m0 :: t) a b).2 := ⟨_, rfl⟩
            rw [← hr1] at c1 hc
            clear hr1 e1
            rcases hc with ⟨rfl, hlen⟩ | ⟨hne, rfl⟩
            · have Hlen := hid hlen
              clear hlen
              go_wp2_with fail
              refine (c1.out _ hIb.out).mono ?_
              rintro e w4 ⟨rfl, h4, F4⟩
              have b4 := F4.blk (by exact hbx.out) (Or.inr rfl)
              have q0 := b4.cell 0
              have q1 := b4.cell 1
              have q3 := b4.cell 3
              have q4 := b4.cell 4
              simp at q0 q1 q3 q4
              have hB4 := hid (hBb.out.trans (F4.below (B := w.heap.size) (fun b hb => Or.inl (by omega))))
              have hd := h4.sum
              have hd2 : t.length + 1 ≤ 4000 := by have := Hlen.out; simp at hd; omega
              clear hd
              go_wp2
              go_roundw
              case rel => exact ⟨j + 1, t', by omega, by go_num, by rw [Hlen.out]; go_num, (fun e => by have := Hlen.out; rw [e] at this; simp at this), h4.mono (fun b hb => .inl hb), hB4.out⟩
              case measure => simp [intOf]; omega
            · have hn1 : r1 ≠ 0 := by simpa using hne
              go_wp2_with fail
              refine (c1.out _ hIb.out).mono ?_
              rintro e w4 ⟨rfl, h4, F4⟩
              have b4 := F4.blk (by exact hbx.out) (Or.inr rfl)
              have q0 := b4.cell 0
              have q1 := b4.cell 1
              have q3 := b4.cell 3
              have q4 := b4.cell 4
              simp at q0 q1 q3 q4
              have hB4 := hid (hBb.out.trans (F4.below (B := w.heap.size) (fun b hb => Or.inl (by omega))))
              go_wp2
              go_roundw
              case rel => exact ⟨j + 1, t', by omega, by go_num, rfl, Ht.out, h4.mono (fun b hb => .inl hb), hB4.out⟩
              case measure => simp [intOf]; omega
          by_cases k3 : k = 3
          · subst k3
            have hIb := hid (hI.with_ ((Upd.refl wr []).alloc (.cells #[.int .i64 3, .int .i64 a, .int .i64 b, .bool v.ref, .int .i64 v.n] 37)) (b0 := wr.heap.size) (Nat.le_refl _) (by simp))
            have hbx := hid (Blk.new wr 37 #[.int .i64 3, .int .i64 a, .int .i64 b, .bool v.ref, .int .i64 v.n])
            have hBb := hid (hB.alloc hB.size (.cells #[.int .i64 3, .int .i64 a, .int .i64 b, .bool v.ref, .int .i64 v.n] 37))
            clear hI hB
            obtain ⟨t', e1, hlen⟩ := sPut_cons m0 t v Ht.out
            have c1 := hid (fun W (hW : ImpP (fun b => b < w1.heap.size ∨ b = wr.heap.size) W w1.heap.size (m0 :: t)) => pPut hW v)
            rw [e1] at c1
            unfold V2.val at c1
            have Hlen := hid hlen
            clear hlen
            go_wp2_with fail
            refine (c1.out _ hIb.out).mono ?_
            rintro e w4 ⟨rfl, h4, F4⟩
            have b4 := F4.blk (by exact hbx.out) (Or.inr rfl)
            have q0 := b4.cell 0
            have q1 := b4.cell 1
            have q3 := b4.cell 3
            have q4 := b4.cell 4
            simp at q0 q1 q3 q4
            have hB4 := hid (hBb.out.trans (F4.below (B := w.heap.size) (fun b hb => Or.inl (by omega))))
            go_wp2
            go_roundw
            case rel => exact ⟨j + 1, t', by omega, by go_num, by rw [Hlen.out], (fun e => by have := Hlen.out; rw [e] at this; exact Ht.out (List.eq_nil_of_length_eq_zero (by simpa using this.symm))), h4.mono (fun b hb => .inl hb), hB4.out⟩
            case measure => simp [intOf]; omega
          by_cases k7 : k = 7
          · subst k7
            have hIb := hid (hI.with_ ((Upd.refl wr []).alloc (.cells #[.int .i64 7, .int .i64 a, .int .i64 b, .bool v.ref, .int .i64 v.n] 37)) (b0 := wr.heap.size) (Nat.le_refl _) (by simp))
            have hbx := hid (Blk.new wr 37 #[.int .i64 7, .int .i64 a, .int .i64 b, .bool v.ref, .int .i64 v.n])
            have hBb := hid (hB.alloc hB.size (.cells #[.int .i64 7, .int .i64 a, .int .i64 b, .bool v.ref, .int .i64 v.n] 37))
            clear hI hB
            obtain ⟨t', e1, hlen⟩ := sSet_cons m0 t a v Ht.out
            have c1 := hid (fun W (hW : ImpP (fun b => b < w1.heap.size ∨ b = wr.heap.size) W w1.heap.size (m0 :: t)) => pSet hW a v)
            rw [e1] at c1
            unfold V2.val at c1
            have Hlen := hid hlen
            clear hlen
            go_wp2_with fail
            refine (c1.out _ hIb.out).mono ?_
            rintro e w4 ⟨rfl, h4, F4⟩
            have b4 := F4.blk (by exact hbx.out) (Or.inr rfl)
            have q0 := b4.cell 0
            have q1 := b4.cell 1
            have q3 := b4.cell 3
            have q4 := b4.cell 4
            simp at q0 q1 q3 q4
            have hB4 := hid (hBb.out.trans (F4.below (B := w.heap.size) (fun b hb => Or.inl (by omega))))
            go_wp2
            go_roundw
            case rel => exact ⟨j + 1, t', by omega, by go_num, by rw [Hlen.out], (fun e => by have := Hlen.out; rw [e] at this; exact Ht.out (List.eq_nil_of_length_eq_zero (by simpa using this.symm))), h4.mono (fun b hb => .inl hb), hB4.out⟩
            case measure => simp [intOf]; omega
          have e1 : (k == 1) = false := by simpa using k1
          have e3 : (k == 3) = false := by simpa using k3
          have e7 : (k == 7) = false := by simpa using k7
          clear k1 k3 k7
          have hIb := hid (hI.with_ ((Upd.refl wr []).alloc (.cells #[.int .i64 k, .int .i64 a, .int .i64 b, .bool v.ref, .int .i64 v.n] 37)) (b0 := wr.heap.size) (Nat.le_refl _) (by simp))
          have hbx := hid (Blk.new wr 37 #[.int .i64 k, .int .i64 a, .int .i64 b, .bool v.ref, .int .i64 v.n])
          have hBb := hid (hB.alloc hB.size (.cells #[.int .i64 k, .int .i64 a, .int .i64 b, .bool v.ref, .int .i64 v.n] 37))
          clear hI hB
          go_wp2
          go_roundw
          case rel => exact ⟨j + 1, t, by omega, by go_num, rfl, Ht.out, hIb.out.mono (fun b hb => .inl hb), hBb.out⟩
          case measure => simp [intOf]; omega
        · obtain rfl : j = n := by omega
          obtain ⟨D, hD⟩ : ∃ D : Nat, D = t.length := ⟨_, rfl⟩
          have hD4 : D + 1 ≤ 4000 := by have := hI.sum; simp at this; omega
          rw [← hD]
          have HD := hid hD
          clear hD
          go_wp2_with fail
          go_loopw [17] (fun tk wr => ∃ (k : Nat) (t' : List M), k ≤ D ∧ tk = .int .i64 k ∧ t'.length = D - k ∧ ImpP (fun b => b < w1.heap.size) wr w1.heap.size (m0 :: t') ∧ Below w.heap.size w wr) (fun tk _ => D - (intOf tk).toNat)
          case atStart => exact ⟨0, t, by omega, rfl, by rw [HD.out]; rfl, hI, hB⟩
          case round =>
            clear hI hB
            obtain ⟨k, t', hk, rfl, hlen, hI, hB⟩ := hrel
            have Hlen := hid hlen
            clear hlen
            by_cases hlt : k < D
            · obtain ⟨t2, e1, hl2⟩ := sLeave_cons m0 t' (D - (k + 1)) (by rw [Hlen.out]; omega)
              have c1 := hid (pLeave hI)
              rw [e1] at c1
              have Hl2 := hid hl2
              clear hl2 e1
              go_wp2_with fail
              refine c1.out.mono ?_
              rintro e w4 ⟨rfl, h4, F4⟩
              have hB4 := hB.trans (F4.below (B := w.heap.size) (fun b hb => by omega))
              go_wp2
              go_roundw
              case rel => exact ⟨k + 1, t2, by omega, by go_num, Hl2.out, h4, hB4⟩
              case measure => simp [intOf]; omega
            · obtain rfl : k = D := by omega
              obtain rfl : t' = [] := List.eq_nil_of_length_eq_zero (by rw [Hlen.out]; omega)
              clear Hlen HD
              go_wp2_with fail
              go_loopw [18] (fun tk wr => ∃ (q : Nat), q ≤ i ∧ tk = .int .i64 q ∧ ImpP (fun b => b < w1.heap.size) wr w1.heap.size [m0] ∧ Below w.heap.size w wr) (fun tk _ => i - (intOf tk).toNat)
              case atStart => exact ⟨0, by omega, rfl, hI, hB⟩
              case round =>
                clear hI hB
                obtain ⟨q, hq, rfl, hI, hB⟩ := hrel
                by_cases hlt : q < l ∧ q < i
                · obtain ⟨hql, hqi⟩ := hlt
                  have hql' : (q : Int) < l := by omega
                  have hqi' : (q : Int) < i := by omega
                  obtain ⟨bk, off, rfl, hbk, x0, x1⟩ := HA.out q (by rw [← HN.out]; exact hqi)
                  have c1 := hid (pLocal hI q)
                  rw [← HB0.out] at c1
                  have e0 := sLocal_mJ vs l r i q hql (by rw [← HN.out]; exact hqi)
                  rw [← HN.out] at e0
                  rw [e0] at c1
                  clear e0
                  obtain ⟨v, hv⟩ : ∃ v : V2, v = vs.getD q zero2 := ⟨_, rfl⟩
                  rw [← hv] at x0 x1 c1
                  clear hv
                  unfold V2.val at c1
                  go_wp2_with fail
                  refine c1.out.mono ?_
                  rintro e w4 ⟨rfl, h4, F4⟩
                  rw [HB0.out] at h4
                  have hB4 := hB.trans (F4.below (B := w.heap.size) (fun b hb => by omega))
                  have z0 := (hB4.cell (p := ⟨bk, off + q * 2, none⟩) hbk).trans x0
                  have z1 := (hB4.cell (p := ⟨bk, off + q * 2 + 1, none⟩) hbk).trans x1
                  have hbk4 : bk < w4.heap.size := by have := hB4.size; omega
                  have hB5 := hid (hB4.alloc hB4.size (.cells #[.bool v.ref, .int .i64 v.n] 34))
                  have h5 := hid (h4.grow ((Upd.refl _ _).alloc (.cells #[.bool v.ref, .int .i64 v.n] 34)))
                  clear x0 x1 hI hB h4 hB4 F4 c1
                  go_wp2_with fail
                  go_region_with (go_at_call 16; refine (same_any v v _).mono ?_; rintro e w6 ⟨rfl, U6⟩)
                  all_goals
                    go_wp2
                    go_roundw
                    case rel => exact ⟨q + 1, by omega, by go_num, h5.out.grow (((Upd.refl _ _).drewN 1).trans U6), Below_upd (below_drewN hB5.out 1) U6⟩
                    case measure => simp [intOf]; omega
                · have hlt2 : ¬ ((q : Int) < l) ∨ ((q : Int) < l ∧ ¬ ((q : Int) < i)) := by omega
                  clear hlt
                  rw [← HB0.out, mJ_mT] at hI
                  generalize vs.take (min i l) ++ List.replicate (l - min i l) zero2 = locs at hI
                  rcases hlt2 with hlt3 | ⟨hlt3, hlt4⟩
                  all_goals
                    go_wp2_with fail
                    go_loopw [21] (fun tk wr => ∃ (p : Nat), p ≤ min i r ∧ tk = .int .i64 ((p : Int) - 1) ∧ ImpP (fun b => b < w1.heap.size) wr w1.heap.size [mT vs p locs r] ∧ Below w.heap.size w wr) (fun tk _ => (intOf tk + 1).toNat)
                    case atStart => exact ⟨min i r, Nat.le_refl _, rfl, hI, hB⟩
                    case round =>
                      clear hI hB
                      obtain ⟨p, hp, rfl, hI, hB⟩ := hrel
                      rcases p with _ | p
                      · have c1 := hid (pTake hI)
                        rw [sTake_none] at c1
                        unfold V2.val zero2 at c1
                        go_wp2_with fail
                        refine c1.out.mono ?_
                        rintro e w4 ⟨rfl, h4, F4⟩
                        have hB4 := hB.trans (F4.below (B := w.heap.size) (fun b hb => by omega))
                        have hB5 := hid (hB4.alloc hB4.size (.cells #[.bool false, .int .i64 0] 34))
                        have c2 := hid (pFrames (h4.grow ((Upd.refl _ _).alloc (.cells #[.bool false, .int .i64 0] 34))))
                        rw [show ([mT vs 0 locs r] : List M).length = 1 from rfl] at c2
                        clear hI hB h4 hB4 F4 c1
                        go_wp2_with fail
                        refine c2.out.mono ?_
                        rintro e w5 ⟨rfl, h6, F6⟩
                        have hB6 := hB5.out.trans (F6.below (B := w.heap.size) (fun b hb => by omega))
                        go_wp2
                        go_ret
                        exact ⟨rfl, hB6⟩
                      · have hpi : p < i := by omega
                        have ep : (((p + 1 : Nat) : Int) - 1) = p := by omega
                        rw [ep]
                        clear ep
                        obtain ⟨bk, off, rfl, hbk, x0, x1⟩ := HA.out p (by rw [← HN.out]; exact hpi)
                        have c1 := hid (pTake hI)
                        rw [sTake_mT vs p locs r (by rw [← HN.out]; exact hpi)] at c1
                        obtain ⟨v, hv⟩ : ∃ v : V2, v = vs.getD p zero2 := ⟨_, rfl⟩
                        rw [← hv] at x0 x1 c1
                        clear hv
                        unfold V2.val at c1
                        go_wp2_with fail
                        refine c1.out.mono ?_
                        rintro e w4 ⟨rfl, h4, F4⟩
                        have hB4 := hB.trans (F4.below (B := w.heap.size) (fun b hb => by omega))
                        have z0 := (hB4.cell (p := ⟨bk, off + p * 2, none⟩) hbk).trans x0
                        have z1 := (hB4.cell (p := ⟨bk, off + p * 2 + 1, none⟩) hbk).trans x1
                        have hbk4 : bk < w4.heap.size := by have := hB4.size; omega
                        have hB5 := hid (hB4.alloc hB4.size (.cells #[.bool v.ref, .int .i64 v.n] 34))
                        have h5 := hid (h4.grow ((Upd.refl _ _).alloc (.cells #[.bool v.ref, .int .i64 v.n] 34)))
                        clear x0 x1 hI hB h4 hB4 F4 c1
                        go_wp2_with fail
                        go_region_with (go_at_call 16; refine (same_any v v _).mono ?_; rintro e w6 ⟨rfl, U6⟩)
                        all_goals
                          go_wp2
                          go_roundw
                          case rel => exact ⟨p, by omega, rfl, h5.out.grow (((Upd.refl _ _).drewN 1).trans U6), Below_upd (below_drewN hB5.out 1) U6⟩
                          case measure => simp [intOf]
end Go.Proofs.Ytgdjhbnnkadjeaa
