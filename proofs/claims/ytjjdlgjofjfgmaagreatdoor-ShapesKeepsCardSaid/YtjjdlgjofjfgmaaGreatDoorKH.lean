/-
 The document's op and Cut, walked.
-/
import Derived.Test.YtjjdlgjofjfgmaaGreatDoorK1
import Derived.Test.YtjjdlgjofjfgmaaGreatDoorK6
import Derived.Test.YtjjdlgjofjfgmaaGreatDoorK7
import Derived.Test.YtjjdlgjofjfgmaaGreatDoorKF
import Derived.Test.YtjjdlgjofjfgmaaGreatDoorKG
set_option linter.unusedSimpArgs false
set_option linter.unusedVariables false
namespace Go.Proofs.YtjjdlgjofjfgmaaGreatDoor
open Go.RowKit Go.Sort
theorem opL_next {hd : List UInt8} {k : Nat} (h : opL hd k = 0) (hne : wordL k ≠ hd) : opL hd (k + 1) = 0 := by
 unfold opL
 rw [if_neg (fun hh => hne hh.2), h]
theorem opN_at {hd : List UInt8} {k : Nat} (h1 : 1 ≤ k) (h2 : k ≤ 40) (h : wordL k = hd) : opN hd = k := by
 rw [← h]
 exact opN_word ⟨k, by omega⟩ h1
def opRel2 (hd : List UInt8) (g : Nat) (w : World) (t : Value) (wr : World) : Prop :=
 ∃ k : Nat, t = .int .i64 k ∧ 1 ≤ k ∧ k ≤ 41 ∧ opL hd k = 0 ∧ Hid (Blk wr g 9 wordCells) ∧ Upd w wr []
set_option maxHeartbeats 4000000 in
set_option maxRecDepth 100000 in
theorem op_any (hd : List UInt8) (w : World) : Calls Tryz.prog 58 #[.string (bs hd)] w fun e w' => e = .returned (.int .i64 (opN hd)) ∧ Upd w w' [] := by
 have Hw := fun w => hid (words_any w)
 go_enter Tryz.func58, Tryz.ntmps58
 go_wp2_with fail
 refine (Hw _).out.mono ?_
 rintro e w1 ⟨rfl, hw1⟩
 have HB := hid (show Blk w1 w.heap.size 9 wordCells by rw [hw1]; exact Blk.new _ _ _)
 have HU := hid (show Upd w w1 [] by rw [hw1]; exact (Upd.refl _ _).alloc _)
 clear hw1
 go_wp2
 go_loopw [4] (fun t wr => opRel2 hd w.heap.size w t wr) (fun t _ => 41 - (intOf t).toNat)
 case atStart => exact ⟨1, rfl, by omega, by omega, rfl, HB, HU.out⟩
 case round =>
  obtain ⟨k, rfl, hk1, hk, hL, hB, hU⟩ := hrel
  have HUr := hid hU
  clear hU HB
  by_cases hlt : k < 41
  ·have hki : (k : Int) < 41 := by omega
   have hc := hB.out.cell k
   rw [show wordCells[k]? = some (.string (bs (wordL k))) from wordCells_at (k : Int) (by omega) (by omega)] at hc
   have hkey := bs_beq (wordL k) hd
   by_cases hw : wordL k = hd
   ·have Hop := hid (opN_at hk1 (by omega) hw)
    rw [decide_eq_true hw] at hkey
    generalize wordL k = wd at hc hkey
    clear hw hL
    go_wp2
    go_ret
    rw [Hop.out]
    exact ⟨rfl, HUr.out⟩
   ·have hL2 := hid (opL_next hL hw)
    rw [decide_eq_false hw] at hkey
    generalize wordL k = wd at hc hkey
    clear hw hL
    go_wp2
    go_roundw
    case rel => exact ⟨k + 1, by go_num, by omega, by omega, hL2.out, hB, HUr.out⟩
    case measure => simp [intOf]; omega
  ·obtain rfl : k = 41 := by omega
   have Hop := hid (show opN hd = 0 from hL)
   clear hL
   go_wp2
   go_ret
   rw [Hop.out]
   exact ⟨rfl, HUr.out⟩
end Go.Proofs.YtjjdlgjofjfgmaaGreatDoor
/-
 The document's Cut, walked.
-/
set_option linter.unusedSimpArgs false
set_option linter.unusedVariables false
namespace Go.Proofs.YtjjdlgjofjfgmaaGreatDoor
open Go.RowKit
set_option maxHeartbeats 2000000 in
set_option maxRecDepth 100000 in
theorem cutR_any (c : UInt8) (l : List UInt8) (w : World) (hl : l.length ≤ 100000000) : Calls Tryz.prog 57 #[.string (bs l), .int .u8 c.toNat] w (rowPost (splitL c l) w) := by
 have hs : (bs l).size = l.length := bs_size l
 obtain ⟨i0, hi0, hz0, hz1, hz2⟩ := info_parts infoString
 have Hs := hid hs
 have hs' : (bs l).size ≤ 100000000 := by omega
 clear hs
 go_enter Tryz.func57, Tryz.ntmps57
 go_wp2
 go_loopw [5, 6, 7] (fun v f i wr => cutInv c l w v f i wr) (fun _ _ i _ => (bs l).size - (intOf i).toNat)
 case atStart => exact ⟨[], 0, 0, rfl, rfl, hid (cutRel_start _ _), ⟨rfl, .inl ⟨rfl, rfl⟩⟩, by intro k hk; simp [Value.ob, Value.ownBlock] at hk, Upd.refl _ _⟩
 case round =>
  obtain ⟨ps, m, k, rfl, rfl, hr, hown, hv, hU⟩ := hrel
  have hmk : m ≤ k := hr.out.1
  have hk : k ≤ (bs l).size := by have := hr.out.2.1; rw [Hs.out]; exact this
  have hps : ps.length ≤ k := hr.out.2.2.2.2
  obtain ⟨A, cap, rfl, hcap⟩ := own_slice hown
  by_cases hlt : k < (bs l).size
  ·have hkl : k < l.length := by rw [← Hs.out]; exact hlt
   have hb := ((bs l)[k]'hlt).toNat_lt
   by_cases hc : l[k] = c
   ·have hr2 := hid (cutRel_cut hr.out hkl hc)
    have hq : ((((bs l)[k]'hlt).toNat : Int) == (c.toNat : Int)) = true := by rw [bs_get l k hlt, hc]; simp
    have he : (bs l).extract m k = bs ((l.drop m).take (k - m)) := bs_extract l m k
    have He := hid he
    clear hc he
    go_wp2_with (at_builtin; go_must (refine wpList_append_one _ rfl (.tmp 19) (.tmp 24) 22 rfl 9 i0 _ 1 16 Tryz.underlying22 hi0 hz0 hz1 hz2 rfl (by decide) (by decide) (.slice A ps.length cap) ps.length (ps.map strV) rfl (by exact hown.alloc _) (by omega) wr.heap.size 9 #[.string ((bs l).extract m k)] rfl (by exact Blk.new_at (by simp)) rfl rfl ?_); intro g' cap' w9 hown' hg' hat')
    have hU9 : Upd w w9 [] := (hU.alloc _).grown hg' (by intro q hq; right; exact hv _ (mem_ob.2 hq))
    have hown2 : w9.ownsRow 0 9 1 (.slice (some ⟨g', 0, none⟩) (ps.length + 1) cap') (ps ++ [(l.drop m).take (k - m)]).length ((ps ++ [(l.drop m).take (k - m)]).map strV) := by
     rw [List.length_append, List.map_append]
     rw [He.out] at hown'
     exact hown'
    have hv2 : ∀ q, q ∈ Value.ob (.slice (some ⟨g', 0, none⟩) (ps.length + 1) cap') → w.heap.size ≤ q := by
     intro q hq
     have := mem_ob.1 hq
     simp [Value.ownBlock] at this
     subst this
     rcases hat' with h | h
     ·exact hv _ (mem_ob.2 h)
     ·rw [h]; have := hU.size; simp; omega
    clear hown hown' hv hU hg' hat'
    go_wp2
    go_roundw
    case rel => exact ⟨_, k + 1, k + 1, by go_num, by go_num, hr2, by simpa using hown2, hv2, hU9⟩
    case measure => simp [intOf]; omega
   ·have hr2 := hid (cutRel_skip hr.out hkl hc)
    have hq : ((((bs l)[k]'hlt).toNat : Int) == (c.toNat : Int)) = false := by
     rw [bs_get l k hlt, beq_eq_false_iff_ne]
     intro h
     exact hc (UInt8.toNat_inj.1 (Int.ofNat.inj h))
    clear hc
    go_wp2
    go_roundw
    case rel => exact ⟨ps, m, k + 1, rfl, by go_num, hr2, hown, hv, hU⟩
    case measure => simp [intOf]; omega
  ·obtain rfl : k = (bs l).size := by omega
   have he := cutRel_end (by have := hr.out; rw [Hs.out] at this; exact this)
   have hx : (bs l).extract m (bs l).size = bs (l.drop m) := by
    rw [bs_extract, Hs.out, List.take_of_length_le (by simp)]
   have Hx := hid hx
   have He := hid he
   clear hx he
   go_wp2_with (at_builtin; go_must (refine wpList_append_one _ rfl (.tmp 28) (.tmp 32) 22 rfl 9 i0 _ 1 16 Tryz.underlying22 hi0 hz0 hz1 hz2 rfl (by decide) (by decide) (.slice A ps.length cap) ps.length (ps.map strV) rfl (by exact hown.alloc _) (by omega) wr.heap.size 9 #[.string ((bs l).extract m (bs l).size)] rfl (by exact Blk.new_at (by simp)) rfl rfl ?_); intro g' cap' w9 hown' hg' hat')
   go_ret
   have hlen : (splitL c l).length = ps.length + 1 := by rw [He.out]; simp
   refine ⟨g', cap', by rw [hlen]; rfl, ?_, ?_, (hU.alloc _).grown hg' (by intro q hq; right; exact hv _ (mem_ob.2 hq))⟩
   ·rw [hlen, He.out, List.map_append]
    rw [Hx.out] at hown'
    exact hown'
   ·rcases hat' with h | h
    ·exact hv _ (mem_ob.2 h)
    ·rw [h]; have := hU.size; simp; omega
end Go.Proofs.YtjjdlgjofjfgmaaGreatDoor
/-
 The document's Number, walked.
-/
set_option linter.unusedSimpArgs false
set_option linter.unusedVariables false
namespace Go.Proofs.YtjjdlgjofjfgmaaGreatDoor
open Go.RowKit Go.Sort
def foldD : Nat → List UInt8 → Option Nat
 | n, [] => some n
 | n, c :: t => if 48 ≤ c.toNat ∧ c.toNat ≤ 57 then foldD (n * 10 + (c.toNat - 48)) t else none
def numAt (l : List UInt8) : Nat := if l.head? = some 45 then 1 else 0
def numOut (l : List UInt8) : Int × Bool :=
 if l.length = numAt l ∨ numAt l + 10 < l.length then (0, false)
 else match foldD 0 (l.drop (numAt l)) with
  | none => (0, false)
  | some n => ((if numAt l = 1 then -(n : Int) else n), decide (Lib.itoa (if numAt l = 1 then -(n : Int) else n) = l))
theorem foldD_step {l : List UInt8} {k n : Nat} (hk : k < l.length) : foldD n (l.drop k) = if 48 ≤ (l[k]).toNat ∧ (l[k]).toNat ≤ 57 then foldD (n * 10 + ((l[k]).toNat - 48)) (l.drop (k + 1)) else none := by
 rw [List.drop_eq_getElem_cons hk]
 rfl
def numRel (l : List UInt8) (a : Nat) (w : World) (tn ti : Value) (wr : World) : Prop :=
 ∃ n k : Nat, tn = .int .i64 n ∧ ti = .int .i64 k ∧ a ≤ k ∧ k ≤ l.length ∧ n < 10 ^ (k - a) ∧ Hid (foldD 0 (l.drop a) = foldD n (l.drop k)) ∧ wr = w
set_option maxHeartbeats 4000000 in
set_option maxRecDepth 100000 in
theorem number_any (l : List UInt8) (w : World) (hl : l.length ≤ 4000000000) : Calls Tryz.prog 60 #[.string (bs l)] w fun e w' => e = .returned (.tuple #[.int .i64 (numOut l).1, .bool (numOut l).2]) ∧ Upd w w' [] := by
 have hs : (bs l).size = l.length := bs_size l
 have Hd := fun n w h0 h1 => hid (decimal_any n w h0 h1)
 obtain ⟨a, ha⟩ : ∃ a, numAt l = a := ⟨_, rfl⟩
 have hO : Hid (numOut l = if l.length = a ∨ a + 10 < l.length then (0, false) else match foldD 0 (l.drop a) with
  | none => (0, false)
  | some n => ((if a = 1 then -(n : Int) else n), decide (Lib.itoa (if a = 1 then -(n : Int) else n) = l))) := hid (by rw [← ha]; rfl)
 have ha1 : a ≤ 1 := by rw [← ha]; unfold numAt; split <;> omega
 generalize numOut l = O at hO ⊢
 have hsz : ((bs l).size : Int) = l.length := by rw [hs]
 have Hs := hid hs
 by_cases h0 : 0 < l.length
 ·have hlt0 : 0 < (bs l).size := by omega
  have h0i : (0 : Int) < l.length := by omega
  have hiff : a = 1 ↔ l[0] = 45 := by
   rw [← ha]
   unfold numAt
   rw [List.head?_eq_getElem?, List.getElem?_eq_getElem h0]
   by_cases hc : l[0] = 45
   ·simp [hc] <;> exact hc
   ·simp [hc] <;> exact hc
  have Hg0 := hid (show ((bs l)[0]'hlt0) = l[0] from bs_get l 0 hlt0)
  have Hiff := hid hiff
  clear hiff
  clear ha
  go_enter Tryz.func60, Tryz.ntmps60
  go_upto_if 14 with (fail)
  go_cut [4] (fun t wx => t = .int .i64 a ∧ wx = w)
  case first =>
   by_cases ha' : a = 1
   ·have hq : ((bs l)[0]'hlt0).toNat = 45 := by rw [Hg0.out, Hiff.out.1 ha']; rfl
    clear Hg0 Hiff
    have Ha := hid ha'
    clear ha'
    go_wp2
    go_meet
    exact ⟨by rw [Ha.out]; rfl, rfl⟩
   ·have hq : ((((bs l)[0]'hlt0).toNat : Int) == 45) = false := by
     rw [Hg0.out, beq_eq_false_iff_ne]
     intro h
     exact ha' (Hiff.out.2 (UInt8.toNat_inj.1 (Int.ofNat.inj h)))
    clear Hg0 Hiff
    have Ha := hid (show a = 0 by omega)
    clear ha'
    go_wp2
    go_meet
    exact ⟨by rw [Ha.out]; rfl, rfl⟩
  case rest =>
   obtain ⟨rfl, rfl⟩ := hcut
   clear Hg0 Hiff
   by_cases hA : l.length = a
   ·have HO2 : Hid (O = (0, false)) := hid (by rw [hO.out, if_pos (.inl hA)])
    have hAi : ((l.length : Int) == (a : Int)) = true := by rw [hA]; simp
    have hAn : (l.length == a) = true := by rw [hA]; simp
    clear hA
    go_wp2
    refine bodyPost_ret (v := .tuple #[.int .i64 0, .bool false]) (by simp [results, Tryz.results60, go_sem]) rfl ?_
    rw [HO2.out]
    exact ⟨rfl, Upd.refl _ _⟩
   ·have hAi : ((l.length : Int) == (a : Int)) = false := by rw [beq_eq_false_iff_ne]; omega
    have hAn : (l.length == a) = false := by rw [beq_eq_false_iff_ne]; exact hA
    have hw10 : wrap64 ((a : Int) + 10) = (a : Int) + 10 := by unfold wrap64; omega
    by_cases hB : a + 10 < l.length
    ·have HO2 : Hid (O = (0, false)) := hid (by rw [hO.out, if_pos (.inr hB)])
     have hBi : (a : Int) + 10 < l.length := by omega
     clear hA hB
     go_wp2
     refine bodyPost_ret (v := .tuple #[.int .i64 0, .bool false]) (by simp [results, Tryz.results60, go_sem]) rfl ?_
     rw [HO2.out]
     exact ⟨rfl, Upd.refl _ _⟩
    ·have HO2 : Hid (O = match foldD 0 (l.drop a) with
      | none => (0, false)
      | some n => ((if a = 1 then -(n : Int) else n), decide (Lib.itoa (if a = 1 then -(n : Int) else n) = l))) := hid (by rw [hO.out, if_neg (by omega)])
     have hBi : ¬ (a : Int) + 10 < l.length := by omega
     have HB := hid hB
     have HA := hid (show a ≤ l.length by omega)
     clear hA hB
     go_wp2
     go_loopw [5, 6] (fun tn ti wr => numRel l a wc tn ti wr) (fun _ ti _ => l.length - (intOf ti).toNat)
     case atStart => exact ⟨0, a, rfl, rfl, Nat.le_refl _, HA.out, by simp, hid rfl, rfl⟩
     case round =>
      obtain ⟨n, k, rfl, rfl, hak, hk, hn, hF, rfl⟩ := hrel
      have hn10 : n < 10000000000 := Nat.lt_of_lt_of_le hn (by
       have := Nat.pow_le_pow_right (n := 10) (by omega) (show k - a ≤ 10 by have := HB.out; omega)
       simpa using this)
      by_cases hlt : k < l.length
      ·have hlts : k < (bs l).size := by omega
       have hki : (k : Int) < l.length := by omega
       have hstep := foldD_step (n := n) hlt
       have hb := ((bs l)[k]'hlts).toNat_lt
       rw [show l[k] = ((bs l)[k]'hlts) from (bs_get l k hlts).symm] at hstep
       obtain ⟨cc, hcc⟩ : ∃ c, ((bs l)[k]'hlts).toNat = c := ⟨_, rfl⟩
       rw [hcc] at hstep hb
       by_cases hd : 48 ≤ cc ∧ cc ≤ 57
       ·rw [if_pos hd] at hstep
        have Hst := hid hstep
        have h1 : ¬ (cc : Int) < 48 := by omega
        have h2 : ¬ (57 : Int) < cc := by omega
        have HN := hid hn
        have HK := hid hak
        clear hn hak hstep
        go_wp2
        go_roundw
        case rel => exact ⟨n * 10 + (cc - 48), k + 1, by rw [show (((n * 10 + (cc - 48) : Nat)) : Int) = (n : Int) * 10 + ((cc : Int) - 48) by omega], by go_num, by have := HK.out; omega, by omega, by
         have h := HN.out
         have h3 := HK.out
         rw [show k + 1 - a = (k - a) + 1 by omega, Nat.pow_succ]
         omega, hid (hF.out.trans Hst.out), rfl⟩
        case measure => simp [intOf]; omega
       ·rw [if_neg hd] at hstep
        have HO3 : Hid (O = (0, false)) := hid (by rw [HO2.out, hF.out, hstep])
        by_cases h1 : cc < 48
        ·have h1i : (cc : Int) < 48 := by omega
         clear hd hstep hn hak HO2
         go_wp2
         refine bodyPost_ret (v := .tuple #[.int .i64 0, .bool false]) (by simp [results, Tryz.results60, go_sem]) rfl ?_
         rw [HO3.out]
         exact ⟨rfl, Upd.refl _ _⟩
        ·have h1i : ¬ (cc : Int) < 48 := by omega
         have h2 : (57 : Int) < cc := by omega
         clear hd hstep hn hak HO2
         go_wp2
         refine bodyPost_ret (v := .tuple #[.int .i64 0, .bool false]) (by simp [results, Tryz.results60, go_sem]) rfl ?_
         rw [HO3.out]
         exact ⟨rfl, Upd.refl _ _⟩
      ·obtain rfl : k = l.length := by omega
       have hF2 := hF.out
       rw [List.drop_length] at hF2
       have HO3 : Hid (O = ((if a = 1 then -(n : Int) else n), decide (Lib.itoa (if a = 1 then -(n : Int) else n) = l))) := hid (by rw [HO2.out, hF2]; rfl)
       clear hF hF2 HO2 hn hak
       by_cases ha2 : a = 1
       ·have HO4 : Hid (O = (-(n : Int), decide (Lib.itoa (-(n : Int)) = l))) := hid (by rw [HO3.out, if_pos ha2])
        have Hd2 := fun w => Hd (-(n : Int)) w (by omega) (by omega)
        have hkey := bs_beq (Lib.itoa (-(n : Int))) l
        generalize Lib.itoa (-(n : Int)) = tt at HO4 Hd2 hkey
        clear HO3 Hd
        have hneg : wrap64 (-(n : Int)) = -(n : Int) := by unfold wrap64; omega
        have hai : (a : Int) = 1 := by omega
        clear ha2
        go_wp2_with fail
        refine (Hd2 _).out.mono ?_
        rintro e w2 ⟨rfl, hU⟩
        go_wp2
        refine bodyPost_ret (v := .tuple #[.int .i64 (-(n : Int)), .bool (decide (tt = l))]) (by simp [results, Tryz.results60, go_sem]) rfl ?_
        rw [HO4.out]
        exact ⟨rfl, hU⟩
       ·have HO4 : Hid (O = ((n : Int), decide (Lib.itoa ((n : Int)) = l))) := hid (by rw [HO3.out, if_neg ha2])
        have Hd2 := fun w => Hd ((n : Int)) w (by omega) (by omega)
        have hkey := bs_beq (Lib.itoa ((n : Int))) l
        generalize Lib.itoa ((n : Int)) = tt at HO4 Hd2 hkey
        clear HO3 Hd
        have hai : (a : Int) = 0 := by omega
        clear ha2
        go_wp2_with fail
        refine (Hd2 _).out.mono ?_
        rintro e w2 ⟨rfl, hU⟩
        go_wp2
        refine bodyPost_ret (v := .tuple #[.int .i64 ((n : Int)), .bool (decide (tt = l))]) (by simp [results, Tryz.results60, go_sem]) rfl ?_
        rw [HO4.out]
        exact ⟨rfl, hU⟩
 ·obtain rfl : l = [] := List.length_eq_zero_iff.1 (by omega)
  obtain rfl : a = 0 := by rw [← ha]; rfl
  have HO2 : Hid (O = (0, false)) := hid (by rw [hO.out]; rfl)
  have hs0 : (bs []).size = 0 := rfl
  clear ha hO Hs hsz hs h0
  go_enter Tryz.func60, Tryz.ntmps60
  go_wp2
  refine bodyPost_ret (v := .tuple #[.int .i64 0, .bool false]) (by simp [results, Tryz.results60, go_sem]) rfl ?_
  rw [HO2.out]
  exact ⟨rfl, Upd.refl _ _⟩
end Go.Proofs.YtjjdlgjofjfgmaaGreatDoor
/-
 The document's ParseRefText, walked.
-/
set_option linter.unusedSimpArgs false
set_option linter.unusedVariables false
namespace Go.Proofs.YtjjdlgjofjfgmaaGreatDoor
open Go.RowKit Go.Sort
def idxP (p : UInt8 → Bool) : List UInt8 → Nat
 | [] => 0
 | c :: t => if p c then 0 else idxP p t + 1
theorem idxP_step {p : UInt8 → Bool} {l : List UInt8} {k : Nat} (hk : k < l.length) : k + idxP p (l.drop k) = if p l[k] then k else (k + 1) + idxP p (l.drop (k + 1)) := by
 rw [List.drop_eq_getElem_cons hk]
 show k + (if p l[k] then 0 else idxP p (l.drop (k + 1)) + 1) = _
 split <;> omega
theorem idxP_le (p : UInt8 → Bool) : ∀ l : List UInt8, idxP p l ≤ l.length
 | [] => Nat.le_refl _
 | c :: t => by
  have := idxP_le p t
  unfold idxP
  split <;> simp <;> omega
theorem idxP_get (p : UInt8 → Bool) : ∀ (l : List UInt8) (h : idxP p l < l.length), p (l[idxP p l]) = true
 | [], h => by simp at h
 | c :: t, h => by
  by_cases hc : p c = true
  ·have e : idxP p (c :: t) = 0 := by unfold idxP; rw [if_pos hc]
   simp only [e, List.getElem_cons_zero]
   exact hc
  ·have e : idxP p (c :: t) = idxP p t + 1 := by
    show (if p c then 0 else idxP p t + 1) = _
    rw [if_neg hc]
   simp only [e, List.getElem_cons_succ]
   exact idxP_get p t (by rw [e] at h; simpa using h)
def isMark (c : UInt8) : Bool := c == 46 || c == 58
def markL (l : List UInt8) : Nat := idxP isMark l
def openL (l : List UInt8) : Nat := markL l + idxP (· == 40) (l.drop (markL l))
theorem mark_open {l : List UInt8} (h : openL l < l.length) : markL l + 1 ≤ openL l := by
 have h1 : markL l ≤ openL l := by unfold openL; omega
 have h2 : isMark (l[markL l]'(by omega)) = true := idxP_get isMark l (by show markL l < l.length; omega)
 have h3 := idxP_get (· == 40) (l.drop (markL l)) (by have := h; unfold openL at this; rw [List.length_drop]; omega)
 rcases Nat.lt_or_ge (markL l) (openL l) with h4 | h4
 ·exact h4
 ·have h5 : idxP (· == 40) (l.drop (markL l)) = 0 := by unfold openL at h4; omega
  simp only [h5, List.getElem_drop, Nat.add_zero, beq_iff_eq] at h3
  rw [h3] at h2
  exact absurd h2 (by decide)
def docRef (l : List UInt8) : RefL := ⟨decide (l[markL l]? = some 58), l.take (markL l), (l.drop (markL l + 1)).take (openL l - (markL l + 1)), l.drop (openL l)⟩
def docRefOut (l : List UInt8) : RefL × Int := if openL l < l.length then (if (docRef l).ok then (docRef l, 0) else (noRefL, 4)) else (noRefL, 4)
def idxRel (p : UInt8 → Bool) (m : Nat) (l : List UInt8) (w : World) (t : Value) (wr : World) : Prop :=
 ∃ k : Nat, t = .int .i64 k ∧ k ≤ l.length ∧ Hid (m = k + idxP p (l.drop k)) ∧ wr = w
set_option maxHeartbeats 4000000 in
set_option maxRecDepth 100000 in
theorem parseRefTextR_any (l : List UInt8) (w : World) (hl : l.length ≤ 4000000000) : Calls Tryz.prog 22 #[.string (bs l)] w fun e w' => e = .returned (.tuple #[(docRefOut l).1.v, .int .i64 (docRefOut l).2]) ∧ Upd w w' [] := by
 have hs : (bs l).size = l.length := bs_size l
 obtain ⟨m, hm⟩ : ∃ m, markL l = m := ⟨_, rfl⟩
 have hml : m ≤ l.length := by rw [← hm]; exact idxP_le _ _
 have hm0 : Hid (m = 0 + idxP isMark (l.drop 0)) := hid (by rw [← hm]; simp [markL])
 have Hs := hid hs
 have Hm := hid hm
 have Hml := hid hml
 clear hm hml
 have HU0 := hid (((Upd.refl w [])).alloc (.cells #[.bool false, .string ⟨#[]⟩, .string ⟨#[]⟩, .string ⟨#[]⟩] 39))
 have HB0 := hid (Blk.new w 39 #[.bool false, .string ⟨#[]⟩, .string ⟨#[]⟩, .string ⟨#[]⟩])
 go_enter Tryz.func22, Tryz.ntmps22
 go_upto_block 0 with (fail)
 go_cut [4] (fun t wx => t = .int .i64 m ∧ wx = w.alloc (.cells #[.bool false, .string ⟨#[]⟩, .string ⟨#[]⟩, .string ⟨#[]⟩] 39))
 case first =>
  go_wp2
  go_loopw [4] (fun t wr => idxRel isMark m l (w.alloc (.cells #[.bool false, .string ⟨#[]⟩, .string ⟨#[]⟩, .string ⟨#[]⟩] 39)) t wr) (fun t _ => l.length - (intOf t).toNat)
  case atStart => exact ⟨0, rfl, by omega, hm0, rfl⟩
  case round =>
   obtain ⟨k, rfl, hk, hI, rfl⟩ := hrel
   by_cases hlt : k < l.length
   ·have hlts : k < (bs l).size := by omega
    have hki : (k : Int) < l.length := by omega
    have hstep := idxP_step (p := isMark) hlt
    rw [show l[k] = ((bs l)[k]'hlts) from (bs_get l k hlts).symm] at hstep
    obtain ⟨cc, hcc⟩ : ∃ c, ((bs l)[k]'hlts) = c := ⟨_, rfl⟩
    rw [hcc] at hstep
    have Hst := hid hstep
    have Hcc := hid hcc
    by_cases h1 : cc = 46
    ·have hq : ((bs l)[k]'hlts).toNat = 46 := by rw [Hcc.out, h1]; rfl
     have Hk := hid (show m = k by rw [hI.out, Hst.out, h1]; rfl)
     clear hstep hcc h1
     go_wp2
     go_meet
     exact ⟨by rw [Hk.out], rfl⟩
    ·by_cases h2 : cc = 58
     ·have hq : ((bs l)[k]'hlts).toNat = 58 := by rw [Hcc.out, h2]; rfl
      have Hk := hid (show m = k by rw [hI.out, Hst.out, h2]; rfl)
      clear hstep hcc h1 h2
      go_wp2
      go_meet
      exact ⟨by rw [Hk.out], rfl⟩
     ·have hq1 : ¬ ((bs l)[k]'hlts).toNat = 46 := by
       rw [Hcc.out]
       intro h
       exact h1 (UInt8.toNat_inj.1 h)
      have hq2 : ¬ ((bs l)[k]'hlts).toNat = 58 := by
       rw [Hcc.out]
       intro h
       exact h2 (UInt8.toNat_inj.1 h)
      have hx1 : ((((bs l)[k]'hlts).toNat : Int) != 46) = true := bne_iff_ne.2 (by omega)
      have hx2 : ((((bs l)[k]'hlts).toNat : Int) != 58) = true := bne_iff_ne.2 (by omega)
      have hi1 : ¬ (((bs l)[k]'hlts).toNat : Int) = 46 := by omega
      have hi2 : ¬ (((bs l)[k]'hlts).toNat : Int) = 58 := by omega
      clear hq1 hq2
      have Hk := hid (show m = (k + 1) + idxP isMark (l.drop (k + 1)) by
       rw [hI.out, Hst.out, if_neg (by simp [isMark, h1, h2])])
      clear hstep hcc h1 h2
      go_wp2
      go_roundw
      case rel => exact ⟨k + 1, by go_num, by omega, Hk, rfl⟩
      case measure => simp [intOf]; omega
   ·obtain rfl : k = l.length := by omega
    have Hk := hid (show m = l.length by rw [hI.out, List.drop_length]; rfl)
    go_wp2
    go_meet
    exact ⟨by rw [Hk.out], rfl⟩
 case rest =>
  obtain ⟨rfl, rfl⟩ := hcut
  generalize w.alloc _ = w1 at HU0 HB0 ⊢
  obtain ⟨o, ho⟩ : ∃ o, openL l = o := ⟨_, rfl⟩
  have ho0 : Hid (o = m + idxP (· == 40) (l.drop m)) := hid (by rw [← ho, ← Hm.out]; rfl)
  have Ho := hid ho
  clear ho
  go_upto_block 2 with (fail)
  go_cut [5] (fun t wx => t = .int .i64 o ∧ wx = w1)
  case first =>
   go_wp2
   go_loopw [5] (fun t wr => idxRel (· == 40) o l w1 t wr) (fun t _ => l.length - (intOf t).toNat)
   case atStart => exact ⟨m, rfl, Hml.out, ho0, rfl⟩
   case round =>
    obtain ⟨k, rfl, hk, hI, rfl⟩ := hrel
    by_cases hlt : k < l.length
    ·have hlts : k < (bs l).size := by omega
     have hki : (k : Int) < l.length := by omega
     have hstep := idxP_step (p := (· == 40)) hlt
     rw [show l[k] = ((bs l)[k]'hlts) from (bs_get l k hlts).symm] at hstep
     obtain ⟨cc, hcc⟩ : ∃ c, ((bs l)[k]'hlts) = c := ⟨_, rfl⟩
     rw [hcc] at hstep
     have Hst := hid hstep
     have Hcc := hid hcc
     by_cases h1 : cc = 40
     ·have hq : ((bs l)[k]'hlts).toNat = 40 := by rw [Hcc.out, h1]; rfl
      have Hk := hid (show o = k by rw [hI.out, Hst.out, h1]; rfl)
      clear hstep hcc h1
      go_wp2
      go_meet
      exact ⟨by rw [Hk.out], rfl⟩
     ·have hq1 : ¬ ((bs l)[k]'hlts).toNat = 40 := by
       rw [Hcc.out]
       intro h
       exact h1 (UInt8.toNat_inj.1 h)
      have hx1 : ((((bs l)[k]'hlts).toNat : Int) != 40) = true := bne_iff_ne.2 (by omega)
      have hi1 : ¬ (((bs l)[k]'hlts).toNat : Int) = 40 := by omega
      clear hq1
      have Hk := hid (show o = (k + 1) + idxP (· == 40) (l.drop (k + 1)) by
       rw [hI.out, Hst.out, if_neg (by simp [h1])])
      clear hstep hcc h1
      go_wp2
      go_roundw
      case rel => exact ⟨k + 1, by go_num, by omega, Hk, rfl⟩
      case measure => simp [intOf]; omega
    ·obtain rfl : k = l.length := by omega
     have Hk := hid (show o = l.length by rw [hI.out, List.drop_length]; rfl)
     go_wp2
     go_meet
     exact ⟨by rw [Hk.out], rfl⟩
  case rest =>
   obtain ⟨rfl, hwc⟩ := hcut
   subst hwc
   by_cases hol : o < l.length
   ·have hoi : ¬ (l.length : Int) ≤ (o : Int) := by omega
    have hmo : m + 1 ≤ o := by
     have := mark_open (l := l) (by rw [Ho.out]; exact hol)
     rw [Ho.out, Hm.out] at this
     exact this
    have hms : m < (bs l).size := by omega
    have HO := hid (show docRefOut l = if (docRef l).ok then (docRef l, 0) else (noRefL, 4) by unfold docRefOut; rw [Ho.out, if_pos hol])
    have HD := hid (show docRef l = ⟨decide (l[m]? = some 58), l.take m, (l.drop (m + 1)).take (o - (m + 1)), l.drop o⟩ by unfold docRef; rw [Ho.out, Hm.out])
    have hb : ((((bs l)[m]'hms).toNat : Int) == 58) = decide (l[m]? = some 58) := by
     obtain ⟨c, hc1, hc2⟩ : ∃ c, ((bs l)[m]'hms) = c ∧ l[m]? = some c := ⟨_, bs_get l m hms, List.getElem?_eq_getElem (by omega)⟩
     rw [hc1, hc2]
     by_cases hc : c = 58
     ·subst hc
      rw [decide_eq_true rfl]
      rfl
     ·rw [decide_eq_false (fun h => hc (Option.some.inj h)), beq_eq_false_iff_ne]
      intro h
      exact hc (UInt8.toNat_inj.1 (Int.ofNat.inj h))
    have hfit : (RefL.mk (decide (l[m]? = some 58)) (l.take m) ((l.drop (m + 1)).take (o - (m + 1))) (l.drop o)).fit := by
     unfold RefL.fit
     simp only [List.length_take, List.length_drop]
     omega
    have e1 : (bs l).extract 0 m = bs (l.take m) := by rw [bs_extract, Nat.sub_zero, List.drop_zero]
    have e2 : (bs l).extract (m + 1) o = bs ((l.drop (m + 1)).take (o - (m + 1))) := bs_extract l _ _
    have e3 : (bs l).extract o l.length = bs (l.drop o) := by rw [bs_extract, List.take_of_length_le (by simp)]
    generalize decide (l[m]? = some 58) = ifc at hb HD hfit
    generalize l.take m = cls at e1 HD hfit
    generalize (l.drop (m + 1)).take (o - (m + 1)) = nm at e2 HD hfit
    generalize l.drop o = ds at e3 HD hfit
    have hq1 : (o : Int) ≤ l.length := by omega
    have hq2 : o ≤ l.length := by omega
    have hq4 : ((m : Int) + 1).toNat = m + 1 := by omega
    have hq6 : (0 : Int) ≤ (m : Int) + 1 := by omega
    have hq8 : (m : Int) + 1 ≤ (o : Int) := by omega
    have hqa : (m : Int) < l.length := by omega
    have hqb : (m : Int) ≤ l.length := by omega
    have hqc : m ≤ l.length := by omega
    have hw1 : wrap64 ((m : Int) + 1) = (m : Int) + 1 := by unfold wrap64; omega
    go_wp2
    go_big_region
    have Hck := fun w => hid (refCheckR_any ⟨ifc, cls, nm, ds⟩ w hfit)
    unfold refPost at Hck
    unfold RefL.v at Hck
    simp only at Hck
    obtain ⟨ok, hok⟩ : ∃ b, (RefL.mk ifc cls nm ds).ok = b := ⟨_, rfl⟩
    rw [hok] at Hck
    have HO1 : Hid (docRefOut l = if ok then (⟨ifc, cls, nm, ds⟩, 0) else (noRefL, 4)) := hid (by rw [HO.out, HD.out, hok])
    have hzw : w.heap.size < wc.heap.size := HB0.out.lt
    have hV3 : Upd w ((wc.alloc (.cells #[.bool ifc, .string (bs cls), .string (bs nm), .string (bs ds)] 39)).drew) [] := (HU0.out.alloc _).drew
    have hn3 : Blk ((wc.alloc (.cells #[.bool ifc, .string (bs cls), .string (bs nm), .string (bs ds)] 39)).drew) wc.heap.size 39 #[.bool ifc, .string (bs cls), .string (bs nm), .string (bs ds)] := Blk.new _ _ _
    have hr3 : Blk ((wc.alloc (.cells #[.bool ifc, .string (bs cls), .string (bs nm), .string (bs ds)] 39)).drew) w.heap.size 39 #[.bool false, .string ⟨#[]⟩, .string ⟨#[]⟩, .string ⟨#[]⟩] := HB0.out.alloc _
    clear e1 e2 e3 hq1 hq2 hq4 hq6 hq8 hqb hqc hw1 HO HD hfit hok
    revert hV3 hn3 hr3
    generalize (wc.alloc (.cells #[.bool ifc, .string (bs cls), .string (bs nm), .string (bs ds)] 39)).drew = w3
    intro hV3 hn3 hr3
    have HV3 := hid hV3
    have HN3 := hid hn3
    have HR3 := hid hr3
    clear hV3 hn3 hr3
    have y0 := HN3.out.cell 0
    have y1 := HN3.out.cell 1
    have y2 := HN3.out.cell 2
    have y3 := HN3.out.cell 3
    simp at y0 y1 y2 y3
    go_wp2_with fail
    refine (Hck _).out.mono ?_
    rintro e w4 ⟨rfl, hU⟩
    have HV4 := hid (HV3.out.trans hU)
    have HN5 := hid (hU.blk HN3.out (by simp))
    have HR5 := hid (hU.blk HR3.out (by simp))
    clear hU y0 y1 y2 y3
    have y0 := HN5.out.cell 0
    have y1 := HN5.out.cell 1
    have y2 := HN5.out.cell 2
    have y3 := HN5.out.cell 3
    have z0 := HR5.out.cell 0
    have z1 := HR5.out.cell 1
    have z2 := HR5.out.cell 2
    have z3 := HR5.out.cell 3
    have f0 := HR5.out.frozen 0
    have f1 := HR5.out.frozen 1
    have f2 := HR5.out.frozen 2
    have f3 := HR5.out.frozen 3
    simp at y0 y1 y2 y3 z0 z1 z2 z3
    have hne : ¬ w.heap.size = wc.heap.size := by omega
    cases ok with
    | false =>
     simp only [errIf]
     have HO2 : Hid (docRefOut l = (noRefL, 4)) := hid (by rw [HO1.out]; rfl)
     have hfin := hid (((((HR5.out.set_ 0 (.bool false)).set_ 1 (.string ⟨#[]⟩)).set_ 2 (.string ⟨#[]⟩)).set_ 3 (.string ⟨#[]⟩)))
     have HUF := hid (((((HV4.out.setCell (p := ⟨w.heap.size, 0, none⟩) (.inr (Nat.le_refl _)) (.bool false)).setCell (p := ⟨w.heap.size, 1, none⟩) (.inr (Nat.le_refl _)) (.string ⟨#[]⟩)).setCell (p := ⟨w.heap.size, 2, none⟩) (.inr (Nat.le_refl _)) (.string ⟨#[]⟩)).setCell (p := ⟨w.heap.size, 3, none⟩) (.inr (Nat.le_refl _)) (.string ⟨#[]⟩)))
     go_wp2
     have g0 := hfin.out.cell 0
     have g1 := hfin.out.cell 1
     have g2 := hfin.out.cell 2
     have g3 := hfin.out.cell 3
     simp at g0 g1 g2 g3
     refine bodyPost_ret (v := .tuple #[.agg #[.bool false, .string ⟨#[]⟩, .string ⟨#[]⟩, .string ⟨#[]⟩], .int .i64 4]) (by simp [results, Tryz.results22, go_sem, g0, g1, g2, g3]) rfl ?_
     rw [HO2.out]
     exact ⟨rfl, HUF.out⟩
    | true =>
     simp only [errIf, if_true]
     have HO2 : Hid (docRefOut l = (⟨ifc, cls, nm, ds⟩, 0)) := hid (by rw [HO1.out]; rfl)
     have hfin := hid (((((HR5.out.set_ 0 (.bool ifc)).set_ 1 (.string (bs cls))).set_ 2 (.string (bs nm))).set_ 3 (.string (bs ds))))
     have HUF := hid (((((HV4.out.setCell (p := ⟨w.heap.size, 0, none⟩) (.inr (Nat.le_refl _)) (.bool ifc)).setCell (p := ⟨w.heap.size, 1, none⟩) (.inr (Nat.le_refl _)) (.string (bs cls))).setCell (p := ⟨w.heap.size, 2, none⟩) (.inr (Nat.le_refl _)) (.string (bs nm))).setCell (p := ⟨w.heap.size, 3, none⟩) (.inr (Nat.le_refl _)) (.string (bs ds))))
     go_wp2
     have g0 := hfin.out.cell 0
     have g1 := hfin.out.cell 1
     have g2 := hfin.out.cell 2
     have g3 := hfin.out.cell 3
     simp at g0 g1 g2 g3
     refine bodyPost_ret (v := .tuple #[.agg #[.bool ifc, .string (bs cls), .string (bs nm), .string (bs ds)], .int .i64 0]) (by simp [results, Tryz.results22, go_sem, g0, g1, g2, g3]) rfl ?_
     rw [HO2.out]
     exact ⟨rfl, HUF.out⟩
   ·have hoi : (l.length : Int) ≤ (o : Int) := by omega
    have HO := hid (show docRefOut l = (noRefL, 4) by unfold docRefOut; rw [Ho.out, if_neg hol])
    have z0 := HB0.out.cell 0
    have z1 := HB0.out.cell 1
    have z2 := HB0.out.cell 2
    have z3 := HB0.out.cell 3
    have f0 := HB0.out.frozen 0
    have f1 := HB0.out.frozen 1
    have f2 := HB0.out.frozen 2
    have f3 := HB0.out.frozen 3
    simp at z0 z1 z2 z3
    have hfin := hid ((((HB0.out.set_ 0 (.bool false)).set_ 1 (.string ⟨#[]⟩)).set_ 2 (.string ⟨#[]⟩)).set_ 3 (.string ⟨#[]⟩))
    have HUF := hid ((((HU0.out.setCell (p := ⟨w.heap.size, 0, none⟩) (.inr (Nat.le_refl _)) (.bool false)).setCell (p := ⟨w.heap.size, 1, none⟩) (.inr (Nat.le_refl _)) (.string ⟨#[]⟩)).setCell (p := ⟨w.heap.size, 2, none⟩) (.inr (Nat.le_refl _)) (.string ⟨#[]⟩)).setCell (p := ⟨w.heap.size, 3, none⟩) (.inr (Nat.le_refl _)) (.string ⟨#[]⟩))
    clear hol
    go_wp2
    have g0 := hfin.out.cell 0
    have g1 := hfin.out.cell 1
    have g2 := hfin.out.cell 2
    have g3 := hfin.out.cell 3
    simp at g0 g1 g2 g3
    refine bodyPost_ret (v := .tuple #[.agg #[.bool false, .string ⟨#[]⟩, .string ⟨#[]⟩, .string ⟨#[]⟩], .int .i64 4]) (by simp [results, Tryz.results22, go_sem, g0, g1, g2, g3]) rfl ?_
    rw [HO.out]
    exact ⟨rfl, HUF.out⟩
end Go.Proofs.YtjjdlgjofjfgmaaGreatDoor
