/-
 The document's Args, Words, Find, method, walked.
-/
import Derived.Test.YtjjdlgjofjfgmaaGreatDoorK4
import Derived.Test.YtjjdlgjofjfgmaaGreatDoorK8
import Derived.Test.YtjjdlgjofjfgmaaGreatDoorKA
import Derived.Test.YtjjdlgjofjfgmaaGreatDoorKD
import Derived.Test.YtjjdlgjofjfgmaaGreatDoorKT
set_option linter.unusedSimpArgs false
set_option linter.unusedVariables false
namespace Go.Proofs.YtjjdlgjofjfgmaaGreatDoor
open Go.RowKit
set_option maxHeartbeats 1000000 in
theorem argsR_any (ds : List UInt8) (w : World) (hd : ds.length ≤ 9223372036854775807) :
  Calls Tryz.prog 39 #[.string (bs ds)] w fun e w' => e = .returned (.tuple #[.int .i64 (descL ds).1, .int .i64 (descL ds).2]) ∧ Upd w w' [] := by
 have Hb := hid (parseDescR_any ds w (by omega))
 generalize descL ds = q at Hb ⊢
 obtain ⟨qn, qe⟩ := q
 simp only
 go_enter Tryz.func39, Tryz.ntmps39
 go_wp2_with fail
 refine Hb.out.mono ?_
 rintro e w2 ⟨⟨A, cap, vd, d, nm', rfl⟩, hU3⟩
 go_wp2
 go_ret2
 exact ⟨rfl, hU3.alloc _⟩
set_option maxHeartbeats 1000000 in
theorem wordsR_any (m : MethL) (w : World) (hd : m.ds.length ≤ 9223372036854775807) (hn : (descL m.ds).1 ≤ 1000000) :
  Calls Tryz.prog 14 #[m.v] w fun e w' => e = .returned (.tuple #[.int .i64 (wordsL m.ds m.fl).1, .int .i64 (wordsL m.ds m.fl).2]) ∧ Upd w w' [] := by
 obtain ⟨mn, ds, fl, lo, st, A, cap, code⟩ := m
 have Hb := fun w => hid (argsR_any ds w (by exact hd))
 unfold MethL.v MethL.cells wordsL
 simp only at hd hn ⊢
 generalize descL ds = q at Hb hn ⊢
 obtain ⟨qn, qe⟩ := q
 have hU : Upd w (w.alloc (.cells #[.string (bs mn), .string (bs ds), .int .i64 fl, .int .i64 lo, .int .i64 st, .slice A code.length cap] 34)) [] := (Upd.refl _ _).alloc _
 simp only at hn Hb ⊢
 have hw1 : wrap64 ((qn : Int) + 1) = (qn : Int) + 1 := by unfold wrap64; omega
 by_cases he : qe = 0
 ·subst he
  obtain ⟨b, hb⟩ : ∃ b, (bits BinOp.and IntKind.i64 fl 8 != 0) = b := ⟨_, rfl⟩
  have hb2 : (bits BinOp.and IntKind.i64 fl 8 == 0) = !b := by rw [← hb]; simp [bne]
  rw [hb2]
  clear hb2
  cases b
  all_goals
   go_enter Tryz.func14, Tryz.ntmps14
   go_wp2_with fail
   refine (Hb _).out.mono ?_
   rintro e w1 ⟨rfl, hU1⟩
   obtain ⟨hc1, hf1, hz1⟩ := hU1.cells
   have hz1' : w.heap.size < w1.heap.size := by simp at hz1; omega
   go_wp2
   refine bodyPost_ret (v := .tuple #[.int .i64 _, .int .i64 _]) (by simp [results, Tryz.results14, go_sem]; exact ⟨rfl, rfl⟩) rfl ⟨by simp, hU.trans hU1⟩
 ·have heb : (qe == 0) = false := by simpa using he
  go_enter Tryz.func14, Tryz.ntmps14
  go_wp2_with fail
  refine (Hb _).out.mono ?_
  rintro e w1 ⟨rfl, hU1⟩
  go_wp2
  refine bodyPost_ret (v := .tuple #[.int .i64 0, .int .i64 1]) (by simp [results, Tryz.results14, go_sem]) rfl ⟨by simp [he], hU.trans hU1⟩
set_option maxHeartbeats 4000000 in
set_option maxRecDepth 100000 in
theorem findR_any (c : ClassL) (nm ds : List UInt8) (w : World) (hA : MethsAt w c.AM c.ms) (hl : c.ms.length ≤ 2000000000000) (hcap : c.ms.length ≤ c.cM) :
  Calls Tryz.prog 12 #[c.v, .string (bs nm), .string (bs ds)] w fun e w' => e = .returned (.int .i64 (findL nm ds c.ms 0)) ∧ Upd w w' [] := by
 obtain ⟨cn, cs, AI, cI, ifs, fl, ld, A, cap, l⟩ := c
 unfold ClassL.v ClassL.cells
 simp only at hA hl hcap ⊢
 have hU0 : Upd w (w.alloc (.cells #[.string (bs cn), .string (bs cs), .slice AI ifs.length cI, .int .i64 fl, .int .i64 ld, .slice A l.length cap] 25)) [] := (Upd.refl _ _).alloc _
 have Hbox := hid (Blk.new w 25 #[.string (bs cn), .string (bs cs), .slice AI ifs.length cI, .int .i64 fl, .int .i64 ld, .slice A l.length cap])
 have HA := hid (hA.upd hU0)
 obtain ⟨w0, hw0⟩ : ∃ w0, w0 = w.alloc (.cells #[.string (bs cn), .string (bs cs), .slice AI ifs.length cI, .int .i64 fl, .int .i64 ld, .slice A l.length cap] 25) := ⟨_, rfl⟩
 go_enter Tryz.func12, Tryz.ntmps12
 rw [← hw0] at hU0 Hbox HA
 have HU0 := hid hU0
 clear hA hU0
 go_wp2
 rw [← hw0]
 clear hw0
 go_loopw [7] (fun t wr => indexMethRel l nm ds w0 t wr) (fun t _ => l.length - (intOf t).toNat)
 case atStart => exact ⟨0, rfl, Nat.zero_le _, hid (fun i _ h => absurd h (Nat.not_lt_zero _)), Upd.refl _ _⟩
 case round =>
  obtain ⟨k, rfl, hk, hgood, hU⟩ := hrel
  have hbx := hU.blk Hbox.out (by simp)
  have y5 := hbx.cell 5
  simp at y5
  have hzr : w.heap.size < wr.heap.size := hbx.lt
  by_cases hlt : k < l.length
  ·have hne : l ≠ [] := by rintro rfl; simp at hlt
   obtain ⟨bk, off, rfl, hbk, hc⟩ := HA.out hne
   obtain ⟨mn, md, fl', lo, st, A', cap', code, e⟩ : ∃ a b c d f g h i, l[k] = MethL.mk a b c d f g h i := ⟨_, _, _, _, _, _, _, _, rfl⟩
   have hbr : bk < wr.heap.size := Nat.lt_of_lt_of_le hbk hU.size
   obtain ⟨x0, x1, -, -, -, -⟩ := MethsAt.six (w := wr) (fun i hi j hj => by rw [hU.cells.1 _ _ hbk]; exact hc i hi j hj) hlt e
   have hgd : hitB nm ds l[k] = false → Hid (∀ i (hi : i < l.length), i < k + 1 → hitB nm ds l[i] = false) := fun h => hid (fun i hi h2 => by
     rcases Nat.lt_or_ge i k with h3 | h3
     ·exact hgood.out i hi h3
     ·have : i = k := by omega
      subst this
      exact h)
   have hat := hid (fun h => findL_at nm ds l 0 k hlt (fun j hj hji => hgood.out j hj hji) h)
   have hhb : hitB nm ds l[k] = (decide (mn = nm) && decide (md = ds)) := by rw [e]; rfl
   have Hhb := hid hhb
   have Hgd := hid hgd
   have t1 := bs_beq mn nm
   have t2 := bs_beq md ds
   have HU := hid hU
   generalize decide (mn = nm) = b1 at *
   generalize decide (md = ds) = b2 at *
   clear hgd hgood hc e hhb hU hbx
   cases b1 with
   | true =>
    cases b2 with
    | true =>
     have Hat := hid (hat.out (by rw [Hhb.out]; rfl))
     clear hat Hhb Hgd
     go_wp2
     go_ret
     exact ⟨ret_int (by rw [Hat.out]; simp), HU0.out.trans HU.out⟩
    | false =>
     have Hg := Hgd.out (by rw [Hhb.out]; rfl)
     clear hat Hhb Hgd
     go_wp2
     go_roundw
     case rel => exact ⟨k + 1, by go_num, by omega, Hg, HU.out⟩
     case measure => simp [intOf]; omega
   | false =>
    have Hg := Hgd.out (by rw [Hhb.out]; rfl)
    clear hat Hhb Hgd t2
    go_wp2
    go_roundw
    case rel => exact ⟨k + 1, by go_num, by omega, Hg, HU.out⟩
    case measure => simp [intOf]; omega
  ·obtain rfl : k = l.length := by omega
   have Hn := hid (findL_none nm ds l 0 (fun j hj => hgood.out j hj hj))
   have HU := hid hU
   clear hgood hU hbx
   go_wp2
   go_ret
   exact ⟨ret_int (by rw [Hn.out]), HU0.out.trans HU.out⟩
theorem memberRl_any (l : List UInt8) (w : World) (hs : l.length ≤ 9223372036854775807) : Calls Tryz.prog 85 #[.string (bs l)] w fun e w' => e = .returned (.bool (memberB l)) ∧ w = w' := by
 have := memberR_any (bs l) w (by rw [bs_size]; exact hs)
 rw [bs_data] at this
 exact this
set_option maxHeartbeats 8000000 in
set_option maxRecDepth 100000 in
theorem methodR_any (m : MethL) (iface : Bool) (w : World) (hf : m.fit w) :
  Calls Tryz.prog 34 #[m.v, .bool iface] w fun e w' => e = .returned (.bool (methodB m iface)) ∧ Upd w w' [] := by
 have h1 := hf.nm
 have h2 := hf.ds
 have hl := hf.len
 have hfl := hf.num.1
 have Hw := fun w hn => hid (wordsR_any m w h2 hn)
 have HA := hid hf.at_
 have Hfit := hid hf.fits
 clear hf
 obtain ⟨mn, ds, fl, lo, st, A, cap, code⟩ := m
 obtain ⟨bm, hbm⟩ : ∃ b, methodB ⟨mn, ds, fl, lo, st, A, cap, code⟩ iface = b := ⟨_, rfl⟩
 rw [hbm]
 unfold methodB at hbm
 have Hx := hid hbm
 clear hbm
 unfold MethL.v MethL.cells
 unfold MethL.v MethL.cells at Hw
 simp only at HA hl Hfit h1 h2 hfl Hw Hx ⊢
 have hU0 : Upd w (w.alloc (.cells #[.string (bs mn), .string (bs ds), .int .i64 fl, .int .i64 lo, .int .i64 st, .slice A code.length cap] 34)) [] := (Upd.refl _ _).alloc _
 have Hd := fun w => hid (parseDescVR_any ds w h2)
 have Hmb := fun w => hid (memberRl_any mn w h1)
 have Hcm := fun w => hid (checkMethodR_any fl iface mn w)
 rw [method_law hfl.1 hfl.2] at Hcm
 have h7 : ((bs mn).toList == [60, 105, 110, 105, 116, 62]) = decide (mn = initB) := by
  rw [bs_toList, Bool.eq_iff_iff, decide_eq_true_eq]
  simp [initB]
 have hb1024 : (bits BinOp.and IntKind.i64 fl 1024 != 0) = anyF fl 1024 := rfl
 go_enter Tryz.func34, Tryz.ntmps34
 cases hmb : memberB mn with
 | false =>
  rw [hmb] at Hmb
  go_wp2_with fail
  refine (Hmb _).out.mono ?_
  rintro e w3 ⟨rfl, rfl⟩
  go_wp2
  go_ret
  exact ⟨bool_ret (by rw [← Hx.out, hmb]; simp), hU0⟩
 | true =>
  rw [hmb] at Hmb
  generalize hib : decide (mn = initB) = ib at *
  cases hmf : methodF fl iface ib with
  | false =>
   rw [hmf, show errIf false = 1 from rfl] at Hcm
   go_wp2_with fail
   refine (Hmb _).out.mono ?_
   rintro e w3 ⟨rfl, rfl⟩
   go_wp2_with fail
   refine (Hcm _).out.mono ?_
   rintro e w1 ⟨rfl, hU1⟩
   go_wp2
   go_ret
   exact ⟨bool_ret (by rw [← Hx.out, hmf]; simp), hU0.trans hU1⟩
  | true =>
   rw [hmf, show errIf true = 0 from rfl] at Hcm
   go_wp2_with fail
   refine (Hmb _).out.mono ?_
   rintro e w3 ⟨rfl, rfl⟩
   go_wp2_with fail
   refine (Hcm _).out.mono ?_
   rintro e w1 ⟨rfl, hU1⟩
   obtain ⟨hc1, hf1, hz1⟩ := hU1.cells
   have hz1' : w.heap.size < w1.heap.size := by simp at hz1; omega
   go_wp2_with fail
   refine (Hd _).out.mono ?_
   rintro e w2 ⟨⟨A', cap', vd, d, nm', rfl, hvd⟩, hU2⟩
   have hV2 := hU1.trans hU2
   clear hc1 hf1 hz1 hz1' hU1 hU2
   obtain ⟨hc1, hf1, hz1⟩ := hV2.cells
   have hz1' : w.heap.size < w2.heap.size := by simp at hz1; omega
   have hU3 := (hU0.trans hV2).alloc (.cells #[.slice A' (descL ds).1 cap', .bool vd, .int .i64 d, .string (bs nm')] 113)
   generalize hq : descL ds = q at *
   obtain ⟨qn, qe⟩ := q
   simp only at hvd hU3
   by_cases hqe : qe = 0
   ·have hv := hvd hqe
    subst hqe
    subst hv
    clear hvd
    obtain ⟨hc2, hf2, hz2⟩ := hU3.cells
    generalize voidL ds = vv at *
    have hz2' : w.heap.size < (w2.alloc (.cells #[.slice A' qn cap', .bool vv, .int .i64 d, .string (bs nm')] 113)).heap.size := by simp; omega
    by_cases hiv : ib = true ∧ vv = false
    ·obtain ⟨rfl, rfl⟩ := hiv
     go_wp2
     go_ret
     exact ⟨bool_ret (by rw [← Hx.out, hmb, hmf]; simp), hU3⟩
    ·generalize anyF fl 1024 = ab at hb1024 Hx
     have Hy : Hid ((if ab = true then decide (lo = 0) && decide (st = 0) && decide (code.length = 0) else decide ((wordsL ds fl).1 ≤ lo) && decide (lo ≤ 40) && decide (0 ≤ st) && decide (st ≤ 40) && allOk code lo) = bm) := hid (by
      have := Hx.out
      rw [hmb, hmf] at this
      revert this
      cases ib <;> cases vv <;> first | (exact absurd ⟨rfl, rfl⟩ hiv) | simp)
     clear Hx
     cases ab with
     | true =>
      have e1 : (lo == 0) = decide (lo = 0) := by rw [Bool.eq_iff_iff]; simp
      have e2 : (st == 0) = decide (st = 0) := by rw [Bool.eq_iff_iff]; simp
      have e3 : ((code.length : Int) == 0) = decide (code.length = 0) := by rw [Bool.eq_iff_iff]; simp
      generalize decide (lo = 0) = q1 at e1 Hy
      generalize decide (st = 0) = q2 at e2 Hy
      generalize decide (code.length = 0) = q3 at e3 Hy
      cases ib <;> cases vv <;> first | (exact absurd ⟨rfl, rfl⟩ hiv) | skip
      all_goals
       clear hiv
       cases q1 <;> cases q2 <;> cases q3
       all_goals
        go_wp2
        go_ret
        exact ⟨bool_ret (by rw [← Hy.out]; simp), hU3⟩
     | false =>
      have hqn : qn ≤ 1000000 := by have := descL_few ds; rw [hq] at this; exact Nat.le_trans this (by omega)
      generalize hwl : wordsL ds fl = wl at Hw Hy
      obtain ⟨wq, we⟩ := wl
      have Hca := fun w (hA : InstsAt w A code) => hid (checkAllR_any A cap code lo w hA hl Hfit.out)
      simp only at Hw Hy
      generalize allOk code lo = ao at Hca Hy
      clear hl hwl
      cases ib <;> cases vv <;> first | (exact absurd ⟨rfl, rfl⟩ hiv) | skip
      all_goals
       clear hiv
       go_wp2_with (go_at_call 35; go_in)
       refine (Hw _ hqn).out.mono ?_
       rintro e w4 ⟨rfl, hU4⟩
       obtain ⟨hc4, hf4, hz4⟩ := hU4.cells
       have hz4' : w.heap.size < w4.heap.size := by simp at hz4; omega
       have hU5 := hU3.trans hU4
       by_cases g3 : 0 ≤ st
       ·have g3' : ¬ st < 0 := by omega
        by_cases g4 : st ≤ 40
        ·have g4' : ¬ 40 < st := by omega
         by_cases g1 : wq ≤ lo
         ·have g1' : ¬ lo < wq := by omega
          by_cases g2 : lo ≤ 40
          ·have g2' : ¬ 40 < lo := by omega
           go_wp2_with fail
           refine (Hca _ (HA.out.upd hU5)).out.mono ?_
           rintro e w5 ⟨rfl, hU6⟩
           cases ao
           all_goals
            simp only [errIf]
            go_wp2
            go_ret
            exact ⟨bool_ret (by rw [← Hy.out]; simp [g1, g2, g3, g4]), hU5.trans hU6⟩
          ·have g2' : 40 < lo := by omega
           go_wp2
           go_ret
           exact ⟨bool_ret (by rw [← Hy.out]; simp; intros; omega), hU5⟩
         ·have g1' : lo < wq := by omega
          go_wp2
          go_ret
          exact ⟨bool_ret (by rw [← Hy.out]; simp; intros; omega), hU5⟩
        ·have g4' : 40 < st := by omega
         go_wp2
         go_ret
         exact ⟨bool_ret (by rw [← Hy.out]; simp; intros; omega), hU5⟩
       ·have g3' : st < 0 := by omega
        go_wp2
        go_ret
        exact ⟨bool_ret (by rw [← Hy.out]; simp; intros; omega), hU5⟩
   ·have hqb : (qe != 0) = true := by simpa using hqe
    go_wp2
    go_ret
    exact ⟨bool_ret (by rw [← Hx.out]; simp [hqe]), hU3⟩
end Go.Proofs.YtjjdlgjofjfgmaaGreatDoor
/-
 The document's Check of a class, walked.
-/
set_option linter.unusedSimpArgs false
set_option linter.unusedVariables false
namespace Go.Proofs.YtjjdlgjofjfgmaaGreatDoor
open Go.RowKit Go.Sort
def checkRRel (P : Nat → Prop) (n : Nat) (w : World) (t : Value) (wr : World) : Prop :=
 ∃ k : Nat, t = .int .i64 k ∧ k ≤ n ∧ Hid (∀ i, i < k → P i) ∧ Upd w wr []
def ifP (nm : List UInt8) (l : List (List UInt8)) (i : Nat) : Prop := ∀ h : i < l.length, ifB nm l[i] (l.take i) = true
def newP (l : List (List UInt8)) (k j : Nat) : Prop := ∀ (h : j < l.length) (h' : k < l.length), l[k] ≠ l[j]
theorem new_all {l : List (List UInt8)} {k : Nat} (h' : k < l.length) (h : ∀ i, i < k → newP l k i) : decide (l[k] ∈ l.take k) = false := by
 rw [decide_eq_false_iff_not]
 intro hm
 obtain ⟨i, hi, e⟩ := List.getElem_of_mem hm
 have hi2 := hi
 rw [List.length_take] at hi2
 rw [List.getElem_take] at e
 exact h i (by omega) (by omega) h' e.symm
theorem new_bad {l : List (List UInt8)} {k j : Nat} (h' : k < l.length) (hj : j < k) (e : l[k] = l[j]'(by omega)) : decide (l[k] ∈ l.take k) = true := by
 rw [decide_eq_true_eq, e]
 refine List.mem_iff_getElem.2 ⟨j, by simp; omega, ?_⟩
 rw [List.getElem_take]
set_option maxHeartbeats 16000000 in
set_option maxRecDepth 100000 in
theorem checkR5_any (c : ClassL) (w : World) (hf : c.fit w) :
  Calls Tryz.prog 10 #[c.v] w fun e w' => e = .returned (.int .i64 (errIf (checkB c))) ∧ Upd w w' [] := by
 have HF := hid hf
 have hnm := hf.nm
 have hsup := hf.sup
 have hlenI := hf.lenI
 have hlenM := hf.lenM
 have hcapI := hf.capI
 have hcapM := hf.capM
 have Hstr := hid hf.strs
 have hfl := hf.flN
 have Hbd := hid (fun k h hb => checkB_bad (c := c) (k := k) h hb)
 have Hall := hid (fun h1 h2 h3 ha => checkB_all (c := c) h1 h2 h3 ha)
 have Hfi := hid (fun nm ds w hA => findR_any c nm ds w hA hf.lenM hf.capM)
 have Hsz : Hid (checkB c = (decide (c.ms.length ≤ 40) && decide (c.ifs.length ≤ 20) && headerB c && (List.range c.ms.length).all (goodB c))) := hid rfl
 have Hh : Hid (headerB c = (validB c.nm && validB c.sup && !decide (c.nm = c.sup) && classF c.fl && ifsB c.nm c.ifs && decide (c.ifs.length ≤ 20) && decide (0 ≤ c.ld) && decide (c.ld ≤ 9))) := hid rfl
 have Hgood : Hid (∀ i, goodB c i = match c.ms[i]? with
  | some m => methodB m (anyF c.fl 512) && decide (findL m.nm m.ds c.ms 0 = i)
  | none => true) := hid (fun _ => rfl)
 have Hib := hid (fun k h hb => ifsB_bad (nm := c.nm) (l := c.ifs) (k := k) h hb)
 have Hia := hid (fun ha => ifsB_all (nm := c.nm) (l := c.ifs) ha)
 have Hifd : Hid (∀ i (h : i < c.ifs.length), ifB c.nm c.ifs[i] (c.ifs.take i) = (validB c.ifs[i] && !decide (c.ifs[i] = c.nm) && !decide (c.ifs[i] ∈ c.ifs.take i))) := hid (fun _ _ => rfl)
 have Hv1 := fun w => hid (validR_any c.nm w hnm)
 have Hv2 := fun w => hid (validR_any c.sup w hsup)
 have Hcf := fun w => hid (checkClassR_any c.fl w)
 rw [class_law hfl.1 hfl.2] at Hcf
 have hne := bs_beq c.nm c.sup
 generalize checkB c = cb at *
 generalize headerB c = hb at *
 generalize hgb : goodB c = gb at *
 generalize ifsB c.nm c.ifs = ib at *
 clear hgb hf
 obtain ⟨cn, cs, AI, cI, ifs, fl, ld, A, cap, ms⟩ := c
 unfold ClassL.v ClassL.cells at Hfi ⊢
 simp only at *
 have hU0 : Upd w (w.alloc (.cells #[.string (bs cn), .string (bs cs), .slice AI ifs.length cI, .int .i64 fl, .int .i64 ld, .slice A ms.length cap] 25)) [] := (Upd.refl _ _).alloc _
 have hb512 : (bits BinOp.and IntKind.i64 fl 512 != 0) = anyF fl 512 := rfl
 generalize validB cn = v1 at *
 generalize validB cs = v2 at *
 generalize classF fl = cf at *
 generalize hncs : decide (cn = cs) = b12 at *
 clear hncs
 have Hbx := hid (Blk.new w 25 #[.string (bs cn), .string (bs cs), .slice AI ifs.length cI, .int .i64 fl, .int .i64 ld, .slice A ms.length cap])
 go_enter Tryz.func10, Tryz.ntmps10
 cases v1 with
 | false =>
  go_wp2_with fail
  refine (Hv1 _).out.mono ?_
  rintro e w1 ⟨rfl, hU1⟩
  go_wp2
  go_ret
  exact ⟨ret_int (by rw [Hsz.out, Hh.out]; simp [errIf]), hU0.trans hU1⟩
 | true =>
  go_wp2_with fail
  refine (Hv1 _).out.mono ?_
  rintro e w1 ⟨rfl, hU1⟩
  obtain ⟨hc1, hf1, hz1⟩ := hU1.cells
  have hz1' : w.heap.size < w1.heap.size := by simp at hz1; omega
  cases v2 with
  | false =>
   go_wp2_with fail
   refine (Hv2 _).out.mono ?_
   rintro e w2 ⟨rfl, hU2⟩
   go_wp2
   go_ret
   exact ⟨ret_int (by rw [Hsz.out, Hh.out]; simp [errIf]), hU0.trans (hU1.trans hU2)⟩
  | true =>
   go_wp2_with fail
   refine (Hv2 _).out.mono ?_
   rintro e w2 ⟨rfl, hU2⟩
   have hV2 := hU1.trans hU2
   clear hc1 hf1 hz1 hz1' hU1 hU2
   obtain ⟨hc1, hf1, hz1⟩ := hV2.cells
   have hz1' : w.heap.size < w2.heap.size := by simp at hz1; omega
   cases b12 with
   | true =>
    go_wp2
    go_ret
    exact ⟨ret_int (by rw [Hsz.out, Hh.out]; simp [errIf]), hU0.trans hV2⟩
   | false =>
    by_cases g2 : ifs.length ≤ 20
    ·have g2i : ¬ (20 < (ifs.length : Int)) := by omega
     have g2n : ¬ (20 < ifs.length) := by omega
     by_cases g1 : ms.length ≤ 40
     ·have g1i : ¬ (40 < (ms.length : Int)) := by omega
      have g1n : ¬ (40 < ms.length) := by omega
      by_cases g3 : 0 ≤ ld
      ·have g3i : ¬ ld < 0 := by omega
       by_cases g4 : ld ≤ 9
       ·have g4i : ¬ 9 < ld := by omega
        cases cf with
        | false =>
         go_wp2_with fail
         refine (Hcf _).out.mono ?_
         rintro e w3 ⟨rfl, hU3⟩
         simp only [errIf]
         go_wp2
         go_ret
         exact ⟨ret_int (by rw [Hsz.out, Hh.out]; simp [errIf]), hU0.trans (hV2.trans hU3)⟩
        | true =>
         go_wp2_with fail
         refine (Hcf _).out.mono ?_
         rintro e w3 ⟨rfl, hU3⟩
         simp only [errIf]
         have HV3 := hid (hU0.trans (hV2.trans hU3))
         have HF3 := hid (HF.out.upd HV3.out)
         have Hb3 := hid ((hV2.trans hU3).blk Hbx.out (by simp))
         have hz3 : w.heap.size < w3.heap.size := Hb3.out.lt
         clear hc1 hf1 hz1 hz1' hV2 hU3 HF Hcf Hv1 Hv2
         have z2 := Hb3.out.cell 2
         simp at z2
         go_wp2
         go_loopw [3] (fun t wr => checkRRel (ifP cn ifs) ifs.length w3 t wr) (fun t _ => ifs.length - (intOf t).toNat)
         case atStart => exact ⟨0, rfl, Nat.zero_le _, hid (fun i h => absurd h (Nat.not_lt_zero _)), Upd.refl _ _⟩
         case round =>
          obtain ⟨k, rfl, hk, hgood, hU⟩ := hrel
          have hbx := hU.blk Hb3.out (by simp)
          have y0 := hbx.cell 0
          have y2 := hbx.cell 2
          simp at y0 y2
          have hzr : w.heap.size < wr.heap.size := hbx.lt
          have HU := hid hU
          by_cases hlt : k < ifs.length
          ·have hne2 : ifs ≠ [] := by rintro rfl; simp at hlt
           obtain ⟨bk, off, hAe, hbk, hc⟩ := HF3.out.ifs hne2
           simp only at hAe hc
           subst hAe
           have hbr : bk < wr.heap.size := Nat.lt_of_lt_of_le hbk hU.size
           have Hc : Hid (∀ w', Upd w3 w' [] → ∀ i (h : i < ifs.length), w'.cell? ⟨bk, off + i, none⟩ = some (.string (bs ifs[i]))) := hid (fun w' u i h => by rw [u.cells.1 _ _ hbk]; exact hc i h)
           have Hxs := hid (Hc.out wr hU k hlt)
           have hxl := Hstr.out _ (List.getElem_mem hlt)
           have Hif := hid (Hifd.out k hlt)
           have Hbad := hid (fun h => Hib.out k hlt h)
           have Hgd : Hid (ifB cn ifs[k] (ifs.take k) = true → Hid (∀ i, i < k + 1 → ifP cn ifs i)) := hid (fun h => hid (fun i h2 => by
            rcases Nat.lt_or_ge i k with h3 | h3
            ·exact hgood.out i h3
            ·have : i = k := by omega
             subst this
             exact fun _ => h))
           have Hvx := fun w => hid (validR_any ifs[k] w hxl)
           have hxe := bs_beq ifs[k] cn
           have Hnew := hid (fun h => new_all hlt h)
           have Hold := hid (fun j hj e => new_bad (j := j) hlt hj e)
           have Hkey : Hid (∀ j (h : j < ifs.length), ((bs ifs[k]).toList == (bs ifs[j]).toList) = decide (ifs[k] = ifs[j])) := hid (fun j h => bs_beq _ _)
           generalize decide (ifs[k] = cn) = eb at *
           generalize validB ifs[k] = vb at *
           have hvq := fun d os => quiet_of (W := wr) (d := d) (os := os) fun w _ => (Hvx w).out
           have HVQ := hid hvq
           have k0 := cell_regrown y0
           have k2 := cell_regrown y2
           have x0 := Hxs.out
           have kx := cell_regrown x0
           clear hvq hc hgood hU hbx
           have hkn : (k : Int) < ifs.length := by omega
           have hkc : k < cI := by omega
           generalize hxk : ifs[k] = x at x0 kx HVQ hxe
           have Hxk := hid hxk
           clear hxk Hxs Hvx
           cases vb with
           | false =>
            have Hb := hid (Hbad.out (by rw [Hif.out]; rfl))
            clear Hbad Hgd Hif hxe Hnew Hold Hkey
            go_wp2
            refine wp_region_quiet_below (by kernel_rfl) (by kernel_rfl) ?_
            repeat (any_goals (first | go_big_quiet_step (exact HVQ.out _ _) | quiet_step (exact HVQ.out _ _)))
            refine wpQuiet_nil ?_
            intro _ hw'
            obtain ⟨⟨dq, osq⟩, hw''⟩ := hw'
            subst hw''
            have hV4 : Upd wr (grow (redrawn wr dq) osq) [] := Upd.of_below (below_regrown wr dq osq) []
            have HV5 := hid (HV3.out.trans (HU.out.trans hV4))
            revert HV5
            generalize grow (redrawn wr dq) osq = w4
            intro HV5
            go_wp2
            go_ret
            exact ⟨ret_int (by rw [Hsz.out, Hh.out, Hb.out]; simp [errIf]), HV5.out⟩
           | true =>
            cases eb with
            | true =>
             have Hb := hid (Hbad.out (by rw [Hif.out]; rfl))
             clear Hbad Hgd Hif Hnew Hold Hkey
             go_wp2
             refine wp_region_quiet_below (by kernel_rfl) (by kernel_rfl) ?_
             repeat (any_goals (first | go_big_quiet_step (exact HVQ.out _ _) | quiet_step (exact HVQ.out _ _)))
             refine wpQuiet_nil ?_
             intro _ hw'
             obtain ⟨⟨dq, osq⟩, hw''⟩ := hw'
             subst hw''
             have hV4 : Upd wr (grow (redrawn wr dq) osq) [] := Upd.of_below (below_regrown wr dq osq) []
             have HV5 := hid (HV3.out.trans (HU.out.trans hV4))
             revert HV5
             generalize grow (redrawn wr dq) osq = w4
             intro HV5
             go_wp2
             go_ret
             exact ⟨ret_int (by rw [Hsz.out, Hh.out, Hb.out]; simp [errIf]), HV5.out⟩
            | false =>
             go_wp2
             refine wp_region_quiet_below (by kernel_rfl) (by kernel_rfl) ?_
             repeat (any_goals (first | go_big_quiet_step (exact HVQ.out _ _) | quiet_step (exact HVQ.out _ _)))
             refine wpQuiet_nil ?_
             intro _ hw'
             obtain ⟨⟨dq, osq⟩, hw''⟩ := hw'
             subst hw''
             have hV4 : Upd wr (grow (redrawn wr dq) osq) [] := Upd.of_below (below_regrown wr dq osq) []
             have HV5 := hid (HU.out.trans hV4)
             revert HV5
             generalize grow (redrawn wr dq) osq = w4
             intro HV5
             clear hV4 k0 k2 kx x0 y0 y2 hxe HVQ hzr hbr HU
             go_wp2
             go_loopw [4] (fun t wr => checkRRel (newP ifs k) k w4 t wr) (fun t _ => k - (intOf t).toNat)
             case atStart => exact ⟨0, rfl, Nat.zero_le _, hid (fun i h => absurd h (Nat.not_lt_zero _)), Upd.refl _ _⟩
             case round =>
              obtain ⟨j, rfl, hj, hnew, hU5⟩ := hrel
              have HU5 := hid (HV5.out.trans hU5)
              have hbx := HU5.out.blk Hb3.out (by simp)
              have y2 := hbx.cell 2
              simp at y2
              have hzr : w.heap.size < wr.heap.size := hbx.lt
              have hbr : bk < wr.heap.size := Nat.lt_of_lt_of_le hbk HU5.out.size
              by_cases hjk : j < k
              ·have hjl : j < ifs.length := by omega
               have hjc : j < cI := by omega
               have hjn : (j : Int) < ifs.length := by omega
               have hjki : (j : Int) < k := by omega
               have x0 := Hc.out wr HU5.out k hlt
               have x1 := Hc.out wr HU5.out j hjl
               have hke := Hkey.out j hjl
               have hn1 : ifs[k] ≠ ifs[j] → Hid (∀ i, i < j + 1 → newP ifs k i) := fun h => hid (fun i h2 => by
                rcases Nat.lt_or_ge i j with h3 | h3
                ·exact hnew.out i h3
                ·have : i = j := by omega
                 subst this
                 exact fun _ _ => h)
               have hn2 : ifs[k] = ifs[j] → Hid (ib = false) := fun h => hid (Hbad.out (by rw [Hif.out, Hold.out j hjk h]; rfl))
               have Hn1 := hid hn1
               have Hn2 := hid hn2
               clear hn1 hn2 hnew
               rw [Hxk.out] at x0 hke Hn1 Hn2
               generalize ifs[j] = xj at x1 hke Hn1 Hn2
               have HW5 := hid hU5
               clear hU5 hbx
               have k2 := cell_regrown y2
               have kx := cell_regrown x0
               have kj := cell_regrown x1
               by_cases hxx : x = xj
               ·rw [decide_eq_true hxx] at hke
                have Hb := Hn2.out hxx
                clear hxx Hn1 Hn2
                go_wp2
                refine wp_region_quiet_below (by kernel_rfl) (by kernel_rfl) ?_
                repeat (any_goals (first | go_big_quiet_step (fail) | quiet_step (fail)))
                refine wpQuiet_nil ?_
                intro _ hw'
                obtain ⟨⟨dq, osq⟩, hw''⟩ := hw'
                subst hw''
                have hV6 : Upd wr (grow (redrawn wr dq) osq) [] := Upd.of_below (below_regrown wr dq osq) []
                have HV6 := hid (HV3.out.trans (HU5.out.trans hV6))
                revert HV6
                generalize grow (redrawn wr dq) osq = w6
                intro HV6
                go_wp2
                go_ret
                exact ⟨ret_int (by rw [Hsz.out, Hh.out, Hb.out]; simp [errIf]), HV6.out⟩
               ·rw [decide_eq_false hxx] at hke
                have Hg := Hn1.out hxx
                clear hxx Hn1 Hn2
                go_wp2
                refine wp_region_quiet_below (by kernel_rfl) (by kernel_rfl) ?_
                repeat (any_goals (first | go_big_quiet_step (fail) | quiet_step (fail)))
                refine wpQuiet_nil ?_
                intro _ hw'
                obtain ⟨⟨dq, osq⟩, hw''⟩ := hw'
                subst hw''
                have hV6 : Upd wr (grow (redrawn wr dq) osq) [] := Upd.of_below (below_regrown wr dq osq) []
                have HV6 := hid (HW5.out.trans hV6)
                revert HV6
                generalize grow (redrawn wr dq) osq = w6
                intro HV6
                clear hV6 k2 kx kj x0 x1 y2 hzr hbr
                go_wp2
                go_roundw
                case rel => exact ⟨j + 1, by go_num, by omega, Hg, HV6.out⟩
                case measure => simp [intOf]; omega
              ·obtain rfl : j = k := by omega
               have Hg := Hgd.out (by rw [Hif.out, Hnew.out (fun i hi => hnew.out i hi)]; rfl)
               clear hnew hU5 hbx
               go_wp2
               go_roundw
               case rel => exact ⟨j + 1, by go_num, by omega, Hg, HU5.out⟩
               case measure => simp [intOf]; omega
          ·obtain rfl : k = ifs.length := by omega
           have Hifs := hid (Hia.out (fun i hi => hgood.out i hi hi))
           have Hhb : Hid (hb = true) := hid (by rw [Hh.out, Hifs.out, decide_eq_true g2, decide_eq_true g3, decide_eq_true g4]; rfl)
           have HF4 := hid (HF3.out.upd hU)
           have Hb4 := hid (hU.blk Hb3.out (by simp))
           clear hgood hU hbx y0
           go_wp2
           go_loopw [5] (fun t wx => checkRRel (fun i => gb i = true) ms.length wr t wx) (fun t _ => ms.length - (intOf t).toNat)
           case atStart => exact ⟨0, rfl, Nat.zero_le _, hid (fun i h => absurd h (Nat.not_lt_zero _)), Upd.refl _ _⟩
           case round =>
            obtain ⟨m, rfl, hm, hgood, hU6⟩ := hrel
            have hbx := hU6.blk Hb4.out (by simp)
            have y0 := hbx.cell 0
            have y1 := hbx.cell 1
            have y2 := hbx.cell 2
            have y3 := hbx.cell 3
            have y4 := hbx.cell 4
            have y5 := hbx.cell 5
            simp at y0 y1 y2 y3 y4 y5
            have hzr : w.heap.size < wr.heap.size := hbx.lt
            have HW6 := hid (HV3.out.trans (HU.out.trans hU6))
            by_cases hlt : m < ms.length
            ·have hne2 : ms ≠ [] := by rintro rfl; simp at hlt
             obtain ⟨bk, off, hAe, hbk, hc⟩ := HF4.out.ms hne2
             simp only at hAe hc
             subst hAe
             have hbr : bk < wr.heap.size := Nat.lt_of_lt_of_le hbk hU6.size
             obtain ⟨mn, md, mf, lo, st, A', cap', code, e⟩ : ∃ a b c d f g h i, ms[m] = MethL.mk a b c d f g h i := ⟨_, _, _, _, _, _, _, _, rfl⟩
             obtain ⟨x0, x1, x2, x3, x4, x5⟩ := MethsAt.six (w := wr) (fun i hi j hj => by rw [hU6.cells.1 _ _ hbk]; exact hc i hi j hj) hlt e
             have hmem : ms[m] ∈ ms := List.getElem_mem hlt
             have hgk := Hgood.out m
             rw [List.getElem?_eq_getElem hlt] at hgk
             rw [e] at hmem hgk
             simp only at hgk
             have Hmf := hid ((HF4.out.meths _ hmem).upd hU6)
             have HFr := hid (HF4.out.upd hU6)
             have Hgk := hid hgk
             have Hgd : Hid (gb m = true → Hid (∀ i, i < m + 1 → gb i = true)) := hid (fun h => hid (fun i h2 => by
              rcases Nat.lt_or_ge i m with h3 | h3
              ·exact hgood.out i h3
              ·have : i = m := by omega
               subst this
               exact h))
             have Hbk := hid (fun h => Hbd.out m hlt h)
             have HU6 := hid hU6
             have hmc : m < cap := by omega
             have hmi : (m : Int) < ms.length := by omega
             clear hgk hgood hc hmem e hU6 hbx
             obtain ⟨wa, hwa⟩ : ∃ wa, wa = wr.alloc (.cells #[.string (bs mn), .string (bs md), .int .i64 mf, .int .i64 lo, .int .i64 st, .slice A' code.length cap'] 34) := ⟨_, rfl⟩
             have hUa : Upd wr wa [] := by rw [hwa]; exact (Upd.refl _ _).alloc _
             have hBa : Blk wa wr.heap.size 34 #[.string (bs mn), .string (bs md), .int .i64 mf, .int .i64 lo, .int .i64 st, .slice A' code.length cap'] := by rw [hwa]; exact Blk.new _ _ _
             have hMt := fun w (u : Upd wa w []) => methodR_any ⟨mn, md, mf, lo, st, A', cap', code⟩ (anyF fl 512) w ((Hmf.out.upd hUa).upd u)
             have hFd := fun w (u : Upd wa w []) => Hfi.out mn md w (((HFr.out.upd hUa).upd u).ms)
             unfold MethL.v MethL.cells at hMt
             simp only at hMt
             generalize methodB ⟨mn, md, mf, lo, st, A', cap', code⟩ (anyF fl 512) = mb at hMt Hgk
             have hHs := fun d os => quiet_of (W := wa) (d := d) (os := os) fun w _ => (has_any fl 512 w).mono fun _ _ h => ⟨h.1, by rw [h.2]; exact Upd.refl _ _⟩
             have hMq := fun d os => quiet_of (W := wa) (d := d) (os := os) fun w u => hMt w u
             generalize hfx : findL mn md ms 0 = fx at hFd Hgk
             have hFq := fun d os => quiet_of (W := wa) (d := d) (os := os) fun w u => hFd w u
             generalize anyF fl 512 = ifc at *
             have HHs := hid hHs
             have HMq := hid hMq
             have HFq := hid hFq
             have HUa := hid hUa
             have HBa := hid hBa
             clear hHs hMq hFq hMt hFd hBa hfx
             have l0 := cell_regrown ((HUa.out.cells.1 _ 0 hzr).trans y0)
             have l1 := cell_regrown ((HUa.out.cells.1 _ 1 hzr).trans y1)
             have l2 := cell_regrown ((HUa.out.cells.1 _ 2 hzr).trans y2)
             have l3 := cell_regrown ((HUa.out.cells.1 _ 3 hzr).trans y3)
             have l4 := cell_regrown ((HUa.out.cells.1 _ 4 hzr).trans y4)
             have l5 := cell_regrown ((HUa.out.cells.1 _ 5 hzr).trans y5)
             have q0 := HBa.out.cell 0
             have q1 := HBa.out.cell 1
             have q2 := HBa.out.cell 2
             have q3 := HBa.out.cell 3
             have q4 := HBa.out.cell 4
             have q5 := HBa.out.cell 5
             simp at q0 q1 q2 q3 q4 q5
             have r0 := cell_regrown q0
             have r1 := cell_regrown q1
             have r2 := cell_regrown q2
             have r3 := cell_regrown q3
             have r4 := cell_regrown q4
             have r5 := cell_regrown q5
             have Hwa := hid hwa
             clear hUa hwa
             cases mb with
             | false =>
              have Hb := hid (Hbk.out (by rw [Hgk.out]; rfl))
              clear Hbk Hgd Hgk
              go_wp2
              rw [← Hwa.out]
              refine wp_region_quiet_below (by kernel_rfl) (by kernel_rfl) ?_
              repeat (any_goals (first | go_big_quiet_step (first | exact HHs.out _ _ | exact HMq.out _ _ | exact HFq.out _ _) | quiet_step (first | exact HHs.out _ _ | exact HMq.out _ _ | exact HFq.out _ _)))
              refine wpQuiet_nil ?_
              intro _ hw'
              obtain ⟨⟨dq, osq⟩, hw''⟩ := hw'
              subst hw''
              have hV7 : Upd wa (grow (redrawn wa dq) osq) [] := Upd.of_below (below_regrown wa dq osq) []
              have HV7 := hid (HW6.out.trans (HUa.out.trans hV7))
              revert HV7
              generalize grow (redrawn wa dq) osq = w7
              intro HV7
              go_wp2
              go_ret
              exact ⟨ret_int (by rw [Hb.out]; rfl), HV7.out⟩
             | true =>
              by_cases hfe : fx = (m : Int)
              ·have Hg := Hgd.out (by rw [Hgk.out, decide_eq_true hfe]; rfl)
               have hfb : (fx != (m : Int)) = false := by rw [hfe]; simp
               clear hfe Hbk Hgk Hgd
               go_wp2
               rw [← Hwa.out]
               refine wp_region_quiet_below (by kernel_rfl) (by kernel_rfl) ?_
               repeat (any_goals (first | go_big_quiet_step (first | exact HHs.out _ _ | exact HMq.out _ _ | exact HFq.out _ _) | quiet_step (first | exact HHs.out _ _ | exact HMq.out _ _ | exact HFq.out _ _)))
               refine wpQuiet_nil ?_
               intro _ hw'
               obtain ⟨⟨dq, osq⟩, hw''⟩ := hw'
               subst hw''
               have hV7 : Upd wa (grow (redrawn wa dq) osq) [] := Upd.of_below (below_regrown wa dq osq) []
               have HV7 := hid (HU6.out.trans (HUa.out.trans hV7))
               revert HV7
               generalize grow (redrawn wa dq) osq = w7
               intro HV7
               clear hV7 l0 l1 l2 l3 l4 l5 r0 r1 r2 r3 r4 r5 q0 q1 q2 q3 q4 q5 x0 x1 x2 x3 x4 x5 y0 y1 y2 y3 y4 y5
               go_wp2
               go_roundw
               case rel => exact ⟨m + 1, by go_num, by omega, Hg, HV7.out⟩
               case measure => simp [intOf]; omega
              ·have Hb := hid (Hbk.out (by rw [Hgk.out, decide_eq_false hfe]; rfl))
               have hfb : (fx != (m : Int)) = true := by simpa using hfe
               clear hfe Hbk Hgk Hgd
               go_wp2
               rw [← Hwa.out]
               refine wp_region_quiet_below (by kernel_rfl) (by kernel_rfl) ?_
               repeat (any_goals (first | go_big_quiet_step (first | exact HHs.out _ _ | exact HMq.out _ _ | exact HFq.out _ _) | quiet_step (first | exact HHs.out _ _ | exact HMq.out _ _ | exact HFq.out _ _)))
               refine wpQuiet_nil ?_
               intro _ hw'
               obtain ⟨⟨dq, osq⟩, hw''⟩ := hw'
               subst hw''
               have hV7 : Upd wa (grow (redrawn wa dq) osq) [] := Upd.of_below (below_regrown wa dq osq) []
               have HV7 := hid (HW6.out.trans (HUa.out.trans hV7))
               revert HV7
               generalize grow (redrawn wa dq) osq = w7
               intro HV7
               go_wp2
               go_ret
               exact ⟨ret_int (by rw [Hb.out]; rfl), HV7.out⟩
            ·obtain rfl : m = ms.length := by omega
             have Ha := hid (Hall.out g1 g2 Hhb.out (fun i hi => hgood.out i hi))
             clear hgood hU6 hbx
             go_wp2
             go_ret
             exact ⟨ret_int (by rw [Ha.out]; rfl), HW6.out⟩
       ·have g4i : 9 < ld := by omega
        go_wp2
        go_ret
        exact ⟨ret_int (by rw [Hsz.out, Hh.out, decide_eq_false (show ¬ ld ≤ 9 by omega)]; simp [errIf]), hU0.trans hV2⟩
      ·have g3i : ld < 0 := by omega
       go_wp2
       go_ret
       exact ⟨ret_int (by rw [Hsz.out, Hh.out, decide_eq_false (show ¬ 0 ≤ ld by omega)]; simp [errIf]), hU0.trans hV2⟩
     ·have g1i : 40 < (ms.length : Int) := by omega
      have g1n : 40 < ms.length := by omega
      go_wp2
      go_ret
      exact ⟨ret_int (by rw [Hsz.out, decide_eq_false (show ¬ ms.length ≤ 40 by omega)]; simp [errIf]), hU0.trans hV2⟩
    ·have g2i : 20 < (ifs.length : Int) := by omega
     have g2n : 20 < ifs.length := by omega
     go_wp2
     go_ret
     exact ⟨ret_int (by rw [Hsz.out, decide_eq_false (show ¬ ifs.length ≤ 20 by omega)]; simp [errIf]), hU0.trans hV2⟩
end Go.Proofs.YtjjdlgjofjfgmaaGreatDoor
/-
 The document's Print of a class, walked. (Printed by gen_printR5.py.)
-/
set_option linter.unusedSimpArgs false
set_option linter.unusedVariables false
namespace Go.Proofs.YtjjdlgjofjfgmaaGreatDoor
open Go.RowKit Go.Sort
theorem wordT_nil (a : List UInt8) : wordT a [] = a := by
 unfold wordT Lib.trimSuffix Lib.hasSuffix
 rw [List.append_nil, if_pos (by simp)]
 simp
theorem wordT_some (a b : List UInt8) (hb : b ≠ []) (h : b.getLast? ≠ some 32) : wordT a b = a ++ [32] ++ b := by
 unfold wordT Lib.trimSuffix Lib.hasSuffix
 rw [if_neg]
 intro hs
 have h2 := List.isSuffixOf_iff_suffix.1 hs
 obtain ⟨t, ht⟩ := h2
 have h3 : (a ++ [32] ++ b).getLast? = some 32 := by rw [← ht]; simp
 rw [List.getLast?_append] at h3
 cases hb2 : b.getLast? with
 | none => exact hb (List.getLast?_eq_none_iff.1 hb2)
 | some x =>
  rw [hb2] at h3 h
  simp at h3
  exact h (by rw [h3])
theorem text_last : ∀ f : Fin 2048, (flagsText (f.val : Int)).getLast? ≠ some 32 := by decide +kernel
theorem flagText_last {f : Int} {m : Nat} (h0 : -9223372036854775808 ≤ f) (h1 : f ≤ 9223372036854775807) (hm : m < 2048) : (flagText f m).1.getLast? ≠ some 32 := by
 unfold flagText
 cases ho : outF f m with
 | true => simp
 | false =>
  have h := outF_small h0 h1 hm ho
  have := text_last ⟨f.toNat, by omega⟩
  simp only at this
  rw [show ((f.toNat : Nat) : Int) = f by omega] at this
  simpa using this
theorem lastC {f : Int} (h0 : -9223372036854775808 ≤ f) (h1 : f ≤ 9223372036854775807) : (flagText f 1585).1.getLast? ≠ some 32 := flagText_last (m := 1585) h0 h1 (by omega)
theorem lastM {f : Int} (h0 : -9223372036854775808 ≤ f) (h1 : f ≤ 9223372036854775807) : (flagText f 1055).1.getLast? ≠ some 32 := flagText_last (m := 1055) h0 h1 (by omega)
def behT (b : List UInt8) : List UInt8 := if b = [] then [] else [32] ++ b
theorem wordT_beh (a b : List UInt8) (h : b.getLast? ≠ some 32) : wordT a b = a ++ behT b := by
 unfold behT
 by_cases hb : b = []
 ·rw [if_pos hb, hb, wordT_nil, List.append_nil]
 ·rw [if_neg hb, wordT_some a b hb h, List.append_assoc]
theorem line1_eq (x : List UInt8) : lineT [x] = x ++ [10] := by simp [lineT, join1]
theorem line2_eq (x y : List UInt8) : lineT [x, y] = x ++ [32] ++ y ++ [10] := by simp [lineT, join2]
theorem bs_cat {a b : ByteArray} {x y : List UInt8} (h1 : a = bs x) (h2 : b = bs y) : a ++ b = bs (x ++ y) := by rw [h1, h2, bs_append]
def ifsRelR (pre : List UInt8) (ifs : List (List UInt8)) (w1 : World) (s t : Value) (wr : World) : Prop :=
 ∃ (k : Nat) (l : List UInt8), s = .string (bs l) ∧ t = .int .i64 k ∧ k ≤ ifs.length ∧ Hid (l = pre ++ (ifs.take k).flatMap ifT) ∧ l.length ≤ 200 + k * 100 ∧ Upd w1 wr []
def msRelR (pre : List UInt8) (ms : List MethL) (w1 : World) (s t : Value) (wr : World) : Prop :=
 ∃ (k : Nat) (l : List UInt8), s = .string (bs l) ∧ t = .int .i64 k ∧ k ≤ ms.length ∧ Hid (l = pre ++ (ms.take k).flatMap methT) ∧ l.length ≤ 10000 + k * 3000000 ∧ Upd w1 wr []
def codeRelR (pre : List UInt8) (code : List InstL) (m : Nat) (w1 : World) (s t : Value) (wr : World) : Prop :=
 ∃ (k : Nat) (l : List UInt8), s = .string (bs l) ∧ t = .int .i64 k ∧ k ≤ code.length ∧ Hid (l = pre ++ (code.take k).flatMap instT) ∧ l.length ≤ m + k * 10001 ∧ Upd w1 wr []
theorem printR5_bad (c : ClassL) (w : World) (hf : c.fit w) (hb : checkB c = false) :
  Calls Tryz.prog 16 #[c.v] w fun e w' => e = .returned (.tuple #[.string (bs []), .int .i64 1]) ∧ Upd w w' [] := by
 have Hck := fun w (hf : c.fit w) => hid (checkR5_any c w hf)
 rw [hb, show errIf false = 1 from rfl] at Hck
 have HF := hid hf
 clear hb hf
 obtain ⟨cn, cs, AI, cI, ifs, fl, ld, A, cap, ms⟩ := c
 unfold ClassL.v ClassL.cells at Hck ⊢
 simp only at Hck ⊢
 have hU0 : Upd w (w.alloc (.cells #[.string (bs cn), .string (bs cs), .slice AI ifs.length cI, .int .i64 fl, .int .i64 ld, .slice A ms.length cap] 25)) [] := (Upd.refl _ _).alloc _
 go_enter Tryz.func16, Tryz.ntmps16
 go_wp2_with fail
 refine (Hck _ (HF.out.upd hU0)).out.mono ?_
 rintro e w1 ⟨rfl, hU1⟩
 go_wp2
 go_ret2
 exact ⟨rfl, hU0.trans hU1⟩
set_option maxHeartbeats 16000000 in
set_option maxRecDepth 100000 in
theorem printR5_ok (c : ClassL) (w : World) (hf : c.fit w) (hcb : checkB c = true) :
  Calls Tryz.prog 16 #[c.v] w fun e w' => e = .returned (.tuple #[.string (bs (printL c)), .int .i64 0]) ∧ Upd w w' [] := by
 have Hck := fun w (hf : c.fit w) => hid (checkR5_any c w hf)
 rw [hcb, show errIf true = 0 from rfl] at Hck
 have HF := hid hf
 obtain ⟨hn40, hn20, hhd, hms⟩ := check_parts hcb
 obtain ⟨hv1, hv2, -, -, hv5, hld1, hld2⟩ := header_parts hhd
 have hnm := validB_le hv1
 have hsup := validB_le hv2
 have Hif := hid (ifsB_le hv5)
 have HMS := hid hms
 have Hft := hid (flagText_le c.fl 1585)
 have HP : Hid (printL c = midT c ++ c.ms.flatMap methT ++ ([101, 110, 100] ++ [10])) := hid (by unfold printL; rw [line1_eq]; rfl)
 have HM : Hid (midT c = headT c ++ c.ifs.flatMap ifT ++ flagsB ++ behT (flagText c.fl 1585).1 ++ [10, 108, 111, 97, 100, 101, 114, 32] ++ Lib.itoa c.ld ++ [10]) := hid (by
  unfold midT
  rw [line1_eq, line2_eq, wordT_beh _ _ (lastC hf.flN.1 hf.flN.2)]
  simp [loaderB])
 have HH : Hid (headT c = [99, 108, 97, 115, 115, 32] ++ c.nm ++ [10, 115, 117, 112, 101, 114, 32] ++ c.sup ++ [10]) := hid (by unfold headT; rw [line2_eq, line2_eq]; simp [clsWd, supB])
 have Hct := fun w => hid (classTextR_any c.fl hf.flN.1 hf.flN.2 w)
 clear hcb hf hhd hms hv1 hv2 hv5
 generalize printL c = PL at HP ⊢
 generalize midT c = MT at HP HM
 generalize headT c = HT at HM HH
 obtain ⟨cn, cs, AI, cI, ifs, fl, ld, A, cap, ms⟩ := c
 unfold ClassL.v ClassL.cells at Hck ⊢
 simp only at Hck Hct Hif HMS Hft HP HM HH hn40 hn20 hnm hsup hld1 hld2 ⊢
 obtain ⟨ftx, hft⟩ : ∃ p, flagText fl 1585 = p := ⟨_, rfl⟩
 rw [hft] at Hft HM Hct
 obtain ⟨fx, fe⟩ := ftx
 simp only at Hft HM Hct
 clear hft
 have hU0 : Upd w (w.alloc (.cells #[.string (bs cn), .string (bs cs), .slice AI ifs.length cI, .int .i64 fl, .int .i64 ld, .slice A ms.length cap] 25)) [] := (Upd.refl _ _).alloc _
 go_enter Tryz.func16, Tryz.ntmps16
 go_wp2_with fail
 refine (Hck _ (HF.out.upd hU0)).out.mono ?_
 rintro e w1 ⟨rfl, hU1⟩
 have HV1 := hid (hU0.trans hU1)
 have HF1 := hid (HF.out.upd HV1.out)
 have Hbox := hid (hU1.blk (Blk.new w 25 #[.string (bs cn), .string (bs cs), .slice AI ifs.length cI, .int .i64 fl, .int .i64 ld, .slice A ms.length cap]) (by simp))
 have hz1 : w.heap.size < w1.heap.size := Hbox.out.lt
 have y0 := Hbox.out.cell 0
 have y1 := Hbox.out.cell 1
 have y2 := Hbox.out.cell 2
 simp at y0 y1 y2
 have hs1 : (bs cn).size ≤ 60 := by rw [bs_size]; exact hnm
 have hs2 : (bs cs).size ≤ 60 := by rw [bs_size]; exact hsup
 have Hcat0 := hid (show (⟨#[99, 108, 97, 115, 115, 32]⟩ : ByteArray) ++ bs cn ++ ⟨#[10, 115, 117, 112, 101, 114, 32]⟩ ++ bs cs ++ ⟨#[10]⟩ = bs HT by
  rw [HH.out]
  exact bs_cat (bs_cat (bs_cat (bs_cat rfl rfl) rfl) rfl) rfl)
 have HHTl := hid (show HT.length ≤ 200 by rw [HH.out]; simp; omega)
 have hcapI := HF1.out.capI
 have hlenI := HF1.out.lenI
 have hlenM := HF1.out.lenM
 have hcapM := HF1.out.capM
 simp only at hcapI hlenI hlenM hcapM
 clear hU1 HF Hck hnm hsup HH
 go_wp2
 clear y0 y1 y2 hs1 hs2
 go_loopw [4, 5] (fun s t wr => ifsRelR HT ifs w1 s t wr) (fun _ t _ => ifs.length - (intOf t).toNat)
 case atStart => exact ⟨0, HT, by rw [Hcat0.out], rfl, Nat.zero_le _, hid (by simp), by have := HHTl.out; omega, Upd.refl _ _⟩
 case round =>
  obtain ⟨k, l, rfl, rfl, hk, hl, hll, hU⟩ := hrel
  have HUr := hid hU
  have Hll := hid hll
  have hbx := hU.blk Hbox.out (by simp)
  have hzr : w.heap.size < wr.heap.size := hbx.lt
  have y2 := hbx.cell 2
  simp at y2
  have hsl : (bs l).size ≤ 3000 := by rw [bs_size]; omega
  clear hll
  by_cases hlt : k < ifs.length
  ·have hne : ifs ≠ [] := by rintro rfl; simp at hlt
   obtain ⟨bk, off, hAe, hbk, hc⟩ := HF1.out.ifs hne
   simp only at hAe hc
   subst hAe
   have hbr : bk < wr.heap.size := Nat.lt_of_lt_of_le hbk hU.size
   have x0 : wr.cell? ⟨bk, off + k, none⟩ = some (.string (bs ifs[k])) := by rw [hU.cells.1 _ _ hbk]; exact hc k hlt
   have Hxl := hid (Hif.out k hlt)
   have Hst : Hid (l ++ [105, 102, 97, 99, 101, 32] ++ ifs[k] ++ [10] = HT ++ (ifs.take (k + 1)).flatMap ifT) := hid (by rw [hl.out, flatMap_take _ _ _ hlt]; unfold ifT; rw [line2_eq]; simp [ifaceB])
   have hkc : k < cI := by omega
   have hki : (k : Int) < ifs.length := by omega
   generalize ifs[k] = x at x0 Hxl Hst
   have hsx : (bs x).size ≤ 60 := by rw [bs_size]; exact Hxl.out
   have Hcat := hid (show bs l ++ (⟨#[105, 102, 97, 99, 101, 32]⟩ : ByteArray) ++ bs x ++ ⟨#[10]⟩ = bs (HT ++ (ifs.take (k + 1)).flatMap ifT) by
    rw [← Hst.out]
    exact bs_cat (bs_cat (bs_cat rfl rfl) rfl) rfl)
   have Hl4 := hid (show (HT ++ (ifs.take (k + 1)).flatMap ifT).length ≤ 200 + (k + 1) * 100 by
    have h1 := Hll.out
    have h2 := Hxl.out
    rw [← Hst.out]
    simp
    omega)
   clear hc hU hbx hl Hst
   go_wp2
   go_roundw
   case rel => exact ⟨k + 1, _, by rw [Hcat.out], by go_num, by omega, hid rfl, Hl4.out, HUr.out⟩
   case measure => simp [intOf]; omega
  ·obtain rfl : k = ifs.length := by omega
   have HL := hid (show l = HT ++ ifs.flatMap ifT by rw [hl.out, List.take_length])
   have y3 := hbx.cell 3
   have y4 := hbx.cell 4
   have y5 := hbx.cell 5
   simp at y3 y4 y5
   clear hl hU
   go_wp2_with fail
   refine (Hct _).out.mono ?_
   rintro e w4 ⟨rfl, hU4⟩
   have HU4 := hid (HUr.out.trans hU4)
   have hbx4 := hU4.blk hbx (by simp)
   have y4 := hbx4.cell 4
   have y5 := hbx4.cell 5
   simp at y4 y5
   have hz4 : w.heap.size < w4.heap.size := hbx4.lt
   clear hU4 HUr hbx hbx4 y2 y3
   have hsf : (bs fx).size ≤ 80 := by rw [bs_size]; exact Hft.out
   go_upto_if 51 with fail
   go_cut [4] (fun s wx => s = .string (bs (l ++ flagsB ++ behT fx)) ∧ wx = w4)
   case first =>
    by_cases hfx : fx = []
    ·subst hfx
     have he1 : ((bs []).toList != []) = false := by rw [bs_toList]; rfl
     have Hc := hid (show bs l ++ (⟨#[102, 108, 97, 103, 115]⟩ : ByteArray) = bs (l ++ flagsB ++ behT []) by
      rw [show l ++ flagsB ++ behT [] = l ++ flagsB by simp [behT]]
      exact bs_cat rfl rfl)
     go_wp2
     all_goals
      go_meet
      first | (exfalso; rename_i h; simp [bs_toList] at h; done) | exact ⟨by rw [Hc.out], rfl⟩
    ·have Hfx := hid hfx
     have he1 : ((bs fx).toList != []) = true := by rw [bs_toList]; simpa using hfx
     have he2 : (!(bs fx).toList.isEmpty) = true := by rw [bs_toList]; simpa using hfx
     have he3 : ¬ (bs fx).toList = [] := by rw [bs_toList]; exact hfx
     have Hc := hid (show bs l ++ (⟨#[102, 108, 97, 103, 115]⟩ : ByteArray) ++ ⟨#[32]⟩ ++ bs fx = bs (l ++ flagsB ++ behT fx) by
      rw [show l ++ flagsB ++ behT fx = l ++ flagsB ++ [32] ++ fx by simp [behT, hfx]]
      exact bs_cat (bs_cat (bs_cat rfl rfl) rfl) rfl)
     clear hfx
     go_wp2
     all_goals
      go_meet
      first | (exfalso; rename_i h; rw [bs_toList] at h; simp at h; exact Hfx.out h) | exact ⟨by rw [Hc.out], rfl⟩
   case rest =>
    obtain ⟨rfl, rfl⟩ := hcut
    have Hlb := hid (show (l ++ flagsB ++ behT fx).length ≤ 3000 by
     have h1 := Hll.out
     have h2 := Hft.out
     unfold behT
     split <;> simp [flagsB] <;> omega)
    obtain ⟨lb, hlb⟩ : ∃ lb, l ++ flagsB ++ behT fx = lb := ⟨_, rfl⟩
    rw [hlb] at Hlb ⊢
    have HLB := hid hlb
    clear hlb
    have hslb : (bs lb).size ≤ 3000 := by rw [bs_size]; exact Hlb.out
    have Hle := hid (Lib.itoa_length_le ld HF1.out.ldN.1 HF1.out.ldN.2)
    have hsi : (bs (Lib.itoa ld)).size ≤ 21 := by rw [bs_size]; exact Hle.out
    have HMT := hid (show bs lb ++ (⟨#[10, 108, 111, 97, 100, 101, 114, 32]⟩ : ByteArray) ++ bs (Lib.itoa ld) ++ ⟨#[10]⟩ = bs MT by
     rw [HM.out, ← HL.out, ← show lb = l ++ flagsB ++ behT fx from HLB.out.symm]
     exact bs_cat (bs_cat (bs_cat rfl rfl) rfl) rfl)
    have Hl7 := hid (show MT.length ≤ 10000 by
     have h1 := Hlb.out
     have h2 := Hle.out
     rw [HM.out, ← HL.out, HLB.out]
     simp
     omega)
    clear hsl hsf
    go_wp2_with fail
    refine (decimal_any ld _ HF1.out.ldN.1 HF1.out.ldN.2).mono ?_
    rintro e w6 ⟨rfl, hU6⟩
    have HU6 := hid (HU4.out.trans hU6)
    have hbx6 := HU6.out.blk Hbox.out (by simp)
    have y5 := hbx6.cell 5
    simp at y5
    have hz6 : w.heap.size < w6.heap.size := hbx6.lt
    clear hU6 hbx6 y4 HL HM HLB
    go_wp2
    go_loopw [4, 8] (fun s t wr => msRelR MT ms w1 s t wr) (fun _ t _ => ms.length - (intOf t).toNat)
    case atStart => exact ⟨0, MT, by rw [HMT.out], rfl, Nat.zero_le _, hid (by simp), by have := Hl7.out; omega, HU6.out⟩
    case round =>
     obtain ⟨k, l, rfl, rfl, hk, hl, hll, hU⟩ := hrel
     have HUr := hid hU
     have Hll := hid hll
     have hbx := hU.blk Hbox.out (by simp)
     have hzr : w.heap.size < wr.heap.size := hbx.lt
     have y5 := hbx.cell 5
     simp at y5
     clear hll
     by_cases hlt : k < ms.length
     ·have hne : ms ≠ [] := by rintro rfl; simp at hlt
      obtain ⟨bk, off, hAe, hbk, hc⟩ := HF1.out.ms hne
      simp only at hAe hc
      subst hAe
      have hsl : (bs l).size ≤ 200000000 := by rw [bs_size]; have := Hll.out; omega
      have hbr : bk < wr.heap.size := Nat.lt_of_lt_of_le hbk hU.size
      obtain ⟨mn, md, mf, lo, st, A', cap', code, e⟩ : ∃ a b c d f g h i, ms[k] = MethL.mk a b c d f g h i := ⟨_, _, _, _, _, _, _, _, rfl⟩
      obtain ⟨x0, x1, x2, x3, x4, x5⟩ := MethsAt.six (w := wr) (fun i hi j hj => by rw [hU.cells.1 _ _ hbk]; exact hc i hi j hj) hlt e
      have hmem : ms[k] ∈ ms := List.getElem_mem hlt
      have hgk := (HMS.out k hlt).1
      have hst := flatMap_take methT ms k hlt
      rw [e] at hmem hgk hst
      have Hmf := hid ((HF1.out.meths _ hmem))
      obtain ⟨hp1, hp2, -, hp4, hp5⟩ := method_parts hgk
      have hok : ∀ i, i ∈ code → i.ok = true := by
       intro i hi
       cases hab : anyF mf 1024 with
       | true => have := (hp4 hab).2.2; simp only at this; subst this; cases hi
       | false => exact (allOk_each (hp5 hab).2.2.2.2).2 i hi
      have hclen : code.length ≤ 200 := by
       cases hab : anyF mf 1024 with
       | true => have := (hp4 hab).2.2; simp only at this; subst this; simp
       | false => exact (allOk_each (hp5 hab).2.2.2.2).1
      have Hok := hid hok
      have Hclen := hid hclen
      have Hmn := hid (memberB_le hp2)
      have Hmd := hid (descL_le hp1)
      have Hmfn := hid Hmf.out.num
      unfold MethL.num at Hmfn
      simp only at Hmfn
      have Hst : Hid (l ++ methT ⟨mn, md, mf, lo, st, A', cap', code⟩ = MT ++ (ms.take (k + 1)).flatMap methT) := hid (by rw [hl.out, hst, List.append_assoc])
      have HMt : Hid (methT ⟨mn, md, mf, lo, st, A', cap', code⟩ = mheadT ⟨mn, md, mf, lo, st, A', cap', code⟩ ++ code.flatMap instT) := hid rfl
      have Hmt := fun w => hid (methodTextR_any mf Hmfn.out.1.1 Hmfn.out.1.2 w)
      have Hft2 := hid (flagText_le mf 1055)
      have HMh : Hid (mheadT ⟨mn, md, mf, lo, st, A', cap', code⟩ = methB ++ mn ++ [32] ++ md ++ behT (flagText mf 1055).1 ++ [10, 108, 111, 99, 97, 108, 115, 32] ++ Lib.itoa lo ++ [10, 115, 116, 97, 99, 107, 32] ++ Lib.itoa st ++ [10]) := hid (by
       unfold mheadT
       rw [line1_eq, line2_eq, line2_eq, wordT_beh _ _ (lastM Hmfn.out.1.1 Hmfn.out.1.2)]
       simp [localsB, stackB])
      generalize methT ⟨mn, md, mf, lo, st, A', cap', code⟩ = mT at Hst HMt
      generalize mheadT ⟨mn, md, mf, lo, st, A', cap', code⟩ = hT at HMt HMh
      obtain ⟨ftx, hft⟩ : ∃ p, flagText mf 1055 = p := ⟨_, rfl⟩
      rw [hft] at Hft2 HMh Hmt
      obtain ⟨gx, ge⟩ := ftx
      simp only at Hft2 HMh Hmt Hmn Hmd
      have hkc : k < cap := by omega
      have hki : (k : Int) < ms.length := by omega
      have hUa : Upd wr (wr.alloc (.cells #[.string (bs mn), .string (bs md), .int .i64 mf, .int .i64 lo, .int .i64 st, .slice A' code.length cap'] 34)) [] := (Upd.refl _ _).alloc _
      have HUa := hid hUa
      have hn1 : (bs mn).size ≤ 60 := by rw [bs_size]; exact Hmn.out
      have hn2 : (bs md).size ≤ 2000 := by rw [bs_size]; exact Hmd.out
      clear hft hst hc hU hbx hmem hgk hp1 hp2 hp4 hp5 hok hclen e hUa hl
      go_wp2_with fail
      refine (Hmt _).out.mono ?_
      rintro e w8 ⟨rfl, hU8⟩
      have HU8 := hid (HUr.out.trans (HUa.out.trans hU8))
      have Hmx := hid (hU8.blk (Blk.new wr 34 #[.string (bs mn), .string (bs md), .int .i64 mf, .int .i64 lo, .int .i64 st, .slice A' code.length cap']) (by simp))
      have v3 := Hmx.out.cell 3
      have v4 := Hmx.out.cell 4
      have v5 := Hmx.out.cell 5
      simp at v3 v4 v5
      have hz8 : wr.heap.size < w8.heap.size := Hmx.out.lt
      have hz8' : w.heap.size < w8.heap.size := by omega
      clear hU8 x0 x1 x2 x3 x4 x5 HUr HUa y5
      have hsg : (bs gx).size ≤ 80 := by rw [bs_size]; exact Hft2.out
      go_upto_if 91 with fail
      go_cut [4] (fun s wx => s = .string (bs (l ++ methB ++ mn ++ [32] ++ md ++ behT gx)) ∧ wx = w8)
      case first =>
       by_cases hfx : gx = []
       ·subst hfx
        have he1 : ((bs []).toList != []) = false := by rw [bs_toList]; rfl
        have Hc := hid (show bs l ++ (⟨#[109, 101, 116, 104, 111, 100, 32]⟩ : ByteArray) ++ bs mn ++ ⟨#[32]⟩ ++ bs md = bs (l ++ methB ++ mn ++ [32] ++ md ++ behT []) by
         rw [show l ++ methB ++ mn ++ [32] ++ md ++ behT [] = l ++ methB ++ mn ++ [32] ++ md by simp [behT]]
         exact bs_cat (bs_cat (bs_cat (bs_cat rfl rfl) rfl) rfl) rfl)
        go_wp2
        all_goals
         go_meet
         first | (exfalso; rename_i h; simp [bs_toList] at h; done) | exact ⟨by rw [Hc.out], rfl⟩
       ·have Hfx := hid hfx
        have he1 : ((bs gx).toList != []) = true := by rw [bs_toList]; simpa using hfx
        have he2 : (!(bs gx).toList.isEmpty) = true := by rw [bs_toList]; simpa using hfx
        have he3 : ¬ (bs gx).toList = [] := by rw [bs_toList]; exact hfx
        have Hc := hid (show bs l ++ (⟨#[109, 101, 116, 104, 111, 100, 32]⟩ : ByteArray) ++ bs mn ++ ⟨#[32]⟩ ++ bs md ++ ⟨#[32]⟩ ++ bs gx = bs (l ++ methB ++ mn ++ [32] ++ md ++ behT gx) by
         rw [show l ++ methB ++ mn ++ [32] ++ md ++ behT gx = l ++ methB ++ mn ++ [32] ++ md ++ [32] ++ gx by simp [behT, hfx]]
         exact bs_cat (bs_cat (bs_cat (bs_cat (bs_cat (bs_cat rfl rfl) rfl) rfl) rfl) rfl) rfl)
        clear hfx
        go_wp2
        all_goals
         go_meet
         first | (exfalso; rename_i h; rw [bs_toList] at h; simp at h; exact Hfx.out h) | exact ⟨by rw [Hc.out], rfl⟩
      case rest =>
       obtain ⟨rfl, rfl⟩ := hcut
       have Hlb := hid (show (l ++ methB ++ mn ++ [32] ++ md ++ behT gx).length ≤ 10000 + k * 3000000 + 2300 by
        have h1 := Hll.out
        have h2 := Hft2.out
        have h3 := Hmn.out
        have h4 := Hmd.out
        unfold behT
        split <;> simp [methB] <;> omega)
       have HhT : Hid (l ++ hT = l ++ methB ++ mn ++ [32] ++ md ++ behT gx ++ [10, 108, 111, 99, 97, 108, 115, 32] ++ Lib.itoa lo ++ [10, 115, 116, 97, 99, 107, 32] ++ Lib.itoa st ++ [10]) := hid (by rw [HMh.out]; simp only [List.append_assoc])
       generalize l ++ methB ++ mn ++ [32] ++ md ++ behT gx = lb at Hlb HhT ⊢
       have hslb : (bs lb).size ≤ 200000000 := by rw [bs_size]; have := Hlb.out; omega
       have Hlo := hid (Lib.itoa_length_le lo Hmfn.out.2.1.1 Hmfn.out.2.1.2)
       have Hst2 := hid (Lib.itoa_length_le st Hmfn.out.2.2.1 Hmfn.out.2.2.2)
       have hsi : (bs (Lib.itoa lo)).size ≤ 21 := by rw [bs_size]; exact Hlo.out
       have hsj : (bs (Lib.itoa st)).size ≤ 21 := by rw [bs_size]; exact Hst2.out
       have Hcat2 := hid (show bs lb ++ (⟨#[10, 108, 111, 99, 97, 108, 115, 32]⟩ : ByteArray) ++ bs (Lib.itoa lo) ++ ⟨#[10, 115, 116, 97, 99, 107, 32]⟩ ++ bs (Lib.itoa st) ++ ⟨#[10]⟩ = bs (l ++ hT) by
        rw [HhT.out]
        exact bs_cat (bs_cat (bs_cat (bs_cat (bs_cat rfl rfl) rfl) rfl) rfl) rfl)
       have Hl13 := hid (show (l ++ hT).length ≤ 10000 + k * 3000000 + 2500 by
        have h1 := Hlb.out
        have h2 := Hlo.out
        have h3 := Hst2.out
        rw [HhT.out]
        simp
        omega)
       have r3 := cell_regrown v3
       have r4 := cell_regrown v4
       have hq1 := fun d os => quiet_of (W := wc) (d := d) (os := os) fun w _ => decimal_any lo w Hmfn.out.2.1.1 Hmfn.out.2.1.2
       have hq2 := fun d os => quiet_of (W := wc) (d := d) (os := os) fun w _ => decimal_any st w Hmfn.out.2.2.1 Hmfn.out.2.2.2
       have HQ1 := hid hq1
       have HQ2 := hid hq2
       clear hq1 hq2 hsl hn1 hn2 hsg
       go_wp2
       refine wp_region_quiet_below (by kernel_rfl) (by kernel_rfl) ?_
       repeat (any_goals (first | go_big_quiet_step (first | (with_reducible exact HQ1.out _ _) | (with_reducible exact HQ2.out _ _)) | quiet_step (first | (with_reducible exact HQ1.out _ _) | (with_reducible exact HQ2.out _ _))))
       refine wpQuiet_nil ?_
       intro _ hw'
       obtain ⟨⟨dq, osq⟩, hw''⟩ := hw'
       subst hw''
       have HU9 := hid (HU8.out.trans (Upd.of_below (below_regrown wc dq osq) []))
       have Hmy := hid ((Upd.of_below (below_regrown wc dq osq) []).blk Hmx.out (by simp))
       revert HU9 Hmy
       generalize grow (redrawn wc dq) osq = w9
       intro HU9 Hmy
       have hz9 : wr.heap.size < w9.heap.size := Hmy.out.lt
       have v5 := Hmy.out.cell 5
       simp at v5
       have hcl := Hmf.out.cap
       have hcl2 := Hmf.out.len
       simp only at hcl hcl2
       clear r3 r4 v3 v4 hslb hsi hsj Hmx HU8 hz8 hz8'
       go_wp2
       go_loopw [4, 12] (fun s t wx => codeRelR (l ++ hT) code (10000 + k * 3000000 + 2500) w9 s t wx) (fun _ t _ => code.length - (intOf t).toNat)
       case atStart => exact ⟨0, l ++ hT, by rw [Hcat2.out], rfl, Nat.zero_le _, hid (by simp), by have := Hl13.out; omega, Upd.refl _ _⟩
       case round =>
        obtain ⟨j, q, rfl, rfl, hj, hq, hql, hU⟩ := hrel
        have HUs := hid hU
        have Hql := hid hql
        have hmz := hU.blk Hmy.out (by simp)
        have v5 := hmz.cell 5
        simp at v5
        clear hql
        by_cases hjl : j < code.length
        ·have hne2 : code ≠ [] := by rintro rfl; simp at hjl
         obtain ⟨ck, co, hCe, hck, hcc⟩ := Hmf.out.at_ hne2
         simp only at hCe hcc
         subst hCe
         have hUw := HU9.out.trans hU
         have hcr : ck < wr.heap.size := Nat.lt_of_lt_of_le hck hUw.size
         have hmzl := hmz.lt
         have hqs : (bs q).size ≤ 200000000 := by rw [bs_size]; have := Hql.out; have := Hclen.out; omega
         obtain ⟨op, n, tx, r, e⟩ : ∃ op n tx r, code[j] = InstL.mk op n tx r := ⟨_, _, _, _, rfl⟩
         obtain ⟨z0, z1, z2, z3, z4, z5, z6⟩ := InstsAt.seven (w := wr) (fun i hi j hj => by rw [hUw.cells.1 _ _ hck]; exact hcc i hi j hj) hjl e
         have hmi : code[j] ∈ code := List.getElem_mem hjl
         have hsq := flatMap_take instT code j hjl
         have hoi := Hok.out _ hmi
         have hfi := Hmf.out.fits _ hmi
         have hni := Hmf.out.nums _ hmi
         rw [e] at hmi hsq hoi hfi hni
         have Hpr := fun w => hid (printR_any ⟨op, n, tx, r⟩ w hfi hni)
         have Htl := hid (InstL.text_le hoi hni).1
         have Hsq : Hid (q ++ (InstL.mk op n tx r).text ++ [10] = l ++ hT ++ (code.take (j + 1)).flatMap instT) := hid (by rw [hq.out, hsq]; unfold instT; rw [line1_eq]; simp only [List.append_assoc])
         unfold printPost InstL.v InstL.cells at Hpr
         rw [hoi] at Hpr
         simp only [if_true, errIf] at Hpr
         generalize (InstL.mk op n tx r).text = it at Hpr Htl Hsq
         have hits : (bs it).size ≤ 10000 := by rw [bs_size]; exact Htl.out
         have Hcat3 := hid (show bs q ++ bs it ++ (⟨#[10]⟩ : ByteArray) = bs (l ++ hT ++ (code.take (j + 1)).flatMap instT) by
          rw [← Hsq.out]
          exact bs_cat (bs_cat rfl rfl) rfl)
         have hjc : j < cap' := by omega
         have hji : (j : Int) < code.length := by omega
         have Hl15 := hid (show (l ++ hT ++ (code.take (j + 1)).flatMap instT).length ≤ 10000 + k * 3000000 + 2500 + (j + 1) * 10001 by
          have h1 := Hql.out
          have h2 := Htl.out
          rw [← Hsq.out]
          simp only [List.length_append, List.length_cons, List.length_nil]
          omega)
         clear hq hsq hcc hU hUw hmi hoi hfi hni e hmz
         go_wp2_with fail
         refine (Hpr _).out.mono ?_
         rintro e w14 ⟨rfl, hU14⟩
         have HU14 := hid (HUs.out.trans hU14)
         clear hU14 z0 z1 z2 z3 z4 z5 z6 Hpr HUs v5
         go_wp2
         go_roundw
         case rel => exact ⟨j + 1, _, by rw [Hcat3.out], by go_num, by omega, hid rfl, Hl15.out, HU14.out⟩
         case measure => simp [intOf]; omega
        ·obtain rfl : j = code.length := by omega
         have HQ := hid (show q = MT ++ (ms.take (k + 1)).flatMap methT by rw [hq.out, List.take_length, ← Hst.out, HMt.out, List.append_assoc])
         have Hl16 := hid (show q.length ≤ 10000 + (k + 1) * 3000000 by
          have h1 := Hql.out
          have h2 := Hclen.out
          omega)
         have HU16 := hid (HU9.out.trans hU)
         have hmzl := hmz.lt
         clear hq hU hmz
         go_wp2
         go_roundw
         case rel => exact ⟨k + 1, q, rfl, by go_num, by omega, HQ, Hl16.out, HU16.out⟩
         case measure => simp [intOf]; omega
     ·obtain rfl : k = ms.length := by omega
      have HL := hid (show l = MT ++ ms.flatMap methT by rw [hl.out, List.take_length])
      have hsl : (bs l).size ≤ 200000000 := by rw [bs_size]; have := Hll.out; omega
      have Hcat := hid (show bs l ++ (⟨#[101, 110, 100, 10]⟩ : ByteArray) = bs PL by
       rw [HP.out, ← HL.out]
       exact bs_cat rfl rfl)
      clear hl hU hbx
      go_wp2
      go_ret2
      exact ⟨by rw [Hcat.out]; rfl, HV1.out.trans HUr.out⟩
end Go.Proofs.YtjjdlgjofjfgmaaGreatDoor
