/-
  The document's Args, Words, Find, method, walked.
-/
import Derived.Test.YtjjdlgjofjfgmaaGreatDoorK4
import Derived.Test.YtjjdlgjofjfgmaaGreatDoorK8
import Derived.Test.YtjjdlgjofjfgmaaGreatDoorKA
import Derived.Test.YtjjdlgjofjfgmaaGreatDoorKD
import Derived.Test.YtjjdlgjofjfgmaaGreatDoorKT
set_option linter.unusedSimpArgs false
set_option linter.unusedVariables false
namespace Go.Proofs.YtjjdlgjofjfgmaaGreatDoor
open Go.RowKit

set_option maxHeartbeats 1000000 in
theorem argsR_any (ds : List UInt8) (w : World) (hd : ds.length ≤ 9223372036854775807) :
    Calls Tryz.prog 39 #[.string (bs ds)] w fun e w' => e = .returned (.tuple #[.int .i64 (descL ds).1, .int .i64 (descL ds).2]) ∧ Upd w w' [] := by
  have Hb := hid (parseDescR_any ds w (by omega))
  generalize descL ds = q at Hb ⊢
  obtain ⟨qn, qe⟩ := q
  simp only
  go_enter Tryz.func39, Tryz.ntmps39
  go_wp2_with fail
  refine Hb.out.mono ?_
  rintro e w2 ⟨⟨A, cap, vd, d, nm', rfl⟩, hU3⟩
  go_wp2
  go_ret2
  exact ⟨rfl, hU3.alloc _⟩

set_option maxHeartbeats 1000000 in
theorem wordsR_any (m : MethL) (w : World) (hd : m.ds.length ≤ 9223372036854775807) (hn : (descL m.ds).1 ≤ 1000000) :
    Calls Tryz.prog 14 #[m.v] w fun e w' => e = .returned (.tuple #[.int .i64 (wordsL m.ds m.fl).1, .int .i64 (wordsL m.ds m.fl).2]) ∧ Upd w w' [] := by
  obtain ⟨mn, ds, fl, lo, st, A, cap, code⟩ := m
  have Hb := fun w => hid (argsR_any ds w (by exact hd))
  unfold MethL.v MethL.cells wordsL
  simp only at hd hn ⊢
  generalize descL ds = q at Hb hn ⊢
  obtain ⟨qn, qe⟩ := q
  have hU : Upd w (w.alloc (.cells #[.string (bs mn), .string (bs ds), .int .i64 fl, .int .i64 lo, .int .i64 st, .slice A code.length cap] 34)) [] := (Upd.refl _ _).alloc _
  simp only at hn Hb ⊢
  have hw1 : wrap64 ((qn : Int) + 1) = (qn : Int) + 1 := by unfold wrap64; omega
  by_cases he : qe = 0
  · subst he
    obtain ⟨b, hb⟩ : ∃ b, (bits BinOp.and IntKind.i64 fl 8 != 0) = b := ⟨_, rfl⟩
    have hb2 : (bits BinOp.and IntKind.i64 fl 8 == 0) = !b := by rw [← hb]; simp [bne]
    rw [hb2]
    clear hb2
    cases b
    all_goals
      go_enter Tryz.func14, Tryz.ntmps14
      go_wp2_with fail
      refine (Hb _).out.mono ?_
      rintro e w1 ⟨rfl, hU1⟩
      obtain ⟨hc1, hf1, hz1⟩ := hU1.cells
      have hz1' : w.heap.size < w1.heap.size := by simp at hz1; omega
      go_wp2
      refine bodyPost_ret (v := .tuple #[.int .i64 _, .int .i64 _]) (by simp [results, Tryz.results14, go_sem]; exact ⟨rfl, rfl⟩) rfl ⟨by simp, hU.trans hU1⟩
  · have heb : (qe == 0) = false := by simpa using he
    go_enter Tryz.func14, Tryz.ntmps14
    go_wp2_with fail
    refine (Hb _).out.mono ?_
    rintro e w1 ⟨rfl, hU1⟩
    go_wp2
    refine bodyPost_ret (v := .tuple #[.int .i64 0, .int .i64 1]) (by simp [results, Tryz.results14, go_sem]) rfl ⟨by simp [he], hU.trans hU1⟩

set_option maxHeartbeats 4000000 in
set_option maxRecDepth 100000 in
theorem findR_any (c : ClassL) (nm ds : List UInt8) (w : World) (hA : MethsAt w c.AM c.ms) (hl : c.ms.length ≤ 2000000000000) (hcap : c.ms.length ≤ c.cM) :
    Calls Tryz.prog 12 #[c.v, .string (bs nm), .string (bs ds)] w fun e w' => e = .returned (.int .i64 (findL nm ds c.ms 0)) ∧ Upd w w' [] := by
  obtain ⟨cn, cs, AI, cI, ifs, fl, ld, A, cap, l⟩ := c
  unfold ClassL.v ClassL.cells
  simp only at hA hl hcap ⊢
  have hU0 : Upd w (w.alloc (.cells #[.string (bs cn), .string (bs cs), .slice AI ifs.length cI, .int .i64 fl, .int .i64 ld, .slice A l.length cap] 25)) [] := (Upd.refl _ _).alloc _
  have Hbox := hid (Blk.new w 25 #[.string (bs cn), .string (bs cs), .slice AI ifs.length cI, .int .i64 fl, .int .i64 ld, .slice A l.length cap])
  have HA := hid (hA.upd hU0)
  obtain ⟨w0, hw0⟩ : ∃ w0, w0 = w.alloc (.cells #[.string (bs cn), .string (bs cs), .slice AI ifs.length cI, .int .i64 fl, .int .i64 ld, .slice A l.length cap] 25) := ⟨_, rfl⟩
  go_enter Tryz.func12, Tryz.ntmps12
  rw [← hw0] at hU0 Hbox HA
  have HU0 := hid hU0
  clear hA hU0
  go_wp2
  rw [← hw0]
  clear hw0
  go_loopw [7] (fun t wr => indexMethRel l nm ds w0 t wr) (fun t _ => l.length - (intOf t).toNat)
  case atStart => exact ⟨0, rfl, Nat.zero_le _, hid (fun i _ h => absurd h (Nat.not_lt_zero _)), Upd.refl _ _⟩
  case round =>
    obtain ⟨k, rfl, hk, hgood, hU⟩ := hrel
    have hbx := hU.blk Hbox.out (by simp)
    have y5 := hbx.cell 5
    simp at y5
    have hzr : w.heap.size < wr.heap.size := hbx.lt
    by_cases hlt : k < l.length
    · have hne : l ≠ [] := by rintro rfl; simp at hlt
      obtain ⟨bk, off, rfl, hbk, hc⟩ := HA.out hne
      obtain ⟨mn, md, fl', lo, st, A', cap', code, e⟩ : ∃ a b c d f g h i, l[k] = MethL.mk a b c d f g h i := ⟨_, _, _, _, _, _, _, _, rfl⟩
      have hbr : bk < wr.heap.size := Nat.lt_of_lt_of_le hbk hU.size
      obtain ⟨x0, x1, -, -, -, -⟩ := MethsAt.six (w := wr) (fun i hi j hj => by rw [hU.cells.1 _ _ hbk]; exact hc i hi j hj) hlt e
      have hgd : hitB nm ds l[k] = false → Hid (∀ i (hi : i < l.length), i < k + 1 → hitB nm ds l[i] = false) := fun h => hid (fun i hi h2 => by
          rcases Nat.lt_or_ge i k with h3 | h3
          · exact hgood.out i hi h3
          · have : i = k := by omega
            subst this
            exact h)
      have hat := hid (fun h => findL_at nm ds l 0 k hlt (fun j hj hji => hgood.out j hj hji) h)
      have hhb : hitB nm ds l[k] = (decide (mn = nm) && decide (md = ds)) := by rw [e]; rfl
      have Hhb := hid hhb
      have Hgd := hid hgd
      have t1 := bs_beq mn nm
      have t2 := bs_beq md ds
      have HU := hid hU
      generalize decide (mn = nm) = b1 at *
      generalize decide (md = ds) = b2 at *
      clear hgd hgood hc e hhb hU hbx
      cases b1 with
      | true =>
        cases b2 with
        | true =>
          have Hat := hid (hat.out (by rw [Hhb.out]; rfl))
          clear hat Hhb Hgd
          go_wp2
          go_ret
          exact ⟨ret_int (by rw [Hat.out]; simp), HU0.out.trans HU.out⟩
        | false =>
          have Hg := Hgd.out (by rw [Hhb.out]; rfl)
          clear hat Hhb Hgd
          go_wp2
          go_roundw
          case rel => exact ⟨k + 1, by go_num, by omega, Hg, HU.out⟩
          case measure => simp [intOf]; omega
      | false =>
        have Hg := Hgd.out (by rw [Hhb.out]; rfl)
        clear hat Hhb Hgd t2
        go_wp2
        go_roundw
        case rel => exact ⟨k + 1, by go_num, by omega, Hg, HU.out⟩
        case measure => simp [intOf]; omega
    · obtain rfl : k = l.length := by omega
      have Hn := hid (findL_none nm ds l 0 (fun j hj => hgood.out j hj hj))
      have HU := hid hU
      clear hgood hU hbx
      go_wp2
      go_ret
      exact ⟨ret_int (by rw [Hn.out]), HU0.out.trans HU.out⟩

theorem memberRl_any (l : List UInt8) (w : World) (hs : l.length ≤ 9223372036854775807) : Calls Tryz.prog 85 #[.string (bs l)] w fun e w' => e = .returned (.bool (memberB l)) ∧ w = w' := by
  have := memberR_any (bs l) w (by rw [bs_size]; exact hs)
  rw [bs_data] at this
  exact this

set_option maxHeartbeats 8000000 in
set_option maxRecDepth 100000 in
theorem methodR_any (m : MethL) (iface : Bool) (w : World) (hf : m.fit w) :
    Calls Tryz.prog 34 #[m.v, .bool iface] w fun e w' => e = .returned (.bool (methodB m iface)) ∧ Upd w w' [] := by
  have h1 := hf.nm
  have h2 := hf.ds
  have hl := hf.len
  have hfl := hf.num.1
  have Hw := fun w hn => hid (wordsR_any m w h2 hn)
  have HA := hid hf.at_
  have Hfit := hid hf.fits
  clear hf
  obtain ⟨mn, ds, fl, lo, st, A, cap, code⟩ := m
  obtain ⟨bm, hbm⟩ : ∃ b, methodB ⟨mn, ds, fl, lo, st, A, cap, code⟩ iface = b := ⟨_, rfl⟩
  rw [hbm]
  unfold methodB at hbm
  have Hx := hid hbm
  clear hbm
  unfold MethL.v MethL.cells
  unfold MethL.v MethL.cells at Hw
  simp only at HA hl Hfit h1 h2 hfl Hw Hx ⊢
  have hU0 : Upd w (w.alloc (.cells #[.string (bs mn), .string (bs ds), .int .i64 fl, .int .i64 lo, .int .i64 st, .slice A code.length cap] 34)) [] := (Upd.refl _ _).alloc _
  have Hd := fun w => hid (parseDescVR_any ds w h2)
  have Hmb := fun w => hid (memberRl_any mn w h1)
  have Hcm := fun w => hid (checkMethodR_any fl iface mn w)
  rw [method_law hfl.1 hfl.2] at Hcm
  have h7 : ((bs mn).toList == [60, 105, 110, 105, 116, 62]) = decide (mn = initB) := by
    rw [bs_toList, Bool.eq_iff_iff, decide_eq_true_eq]
    simp [initB]
  have hb1024 : (bits BinOp.and IntKind.i64 fl 1024 != 0) = anyF fl 1024 := rfl
  go_enter Tryz.func34, Tryz.ntmps34
  cases hmb : memberB mn with
  | false =>
    rw [hmb] at Hmb
    go_wp2_with fail
    refine (Hmb _).out.mono ?_
    rintro e w3 ⟨rfl, rfl⟩
    go_wp2
    go_ret
    exact ⟨bool_ret (by rw [← Hx.out, hmb]; simp), hU0⟩
  | true =>
    rw [hmb] at Hmb
    generalize hib : decide (mn = initB) = ib at *
    cases hmf : methodF fl iface ib with
    | false =>
      rw [hmf, show errIf false = 1 from rfl] at Hcm
      go_wp2_with fail
      refine (Hmb _).out.mono ?_
      rintro e w3 ⟨rfl, rfl⟩
      go_wp2_with fail
      refine (Hcm _).out.mono ?_
      rintro e w1 ⟨rfl, hU1⟩
      go_wp2
      go_ret
      exact ⟨bool_ret (by rw [← Hx.out, hmf]; simp), hU0.trans hU1⟩
    | true =>
      rw [hmf, show errIf true = 0 from rfl] at Hcm
      go_wp2_with fail
      refine (Hmb _).out.mono ?_
      rintro e w3 ⟨rfl, rfl⟩
      go_wp2_with fail
      refine (Hcm _).out.mono ?_
      rintro e w1 ⟨rfl, hU1⟩
      obtain ⟨hc1, hf1, hz1⟩ := hU1.cells
      have hz1' : w.heap.size < w1.heap.size := by simp at hz1; omega
      go_wp2_with fail
      refine (Hd _).out.mono ?_
      rintro e w2 ⟨⟨A', cap', vd, d, nm', rfl, hvd⟩, hU2⟩
      have hV2 := hU1.trans hU2
      clear hc1 hf1 hz1 hz1' hU1 hU2
      obtain ⟨hc1, hf1, hz1⟩ := hV2.cells
      have hz1' : w.heap.size < w2.heap.size := by simp at hz1; omega
      have hU3 := (hU0.trans hV2).alloc (.cells #[.slice A' (descL ds).1 cap', .bool vd, .int .i64 d, .string (bs nm')] 113)
      generalize hq : descL ds = q at *
      obtain ⟨qn, qe⟩ := q
      simp only at hvd hU3
      by_cases hqe : qe = 0
      · have hv := hvd hqe
        subst hqe
        subst hv
        clear hvd
        obtain ⟨hc2, hf2, hz2⟩ := hU3.cells
        generalize voidL ds = vv at *
        have hz2' : w.heap.size < (w2.alloc (.cells #[.slice A' qn cap', .bool vv, .int .i64 d, .string (bs nm')] 113)).heap.size := by simp; omega
        by_cases hiv : ib = true ∧ vv = false
        · obtain ⟨rfl, rfl⟩ := hiv
          go_wp2
          go_ret
          exact ⟨bool_ret (by rw [← Hx.out, hmb, hmf]; simp), hU3⟩
        · generalize anyF fl 1024 = ab at hb1024 Hx
          have Hy : Hid ((if ab = true then decide (lo = 0) && decide (st = 0) && decide (code.length = 0) else decide ((wordsL ds fl).1 ≤ lo) && decide (lo ≤ 40) && decide (0 ≤ st) && decide (st ≤ 40) && allOk code lo) = bm) := hid (by
            have := Hx.out
            rw [hmb, hmf] at this
            revert this
            cases ib <;> cases vv <;> first | (exact absurd ⟨rfl, rfl⟩ hiv) | simp)
          clear Hx
          cases ab with
          | true =>
            have e1 : (lo == 0) = decide (lo = 0) := by rw [Bool.eq_iff_iff]; simp
            have e2 : (st == 0) = decide (st = 0) := by rw [Bool.eq_iff_iff]; simp
            have e3 : ((code.length : Int) == 0) = decide (code.length = 0) := by rw [Bool.eq_iff_iff]; simp
            generalize decide (lo = 0) = q1 at e1 Hy
            generalize decide (st = 0) = q2 at e2 Hy
            generalize decide (code.length = 0) = q3 at e3 Hy
            cases ib <;> cases vv <;> first | (exact absurd ⟨rfl, rfl⟩ hiv) | skip
            all_goals
              clear hiv
              cases q1 <;> cases q2 <;> cases q3
              all_goals
                go_wp2
                go_ret
                exact ⟨bool_ret (by rw [← Hy.out]; simp), hU3⟩
          | false =>
            have hqn : qn ≤ 1000000 := by have := descL_few ds; rw [hq] at this; exact Nat.le_trans this (by omega)
            generalize hwl : wordsL ds fl = wl at Hw Hy
            obtain ⟨wq, we⟩ := wl
            have Hca := fun w (hA : InstsAt w A code) => hid (checkAllR_any A cap code lo w hA hl Hfit.out)
            simp only at Hw Hy
            generalize allOk code lo = ao at Hca Hy
            clear hl hwl
            cases ib <;> cases vv <;> first | (exact absurd ⟨rfl, rfl⟩ hiv) | skip
            all_goals
              clear hiv
              go_wp2_with (go_at_call 35; go_in)
              refine (Hw _ hqn).out.mono ?_
              rintro e w4 ⟨rfl, hU4⟩
              obtain ⟨hc4, hf4, hz4⟩ := hU4.cells
              have hz4' : w.heap.size < w4.heap.size := by simp at hz4; omega
              have hU5 := hU3.trans hU4
              by_cases g3 : 0 ≤ st
              · have g3' : ¬ st < 0 := by omega
                by_cases g4 : st ≤ 40
                · have g4' : ¬ 40 < st := by omega
                  by_cases g1 : wq ≤ lo
                  · have g1' : ¬ lo < wq := by omega
                    by_cases g2 : lo ≤ 40
                    · have g2' : ¬ 40 < lo := by omega
                      go_wp2_with fail
                      refine (Hca _ (HA.out.upd hU5)).out.mono ?_
                      rintro e w5 ⟨rfl, hU6⟩
                      cases ao
                      all_goals
                        simp only [errIf]
                        go_wp2
                        go_ret
                        exact ⟨bool_ret (by rw [← Hy.out]; simp [g1, g2, g3, g4]), hU5.trans hU6⟩
                    · have g2' : 40 < lo := by omega
                      go_wp2
                      go_ret
                      exact ⟨bool_ret (by rw [← Hy.out]; simp; intros; omega), hU5⟩
                  · have g1' : lo < wq := by omega
                    go_wp2
                    go_ret
                    exact ⟨bool_ret (by rw [← Hy.out]; simp; intros; omega), hU5⟩
                · have g4' : 40 < st := by omega
                  go_wp2
                  go_ret
                  exact ⟨bool_ret (by rw [← Hy.out]; simp; intros; omega), hU5⟩
              · have g3' : st < 0 := by omega
                go_wp2
                go_ret
                exact ⟨bool_ret (by rw [← Hy.out]; simp; intros; omega), hU5⟩
      · have hqb : (qe != 0) = true := by simpa using hqe
        go_wp2
        go_ret
        exact ⟨bool_ret (by rw [← Hx.out]; simp [hqe]), hU3⟩
end Go.Proofs.YtjjdlgjofjfgmaaGreatDoor
/-
  The document's Check of a class, walked.
-/
set_option linter.unusedSimpArgs false
set_option linter.unusedVariables false
namespace Go.Proofs.YtjjdlgjofjfgmaaGreatDoor
open Go.RowKit Go.Sort

def checkRRel (P : Nat → Prop) (n : Nat) (w : World) (t : Value) (wr : World) : Prop :=
  ∃ k : Nat, t = .int .i64 k ∧ k ≤ n ∧ Hid (∀ i, i < k → P i) ∧ Upd w wr []

/-- An interface may stand at its place. -/
def ifP (nm : List UInt8) (l : List (List UInt8)) (i : Nat) : Prop := ∀ h : i < l.length, ifB nm l[i] (l.take i) = true
/-- An interface is none of those ahead of it. -/
def newP (l : List (List UInt8)) (k j : Nat) : Prop := ∀ (h : j < l.length) (h' : k < l.length), l[k] ≠ l[j]
theorem new_all {l : List (List UInt8)} {k : Nat} (h' : k < l.length) (h : ∀ i, i < k → newP l k i) : decide (l[k] ∈ l.take k) = false := by
  rw [decide_eq_false_iff_not]
  intro hm
  obtain ⟨i, hi, e⟩ := List.getElem_of_mem hm
  have hi2 := hi
  rw [List.length_take] at hi2
  rw [List.getElem_take] at e
  exact h i (by omega) (by omega) h' e.symm
theorem new_bad {l : List (List UInt8)} {k j : Nat} (h' : k < l.length) (hj : j < k) (e : l[k] = l[j]'(by omega)) : decide (l[k] ∈ l.take k) = true := by
  rw [decide_eq_true_eq, e]
  refine List.mem_iff_getElem.2 ⟨j, by simp; omega, ?_⟩
  rw [List.getElem_take]

set_option maxHeartbeats 16000000 in
set_option maxRecDepth 100000 in
theorem checkR5_any (c : ClassL) (w : World) (hf : c.fit w) :
    Calls Tryz.prog 10 #[c.v] w fun e w' => e = .returned (.int .i64 (errIf (checkB c))) ∧ Upd w w' [] := by
  have HF := hid hf
  have hnm := hf.nm
  have hsup := hf.sup
  have hlenI := hf.lenI
  have hlenM := hf.lenM
  have hcapI := hf.capI
  have hcapM := hf.capM
  have Hstr := hid hf.strs
  have hfl := hf.flN
  have Hbd := hid (fun k h hb => checkB_bad (c := c) (k := k) h hb)
  have Hall := hid (fun h1 h2 h3 ha => checkB_all (c := c) h1 h2 h3 ha)
  have Hfi := hid (fun nm ds w hA => findR_any c nm ds w hA hf.lenM hf.capM)
  have Hsz : Hid (checkB c = (decide (c.ms.length ≤ 40) && decide (c.ifs.length ≤ 20) && headerB c && (List.range c.ms.length).all (goodB c))) := hid rfl
  have Hh : Hid (headerB c = (validB c.nm && validB c.sup && !decide (c.nm = c.sup) && classF c.fl && ifsB c.nm c.ifs && decide (c.ifs.length ≤ 20) && decide (0 ≤ c.ld) && decide (c.ld ≤ 9))) := hid rfl
  have Hgood : Hid (∀ i, goodB c i = match c.ms[i]? with
    | some m => methodB m (anyF c.fl 512) && decide (findL m.nm m.ds c.ms 0 = i)
    | none => true) := hid (fun _ => rfl)
  have Hib := hid (fun k h hb => ifsB_bad (nm := c.nm) (l := c.ifs) (k := k) h hb)
  have Hia := hid (fun ha => ifsB_all (nm := c.nm) (l := c.ifs) ha)
  have Hifd : Hid (∀ i (h : i < c.ifs.length), ifB c.nm c.ifs[i] (c.ifs.take i) = (validB c.ifs[i] && !decide (c.ifs[i] = c.nm) && !decide (c.ifs[i] ∈ c.ifs.take i))) := hid (fun _ _ => rfl)
  have Hv1 := fun w => hid (validR_any c.nm w hnm)
  have Hv2 := fun w => hid (validR_any c.sup w hsup)
  have Hcf := fun w => hid (checkClassR_any c.fl w)
  rw [class_law hfl.1 hfl.2] at Hcf
  have hne := bs_beq c.nm c.sup
  generalize checkB c = cb at *
  generalize headerB c = hb at *
  generalize hgb : goodB c = gb at *
  generalize ifsB c.nm c.ifs = ib at *
  clear hgb hf
  obtain ⟨cn, cs, AI, cI, ifs, fl, ld, A, cap, ms⟩ := c
  unfold ClassL.v ClassL.cells at Hfi ⊢
  simp only at *
  have hU0 : Upd w (w.alloc (.cells #[.string (bs cn), .string (bs cs), .slice AI ifs.length cI, .int .i64 fl, .int .i64 ld, .slice A ms.length cap] 25)) [] := (Upd.refl _ _).alloc _
  have hb512 : (bits BinOp.and IntKind.i64 fl 512 != 0) = anyF fl 512 := rfl
  generalize validB cn = v1 at *
  generalize validB cs = v2 at *
  generalize classF fl = cf at *
  generalize hncs : decide (cn = cs) = b12 at *
  clear hncs
  have Hbx := hid (Blk.new w 25 #[.string (bs cn), .string (bs cs), .slice AI ifs.length cI, .int .i64 fl, .int .i64 ld, .slice A ms.length cap])
  go_enter Tryz.func10, Tryz.ntmps10
  cases v1 with
  | false =>
    go_wp2_with fail
    refine (Hv1 _).out.mono ?_
    rintro e w1 ⟨rfl, hU1⟩
    go_wp2
    go_ret
    exact ⟨ret_int (by rw [Hsz.out, Hh.out]; simp [errIf]), hU0.trans hU1⟩
  | true =>
    go_wp2_with fail
    refine (Hv1 _).out.mono ?_
    rintro e w1 ⟨rfl, hU1⟩
    obtain ⟨hc1, hf1, hz1⟩ := hU1.cells
    have hz1' : w.heap.size < w1.heap.size := by simp at hz1; omega
    cases v2 with
    | false =>
      go_wp2_with fail
      refine (Hv2 _).out.mono ?_
      rintro e w2 ⟨rfl, hU2⟩
      go_wp2
      go_ret
      exact ⟨ret_int (by rw [Hsz.out, Hh.out]; simp [errIf]), hU0.trans (hU1.trans hU2)⟩
    | true =>
      go_wp2_with fail
      refine (Hv2 _).out.mono ?_
      rintro e w2 ⟨rfl, hU2⟩
      have hV2 := hU1.trans hU2
      clear hc1 hf1 hz1 hz1' hU1 hU2
      obtain ⟨hc1, hf1, hz1⟩ := hV2.cells
      have hz1' : w.heap.size < w2.heap.size := by simp at hz1; omega
      cases b12 with
      | true =>
        go_wp2
        go_ret
        exact ⟨ret_int (by rw [Hsz.out, Hh.out]; simp [errIf]), hU0.trans hV2⟩
      | false =>
        by_cases g2 : ifs.length ≤ 20
        · have g2i : ¬ (20 < (ifs.length : Int)) := by omega
          have g2n : ¬ (20 < ifs.length) := by omega
          by_cases g1 : ms.length ≤ 40
          · have g1i : ¬ (40 < (ms.length : Int)) := by omega
            have g1n : ¬ (40 < ms.length) := by omega
            by_cases g3 : 0 ≤ ld
            · have g3i : ¬ ld < 0 := by omega
              by_cases g4 : ld ≤ 9
              · have g4i : ¬ 9 < ld := by omega
                cases cf with
                | false =>
                  go_wp2_with fail
                  refine (Hcf _).out.mono ?_
                  rintro e w3 ⟨rfl, hU3⟩
                  simp only [errIf]
                  go_wp2
                  go_ret
                  exact ⟨ret_int (by rw [Hsz.out, Hh.out]; simp [errIf]), hU0.trans (hV2.trans hU3)⟩
                | true =>
                  go_wp2_with fail
                  refine (Hcf _).out.mono ?_
                  rintro e w3 ⟨rfl, hU3⟩
                  simp only [errIf]
                  have HV3 := hid (hU0.trans (hV2.trans hU3))
                  have HF3 := hid (HF.out.upd HV3.out)
                  have Hb3 := hid ((hV2.trans hU3).blk Hbx.out (by simp))
                  have hz3 : w.heap.size < w3.heap.size := Hb3.out.lt
                  clear hc1 hf1 hz1 hz1' hV2 hU3 HF Hcf Hv1 Hv2
                  have z2 := Hb3.out.cell 2
                  simp at z2
                  go_wp2
                  go_loopw [3] (fun t wr => checkRRel (ifP cn ifs) ifs.length w3 t wr) (fun t _ => ifs.length - (intOf t).toNat)
                  case atStart => exact ⟨0, rfl, Nat.zero_le _, hid (fun i h => absurd h (Nat.not_lt_zero _)), Upd.refl _ _⟩
                  case round =>
                    obtain ⟨k, rfl, hk, hgood, hU⟩ := hrel
                    have hbx := hU.blk Hb3.out (by simp)
                    have y0 := hbx.cell 0
                    have y2 := hbx.cell 2
                    simp at y0 y2
                    have hzr : w.heap.size < wr.heap.size := hbx.lt
                    have HU := hid hU
                    by_cases hlt : k < ifs.length
                    · have hne2 : ifs ≠ [] := by rintro rfl; simp at hlt
                      obtain ⟨bk, off, hAe, hbk, hc⟩ := HF3.out.ifs hne2
                      simp only at hAe hc
                      subst hAe
                      have hbr : bk < wr.heap.size := Nat.lt_of_lt_of_le hbk hU.size
                      have Hc : Hid (∀ w', Upd w3 w' [] → ∀ i (h : i < ifs.length), w'.cell? ⟨bk, off + i, none⟩ = some (.string (bs ifs[i]))) := hid (fun w' u i h => by rw [u.cells.1 _ _ hbk]; exact hc i h)
                      have Hxs := hid (Hc.out wr hU k hlt)
                      have hxl := Hstr.out _ (List.getElem_mem hlt)
                      have Hif := hid (Hifd.out k hlt)
                      have Hbad := hid (fun h => Hib.out k hlt h)
                      have Hgd : Hid (ifB cn ifs[k] (ifs.take k) = true → Hid (∀ i, i < k + 1 → ifP cn ifs i)) := hid (fun h => hid (fun i h2 => by
                        rcases Nat.lt_or_ge i k with h3 | h3
                        · exact hgood.out i h3
                        · have : i = k := by omega
                          subst this
                          exact fun _ => h))
                      have Hvx := fun w => hid (validR_any ifs[k] w hxl)
                      have hxe := bs_beq ifs[k] cn
                      have Hnew := hid (fun h => new_all hlt h)
                      have Hold := hid (fun j hj e => new_bad (j := j) hlt hj e)
                      have Hkey : Hid (∀ j (h : j < ifs.length), ((bs ifs[k]).toList == (bs ifs[j]).toList) = decide (ifs[k] = ifs[j])) := hid (fun j h => bs_beq _ _)
                      generalize decide (ifs[k] = cn) = eb at *
                      generalize validB ifs[k] = vb at *
                      have hvq := fun d os => quiet_of (W := wr) (d := d) (os := os) fun w _ => (Hvx w).out
                      have HVQ := hid hvq
                      have k0 := cell_regrown y0
                      have k2 := cell_regrown y2
                      have x0 := Hxs.out
                      have kx := cell_regrown x0
                      clear hvq hc hgood hU hbx
                      have hkn : (k : Int) < ifs.length := by omega
                      have hkc : k < cI := by omega
                      generalize hxk : ifs[k] = x at x0 kx HVQ hxe
                      have Hxk := hid hxk
                      clear hxk Hxs Hvx
                      cases vb with
                      | false =>
                        have Hb := hid (Hbad.out (by rw [Hif.out]; rfl))
                        clear Hbad Hgd Hif hxe Hnew Hold Hkey
                        go_wp2
                        refine wp_region_quiet_below (by kernel_rfl) (by kernel_rfl) ?_
                        repeat (any_goals (first | go_big_quiet_step (exact HVQ.out _ _) | quiet_step (exact HVQ.out _ _)))
                        refine wpQuiet_nil ?_
                        intro _ hw'
                        obtain ⟨⟨dq, osq⟩, hw''⟩ := hw'
                        subst hw''
                        have hV4 : Upd wr (grow (redrawn wr dq) osq) [] := Upd.of_below (below_regrown wr dq osq) []
                        have HV5 := hid (HV3.out.trans (HU.out.trans hV4))
                        revert HV5
                        generalize grow (redrawn wr dq) osq = w4
                        intro HV5
                        go_wp2
                        go_ret
                        exact ⟨ret_int (by rw [Hsz.out, Hh.out, Hb.out]; simp [errIf]), HV5.out⟩
                      | true =>
                        cases eb with
                        | true =>
                          have Hb := hid (Hbad.out (by rw [Hif.out]; rfl))
                          clear Hbad Hgd Hif Hnew Hold Hkey
                          go_wp2
                          refine wp_region_quiet_below (by kernel_rfl) (by kernel_rfl) ?_
                          repeat (any_goals (first | go_big_quiet_step (exact HVQ.out _ _) | quiet_step (exact HVQ.out _ _)))
                          refine wpQuiet_nil ?_
                          intro _ hw'
                          obtain ⟨⟨dq, osq⟩, hw''⟩ := hw'
                          subst hw''
                          have hV4 : Upd wr (grow (redrawn wr dq) osq) [] := Upd.of_below (below_regrown wr dq osq) []
                          have HV5 := hid (HV3.out.trans (HU.out.trans hV4))
                          revert HV5
                          generalize grow (redrawn wr dq) osq = w4
                          intro HV5
                          go_wp2
                          go_ret
                          exact ⟨ret_int (by rw [Hsz.out, Hh.out, Hb.out]; simp [errIf]), HV5.out⟩
                        | false =>
                          go_wp2
                          refine wp_region_quiet_below (by kernel_rfl) (by kernel_rfl) ?_
                          repeat (any_goals (first | go_big_quiet_step (exact HVQ.out _ _) | quiet_step (exact HVQ.out _ _)))
                          refine wpQuiet_nil ?_
                          intro _ hw'
                          obtain ⟨⟨dq, osq⟩, hw''⟩ := hw'
                          subst hw''
                          have hV4 : Upd wr (grow (redrawn wr dq) osq) [] := Upd.of_below (below_regrown wr dq osq) []
                          have HV5 := hid (HU.out.trans hV4)
                          revert HV5
                          generalize grow (redrawn wr dq) osq = w4
                          intro HV5
                          clear hV4 k0 k2 kx x0 y0 y2 hxe HVQ hzr hbr HU
                          go_wp2
                          go_loopw [4] (fun t wr => checkRRel (newP ifs k) k w4 t wr) (fun t _ => k - (intOf t).toNat)
                          case atStart => exact ⟨0, rfl, Nat.zero_le _, hid (fun i h => absurd h (Nat.not_lt_zero _)), Upd.refl _ _⟩
                          case round =>
                            obtain ⟨j, rfl, hj, hnew, hU5⟩ := hrel
                            have HU5 := hid (HV5.out.trans hU5)
                            have hbx := HU5.out.blk Hb3.out (by simp)
                            have y2 := hbx.cell 2
                            simp at y2
                            have hzr : w.heap.size < wr.heap.size := hbx.lt
                            have hbr : bk < wr.heap.size := Nat.lt_of_lt_of_le hbk HU5.out.size
                            by_cases hjk : j < k
                            · have hjl : j < ifs.length := by omega
                              have hjc : j < cI := by omega
                              have hjn : (j : Int) < ifs.length := by omega
                              have hjki : (j : Int) < k := by omega
                              have x0 := Hc.out wr HU5.out k hlt
                              have x1 := Hc.out wr HU5.out j hjl
                              have hke := Hkey.out j hjl
                              have hn1 : ifs[k] ≠ ifs[j] → Hid (∀ i, i < j + 1 → newP ifs k i) := fun h => hid (fun i h2 => by
                                rcases Nat.lt_or_ge i j with h3 | h3
                                · exact hnew.out i h3
                                · have : i = j := by omega
                                  subst this
                                  exact fun _ _ => h)
                              have hn2 : ifs[k] = ifs[j] → Hid (ib = false) := fun h => hid (Hbad.out (by rw [Hif.out, Hold.out j hjk h]; rfl))
                              have Hn1 := hid hn1
                              have Hn2 := hid hn2
                              clear hn1 hn2 hnew
                              rw [Hxk.out] at x0 hke Hn1 Hn2
                              generalize ifs[j] = xj at x1 hke Hn1 Hn2
                              have HW5 := hid hU5
                              clear hU5 hbx
                              have k2 := cell_regrown y2
                              have kx := cell_regrown x0
                              have kj := cell_regrown x1
                              by_cases hxx : x = xj
                              · rw [decide_eq_true hxx] at hke
                                have Hb := Hn2.out hxx
                                clear hxx Hn1 Hn2
                                go_wp2
                                refine wp_region_quiet_below (by kernel_rfl) (by kernel_rfl) ?_
                                repeat (any_goals (first | go_big_quiet_step (fail) | quiet_step (fail)))
                                refine wpQuiet_nil ?_
                                intro _ hw'
                                obtain ⟨⟨dq, osq⟩, hw''⟩ := hw'
                                subst hw''
                                have hV6 : Upd wr (grow (redrawn wr dq) osq) [] := Upd.of_below (below_regrown wr dq osq) []
                                have HV6 := hid (HV3.out.trans (HU5.out.trans hV6))
                                revert HV6
                                generalize grow (redrawn wr dq) osq = w6
                                intro HV6
                                go_wp2
                                go_ret
                                exact ⟨ret_int (by rw [Hsz.out, Hh.out, Hb.out]; simp [errIf]), HV6.out⟩
                              · rw [decide_eq_false hxx] at hke
                                have Hg := Hn1.out hxx
                                clear hxx Hn1 Hn2
                                go_wp2
                                refine wp_region_quiet_below (by kernel_rfl) (by kernel_rfl) ?_
                                repeat (any_goals (first | go_big_quiet_step (fail) | quiet_step (fail)))
                                refine wpQuiet_nil ?_
                                intro _ hw'
                                obtain ⟨⟨dq, osq⟩, hw''⟩ := hw'
                                subst hw''
                                have hV6 : Upd wr (grow (redrawn wr dq) osq) [] := Upd.of_below (below_regrown wr dq osq) []
                                have HV6 := hid (HW5.out.trans hV6)
                                revert HV6
                                generalize grow (redrawn wr dq) osq = w6
                                intro HV6
                                clear hV6 k2 kx kj x0 x1 y2 hzr hbr
                                go_wp2
                                go_roundw
                                case rel => exact ⟨j + 1, by go_num, by omega, Hg, HV6.out⟩
                                case measure => simp [intOf]; omega
                            · obtain rfl : j = k := by omega
                              have Hg := Hgd.out (by rw [Hif.out, Hnew.out (fun i hi => hnew.out i hi)]; rfl)
                              clear hnew hU5 hbx
                              go_wp2
                              go_roundw
                              case rel => exact ⟨j + 1, by go_num, by omega, Hg, HU5.out⟩
                              case measure => simp [intOf]; omega
                    · obtain rfl : k = ifs.length := by omega
                      have Hifs := hid (Hia.out (fun i hi => hgood.out i hi hi))
                      have Hhb : Hid (hb = true) := hid (by rw [Hh.out, Hifs.out, decide_eq_true g2, decide_eq_true g3, decide_eq_true g4]; rfl)
                      have HF4 := hid (HF3.out.upd hU)
                      have Hb4 := hid (hU.blk Hb3.out (by simp))
                      clear hgood hU hbx y0
                      go_wp2
                      go_loopw [5] (fun t wx => checkRRel (fun i => gb i = true) ms.length wr t wx) (fun t _ => ms.length - (intOf t).toNat)
                      case atStart => exact ⟨0, rfl, Nat.zero_le _, hid (fun i h => absurd h (Nat.not_lt_zero _)), Upd.refl _ _⟩
                      case round =>
                        obtain ⟨m, rfl, hm, hgood, hU6⟩ := hrel
                        have hbx := hU6.blk Hb4.out (by simp)
                        have y0 := hbx.cell 0
                        have y1 := hbx.cell 1
                        have y2 := hbx.cell 2
                        have y3 := hbx.cell 3
                        have y4 := hbx.cell 4
                        have y5 := hbx.cell 5
                        simp at y0 y1 y2 y3 y4 y5
                        have hzr : w.heap.size < wr.heap.size := hbx.lt
                        have HW6 := hid (HV3.out.trans (HU.out.trans hU6))
                        by_cases hlt : m < ms.length
                        · have hne2 : ms ≠ [] := by rintro rfl; simp at hlt
                          obtain ⟨bk, off, hAe, hbk, hc⟩ := HF4.out.ms hne2
                          simp only at hAe hc
                          subst hAe
                          have hbr : bk < wr.heap.size := Nat.lt_of_lt_of_le hbk hU6.size
                          obtain ⟨mn, md, mf, lo, st, A', cap', code, e⟩ : ∃ a b c d f g h i, ms[m] = MethL.mk a b c d f g h i := ⟨_, _, _, _, _, _, _, _, rfl⟩
                          obtain ⟨x0, x1, x2, x3, x4, x5⟩ := MethsAt.six (w := wr) (fun i hi j hj => by rw [hU6.cells.1 _ _ hbk]; exact hc i hi j hj) hlt e
                          have hmem : ms[m] ∈ ms := List.getElem_mem hlt
                          have hgk := Hgood.out m
                          rw [List.getElem?_eq_getElem hlt] at hgk
                          rw [e] at hmem hgk
                          simp only at hgk
                          have Hmf := hid ((HF4.out.meths _ hmem).upd hU6)
                          have HFr := hid (HF4.out.upd hU6)
                          have Hgk := hid hgk
                          have Hgd : Hid (gb m = true → Hid (∀ i, i < m + 1 → gb i = true)) := hid (fun h => hid (fun i h2 => by
                            rcases Nat.lt_or_ge i m with h3 | h3
                            · exact hgood.out i h3
                            · have : i = m := by omega
                              subst this
                              exact h))
                          have Hbk := hid (fun h => Hbd.out m hlt h)
                          have HU6 := hid hU6
                          have hmc : m < cap := by omega
                          have hmi : (m : Int) < ms.length := by omega
                          clear hgk hgood hc hmem e hU6 hbx
                          obtain ⟨wa, hwa⟩ : ∃ wa, wa = wr.alloc (.cells #[.string (bs mn), .string (bs md), .int .i64 mf, .int .i64 lo, .int .i64 st, .slice A' code.length cap'] 34) := ⟨_, rfl⟩
                          have hUa : Upd wr wa [] := by rw [hwa]; exact (Upd.refl _ _).alloc _
                          have hBa : Blk wa wr.heap.size 34 #[.string (bs mn), .string (bs md), .int .i64 mf, .int .i64 lo, .int .i64 st, .slice A' code.length cap'] := by rw [hwa]; exact Blk.new _ _ _
                          have hMt := fun w (u : Upd wa w []) => methodR_any ⟨mn, md, mf, lo, st, A', cap', code⟩ (anyF fl 512) w ((Hmf.out.upd hUa).upd u)
                          have hFd := fun w (u : Upd wa w []) => Hfi.out mn md w (((HFr.out.upd hUa).upd u).ms)
                          unfold MethL.v MethL.cells at hMt
                          simp only at hMt
                          generalize methodB ⟨mn, md, mf, lo, st, A', cap', code⟩ (anyF fl 512) = mb at hMt Hgk
                          have hHs := fun d os => quiet_of (W := wa) (d := d) (os := os) fun w _ => (has_any fl 512 w).mono fun _ _ h => ⟨h.1, by rw [h.2]; exact Upd.refl _ _⟩
                          have hMq := fun d os => quiet_of (W := wa) (d := d) (os := os) fun w u => hMt w u
                          generalize hfx : findL mn md ms 0 = fx at hFd Hgk
                          have hFq := fun d os => quiet_of (W := wa) (d := d) (os := os) fun w u => hFd w u
                          generalize anyF fl 512 = ifc at *
                          have HHs := hid hHs
                          have HMq := hid hMq
                          have HFq := hid hFq
                          have HUa := hid hUa
                          have HBa := hid hBa
                          clear hHs hMq hFq hMt hFd hBa hfx
                          have l0 := cell_regrown ((HUa.out.cells.1 _ 0 hzr).trans y0)
                          have l1 := cell_regrown ((HUa.out.cells.1 _ 1 hzr).trans y1)
                          have l2 := cell_regrown ((HUa.out.cells.1 _ 2 hzr).trans y2)
                          have l3 := cell_regrown ((HUa.out.cells.1 _ 3 hzr).trans y3)
                          have l4 := cell_regrown ((HUa.out.cells.1 _ 4 hzr).trans y4)
                          have l5 := cell_regrown ((HUa.out.cells.1 _ 5 hzr).trans y5)
                          have q0 := HBa.out.cell 0
                          have q1 := HBa.out.cell 1
                          have q2 := HBa.out.cell 2
                          have q3 := HBa.out.cell 3
                          have q4 := HBa.out.cell 4
                          have q5 := HBa.out.cell 5
                          simp at q0 q1 q2 q3 q4 q5
                          have r0 := cell_regrown q0
                          have r1 := cell_regrown q1
                          have r2 := cell_regrown q2
                          have r3 := cell_regrown q3
                          have r4 := cell_regrown q4
                          have r5 := cell_regrown q5
                          have Hwa := hid hwa
                          clear hUa hwa
                          cases mb with
                          | false =>
                            have Hb := hid (Hbk.out (by rw [Hgk.out]; rfl))
                            clear Hbk Hgd Hgk
                            go_wp2
                            rw [← Hwa.out]
                            refine wp_region_quiet_below (by kernel_rfl) (by kernel_rfl) ?_
                            repeat (any_goals (first | go_big_quiet_step (first | exact HHs.out _ _ | exact HMq.out _ _ | exact HFq.out _ _) | quiet_step (first | exact HHs.out _ _ | exact HMq.out _ _ | exact HFq.out _ _)))
                            refine wpQuiet_nil ?_
                            intro _ hw'
                            obtain ⟨⟨dq, osq⟩, hw''⟩ := hw'
                            subst hw''
                            have hV7 : Upd wa (grow (redrawn wa dq) osq) [] := Upd.of_below (below_regrown wa dq osq) []
                            have HV7 := hid (HW6.out.trans (HUa.out.trans hV7))
                            revert HV7
                            generalize grow (redrawn wa dq) osq = w7
                            intro HV7
                            go_wp2
                            go_ret
                            exact ⟨ret_int (by rw [Hb.out]; rfl), HV7.out⟩
                          | true =>
                            by_cases hfe : fx = (m : Int)
                            · have Hg := Hgd.out (by rw [Hgk.out, decide_eq_true hfe]; rfl)
                              have hfb : (fx != (m : Int)) = false := by rw [hfe]; simp
                              clear hfe Hbk Hgk Hgd
                              go_wp2
                              rw [← Hwa.out]
                              refine wp_region_quiet_below (by kernel_rfl) (by kernel_rfl) ?_
                              repeat (any_goals (first | go_big_quiet_step (first | exact HHs.out _ _ | exact HMq.out _ _ | exact HFq.out _ _) | quiet_step (first | exact HHs.out _ _ | exact HMq.out _ _ | exact HFq.out _ _)))
                              refine wpQuiet_nil ?_
                              intro _ hw'
                              obtain ⟨⟨dq, osq⟩, hw''⟩ := hw'
                              subst hw''
                              have hV7 : Upd wa (grow (redrawn wa dq) osq) [] := Upd.of_below (below_regrown wa dq osq) []
                              have HV7 := hid (HU6.out.trans (HUa.out.trans hV7))
                              revert HV7
                              generalize grow (redrawn wa dq) osq = w7
                              intro HV7
                              clear hV7 l0 l1 l2 l3 l4 l5 r0 r1 r2 r3 r4 r5 q0 q1 q2 q3 q4 q5 x0 x1 x2 x3 x4 x5 y0 y1 y2 y3 y4 y5
                              go_wp2
                              go_roundw
                              case rel => exact ⟨m + 1, by go_num, by omega, Hg, HV7.out⟩
                              case measure => simp [intOf]; omega
                            · have Hb := hid (Hbk.out (by rw [Hgk.out, decide_eq_false hfe]; rfl))
                              have hfb : (fx != (m : Int)) = true := by simpa using hfe
                              clear hfe Hbk Hgk Hgd
                              go_wp2
                              rw [← Hwa.out]
                              refine wp_region_quiet_below (by kernel_rfl) (by kernel_rfl) ?_
                              repeat (any_goals (first | go_big_quiet_step (first | exact HHs.out _ _ | exact HMq.out _ _ | exact HFq.out _ _) | quiet_step (first | exact HHs.out _ _ | exact HMq.out _ _ | exact HFq.out _ _)))
                              refine wpQuiet_nil ?_
                              intro _ hw'
                              obtain ⟨⟨dq, osq⟩, hw''⟩ := hw'
                              subst hw''
                              have hV7 : Upd wa (grow (redrawn wa dq) osq) [] := Upd.of_below (below_regrown wa dq osq) []
                              have HV7 := hid (HW6.out.trans (HUa.out.trans hV7))
                              revert HV7
                              generalize grow (redrawn wa dq) osq = w7
                              intro HV7
                              go_wp2
                              go_ret
                              exact ⟨ret_int (by rw [Hb.out]; rfl), HV7.out⟩
                        · obtain rfl : m = ms.length := by omega
                          have Ha := hid (Hall.out g1 g2 Hhb.out (fun i hi => hgood.out i hi))
                          clear hgood hU6 hbx
                          go_wp2
                          go_ret
                          exact ⟨ret_int (by rw [Ha.out]; rfl), HW6.out⟩
              · have g4i : 9 < ld := by omega
                go_wp2
                go_ret
                exact ⟨ret_int (by rw [Hsz.out, Hh.out, decide_eq_false (show ¬ ld ≤ 9 by omega)]; simp [errIf]), hU0.trans hV2⟩
            · have g3i : ld < 0 := by omega
              go_wp2
              go_ret
              exact ⟨ret_int (by rw [Hsz.out, Hh.out, decide_eq_false (show ¬ 0 ≤ ld by omega)]; simp [errIf]), hU0.trans hV2⟩
          · have g1i : 40 < (ms.length : Int) := by omega
            have g1n : 40 < ms.length := by omega
            go_wp2
            go_ret
            exact ⟨ret_int (by rw [Hsz.out, decide_eq_false (show ¬ ms.length ≤ 40 by omega)]; simp [errIf]), hU0.trans hV2⟩
        · have g2i : 20 < (ifs.length : Int) := by omega
          have g2n : 20 < ifs.length := by omega
          go_wp2
          go_ret
          exact ⟨ret_int (by rw [Hsz.out, decide_eq_false (show ¬ ifs.length ≤ 20 by omega)]; simp [errIf]), hU0.trans hV2⟩
end Go.Proofs.YtjjdlgjofjfgmaaGreatDoor
/-
  The document's Print of a class, walked. (Printed by gen_printR5.py.)
-/
set_option linter.unusedSimpArgs false
set_option linter.unusedVariables false
namespace Go.Proofs.YtjjdlgjofjfgmaaGreatDoor
open Go.RowKit Go.Sort

theorem wordT_nil (a : List UInt8) : wordT a [] = a := by
  unfold wordT Lib.trimSuffix Lib.hasSuffix
  rw [List.append_nil, if_pos (by simp)]
  simp
theorem wordT_some (a b : List UInt8) (hb : b ≠ []) (h : b.getLast? ≠ some 32) : wordT a b = a ++ [32] ++ b := by
  unfold wordT Lib.trimSuffix Lib.hasSuffix
  rw [if_neg]
  intro hs
  have h2 := List.isSuffixOf_iff_suffix.1 hs
  obtain ⟨t, ht⟩ := h2
  have h3 : (a ++ [32] ++ b).getLast? = some 32 := by rw [← ht]; simp
  rw [List.getLast?_append] at h3
  cases hb2 : b.getLast? with
  | none => exact hb (List.getLast?_eq_none_iff.1 hb2)
  | some x =>
    rw [hb2] at h3 h
    simp at h3
    exact h (by rw [h3])
theorem text_last : ∀ f : Fin 2048, (flagsText (f.val : Int)).getLast? ≠ some 32 := by decide +kernel
theorem flagText_last {f : Int} {m : Nat} (h0 : -9223372036854775808 ≤ f) (h1 : f ≤ 9223372036854775807) (hm : m < 2048) : (flagText f m).1.getLast? ≠ some 32 := by
  unfold flagText
  cases ho : outF f m with
  | true => simp
  | false =>
    have h := outF_small h0 h1 hm ho
    have := text_last ⟨f.toNat, by omega⟩
    simp only at this
    rw [show ((f.toNat : Nat) : Int) = f by omega] at this
    simpa using this
theorem lastC {f : Int} (h0 : -9223372036854775808 ≤ f) (h1 : f ≤ 9223372036854775807) : (flagText f 1585).1.getLast? ≠ some 32 := flagText_last (m := 1585) h0 h1 (by omega)
theorem lastM {f : Int} (h0 : -9223372036854775808 ≤ f) (h1 : f ≤ 9223372036854775807) : (flagText f 1055).1.getLast? ≠ some 32 := flagText_last (m := 1055) h0 h1 (by omega)
/-- A blank and the words of flags, if there are any. -/
def behT (b : List UInt8) : List UInt8 := if b = [] then [] else [32] ++ b
theorem wordT_beh (a b : List UInt8) (h : b.getLast? ≠ some 32) : wordT a b = a ++ behT b := by
  unfold behT
  by_cases hb : b = []
  · rw [if_pos hb, hb, wordT_nil, List.append_nil]
  · rw [if_neg hb, wordT_some a b hb h, List.append_assoc]

def ifsRelR (pre : List UInt8) (ifs : List (List UInt8)) (w1 : World) (s t : Value) (wr : World) : Prop :=
  ∃ (k : Nat) (l : List UInt8), s = .string (bs l) ∧ t = .int .i64 k ∧ k ≤ ifs.length ∧ Hid (l = pre ++ (ifs.take k).flatMap ifT) ∧ l.length ≤ 200 + k * 100 ∧ Upd w1 wr []
def msRelR (pre : List UInt8) (ms : List MethL) (w1 : World) (s t : Value) (wr : World) : Prop :=
  ∃ (k : Nat) (l : List UInt8), s = .string (bs l) ∧ t = .int .i64 k ∧ k ≤ ms.length ∧ Hid (l = pre ++ (ms.take k).flatMap methT) ∧ l.length ≤ 10000 + k * 3000000 ∧ Upd w1 wr []
def codeRelR (pre : List UInt8) (code : List InstL) (m : Nat) (w1 : World) (s t : Value) (wr : World) : Prop :=
  ∃ (k : Nat) (l : List UInt8), s = .string (bs l) ∧ t = .int .i64 k ∧ k ≤ code.length ∧ Hid (l = pre ++ (code.take k).flatMap instT) ∧ l.length ≤ m + k * 10001 ∧ Upd w1 wr []

end Go.Proofs.YtjjdlgjofjfgmaaGreatDoor
