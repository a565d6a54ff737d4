/-
  shapes.method, walked. (Under way: does not build yet.)
-/
import Derived.Test.YtjjdlgjofjfgmaaDoorClassE
set_option linter.unusedSimpArgs false
set_option linter.unusedVariables false
namespace Go.Proofs.YtjjdlgjofjfgmaaDoor
open Go.RowKit

theorem descL_few (l : List UInt8) : (descL l).1 ≤ 20 := by
  unfold descL
  split
  · simp
  · split
    · split
      · simp
      · split
        · split
          · split
            · simp
            · rename_i h; simp at h ⊢; omega
          · simp
        · split
          · split
            · simp
            · rename_i h; simp at h ⊢; omega
          · simp
    · simp

set_option maxHeartbeats 8000000 in
set_option maxRecDepth 100000 in
theorem method_any (m : MethL) (iface : Bool) (w : World) (hA : InstsAt w m.A m.code) (hl : m.code.length ≤ 2000000000000) (hfit : ∀ i, i ∈ m.code → i.fit) (h1 : m.nm.length ≤ 9223372036854775807) (h2 : m.ds.length ≤ 9223372036854775807) (hm : MaxLenAt w) :
    Calls Tryd.prog 57 #[m.v, .bool iface] w fun e w' => e = .returned (.bool (methodB m iface)) ∧ Upd w w' [] := by
  have Hw := fun w hn hm => hid (words5_any m w h2 hn hm)
  obtain ⟨mn, ds, fl, lo, st, A, cap, code⟩ := m
  obtain ⟨bm, hbm⟩ : ∃ b, methodB ⟨mn, ds, fl, lo, st, A, cap, code⟩ iface = b := ⟨_, rfl⟩
  rw [hbm]
  unfold methodB at hbm
  have Hx := hid hbm
  clear hbm
  unfold MethL.v MethL.cells
  unfold MethL.v MethL.cells at Hw
  simp only at hA hl hfit h1 h2 Hw Hx ⊢
  have hU0 : Upd w (w.alloc (.cells #[.string (bs mn), .string (bs ds), .int .i64 fl, .int .i64 lo, .int .i64 st, .slice A code.length cap] 52)) [] := (Upd.refl _ _).alloc _
  have Hd := fun w hm => hid (parseDescV_any ds w h2 hm)
  have Hmb := fun w => hid (memberl_any mn w h1)
  have Hcm := fun w => hid (checkMethod_any fl iface mn w)
  have h7 : ((bs mn).toList == [60, 105, 110, 105, 116, 62]) = decide (mn = initB) := by
    rw [bs_toList, Bool.eq_iff_iff, decide_eq_true_eq]
    simp [initB]
  have hb1024 : (bits BinOp.and IntKind.i64 fl 1024 != 0) = anyF fl 1024 := rfl
  go_enter Tryd.func57, Tryd.ntmps57
  go_wp2_with fail
  refine (Hd _ (hm.upd hU0 (by simp))).out.mono ?_
  rintro e w1 ⟨⟨A', cap', vd, d, nm', rfl, hvd⟩, hU1⟩
  obtain ⟨hc1, hf1, hz1⟩ := hU1.cells
  have hz1' : w.heap.size < w1.heap.size := by simp at hz1; omega
  have hU2 := (hU0.trans hU1).alloc (.cells #[.slice A' (descL ds).1 cap', .bool vd, .int .i64 d, .string (bs nm')] 77)
  generalize hq : descL ds = q at *
  obtain ⟨qn, qe⟩ := q
  simp only at hvd hU2
  by_cases hqe : qe = 0
  · have hv := hvd hqe
    subst hqe
    subst hv
    clear hvd
    obtain ⟨hc2, hf2, hz2⟩ := hU2.cells
    cases hmb : memberB mn with
    | false =>
      rw [hmb] at Hmb
      go_wp2_with fail
      refine (Hmb _).out.mono ?_
      rintro e w3 ⟨rfl, rfl⟩
      go_wp2
      go_ret
      exact ⟨bool_ret (by rw [← Hx.out, hmb]; simp), hU2⟩
    | true =>
      rw [hmb] at Hmb
      generalize hib : decide (mn = initB) = ib at *
      generalize voidL ds = vv at *
      have hz2' : w.heap.size < (w1.alloc (.cells #[.slice A' qn cap', .bool vv, .int .i64 d, .string (bs nm')] 77)).heap.size := by simp; omega
      by_cases hiv : ib = true ∧ vv = false
      · obtain ⟨rfl, rfl⟩ := hiv
        go_wp2_with fail
        refine (Hmb _).out.mono ?_
        rintro e w3 ⟨rfl, rfl⟩
        go_wp2
        go_ret
        exact ⟨bool_ret (by rw [← Hx.out, hmb]; simp), hU2⟩
      · cases hmf : methodF fl iface ib with
        | false =>
          rw [hmf, show errIf false = 1 from rfl] at Hcm
          cases ib <;> cases vv <;> first | (exact absurd ⟨rfl, rfl⟩ hiv) | skip
          all_goals
            clear hiv
            go_wp2_with fail
            refine (Hmb _).out.mono ?_
            rintro e w3 ⟨rfl, rfl⟩
            go_wp2_with fail
            refine (Hcm _).out.mono ?_
            rintro e w3 ⟨rfl, rfl⟩
            go_wp2
            go_ret
            exact ⟨bool_ret (by rw [← Hx.out, hmb, hmf]; simp), hU2⟩
        | true =>
          rw [hmf, show errIf true = 0 from rfl] at Hcm
          have hpre : ((true && true && !(ib && !vv) && true) : Bool) = true := by cases ib <;> cases vv <;> first | rfl | (exact absurd ⟨rfl, rfl⟩ hiv)
          generalize anyF fl 1024 = ab at hb1024 Hx
          have Hy : Hid ((if ab = true then decide (lo = 0) && decide (st = 0) && decide (code.length = 0) else decide ((wordsL ds fl).1 ≤ lo) && decide (lo ≤ 40) && decide (0 ≤ st) && decide (st ≤ 40) && allOk code lo) = bm) := hid (by
            have := Hx.out
            rw [hmb, hmf] at this
            revert this
            cases ib <;> cases vv <;> first | (exact absurd ⟨rfl, rfl⟩ hiv) | simp)
          clear Hx hpre
          cases ab with
          | true =>
            have e1 : (lo == 0) = decide (lo = 0) := by rw [Bool.eq_iff_iff]; simp
            have e2 : (st == 0) = decide (st = 0) := by rw [Bool.eq_iff_iff]; simp
            have e3 : ((code.length : Int) == 0) = decide (code.length = 0) := by rw [Bool.eq_iff_iff]; simp
            generalize decide (lo = 0) = q1 at e1 Hy
            generalize decide (st = 0) = q2 at e2 Hy
            generalize decide (code.length = 0) = q3 at e3 Hy
            cases ib <;> cases vv <;> first | (exact absurd ⟨rfl, rfl⟩ hiv) | skip
            all_goals
              clear hiv
              cases q1 <;> cases q2 <;> cases q3
              all_goals
                go_wp2_with fail
                refine (Hmb _).out.mono ?_
                rintro e w3 ⟨rfl, rfl⟩
                go_wp2_with fail
                refine (Hcm _).out.mono ?_
                rintro e w3 ⟨rfl, rfl⟩
                go_wp2
                go_ret
                exact ⟨bool_ret (by rw [← Hy.out]; simp), hU2⟩
          | false =>
            have hqn : qn ≤ 1000000 := by have := descL_few ds; rw [hq] at this; exact Nat.le_trans this (by omega)
            generalize hwl : wordsL ds fl = wl at Hw Hy
            obtain ⟨wq, we⟩ := wl
            have Hca := fun w (hA : InstsAt w A code) hm => hid (checkAll_any A cap code lo w hA hl hfit hm)
            have HA0 := hid hA
            simp only at Hw Hy
            generalize allOk code lo = ao at Hca Hy
            clear hA hfit hl hwl
            cases ib <;> cases vv <;> first | (exact absurd ⟨rfl, rfl⟩ hiv) | skip
            all_goals
              clear hiv
              go_wp2_with fail
              refine (Hmb _).out.mono ?_
              rintro e w3 ⟨rfl, rfl⟩
              go_wp2_with fail
              refine (Hcm _).out.mono ?_
              rintro e w3 ⟨rfl, rfl⟩
              go_wp2_with fail
              refine (Hw _ hqn (hm.upd hU2 (by simp))).out.mono ?_
              rintro e w4 ⟨rfl, hU4⟩
              obtain ⟨hc4, hf4, hz4⟩ := hU4.cells
              have hz4' : w.heap.size < w4.heap.size := by simp at hz4; omega
              have hU5 := hU2.trans hU4
              by_cases g1 : wq ≤ lo
              · by_cases g2 : lo ≤ 40
                · by_cases g3 : 0 ≤ st
                  · by_cases g4 : st ≤ 40
                    · go_wp2_with fail
                      refine (Hca _ (HA0.out.upd hU5) (hm.upd hU5 (by simp))).out.mono ?_
                      rintro e w5 ⟨rfl, hU6⟩
                      cases ao
                      all_goals
                        simp only [errIf]
                        go_wp2
                        go_ret
                        exact ⟨bool_ret (by rw [← Hy.out]; simp [g1, g2, g3, g4]), hU5.trans hU6⟩
                    · go_wp2
                      go_ret
                      exact ⟨bool_ret (by rw [← Hy.out]; simp; intros; omega), hU5⟩
                  · go_wp2
                    go_ret
                    exact ⟨bool_ret (by rw [← Hy.out]; simp; intros; omega), hU5⟩
                · go_wp2
                  go_ret
                  exact ⟨bool_ret (by rw [← Hy.out]; simp; intros; omega), hU5⟩
              · go_wp2
                go_ret
                exact ⟨bool_ret (by rw [← Hy.out]; simp; intros; omega), hU5⟩
  · have hqb : (qe != 0) = true := by simpa using hqe
    go_wp2
    go_ret
    exact ⟨bool_ret (by rw [← Hx.out]; simp [hqe]), hU2⟩
end Go.Proofs.YtjjdlgjofjfgmaaDoor
