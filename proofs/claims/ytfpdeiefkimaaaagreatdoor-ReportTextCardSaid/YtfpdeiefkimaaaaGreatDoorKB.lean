/-
  shapes.header, walked.
-/
import Derived.Test.YtfpdeiefkimaaaaGreatDoorK4
import Derived.Test.YtfpdeiefkimaaaaGreatDoorK9
set_option linter.unusedSimpArgs false
set_option linter.unusedVariables false
namespace Go.Proofs.YtfpdeiefkimaaaaGreatDoor
open Go.RowKit

/-- May this stand among the interfaces, behind those? -/
def ifB (nm x : List UInt8) (l : List (List UInt8)) : Bool := validB x && !decide (x = nm) && !decide (x ∈ l)
def ifsB (nm : List UInt8) (l : List (List UInt8)) : Bool := (List.range l.length).all fun i => ifB nm (l.getD i []) (l.take i)
theorem ifsB_bad {nm : List UInt8} {l : List (List UInt8)} {k : Nat} (h : k < l.length) (hb : ifB nm l[k] (l.take k) = false) : ifsB nm l = false := by
  unfold ifsB
  rw [List.all_eq_false]
  refine ⟨k, List.mem_range.2 h, ?_⟩
  rw [List.getD_eq_getElem?_getD, List.getElem?_eq_getElem h]
  simp [hb]
theorem ifsB_all {nm : List UInt8} {l : List (List UInt8)} (ha : ∀ i (hi : i < l.length), ifB nm l[i] (l.take i) = true) : ifsB nm l = true := by
  unfold ifsB
  rw [List.all_eq_true]
  intro i hi
  have := List.mem_range.1 hi
  rw [List.getD_eq_getElem?_getD, List.getElem?_eq_getElem this]
  exact ha i this
def headerB (c : ClassL) : Bool :=
  validB c.nm && validB c.sup && !decide (c.nm = c.sup) && classF c.fl && ifsB c.nm c.ifs && decide (c.ifs.length ≤ 20) && decide (0 ≤ c.ld) && decide (c.ld ≤ 9)

def headerRel (nm : List UInt8) (l : List (List UInt8)) (w : World) (t : Value) (wr : World) : Prop :=
  ∃ k : Nat, t = .int .i64 k ∧ k ≤ l.length ∧ Hid (∀ i (hi : i < l.length), i < k → ifB nm l[i] (l.take i) = true) ∧ Upd w wr []

theorem validl_any (l : List UInt8) (w : World) (hs : l.length ≤ 9223372036854775807) (hm : MaxLenAt w) : Calls Tryz.prog 122 #[.string (bs l)] w fun e w' => e = .returned (.bool (validB l)) ∧ Upd w w' [] := by
  have := valid_any (bs l) w (by rw [bs_size]; exact hs) hm
  rw [bs_data] at this
  exact this

set_option maxHeartbeats 4000000 in
set_option maxRecDepth 100000 in
theorem header_any (c : ClassL) (w : World) (hS : StrsAt w c.AI c.ifs) (hcI : c.ifs.length ≤ c.cI) (hl : c.ifs.length ≤ 9000000000000) (h1 : c.nm.length ≤ 9223372036854775807) (h2 : c.sup.length ≤ 9223372036854775807) (h3 : ∀ x, x ∈ c.ifs → x.length ≤ 9223372036854775807) (hm : MaxLenAt w) :
    Calls Tryz.prog 72 #[c.v] w fun e w' => e = .returned (.bool (headerB c)) ∧ Upd w w' [] := by
  obtain ⟨cn, cs, AI, cI, ifs, fl, ld, A, cap, l⟩ := c
  unfold ClassL.v ClassL.cells headerB
  simp only at hS hcI hl h1 h2 h3 ⊢
  have hU0 : Upd w (w.alloc (.cells #[.string (bs cn), .string (bs cs), .slice AI ifs.length cI, .int .i64 fl, .int .i64 ld, .slice A l.length cap] 46)) [] := (Upd.refl _ _).alloc _
  have Hv1 := fun w hm => hid (validl_any cn w h1 hm)
  have Hv2 := fun w hm => hid (validl_any cs w h2 hm)
  have Hcf := fun w => hid (checkClass_any fl w)
  have hne := bs_beq cn cs
  go_enter Tryz.func72, Tryz.ntmps72
  cases hb1 : validB cn with
  | false =>
    rw [hb1] at Hv1
    clear hne
    go_wp2_with fail
    refine (Hv1 _ (hm.upd hU0 (by simp))).out.mono ?_
    rintro e w1 ⟨rfl, hU1⟩
    go_wp2
    go_ret
    exact ⟨bool_ret (by simp), hU0.trans hU1⟩
  | true =>
    rw [hb1] at Hv1
    cases hb2 : validB cs with
    | false =>
      rw [hb2] at Hv2
      clear hne
      go_wp2_with fail
      refine (Hv1 _ (hm.upd hU0 (by simp))).out.mono ?_
      rintro e w1 ⟨rfl, hU1⟩
      obtain ⟨hc1, hf1, hz1⟩ := hU1.cells
      have hz1' : w.heap.size < w1.heap.size := by simp at hz1; omega
      go_wp2_with fail
      refine (Hv2 _ ((hm.upd hU0 (by simp)).upd hU1 (by simp))).out.mono ?_
      rintro e w2 ⟨rfl, hU2⟩
      go_wp2
      go_ret
      exact ⟨bool_ret (by simp), hU0.trans (hU1.trans hU2)⟩
    | true =>
      rw [hb2] at Hv2
      go_wp2_with fail
      refine (Hv1 _ (hm.upd hU0 (by simp))).out.mono ?_
      rintro e w1 ⟨rfl, hU1⟩
      obtain ⟨hc1, hf1, hz1⟩ := hU1.cells
      have hz1' : w.heap.size < w1.heap.size := by simp at hz1; omega
      go_wp2_with fail
      refine (Hv2 _ ((hm.upd hU0 (by simp)).upd hU1 (by simp))).out.mono ?_
      rintro e w2 ⟨rfl, hU2⟩
      have hV2 := hU1.trans hU2
      clear hc1 hf1 hz1 hz1'
      obtain ⟨hc1, hf1, hz1⟩ := hV2.cells
      have hz1' : w.heap.size < w2.heap.size := by simp at hz1; omega
      by_cases he : cn = cs
      · rw [decide_eq_true he] at hne
        go_wp2
        go_ret
        exact ⟨bool_ret (by simp [he]), hU0.trans hV2⟩
      · rw [decide_eq_false he] at hne
        cases hb3 : classF fl with
        | false =>
          rw [hb3] at Hcf
          go_wp2_with fail
          refine (Hcf _).out.mono ?_
          rintro e w3 ⟨rfl, rfl⟩
          simp only [errIf]
          go_wp2
          go_ret
          exact ⟨bool_ret (by simp [hb3]), hU0.trans hV2⟩
        | true =>
          rw [hb3, show errIf true = 0 from rfl] at Hcf
          go_wp2_with fail
          refine (Hcf _).out.mono ?_
          rintro e w3 ⟨rfl, rfl⟩
          clear hne
          have hm2 := (hm.upd hU0 (by simp)).upd hV2 (by simp)
          have HS2 := hid ((hS.upd hU0).upd hV2)
          have hz0 := hz1'
          have Hbox := hid (hV2.blk (Blk.new w 46 #[.string (bs cn), .string (bs cs), .slice AI ifs.length cI, .int .i64 fl, .int .i64 ld, .slice A l.length cap]) (by simp))
          have z2 := Hbox.out.cell 2
          simp at z2
          clear hc1 hf1 hz1 hz1' hS
          go_wp2
          go_loopw [31] (fun t wr => headerRel cn ifs w2 t wr) (fun t _ => ifs.length - (intOf t).toNat)
          case atStart => exact ⟨0, rfl, Nat.zero_le _, hid (fun i _ h => absurd h (Nat.not_lt_zero _)), Upd.refl _ _⟩
          case round =>
            obtain ⟨k, rfl, hk, hgood, hU⟩ := hrel
            have hbx := hU.blk Hbox.out (by simp)
            have y0 := hbx.cell 0
            have y2 := hbx.cell 2
            have y4 := hbx.cell 4
            simp at y0 y2 y4
            have hzr : w.heap.size < wr.heap.size := by have := hU.size; omega
            by_cases hlt : k < ifs.length
            · have hne : ifs ≠ [] := by rintro rfl; simp at hlt
              obtain ⟨bk, off, rfl, hbk, hc⟩ := HS2.out hne
              have hbr : bk < wr.heap.size := Nat.lt_of_lt_of_le hbk hU.size
              have x0 : wr.cell? ⟨bk, off + k, none⟩ = some (.string (bs ifs[k])) := by rw [hU.cells.1 _ _ hbk]; exact hc k hlt
              have hxl := h3 _ (List.getElem_mem hlt)
              have Hsr := hid ((HS2.out).upd hU)
              have Hbad := hid (fun h => ifsB_bad (nm := cn) hlt h)
              have hgd : ifB cn ifs[k] (ifs.take k) = true → Hid (∀ i (hi : i < ifs.length), i < k + 1 → ifB cn ifs[i] (ifs.take i) = true) := fun h => hid (fun i hi h2 => by
                rcases Nat.lt_or_ge i k with h3 | h3
                · exact hgood.out i hi h3
                · have : i = k := by omega
                  subst this
                  exact h)
              have Hgd := hid hgd
              clear hgd hgood hc
              have Hct := fun (w : World) (hs : StrsAt w (some ⟨bk, off, none⟩) ifs) => hid (contains_any (some ⟨bk, off, none⟩) cI ifs k ifs[k] w hs hk hl)
              have Hif : Hid (ifB cn ifs[k] (ifs.take k) = (validB ifs[k] && !decide (ifs[k] = cn) && !decide (ifs[k] ∈ ifs.take k))) := hid rfl
              generalize ifB cn ifs[k] (ifs.take k) = ib at Hbad Hgd Hif
              generalize decide (ifs[k] ∈ ifs.take k) = cb at Hct Hif
              generalize ifs[k] = x at *
              have Hvx := fun w hm => hid (validl_any x w hxl hm)
              have hxe := bs_beq x cn
              generalize validB x = vb at Hvx Hif
              generalize decide (x = cn) = eb at hxe Hif
              have hmr := hm2.upd hU (by simp)
              have hkc : k ≤ cI := by omega
              cases vb with
              | false =>
                have Hb := hid (Hbad.out (by rw [Hif.out]; rfl))
                clear hxe Hct Hbad Hgd Hif
                go_wp2_with fail
                refine (Hvx _ hmr).out.mono ?_
                rintro e w4 ⟨rfl, hU4⟩
                go_wp2
                go_ret
                exact ⟨bool_ret (by simp [he, hb3, Hb.out]), hU0.trans (hV2.trans (hU.trans hU4))⟩
              | true =>
                by_cases hxc : eb = true
                · subst hxc
                  have Hb := hid (Hbad.out (by rw [Hif.out]; rfl))
                  clear Hct Hbad Hgd Hif
                  go_wp2_with fail
                  refine (Hvx _ hmr).out.mono ?_
                  rintro e w4 ⟨rfl, hU4⟩
                  obtain ⟨hc1, hf1, hz1⟩ := hU4.cells
                  have hz4 : w.heap.size < w4.heap.size := by omega
                  go_wp2
                  go_ret
                  exact ⟨bool_ret (by simp [he, hb3, Hb.out]), hU0.trans (hV2.trans (hU.trans hU4))⟩
                · have hxc' : eb = false := by simpa using hxc
                  subst hxc'
                  clear hxc
                  have hkl : k ≤ ifs.length := hk
                  cases cb with
                  | true =>
                    have Hb := hid (Hbad.out (by rw [Hif.out]; rfl))
                    clear Hbad Hgd Hif
                    go_wp2_with fail
                    refine (Hvx _ hmr).out.mono ?_
                    rintro e w4 ⟨rfl, hU4⟩
                    obtain ⟨hc1, hf1, hz1⟩ := hU4.cells
                    have hz4 : w.heap.size < w4.heap.size := by omega
                    go_wp2_with fail
                    refine (Hct _ (Hsr.out.upd hU4)).out.mono ?_
                    rintro e w5 ⟨rfl, rfl⟩
                    go_wp2
                    go_ret
                    exact ⟨bool_ret (by simp [he, hb3, Hb.out]), hU0.trans (hV2.trans (hU.trans hU4))⟩
                  | false =>
                    have Hg := Hgd.out (by rw [Hif.out]; rfl)
                    clear Hbad Hgd Hif
                    go_wp2_with fail
                    refine (Hvx _ hmr).out.mono ?_
                    rintro e w4 ⟨rfl, hU4⟩
                    obtain ⟨hc1, hf1, hz1⟩ := hU4.cells
                    have hz4 : w.heap.size < w4.heap.size := by omega
                    go_wp2_with fail
                    refine (Hct _ (Hsr.out.upd hU4)).out.mono ?_
                    rintro e w5 ⟨rfl, rfl⟩
                    have hV := hU.trans hU4
                    clear x0 y0 y2 y4 hc1 hf1 hz1
                    go_wp2
                    go_roundw
                    case rel => exact ⟨k + 1, by go_num, by omega, Hg, hV⟩
                    case measure => simp [intOf]; omega
            · obtain rfl : k = ifs.length := by omega
              have Hall := hid (ifsB_all (nm := cn) (l := ifs) (fun i hi => hgood.out i hi hi))
              clear hgood
              by_cases g1 : ifs.length ≤ 20
              · have g1i : (ifs.length : Int) ≤ 20 := by omega
                by_cases g2 : 0 ≤ ld
                · by_cases g3 : ld ≤ 9
                  · go_wp2
                    go_ret
                    exact ⟨bool_ret (by simp [he, hb3, Hall.out, g1, g2, g3] <;> omega), hU0.trans (hV2.trans hU)⟩
                  · go_wp2
                    go_ret
                    exact ⟨bool_ret (by simp [he, hb3, Hall.out, g1, g2, g3] <;> omega), hU0.trans (hV2.trans hU)⟩
                · go_wp2
                  go_ret
                  exact ⟨bool_ret (by simp [he, hb3, Hall.out, g1, g2] <;> omega), hU0.trans (hV2.trans hU)⟩
              · have g1i : ¬ (ifs.length : Int) ≤ 20 := by omega
                go_wp2
                go_ret
                exact ⟨bool_ret (by simp [he, hb3, Hall.out, g1] <;> omega), hU0.trans (hV2.trans hU)⟩
end Go.Proofs.YtfpdeiefkimaaaaGreatDoor
/-
  shapes.method: what it says (the walk: to come).
-/
set_option linter.unusedSimpArgs false
set_option linter.unusedVariables false
namespace Go.Proofs.YtfpdeiefkimaaaaGreatDoor
open Go.RowKit

/-- Is a method sound, in a class or an interface? -/
def methodB (m : MethL) (iface : Bool) : Bool :=
  decide ((descL m.ds).2 = 0) && memberB m.nm && !(decide (m.nm = initB) && !voidL m.ds) && methodF m.fl iface (decide (m.nm = initB)) &&
    if anyF m.fl 1024 then decide (m.lo = 0) && decide (m.st = 0) && decide (m.code.length = 0)
    else decide ((wordsL m.ds m.fl).1 ≤ m.lo) && decide (m.lo ≤ 40) && decide (0 ≤ m.st) && decide (m.st ≤ 40) && allOk m.code m.lo

theorem memberl_any (l : List UInt8) (w : World) (hs : l.length ≤ 9223372036854775807) : Calls Tryz.prog 126 #[.string (bs l)] w fun e w' => e = .returned (.bool (memberB l)) ∧ w = w' := by
  have := member_any (bs l) w (by rw [bs_size]; exact hs)
  rw [bs_data] at this
  exact this
end Go.Proofs.YtfpdeiefkimaaaaGreatDoor
/-
  shapes.method, walked. (Under way: does not build yet.)
-/
set_option linter.unusedSimpArgs false
set_option linter.unusedVariables false
namespace Go.Proofs.YtfpdeiefkimaaaaGreatDoor
open Go.RowKit

theorem descL_few (l : List UInt8) : (descL l).1 ≤ 20 := by
  unfold descL
  split
  · simp
  · split
    · split
      · simp
      · split
        · split
          · split
            · simp
            · rename_i h; simp at h ⊢; omega
          · simp
        · split
          · split
            · simp
            · rename_i h; simp at h ⊢; omega
          · simp
    · simp

set_option maxHeartbeats 8000000 in
set_option maxRecDepth 100000 in
theorem method_any (m : MethL) (iface : Bool) (w : World) (hA : InstsAt w m.A m.code) (hl : m.code.length ≤ 2000000000000) (hfit : ∀ i, i ∈ m.code → i.fit) (h1 : m.nm.length ≤ 9223372036854775807) (h2 : m.ds.length ≤ 9223372036854775807) (hm : MaxLenAt w) :
    Calls Tryz.prog 73 #[m.v, .bool iface] w fun e w' => e = .returned (.bool (methodB m iface)) ∧ Upd w w' [] := by
  have Hw := fun w hn hm => hid (words5_any m w h2 hn hm)
  obtain ⟨mn, ds, fl, lo, st, A, cap, code⟩ := m
  obtain ⟨bm, hbm⟩ : ∃ b, methodB ⟨mn, ds, fl, lo, st, A, cap, code⟩ iface = b := ⟨_, rfl⟩
  rw [hbm]
  unfold methodB at hbm
  have Hx := hid hbm
  clear hbm
  unfold MethL.v MethL.cells
  unfold MethL.v MethL.cells at Hw
  simp only at hA hl hfit h1 h2 Hw Hx ⊢
  have hU0 : Upd w (w.alloc (.cells #[.string (bs mn), .string (bs ds), .int .i64 fl, .int .i64 lo, .int .i64 st, .slice A code.length cap] 86)) [] := (Upd.refl _ _).alloc _
  have Hd := fun w hm => hid (parseDescV_any ds w h2 hm)
  have Hmb := fun w => hid (memberl_any mn w h1)
  have Hcm := fun w => hid (checkMethod_any fl iface mn w)
  have h7 : ((bs mn).toList == [60, 105, 110, 105, 116, 62]) = decide (mn = initB) := by
    rw [bs_toList, Bool.eq_iff_iff, decide_eq_true_eq]
    simp [initB]
  have hb1024 : (bits BinOp.and IntKind.i64 fl 1024 != 0) = anyF fl 1024 := rfl
  go_enter Tryz.func73, Tryz.ntmps73
  go_wp2_with fail
  refine (Hd _ (hm.upd hU0 (by simp))).out.mono ?_
  rintro e w1 ⟨⟨A', cap', vd, d, nm', rfl, hvd⟩, hU1⟩
  obtain ⟨hc1, hf1, hz1⟩ := hU1.cells
  have hz1' : w.heap.size < w1.heap.size := by simp at hz1; omega
  have hU2 := (hU0.trans hU1).alloc (.cells #[.slice A' (descL ds).1 cap', .bool vd, .int .i64 d, .string (bs nm')] 181)
  generalize hq : descL ds = q at *
  obtain ⟨qn, qe⟩ := q
  simp only at hvd hU2
  by_cases hqe : qe = 0
  · have hv := hvd hqe
    subst hqe
    subst hv
    clear hvd
    obtain ⟨hc2, hf2, hz2⟩ := hU2.cells
    cases hmb : memberB mn with
    | false =>
      rw [hmb] at Hmb
      go_wp2_with fail
      refine (Hmb _).out.mono ?_
      rintro e w3 ⟨rfl, rfl⟩
      go_wp2
      go_ret
      exact ⟨bool_ret (by rw [← Hx.out, hmb]; simp), hU2⟩
    | true =>
      rw [hmb] at Hmb
      generalize hib : decide (mn = initB) = ib at *
      generalize voidL ds = vv at *
      have hz2' : w.heap.size < (w1.alloc (.cells #[.slice A' qn cap', .bool vv, .int .i64 d, .string (bs nm')] 181)).heap.size := by simp; omega
      by_cases hiv : ib = true ∧ vv = false
      · obtain ⟨rfl, rfl⟩ := hiv
        go_wp2_with fail
        refine (Hmb _).out.mono ?_
        rintro e w3 ⟨rfl, rfl⟩
        go_wp2
        go_ret
        exact ⟨bool_ret (by rw [← Hx.out, hmb]; simp), hU2⟩
      · cases hmf : methodF fl iface ib with
        | false =>
          rw [hmf, show errIf false = 1 from rfl] at Hcm
          cases ib <;> cases vv <;> first | (exact absurd ⟨rfl, rfl⟩ hiv) | skip
          all_goals
            clear hiv
            go_wp2_with fail
            refine (Hmb _).out.mono ?_
            rintro e w3 ⟨rfl, rfl⟩
            go_wp2_with fail
            refine (Hcm _).out.mono ?_
            rintro e w3 ⟨rfl, rfl⟩
            go_wp2
            go_ret
            exact ⟨bool_ret (by rw [← Hx.out, hmb, hmf]; simp), hU2⟩
        | true =>
          rw [hmf, show errIf true = 0 from rfl] at Hcm
          have hpre : ((true && true && !(ib && !vv) && true) : Bool) = true := by cases ib <;> cases vv <;> first | rfl | (exact absurd ⟨rfl, rfl⟩ hiv)
          generalize anyF fl 1024 = ab at hb1024 Hx
          have Hy : Hid ((if ab = true then decide (lo = 0) && decide (st = 0) && decide (code.length = 0) else decide ((wordsL ds fl).1 ≤ lo) && decide (lo ≤ 40) && decide (0 ≤ st) && decide (st ≤ 40) && allOk code lo) = bm) := hid (by
            have := Hx.out
            rw [hmb, hmf] at this
            revert this
            cases ib <;> cases vv <;> first | (exact absurd ⟨rfl, rfl⟩ hiv) | simp)
          clear Hx hpre
          cases ab with
          | true =>
            have e1 : (lo == 0) = decide (lo = 0) := by rw [Bool.eq_iff_iff]; simp
            have e2 : (st == 0) = decide (st = 0) := by rw [Bool.eq_iff_iff]; simp
            have e3 : ((code.length : Int) == 0) = decide (code.length = 0) := by rw [Bool.eq_iff_iff]; simp
            generalize decide (lo = 0) = q1 at e1 Hy
            generalize decide (st = 0) = q2 at e2 Hy
            generalize decide (code.length = 0) = q3 at e3 Hy
            cases ib <;> cases vv <;> first | (exact absurd ⟨rfl, rfl⟩ hiv) | skip
            all_goals
              clear hiv
              cases q1 <;> cases q2 <;> cases q3
              all_goals
                go_wp2_with fail
                refine (Hmb _).out.mono ?_
                rintro e w3 ⟨rfl, rfl⟩
                go_wp2_with fail
                refine (Hcm _).out.mono ?_
                rintro e w3 ⟨rfl, rfl⟩
                go_wp2
                go_ret
                exact ⟨bool_ret (by rw [← Hy.out]; simp), hU2⟩
          | false =>
            have hqn : qn ≤ 1000000 := by have := descL_few ds; rw [hq] at this; exact Nat.le_trans this (by omega)
            generalize hwl : wordsL ds fl = wl at Hw Hy
            obtain ⟨wq, we⟩ := wl
            have Hca := fun w (hA : InstsAt w A code) hm => hid (checkAll_any A cap code lo w hA hl hfit hm)
            have HA0 := hid hA
            simp only at Hw Hy
            generalize allOk code lo = ao at Hca Hy
            clear hA hfit hl hwl
            cases ib <;> cases vv <;> first | (exact absurd ⟨rfl, rfl⟩ hiv) | skip
            all_goals
              clear hiv
              go_wp2_with fail
              refine (Hmb _).out.mono ?_
              rintro e w3 ⟨rfl, rfl⟩
              go_wp2_with fail
              refine (Hcm _).out.mono ?_
              rintro e w3 ⟨rfl, rfl⟩
              go_wp2_with fail
              refine (Hw _ hqn (hm.upd hU2 (by simp))).out.mono ?_
              rintro e w4 ⟨rfl, hU4⟩
              obtain ⟨hc4, hf4, hz4⟩ := hU4.cells
              have hz4' : w.heap.size < w4.heap.size := by simp at hz4; omega
              have hU5 := hU2.trans hU4
              by_cases g1 : wq ≤ lo
              · by_cases g2 : lo ≤ 40
                · by_cases g3 : 0 ≤ st
                  · by_cases g4 : st ≤ 40
                    · go_wp2_with fail
                      refine (Hca _ (HA0.out.upd hU5) (hm.upd hU5 (by simp))).out.mono ?_
                      rintro e w5 ⟨rfl, hU6⟩
                      cases ao
                      all_goals
                        simp only [errIf]
                        go_wp2
                        go_ret
                        exact ⟨bool_ret (by rw [← Hy.out]; simp [g1, g2, g3, g4]), hU5.trans hU6⟩
                    · go_wp2
                      go_ret
                      exact ⟨bool_ret (by rw [← Hy.out]; simp; intros; omega), hU5⟩
                  · go_wp2
                    go_ret
                    exact ⟨bool_ret (by rw [← Hy.out]; simp; intros; omega), hU5⟩
                · go_wp2
                  go_ret
                  exact ⟨bool_ret (by rw [← Hy.out]; simp; intros; omega), hU5⟩
              · go_wp2
                go_ret
                exact ⟨bool_ret (by rw [← Hy.out]; simp; intros; omega), hU5⟩
  · have hqb : (qe != 0) = true := by simpa using hqe
    go_wp2
    go_ret
    exact ⟨bool_ret (by rw [← Hx.out]; simp [hqe]), hU2⟩
end Go.Proofs.YtfpdeiefkimaaaaGreatDoor
