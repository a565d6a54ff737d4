/-
  shapes.header, walked.
-/
import Derived.Test.YtjjdlgjofjfgmaaDoorClassC
set_option linter.unusedSimpArgs false
set_option linter.unusedVariables false
namespace Go.Proofs.YtjjdlgjofjfgmaaDoor
open Go.RowKit

/-- May this stand among the interfaces, behind those? -/
def ifB (nm x : List UInt8) (l : List (List UInt8)) : Bool := validB x && !decide (x = nm) && !decide (x ∈ l)
def ifsB (nm : List UInt8) (l : List (List UInt8)) : Bool := (List.range l.length).all fun i => ifB nm (l.getD i []) (l.take i)
theorem ifsB_bad {nm : List UInt8} {l : List (List UInt8)} {k : Nat} (h : k < l.length) (hb : ifB nm l[k] (l.take k) = false) : ifsB nm l = false := by
  unfold ifsB
  rw [List.all_eq_false]
  refine ⟨k, List.mem_range.2 h, ?_⟩
  rw [List.getD_eq_getElem?_getD, List.getElem?_eq_getElem h]
  simp [hb]
theorem ifsB_all {nm : List UInt8} {l : List (List UInt8)} (ha : ∀ i (hi : i < l.length), ifB nm l[i] (l.take i) = true) : ifsB nm l = true := by
  unfold ifsB
  rw [List.all_eq_true]
  intro i hi
  have := List.mem_range.1 hi
  rw [List.getD_eq_getElem?_getD, List.getElem?_eq_getElem this]
  exact ha i this
def headerB (c : ClassL) : Bool :=
  validB c.nm && validB c.sup && !decide (c.nm = c.sup) && classF c.fl && ifsB c.nm c.ifs && decide (c.ifs.length ≤ 20) && decide (0 ≤ c.ld) && decide (c.ld ≤ 9)

def headerRel (nm : List UInt8) (l : List (List UInt8)) (w : World) (t : Value) (wr : World) : Prop :=
  ∃ k : Nat, t = .int .i64 k ∧ k ≤ l.length ∧ Hid (∀ i (hi : i < l.length), i < k → ifB nm l[i] (l.take i) = true) ∧ Upd w wr []

theorem validl_any (l : List UInt8) (w : World) (hs : l.length ≤ 9223372036854775807) (hm : MaxLenAt w) : Calls Tryd.prog 29 #[.string (bs l)] w fun e w' => e = .returned (.bool (validB l)) ∧ Upd w w' [] := by
  have := valid_any (bs l) w (by rw [bs_size]; exact hs) hm
  rw [bs_data] at this
  exact this

set_option maxHeartbeats 4000000 in
set_option maxRecDepth 100000 in
theorem header_any (c : ClassL) (w : World) (hS : StrsAt w c.AI c.ifs) (hcI : c.ifs.length ≤ c.cI) (hl : c.ifs.length ≤ 9000000000000) (h1 : c.nm.length ≤ 9223372036854775807) (h2 : c.sup.length ≤ 9223372036854775807) (h3 : ∀ x, x ∈ c.ifs → x.length ≤ 9223372036854775807) (hm : MaxLenAt w) :
    Calls Tryd.prog 56 #[c.v] w fun e w' => e = .returned (.bool (headerB c)) ∧ Upd w w' [] := by
  obtain ⟨cn, cs, AI, cI, ifs, fl, ld, A, cap, l⟩ := c
  unfold ClassL.v ClassL.cells headerB
  simp only at hS hcI hl h1 h2 h3 ⊢
  have hU0 : Upd w (w.alloc (.cells #[.string (bs cn), .string (bs cs), .slice AI ifs.length cI, .int .i64 fl, .int .i64 ld, .slice A l.length cap] 47)) [] := (Upd.refl _ _).alloc _
  have Hv1 := fun w hm => hid (validl_any cn w h1 hm)
  have Hv2 := fun w hm => hid (validl_any cs w h2 hm)
  have Hcf := fun w => hid (checkClass_any fl w)
  have hne := bs_beq cn cs
  go_enter Tryd.func56, Tryd.ntmps56
  cases hb1 : validB cn with
  | false =>
    rw [hb1] at Hv1
    clear hne
    go_wp2_with fail
    refine (Hv1 _ (hm.upd hU0 (by simp))).out.mono ?_
    rintro e w1 ⟨rfl, hU1⟩
    go_wp2
    go_ret
    exact ⟨bool_ret (by simp), hU0.trans hU1⟩
  | true =>
    rw [hb1] at Hv1
    cases hb2 : validB cs with
    | false =>
      rw [hb2] at Hv2
      clear hne
      go_wp2_with fail
      refine (Hv1 _ (hm.upd hU0 (by simp))).out.mono ?_
      rintro e w1 ⟨rfl, hU1⟩
      obtain ⟨hc1, hf1, hz1⟩ := hU1.cells
      have hz1' : w.heap.size < w1.heap.size := by simp at hz1; omega
      go_wp2_with fail
      refine (Hv2 _ ((hm.upd hU0 (by simp)).upd hU1 (by simp))).out.mono ?_
      rintro e w2 ⟨rfl, hU2⟩
      go_wp2
      go_ret
      exact ⟨bool_ret (by simp), hU0.trans (hU1.trans hU2)⟩
    | true =>
      rw [hb2] at Hv2
      go_wp2_with fail
      refine (Hv1 _ (hm.upd hU0 (by simp))).out.mono ?_
      rintro e w1 ⟨rfl, hU1⟩
      obtain ⟨hc1, hf1, hz1⟩ := hU1.cells
      have hz1' : w.heap.size < w1.heap.size := by simp at hz1; omega
      go_wp2_with fail
      refine (Hv2 _ ((hm.upd hU0 (by simp)).upd hU1 (by simp))).out.mono ?_
      rintro e w2 ⟨rfl, hU2⟩
      have hV2 := hU1.trans hU2
      clear hc1 hf1 hz1 hz1'
      obtain ⟨hc1, hf1, hz1⟩ := hV2.cells
      have hz1' : w.heap.size < w2.heap.size := by simp at hz1; omega
      by_cases he : cn = cs
      · rw [decide_eq_true he] at hne
        go_wp2
        go_ret
        exact ⟨bool_ret (by simp [he]), hU0.trans hV2⟩
      · rw [decide_eq_false he] at hne
        cases hb3 : classF fl with
        | false =>
          rw [hb3] at Hcf
          go_wp2_with fail
          refine (Hcf _).out.mono ?_
          rintro e w3 ⟨rfl, rfl⟩
          simp only [errIf]
          go_wp2
          go_ret
          exact ⟨bool_ret (by simp [hb3]), hU0.trans hV2⟩
        | true =>
          rw [hb3, show errIf true = 0 from rfl] at Hcf
          go_wp2_with fail
          refine (Hcf _).out.mono ?_
          rintro e w3 ⟨rfl, rfl⟩
          clear hne
          have hm2 := (hm.upd hU0 (by simp)).upd hV2 (by simp)
          have HS2 := hid ((hS.upd hU0).upd hV2)
          have hz0 := hz1'
          have Hbox := hid (hV2.blk (Blk.new w 47 #[.string (bs cn), .string (bs cs), .slice AI ifs.length cI, .int .i64 fl, .int .i64 ld, .slice A l.length cap]) (by simp))
          have z2 := Hbox.out.cell 2
          simp at z2
          clear hc1 hf1 hz1 hz1' hS
          go_wp2
          go_loopw [31] (fun t wr => headerRel cn ifs w2 t wr) (fun t _ => ifs.length - (intOf t).toNat)
          case atStart => exact ⟨0, rfl, Nat.zero_le _, hid (fun i _ h => absurd h (Nat.not_lt_zero _)), Upd.refl _ _⟩
          case round =>
            obtain ⟨k, rfl, hk, hgood, hU⟩ := hrel
            have hbx := hU.blk Hbox.out (by simp)
            have y0 := hbx.cell 0
            have y2 := hbx.cell 2
            have y4 := hbx.cell 4
            simp at y0 y2 y4
            have hzr : w.heap.size < wr.heap.size := by have := hU.size; omega
            by_cases hlt : k < ifs.length
            · have hne : ifs ≠ [] := by rintro rfl; simp at hlt
              obtain ⟨bk, off, rfl, hbk, hc⟩ := HS2.out hne
              have hbr : bk < wr.heap.size := Nat.lt_of_lt_of_le hbk hU.size
              have x0 : wr.cell? ⟨bk, off + k, none⟩ = some (.string (bs ifs[k])) := by rw [hU.cells.1 _ _ hbk]; exact hc k hlt
              have hxl := h3 _ (List.getElem_mem hlt)
              have Hsr := hid ((HS2.out).upd hU)
              have Hbad := hid (fun h => ifsB_bad (nm := cn) hlt h)
              have hgd : ifB cn ifs[k] (ifs.take k) = true → Hid (∀ i (hi : i < ifs.length), i < k + 1 → ifB cn ifs[i] (ifs.take i) = true) := fun h => hid (fun i hi h2 => by
                rcases Nat.lt_or_ge i k with h3 | h3
                · exact hgood.out i hi h3
                · have : i = k := by omega
                  subst this
                  exact h)
              have Hgd := hid hgd
              clear hgd hgood hc
              have Hct := fun (w : World) (hs : StrsAt w (some ⟨bk, off, none⟩) ifs) => hid (contains_any (some ⟨bk, off, none⟩) cI ifs k ifs[k] w hs hk hl)
              have Hif : Hid (ifB cn ifs[k] (ifs.take k) = (validB ifs[k] && !decide (ifs[k] = cn) && !decide (ifs[k] ∈ ifs.take k))) := hid rfl
              generalize ifB cn ifs[k] (ifs.take k) = ib at Hbad Hgd Hif
              generalize decide (ifs[k] ∈ ifs.take k) = cb at Hct Hif
              generalize ifs[k] = x at *
              have Hvx := fun w hm => hid (validl_any x w hxl hm)
              have hxe := bs_beq x cn
              generalize validB x = vb at Hvx Hif
              generalize decide (x = cn) = eb at hxe Hif
              have hmr := hm2.upd hU (by simp)
              have hkc : k ≤ cI := by omega
              cases vb with
              | false =>
                have Hb := hid (Hbad.out (by rw [Hif.out]; rfl))
                clear hxe Hct Hbad Hgd Hif
                go_wp2_with fail
                refine (Hvx _ hmr).out.mono ?_
                rintro e w4 ⟨rfl, hU4⟩
                go_wp2
                go_ret
                exact ⟨bool_ret (by simp [he, hb3, Hb.out]), hU0.trans (hV2.trans (hU.trans hU4))⟩
              | true =>
                by_cases hxc : eb = true
                · subst hxc
                  have Hb := hid (Hbad.out (by rw [Hif.out]; rfl))
                  clear Hct Hbad Hgd Hif
                  go_wp2_with fail
                  refine (Hvx _ hmr).out.mono ?_
                  rintro e w4 ⟨rfl, hU4⟩
                  obtain ⟨hc1, hf1, hz1⟩ := hU4.cells
                  have hz4 : w.heap.size < w4.heap.size := by omega
                  go_wp2
                  go_ret
                  exact ⟨bool_ret (by simp [he, hb3, Hb.out]), hU0.trans (hV2.trans (hU.trans hU4))⟩
                · have hxc' : eb = false := by simpa using hxc
                  subst hxc'
                  clear hxc
                  have hkl : k ≤ ifs.length := hk
                  cases cb with
                  | true =>
                    have Hb := hid (Hbad.out (by rw [Hif.out]; rfl))
                    clear Hbad Hgd Hif
                    go_wp2_with fail
                    refine (Hvx _ hmr).out.mono ?_
                    rintro e w4 ⟨rfl, hU4⟩
                    obtain ⟨hc1, hf1, hz1⟩ := hU4.cells
                    have hz4 : w.heap.size < w4.heap.size := by omega
                    go_wp2_with fail
                    refine (Hct _ (Hsr.out.upd hU4)).out.mono ?_
                    rintro e w5 ⟨rfl, rfl⟩
                    go_wp2
                    go_ret
                    exact ⟨bool_ret (by simp [he, hb3, Hb.out]), hU0.trans (hV2.trans (hU.trans hU4))⟩
                  | false =>
                    have Hg := Hgd.out (by rw [Hif.out]; rfl)
                    clear Hbad Hgd Hif
                    go_wp2_with fail
                    refine (Hvx _ hmr).out.mono ?_
                    rintro e w4 ⟨rfl, hU4⟩
                    obtain ⟨hc1, hf1, hz1⟩ := hU4.cells
                    have hz4 : w.heap.size < w4.heap.size := by omega
                    go_wp2_with fail
                    refine (Hct _ (Hsr.out.upd hU4)).out.mono ?_
                    rintro e w5 ⟨rfl, rfl⟩
                    have hV := hU.trans hU4
                    clear x0 y0 y2 y4 hc1 hf1 hz1
                    go_wp2
                    go_roundw
                    case rel => exact ⟨k + 1, by go_num, by omega, Hg, hV⟩
                    case measure => simp [intOf]; omega
            · obtain rfl : k = ifs.length := by omega
              have Hall := hid (ifsB_all (nm := cn) (l := ifs) (fun i hi => hgood.out i hi hi))
              clear hgood
              by_cases g1 : ifs.length ≤ 20
              · have g1i : (ifs.length : Int) ≤ 20 := by omega
                by_cases g2 : 0 ≤ ld
                · by_cases g3 : ld ≤ 9
                  · go_wp2
                    go_ret
                    exact ⟨bool_ret (by simp [he, hb3, Hall.out, g1, g2, g3] <;> omega), hU0.trans (hV2.trans hU)⟩
                  · go_wp2
                    go_ret
                    exact ⟨bool_ret (by simp [he, hb3, Hall.out, g1, g2, g3] <;> omega), hU0.trans (hV2.trans hU)⟩
                · go_wp2
                  go_ret
                  exact ⟨bool_ret (by simp [he, hb3, Hall.out, g1, g2] <;> omega), hU0.trans (hV2.trans hU)⟩
              · have g1i : ¬ (ifs.length : Int) ≤ 20 := by omega
                go_wp2
                go_ret
                exact ⟨bool_ret (by simp [he, hb3, Hall.out, g1] <;> omega), hU0.trans (hV2.trans hU)⟩
end Go.Proofs.YtjjdlgjofjfgmaaDoor
