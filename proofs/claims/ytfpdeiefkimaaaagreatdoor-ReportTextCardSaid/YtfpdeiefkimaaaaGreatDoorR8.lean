/-
  report.classes: all classes of a world, copied; walked. (Layer 25.)
-/
import Derived.Test.YtfpdeiefkimaaaaGreatDoorR7
import Derived.Lib.QuietBelow
set_option linter.unusedSimpArgs false
set_option linter.unusedVariables false
namespace Go.Proofs.YtfpdeiefkimaaaaGreatDoor
open Go.RowKit Go.WideShapes Go.Maps Go.WideMaps

/-- A class in memory of its own. -/
structure CIt where
  r : RdS
  vi : Value
  vm : Value
  cs : List Value
def CIt.row (c : CIt) : List Value := [.string (bs c.r.nm), .string (bs c.r.sup), c.vi, .int .i64 c.r.fl, .int .i64 c.r.ld, c.vm]
def CIt.cl (c : CIt) : ClassL := clsOf c.r c.vi c.vm c.cs
/-- While the classes are read. -/
structure ClsI (w : World) (ws : List RdS) (k : Nat) (l : List CIt) (A3 : Option Addr) (c3 : Nat) (wr : World) : Prop where
  rs : l.map CIt.r = ws.take k
  li : ∀ c, c ∈ l → Lists wr w.heap.size c.r c.vi c.vm c.cs
  row : wr.ownsRow w.heap.size 46 6 (.slice A3 k c3) k (l.flatMap CIt.row)
  upd : Upd w wr []
theorem ClsI.step {w : World} {ws : List RdS} {k : Nat} {l : List CIt} {A3 : Option Addr} {c3 : Nat} {wr w4 w5 : World} (h : ClsI w ws k l A3 c3 wr) {r : RdS} (hr : ws[k]? = some r) {vi vm : Value} {cs : List Value} (hl : Lists w4 wr.heap.size r vi vm cs) (u : Upd wr w4 []) {A' : Option Addr} {c' : Nat}
    (hg : w4.grownBy w5 (Value.slice A3 k c3).ownBlock) (ho : w5.ownsRow w.heap.size 46 6 (.slice A' (k + 1) c') (k + 1) (l.flatMap CIt.row ++ CIt.row ⟨r, vi, vm, cs⟩)) : ClsI w ws (k + 1) (l ++ [⟨r, vi, vm, cs⟩]) A' c' w5 := by
  have hk : k < ws.length := (List.getElem?_eq_some_iff.1 hr).1
  have hek : ws[k] = r := (List.getElem?_eq_some_iff.1 hr).2
  have hR := u.own h.row (by simp)
  have hu5 : Upd w4 w5 (Value.ob (.slice A3 k c3)) := (Upd.refl w4 _).grown hg (fun q hq => .inl (mem_ob.2 hq))
  refine ⟨by rw [List.map_append, h.rs, List.take_succ_eq_append_getElem hk, hek]; rfl, fun c hc => ?_, by rw [List.flatMap_append]; simpa using ho, (h.upd.trans u).fresh hu5 (fun q hq => own_base h.row q (mem_ob.1 hq))⟩
  rcases List.mem_append.1 hc with hc | hc
  · have h2 := (h.li c hc).upd u
    exact h2.keep hu5 (fun q hq => h2.own_ne hR ne_sC ne_mC ne_iC q hq)
  · rw [List.mem_singleton.1 hc]
    exact Lists.mono (hl.keep hu5 (fun q hq => hl.own_ne hR ne_sC ne_mC ne_iC q hq)) h.upd.size
theorem infoCls : (Tryz.prog.info? 46).map (fun i => (i.zero, i.size, i.bytes)) = some (some (.agg #[.string ⟨#[]⟩, .string ⟨#[]⟩, .slice none 0 0, .int .i64 0, .int .i64 0, .slice none 0 0]), 6, 96) := by kernel_rfl
set_option maxHeartbeats 8000000 in
set_option maxRecDepth 100000 in
theorem classes_walk {w : World} {b mb : Nat} {es : List Ent} {S : List Nat} (h : HW w b mb es S) :
    Calls Tryz.prog 31 #[.pointer (some ⟨b, 0, none⟩)] w fun e w' => ∃ A c l, e = .returned (.slice A es.length c) ∧ ClsI w (rsOf es) es.length l A c w' := by
  have H := hid h
  have hes := h.good.len
  have HI0 : Hid (ClsI w (rsOf es) 0 [] none 0 w) := hid ⟨by simp, by simp, World.ownsRow_nil _ _ _ _, Upd.refl _ _⟩
  have HLn := hid h.len
  clear h
  go_enter Tryz.func31, Tryz.ntmps31
  go_wp2_with fail
  refine HLn.out.mono ?_
  rintro e w1 ⟨rfl, rfl⟩
  clear HLn
  go_wp2
  go_loopw [9, 3] (fun t s wr => ∃ k A3 c3 l, t = .int .i64 (k : Nat) ∧ k ≤ es.length ∧ s = .slice A3 k c3 ∧ Hid (ClsI w1 (rsOf es) k l A3 c3 wr)) (fun t _ _ => es.length - (intOf t).toNat)
  case atStart => exact ⟨0, none, 0, [], rfl, Nat.zero_le _, rfl, HI0⟩
  case round =>
    obtain ⟨k, A3, c3, l, rfl, hk, rfl, HI⟩ := hrel
    clear HI0
    by_cases hlt : k < es.length
    · obtain ⟨e0, he⟩ : ∃ e0, es[k]? = some e0 := ⟨_, List.getElem?_eq_getElem hlt⟩
      have Hc := hid (class_any (H.out.upd HI.out.upd) k he)
      have hr : (rsOf es)[k]? = some e0.r := by unfold rsOf; rw [List.getElem?_map, he]; rfl
      have Hst := hid (fun w4 w5 vi vm cs A' c' hl (u : Upd wr w4 []) hg ho => HI.out.step (w4 := w4) (w5 := w5) (vi := vi) (vm := vm) (cs := cs) (A' := A') (c' := c') hr hl u hg ho)
      have Hrow := hid HI.out.row
      have hbase := HI.out.upd.size
      clear HI hr he
      go_wp2_with fail
      refine Hc.out.mono ?_
      rintro e w4 ⟨vi, vm, cs, rfl, hL4, hU4⟩
      obtain ⟨B1, j1, rfl⟩ := own_val hL4.oi
      obtain ⟨B2, j2, rfl⟩ := own_val hL4.om
      have HL4 := hid hL4
      have HU4 := hid hU4
      clear hL4 hU4 Hc
      obtain ⟨⟨nm, sup, ifs, fl, ld, ms, st⟩, ab, dp, cl⟩ := e0
      simp only at HL4 Hst ⊢
      go_upto_region 6 with (fail)
      have HB5 := hid (Blk.new w4 46 #[.string (bs nm), .string (bs sup), .slice B1 ifs.length j1, .int .i64 fl, .int .i64 ld, .slice B2 ms.length j2])
      have HU5 := hid (HU4.out.alloc (.cells #[.string (bs nm), .string (bs sup), .slice B1 ifs.length j1, .int .i64 fl, .int .i64 ld, .slice B2 ms.length j2] 46))
      have HL5 := hid (HL4.out.upd ((Upd.refl w4 []).alloc (.cells #[.string (bs nm), .string (bs sup), .slice B1 ifs.length j1, .int .i64 fl, .int .i64 ld, .slice B2 ms.length j2] 46)))
      have hz5 : (w4.alloc (.cells #[.string (bs nm), .string (bs sup), .slice B1 ifs.length j1, .int .i64 fl, .int .i64 ld, .slice B2 ms.length j2] 46)).heap.size = w4.heap.size + 1 := by simp
      revert HB5 HU5 HL5 hz5
      generalize w4.alloc (.cells #[.string (bs nm), .string (bs sup), .slice B1 ifs.length j1, .int .i64 fl, .int .i64 ld, .slice B2 ms.length j2] 46) = w5
      intro HB5 HU5 HL5 hz5
      have hz6 : w4.heap.size < w5.heap.size := by omega
      have y0 := (HB5.out.cell 0).trans (show _ = some (.string (bs nm)) from rfl)
      have y1 := (HB5.out.cell 1).trans (show _ = some (.string (bs sup)) from rfl)
      have y2 := (HB5.out.cell 2).trans (show _ = some (.slice B1 ifs.length j1) from rfl)
      have y3 := (HB5.out.cell 3).trans (show _ = some (.int .i64 fl) from rfl)
      have y4 := (HB5.out.cell 4).trans (show _ = some (.int .i64 ld) from rfl)
      have y5 := (HB5.out.cell 5).trans (show _ = some (.slice B2 ms.length j2) from rfl)
      obtain ⟨i0, hi0, hz0, hz1, hz2⟩ := info_parts infoCls
      have HU6 := hid (HU5.out.alloc (.cells #[.string (bs nm), .string (bs sup), .slice B1 ifs.length j1, .int .i64 fl, .int .i64 ld, .slice B2 ms.length j2] 46))
      have HL6 := hid (HL5.out.upd ((Upd.refl w5 []).alloc (.cells #[.string (bs nm), .string (bs sup), .slice B1 ifs.length j1, .int .i64 fl, .int .i64 ld, .slice B2 ms.length j2] 46)))
      have HOw := hid (HU6.out.own Hrow.out (by simp))
      have HSr : Hid (([.string (bs nm), .string (bs sup), .slice B1 ifs.length j1, .int .i64 fl, .int .i64 ld, .slice B2 ms.length j2] : List Value) ≠ [] → ∃ ad, (some ⟨w5.heap.size, 0, none⟩ : Option Addr) = some ad ∧ ∀ j u, ([.string (bs nm), .string (bs sup), .slice B1 ifs.length j1, .int .i64 fl, .int .i64 ld, .slice B2 ms.length j2] : List Value)[j]? = some u → (w5.alloc (.cells #[.string (bs nm), .string (bs sup), .slice B1 ifs.length j1, .int .i64 fl, .int .i64 ld, .slice B2 ms.length j2] 46)).cell? (ad.add j) = some u) := hid (fun _ => by
        refine ⟨_, rfl, fun j u hu => ?_⟩
        rw [Addr.add_mid, Nat.zero_add, (Blk.new w5 46 #[.string (bs nm), .string (bs sup), .slice B1 ifs.length j1, .int .i64 fl, .int .i64 ld, .slice B2 ms.length j2]).cell]
        rw [← Array.getElem?_toList]
        exact hu)
      have Hwz := hid (show w1.heap.size ≤ (w5.alloc (.cells #[.string (bs nm), .string (bs sup), .slice B1 ifs.length j1, .int .i64 fl, .int .i64 ld, .slice B2 ms.length j2] 46)).heap.size by have := HU6.out.size; omega)
      clear hz5 HL5 HL4
      go_wp2_with (at_builtin; go_must (refine wpList_append_all _ rfl (.tmp 18) (.tmp 20) 22 rfl 46 i0 _ 6 96 Tryz.underlying22 hi0 hz0 hz1 hz2 rfl (by decide) w1.heap.size (.slice A3 k c3) k _ rfl (by exact HOw.out) (some ⟨w5.heap.size, 0, none⟩) 1 1 [.string (bs nm), .string (bs sup), .slice B1 ifs.length j1, .int .i64 fl, .int .i64 ld, .slice B2 ms.length j2] rfl rfl (by exact HSr.out) (by intro u hu; simp only [List.mem_cons, List.not_mem_nil, or_false] at hu; rcases hu with rfl | rfl | rfl | rfl | rfl | rfl <;> rfl) (by unfold maxLen; omega) (by omega) (by exact Hwz.out) ?_); go_loud (intro A' c' w6 hown hg; have HN := hid (Hst.out _ w6 _ _ cs A' c' HL6.out HU6.out hg hown); clear hown hg))
      go_roundw
      case rel => exact ⟨k + 1, A', c', _, (by go_num), by omega, rfl, HN⟩
      case measure => simp [intOf]; omega
    · obtain rfl : k = es.length := by omega
      go_wp2
      go_ret
      exact ⟨A3, c3, l, rfl, HI.out⟩
end Go.Proofs.YtfpdeiefkimaaaaGreatDoor
/-
  slices.Equal at texts and at instructions; walked. (Layer 25.)
-/
set_option linter.unusedSimpArgs false
set_option linter.unusedVariables false
namespace Go.Proofs.YtfpdeiefkimaaaaGreatDoor
open Go.RowKit Go.Sort

theorem eqto_all {α : Type} {l m : List α} (hl : l.length = m.length) (h : ∀ i (hi : i < l.length) (hj : i < m.length), l[i] = m[i]) : l = m := List.ext_getElem hl h
set_option maxHeartbeats 4000000 in
set_option maxRecDepth 100000 in
theorem equalS_any (A B : Option Addr) (ca cb : Nat) (l m : List (List UInt8)) (w : World) (hA : StrsAt w A l) (hB : StrsAt w B m) (hl : l.length ≤ 1000000000) (hm : m.length ≤ 1000000000) (hca : l.length ≤ ca) (hcb : m.length ≤ cb) :
    Calls Tryz.prog 66 #[.slice A l.length ca, .slice B m.length cb] w fun e w' => e = .returned (.bool (decide (l = m))) ∧ Upd w w' [] := by
  have HA := hid hA
  have HB := hid hB
  clear hA hB
  by_cases hlen : l.length = m.length
  · have Hlen := hid hlen
    have hli : ((l.length : Int) != (m.length : Int)) = false := by rw [hlen]; simp
    have hlm : m.length ≤ l.length := by omega
    have hml : l.length ≤ m.length := by omega
    clear hlen
    go_enter Tryz.func66, Tryz.ntmps66
    go_wp2
    go_loopw [13] (fun t wr => ∃ k : Nat, t = .int .i64 k ∧ k ≤ l.length ∧ Hid ((∀ i (hi : i < l.length) (hj : i < m.length), i < k → l[i] = m[i]) ∧ Upd w wr [])) (fun t _ => l.length - (intOf t).toNat)
    case atStart => exact ⟨0, rfl, Nat.zero_le _, hid ⟨fun i _ _ h => absurd h (by omega), Upd.refl _ _⟩⟩
    case round =>
      obtain ⟨k, rfl, hk, HK⟩ := hrel
      by_cases hlt : k < l.length
      · obtain ⟨b1, o1, rfl, hb1, hc1⟩ := (HA.out.upd HK.out.2) (by intro e; have := congrArg List.length e; simp only [List.length_nil] at this; omega)
        obtain ⟨b2, o2, rfl, hb2, hc2⟩ := (HB.out.upd HK.out.2) (by intro e; have := congrArg List.length e; simp only [List.length_nil] at this; omega)
        have hlt2 : k < m.length := by omega
        have x := hc1 k hlt
        have y := hc2 k hlt2
        have Hst := hid (fun (e : l[k] = m[k]) => show (∀ i (hi : i < l.length) (hj : i < m.length), i < k + 1 → l[i] = m[i]) from fun i hi hj h => by
          rcases Nat.lt_or_ge i k with h1 | h1
          · exact HK.out.1 i hi hj h1
          · have : i = k := by omega
            subst this
            exact e)
        have Hne := hid (fun (e : l[k] ≠ m[k]) => show decide (l = m) = false from decide_eq_false (by rintro rfl; exact e rfl))
        have HU := hid HK.out.2
        generalize l[k] = p at *
        generalize m[k] = q at *
        have kx := cell_regrown x
        have ky := cell_regrown y
        clear hc1 hc2 HK x y
        by_cases hpq : p = q
        · have hb : ((bs p).toList == (bs q).toList) = true := by rw [bs_beq]; exact decide_eq_true hpq
          have Hpq := hid hpq
          clear hpq
          go_wp2
          refine wp_region_quiet_below (by kernel_rfl) (by kernel_rfl) ?_
          repeat (any_goals (first | go_big_quiet_step (fail) | quiet_step (fail)))
          refine wpQuiet_nil ?_
          intro w2 hw2
          obtain ⟨⟨dq, osq⟩, rfl⟩ := hw2
          have HU2 := hid (HU.out.trans (Upd.of_below (below_regrown wr dq osq) []))
          go_wp2
          go_roundw
          case rel => exact ⟨k + 1, (by go_num), by omega, hid ⟨Hst.out Hpq.out, HU2.out⟩⟩
          case measure => simp [intOf]; omega
        · have hb : ((bs p).toList == (bs q).toList) = false := by rw [bs_beq]; exact decide_eq_false hpq
          have Hpq := hid (Hne.out hpq)
          clear hpq
          go_wp2
          refine wp_region_quiet_below (by kernel_rfl) (by kernel_rfl) ?_
          repeat (any_goals (first | go_big_quiet_step (fail) | quiet_step (fail)))
          refine wpQuiet_nil ?_
          intro w2 hw2
          obtain ⟨⟨dq, osq⟩, rfl⟩ := hw2
          have HU2 := hid (HU.out.trans (Upd.of_below (below_regrown wr dq osq) []))
          go_wp2
          go_ret
          exact ⟨by rw [Hpq.out]; rfl, HU2.out⟩
      · obtain rfl : k = l.length := by omega
        have HR := hid (show decide (l = m) = true from decide_eq_true (eqto_all Hlen.out (fun i hi hj => HK.out.1 i hi hj hi)))
        have HU := hid HK.out.2
        clear HK
        go_wp2
        go_ret
        exact ⟨by rw [HR.out]; rfl, HU.out⟩
  · have hli : ((l.length : Int) != (m.length : Int)) = true := by rw [bne_iff_ne]; omega
    have HR := hid (show decide (l = m) = false from decide_eq_false (by rintro rfl; exact hlen rfl))
    clear hlen
    go_enter Tryz.func66, Tryz.ntmps66
    go_wp2
    go_ret
    exact ⟨by rw [HR.out]; rfl, Upd.refl _ _⟩
end Go.Proofs.YtfpdeiefkimaaaaGreatDoor
/-
  slices.Equal at instructions; walked. (Layer 25.)
-/
set_option linter.unusedSimpArgs false
set_option linter.unusedVariables false
namespace Go.Proofs.YtfpdeiefkimaaaaGreatDoor
open Go.RowKit Go.Sort

set_option maxHeartbeats 4000000 in
set_option maxRecDepth 100000 in
theorem equalI_any (A B : Option Addr) (ca cb : Nat) (l m : List InstL) (w : World) (hA : InstsAt w A l) (hB : InstsAt w B m) (hl : l.length ≤ 1000000000) (hm : m.length ≤ 1000000000) (hca : l.length ≤ ca) (hcb : m.length ≤ cb) :
    Calls Tryz.prog 120 #[.slice A l.length ca, .slice B m.length cb] w fun e w' => e = .returned (.bool (decide (l = m))) ∧ Upd w w' [] := by
  have HA := hid hA
  have HB := hid hB
  clear hA hB
  by_cases hlen : l.length = m.length
  · have Hlen := hid hlen
    have hli : ((l.length : Int) != (m.length : Int)) = false := by rw [hlen]; simp
    have hlm : m.length ≤ l.length := by omega
    have hml : l.length ≤ m.length := by omega
    clear hlen
    go_enter Tryz.func120, Tryz.ntmps120
    go_wp2
    go_loopw [13] (fun t wr => ∃ k : Nat, t = .int .i64 k ∧ k ≤ l.length ∧ Hid ((∀ i (hi : i < l.length) (hj : i < m.length), i < k → l[i] = m[i]) ∧ Upd w wr [])) (fun t _ => l.length - (intOf t).toNat)
    case atStart => exact ⟨0, rfl, Nat.zero_le _, hid ⟨fun i _ _ h => absurd h (by omega), Upd.refl _ _⟩⟩
    case round =>
      obtain ⟨k, rfl, hk, HK⟩ := hrel
      by_cases hlt : k < l.length
      · obtain ⟨b1, o1, rfl, hb1, hc1⟩ := (HA.out.upd HK.out.2) (by intro e; have := congrArg List.length e; simp only [List.length_nil] at this; omega)
        obtain ⟨b2, o2, rfl, hb2, hc2⟩ := (HB.out.upd HK.out.2) (by intro e; have := congrArg List.length e; simp only [List.length_nil] at this; omega)
        have hlt2 : k < m.length := by omega
        have Hst := hid (fun (e : l[k] = m[k]) => show (∀ i (hi : i < l.length) (hj : i < m.length), i < k + 1 → l[i] = m[i]) from fun i hi hj h => by
          rcases Nat.lt_or_ge i k with h1 | h1
          · exact HK.out.1 i hi hj h1
          · have : i = k := by omega
            subst this
            exact e)
        have Hne := hid (fun (e : l[k] ≠ m[k]) => show decide (l = m) = false from decide_eq_false (by rintro rfl; exact e rfl))
        have HU := hid HK.out.2
        obtain ⟨po, pn, pt, ⟨pi, pc, pm, pd⟩, ep⟩ : ∃ a b c d, l[k] = InstL.mk a b c d := ⟨_, _, _, _, rfl⟩
        obtain ⟨qo, qn, qt, ⟨qi, qc, qm, qd⟩, eq⟩ : ∃ a b c d, m[k] = InstL.mk a b c d := ⟨_, _, _, _, rfl⟩
        obtain ⟨x0, x1, x2, x3, x4, x5, x6⟩ := InstsAt.seven hc1 hlt ep
        obtain ⟨y0, y1, y2, y3, y4, y5, y6⟩ := InstsAt.seven hc2 hlt2 eq
        simp only at x3 x4 x5 x6 y3 y4 y5 y6
        rw [ep, eq] at Hst Hne
        have hE := fun w => eq_inst ⟨po, pn, pt, ⟨pi, pc, pm, pd⟩⟩ ⟨qo, qn, qt, ⟨qi, qc, qm, qd⟩⟩ w
        unfold InstL.v InstL.cells at hE
        simp only at hE
        have a0 := cell_regrown x0
        have a1 := cell_regrown x1
        have a2 := cell_regrown x2
        have a3 := cell_regrown x3
        have a4 := cell_regrown x4
        have a5 := cell_regrown x5
        have a6 := cell_regrown x6
        have b0 := cell_regrown y0
        have b1' := cell_regrown y1
        have b2' := cell_regrown y2
        have b3 := cell_regrown y3
        have b4 := cell_regrown y4
        have b5 := cell_regrown y5
        have b6 := cell_regrown y6
        clear hc1 hc2 HK ep eq x0 x1 x2 x3 x4 x5 x6 y0 y1 y2 y3 y4 y5 y6
        by_cases hpq : InstL.mk po pn pt ⟨pi, pc, pm, pd⟩ = InstL.mk qo qn qt ⟨qi, qc, qm, qd⟩
        · rw [decide_eq_true hpq] at hE
          have Hpq := hid hpq
          clear hpq
          go_wp2
          refine wp_region_quiet_below (by kernel_rfl) (by kernel_rfl) ?_
          repeat (any_goals (first | go_big_quiet_step (fail) | quiet_step (fail)))
          refine wpQuiet_nil ?_
          intro w2 hw2
          obtain ⟨⟨dq, osq⟩, rfl⟩ := hw2
          have HU2 := hid (HU.out.trans (Upd.of_below (below_regrown wr dq osq) []))
          go_wp2
          go_roundw
          case rel => exact ⟨k + 1, (by go_num), by omega, hid ⟨Hst.out Hpq.out, HU2.out⟩⟩
          case measure => simp [intOf]; omega
        · rw [decide_eq_false hpq] at hE
          have Hpq := hid (Hne.out hpq)
          clear hpq
          go_wp2
          refine wp_region_quiet_below (by kernel_rfl) (by kernel_rfl) ?_
          repeat (any_goals (first | go_big_quiet_step (fail) | quiet_step (fail)))
          refine wpQuiet_nil ?_
          intro w2 hw2
          obtain ⟨⟨dq, osq⟩, rfl⟩ := hw2
          have HU2 := hid (HU.out.trans (Upd.of_below (below_regrown wr dq osq) []))
          go_wp2
          go_ret
          exact ⟨by rw [Hpq.out]; rfl, HU2.out⟩
      · obtain rfl : k = l.length := by omega
        have HR := hid (show decide (l = m) = true from decide_eq_true (eqto_all Hlen.out (fun i hi hj => HK.out.1 i hi hj hi)))
        have HU := hid HK.out.2
        clear HK
        go_wp2
        go_ret
        exact ⟨by rw [HR.out]; rfl, HU.out⟩
  · have hli : ((l.length : Int) != (m.length : Int)) = true := by rw [bne_iff_ne]; omega
    have HR := hid (show decide (l = m) = false from decide_eq_false (by rintro rfl; exact hlen rfl))
    clear hlen
    go_enter Tryz.func120, Tryz.ntmps120
    go_wp2
    go_ret
    exact ⟨by rw [HR.out]; rfl, Upd.refl _ _⟩
end Go.Proofs.YtfpdeiefkimaaaaGreatDoor
