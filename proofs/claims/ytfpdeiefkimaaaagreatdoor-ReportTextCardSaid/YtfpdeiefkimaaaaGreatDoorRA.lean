/-
  The law ShapesBack, walked. (Printed by gen_lawBack.py.)
-/
import Derived.Test.YtfpdeiefkimaaaaGreatDoorKR
import Derived.Test.YtfpdeiefkimaaaaGreatDoorKQ
import Derived.Test.YtfpdeiefkimaaaaGreatDoorR9
import Derived.Test.YtfpdeiefkimaaaaGreatDoorR7
import Derived.Test.YtfpdeiefkimaaaaGreatDoorK9
set_option linter.unusedSimpArgs false
set_option linter.unusedVariables false
namespace Go.Proofs.YtfpdeiefkimaaaaGreatDoor
open Go.RowKit Go.Sort

def ReadsAs (pt : List UInt8) (r : RdS) : Prop := pt.length ≤ 40000 → textO pt = .inl r
def countRel (l : List UInt8) (w : World) (tn ti : Value) (wr : World) : Prop :=
  ∃ k : Nat, ti = .int .i64 k ∧ k ≤ l.length ∧ tn = .int .i64 (((l.take k).count 10 + 1 : Nat) : Int) ∧ wr = w
theorem print_clsOf (r : RdS) (vi vm : Value) (cs : List Value) (h : r.ms.length = cs.length) : printL (clsOf r vi vm cs) = printL (clsS r) := by
  rw [← print_of (clsOf r vi vm cs), rd_clsOf r vi vm cs h]
  rfl

end Go.Proofs.YtfpdeiefkimaaaaGreatDoor
/-
  report.World: a world as a text; walked. (Layer 25.)
-/
set_option linter.unusedSimpArgs false
set_option linter.unusedVariables false
namespace Go.Proofs.YtfpdeiefkimaaaaGreatDoor
open Go.RowKit

/-- Print of a class in memory of its own. -/
theorem print_lists {w : World} {n0 : Nat} {r : RdS} {vi vm : Value} {cs : List Value} (h : Lists w n0 r vi vm cs) (hk : r.kept) (hm : Rdy w) (hc : checkB (clsS r) = true) :
    Calls Tryz.prog 21 #[.agg #[.string (bs r.nm), .string (bs r.sup), vi, .int .i64 r.fl, .int .i64 r.ld, vm]] w fun e w' => e = .returned (.tuple #[.string (bs (printL (clsS r))), .int .i64 0]) ∧ Upd w w' [] := by
  have := print5_any (clsOf r vi vm cs) w (h.fit hk.fine hk.wf (by omega)) hm
  rw [h.val, check_same r vi vm cs h.len, print_clsOf r vi vm cs h.len, hc, if_pos rfl] at this
  exact this
theorem worldT_take (ws : List RdS) (k : Nat) (h : k < ws.length) : worldT (ws.take (k + 1)) = worldT (ws.take k) ++ printL (clsS ws[k]) := by
  rw [List.take_succ_eq_append_getElem h, worldT_snoc]
theorem worldT_le (ws : List RdS) (k : Nat) : (worldT (ws.take k)).length ≤ (worldT ws).length := by
  have h : worldT ws = worldT (ws.take k) ++ worldT (ws.drop k) := by
    unfold worldT
    rw [← List.flatMap_append, List.take_append_drop]
  rw [h, List.length_append]
  omega
set_option maxHeartbeats 8000000 in
set_option maxRecDepth 100000 in
theorem world_any {w : World} {b mb : Nat} {es : List Ent} {S : List Nat} (h : HW w b mb es S) (h3 : 3 ≤ es.length) (hck : ∀ k (h : k < (rsOf es).length), 3 ≤ k → checkB (clsS (rsOf es)[k]) = true) (hlen : (worldT ((rsOf es).drop 3)).length ≤ 140737488355328) (hm : Rdy w) :
    Calls Tryz.prog 8 #[.pointer (some ⟨b, 0, none⟩)] w fun e w' => e = .returned (.tuple #[.string (bs (worldT ((rsOf es).drop 3))), .int .i64 0]) ∧ Upd w w' [] := by
  have H := hid h
  have hes := h.good.len
  have HCK := hid hck
  have HM := hid hm
  have HKE := hid h.kept
  have hrl : (rsOf es).length = es.length := by simp [rsOf]
  have HI0 := hid (show BldAt w.heap.size (worldT (((rsOf es).drop 3).take 0)) (w.alloc (.cells #[.pointer none, .slice none 0 0] 53)) ∧ Upd w (w.alloc (.cells #[.pointer none, .slice none 0 0] 53)) [] from ⟨BldAt.new w, (Upd.refl w []).alloc _⟩)
  clear h hck hm
  go_enter Tryz.func8, Tryz.ntmps8
  go_wp2
  go_loopw [5] (fun t wr => ∃ j : Nat, t = .int .i64 ((3 : Int) + j) ∧ 3 + j ≤ es.length ∧ Hid (BldAt w.heap.size (worldT (((rsOf es).drop 3).take j)) wr ∧ Upd w wr [])) (fun t _ => es.length - (intOf t).toNat)
  case atStart => exact ⟨0, rfl, h3, HI0⟩
  case round =>
    obtain ⟨j, rfl, hj, HI⟩ := hrel
    clear HI0
    have HLn := hid ((H.out.upd HI.out.2).len)
    have hblt := HI.out.1.lt
    go_wp2_with fail
    refine HLn.out.mono ?_
    rintro e w1 ⟨rfl, rfl⟩
    clear HLn
    by_cases hlt : 3 + j < es.length
    · have hlti : decide ((3 : Int) + j < es.length) = true := decide_eq_true (by omega)
      have hk2 : 3 + j < (rsOf es).length := by omega
      obtain ⟨e0, he⟩ : ∃ e0, es[3 + j]? = some e0 := ⟨_, List.getElem?_eq_getElem hlt⟩
      have Hc := hid (class_any (H.out.upd HI.out.2) (3 + j) he)
      rw [show (((3 + j : Nat) : Int)) = (3 : Int) + j by omega] at Hc
      have hr : (rsOf es)[3 + j] = e0.r := by
        have h1 : (rsOf es)[3 + j]? = some e0.r := by unfold rsOf; rw [List.getElem?_map, he]; rfl
        rw [List.getElem?_eq_getElem hk2] at h1
        exact Option.some.inj h1
      have hkr := hid (HKE.out _ (List.getElem_mem hk2))
      have hcr := hid (HCK.out (3 + j) hk2 (by omega))
      rw [hr] at hkr hcr
      have hstep : Hid (worldT (((rsOf es).drop 3).take (j + 1)) = worldT (((rsOf es).drop 3).take j) ++ printL (clsS e0.r)) := hid (by
        rw [worldT_take _ j (by rw [List.length_drop]; omega), List.getElem_drop, hr])
      have hle : (worldT (((rsOf es).drop 3).take j)).length + (printL (clsS e0.r)).length ≤ 140737488355328 := by
        have h1 := worldT_le ((rsOf es).drop 3) (j + 1)
        rw [hstep.out, List.length_append] at h1
        omega
      have Hle := hid hle
      have HBt := hid HI.out.1
      have HU := hid HI.out.2
      generalize worldT (((rsOf es).drop 3).take j) = T at Hle HBt hstep
      clear HI he hr hle
      go_wp2_with fail
      refine Hc.out.mono ?_
      rintro e w4 ⟨vi, vm, cs, rfl, hL4, hU4⟩
      obtain ⟨B1, j1, rfl⟩ := own_val hL4.oi
      obtain ⟨B2, j2, rfl⟩ := own_val hL4.om
      have HL4 := hid hL4
      have HB4 := hid (HBt.out.upd hU4)
      have HU4 := hid (HU.out.trans hU4)
      clear hL4 hU4 Hc HBt HU
      obtain ⟨⟨nm, sup, ifs, fl, ld, ms, st⟩, ab, dp, cl⟩ := e0
      simp only at HL4 hkr hcr hstep Hle ⊢
      go_upto_region 8 with (fail)
      have HB5 := hid (Blk.new w4 46 #[.string (bs nm), .string (bs sup), .slice B1 ifs.length j1, .int .i64 fl, .int .i64 ld, .slice B2 ms.length j2])
      have HU5 := hid (HU4.out.alloc (.cells #[.string (bs nm), .string (bs sup), .slice B1 ifs.length j1, .int .i64 fl, .int .i64 ld, .slice B2 ms.length j2] 46))
      have HL5 := hid (HL4.out.upd ((Upd.refl w4 []).alloc (.cells #[.string (bs nm), .string (bs sup), .slice B1 ifs.length j1, .int .i64 fl, .int .i64 ld, .slice B2 ms.length j2] 46)))
      have HT5 := hid (HB4.out.upd ((Upd.refl w4 []).alloc (.cells #[.string (bs nm), .string (bs sup), .slice B1 ifs.length j1, .int .i64 fl, .int .i64 ld, .slice B2 ms.length j2] 46)))
      have hz5 : w4.heap.size < (w4.alloc (.cells #[.string (bs nm), .string (bs sup), .slice B1 ifs.length j1, .int .i64 fl, .int .i64 ld, .slice B2 ms.length j2] 46)).heap.size := by simp
      revert HB5 HU5 HL5 HT5 hz5
      generalize w4.alloc (.cells #[.string (bs nm), .string (bs sup), .slice B1 ifs.length j1, .int .i64 fl, .int .i64 ld, .slice B2 ms.length j2] 46) = w5
      intro HB5 HU5 HL5 HT5 hz5
      have y0 := (HB5.out.cell 0).trans (show _ = some (.string (bs nm)) from rfl)
      have y1 := (HB5.out.cell 1).trans (show _ = some (.string (bs sup)) from rfl)
      have y2 := (HB5.out.cell 2).trans (show _ = some (.slice B1 ifs.length j1) from rfl)
      have y3 := (HB5.out.cell 3).trans (show _ = some (.int .i64 fl) from rfl)
      have y4 := (HB5.out.cell 4).trans (show _ = some (.int .i64 ld) from rfl)
      have y5 := (HB5.out.cell 5).trans (show _ = some (.slice B2 ms.length j2) from rfl)
      clear HL4 HB4
      go_wp2_with fail
      refine (print_lists (r := ⟨nm, sup, ifs, fl, ld, ms, st⟩) HL5.out hkr.out (HM.out.upd HU5.out) hcr.out).mono ?_
      rintro e w6 ⟨rfl, hU6⟩
      have HT6 := hid (HT5.out.upd hU6)
      have HU6 := hid (HU5.out.trans hU6)
      clear hU6 HT5 HL5 HB5 y0 y1 y2 y3 y4 y5
      go_wp2_with fail
      refine (writeString_any _ _ _ _ HT6.out Hle.out).mono ?_
      rintro e w7 ⟨rfl, hT7, hK7⟩
      have HN := hid (show BldAt w.heap.size (worldT (((rsOf es).drop 3).take (j + 1))) w7 ∧ Upd w w7 [] from ⟨by rw [hstep.out]; exact hT7, HU6.out.keep hK7 rfl⟩)
      clear hT7 hK7
      go_wp2
      go_roundw
      case rel => exact ⟨j + 1, (by go_num), by omega, HN⟩
      case measure => simp [intOf]; omega
    · obtain hje : 3 + j = es.length := by omega
      have hlti : decide ((3 : Int) + j < es.length) = false := decide_eq_false (by omega)
      have HS := hid (bldString_any _ _ _ HI.out.1)
      have hts : ((rsOf es).drop 3).take j = (rsOf es).drop 3 := List.take_of_length_le (by rw [List.length_drop]; omega)
      rw [hts] at HS
      have HU := hid HI.out.2
      clear HI hts
      go_wp2_with fail
      refine HS.out.mono ?_
      rintro e w2 ⟨rfl, hB⟩
      have HU2 := hid (HU.out.low hB)
      clear hB HS
      go_wp2
      exact bodyPost_ret (results_tmp2 rfl _ _ _) rfl ⟨rfl, HU2.out⟩
end Go.Proofs.YtfpdeiefkimaaaaGreatDoor
