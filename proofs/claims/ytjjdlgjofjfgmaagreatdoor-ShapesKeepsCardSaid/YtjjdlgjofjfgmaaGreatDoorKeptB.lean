/-
 The document's Kept of a Room that is as it was made, walked. (Printed by gen_keptB.py.)
-/
import Derived.Test.YtjjdlgjofjfgmaaGreatDoorRoomA
import Derived.Test.YtjjdlgjofjfgmaaGreatDoorKQ
set_option linter.unusedSimpArgs false
set_option linter.unusedVariables false
namespace Go.Proofs.YtjjdlgjofjfgmaaGreatDoor
open Go.RowKit Go.Sort
set_option maxHeartbeats 8000000 in
set_option maxRecDepth 100000 in
theorem kept_any (rb : Nat) (c d was : ClassL) (AC : Option Addr) (capC : Nat) (w : World) (h : RoomAt w rb c d was AC capC) :
  Calls Tryz.prog 28 #[.pointer (some ⟨rb, 0, none⟩)] w fun e w' => e = .returned (.bool true) ∧ Upd w w' [] := by
 have hsame := fun d' os => quiet_of (W := w) (d := d') (os := os) fun W u => sameCls_any d was W (h.dfit.upd u) (h.wfit.upd u) (h.drd.trans h.wrd.symm)
 have hrd := rd_parts (h.wrd.trans h.drd.symm)
 obtain ⟨hblk, hdf, -, hwf, -, hoi, hom, hoc, hol⟩ := h
 obtain ⟨nm', sup', AI, cI, ifs', fl', ld', AM, cM, ms⟩ := d
 obtain ⟨nm, sup, BI, dI, ifs, fl, ld, BM, dM, ms'⟩ := was
 simp only at hrd
 obtain ⟨q1, q2, q3, q4, q5, q6⟩ := hrd
 subst q1 q2 q3 q4 q5
 have hml : ms'.length = ms.length := by have := congrArg List.length q6; simpa using this
 have Hcode : Hid (∀ i (h1 : i < ms'.length) (h2 : i < ms.length), ms'[i].code = ms[i].code) := hid (fun i h1 h2 => by
  have e : (ms'.map methSOf)[i]? = (ms.map methSOf)[i]? := by rw [q6]
  rw [List.getElem?_map, List.getElem?_map, List.getElem?_eq_getElem h1, List.getElem?_eq_getElem h2] at e
  have e := congrArg MethS.code (Option.some.inj e)
  exact e)
 have HS := hid hsame
 have hs1 : (ClassL.mk nm sup AI cI ifs fl ld AM cM ms).v = .agg #[.string (bs nm), .string (bs sup), .slice AI ifs.length cI, .int .i64 fl, .int .i64 ld, .slice AM ms.length cM] := rfl
 have hs2 : (ClassL.mk nm sup BI dI ifs fl ld BM dM ms').v = .agg #[.string (bs nm), .string (bs sup), .slice BI ifs.length dI, .int .i64 fl, .int .i64 ld, .slice BM ms.length dM] := by rw [← hml]; rfl
 rw [hs1, hs2] at HS
 unfold roomCells at hblk
 simp only [hml] at hblk hoi hom hoc hol
 have HB := hid hblk
 have HWm := hid hwf.ms
 have hdM := hwf.capM
 have hcI := own_cap hoi
 have hcM := own_cap hom
 have hcC := own_cap hoc
 have hlI : ifs.length ≤ 9000000000000 := hdf.lenI
 have hlM : ms.length ≤ 2000000000000 := hdf.lenM
 have HDl := hid (fun m hm => (hdf.meths m hm).len)
 simp only at HWm hdM
 have x0 := (HB.out.cell 0).trans (show _ = some (.string (bs nm)) from rfl)
 have x1 := (HB.out.cell 1).trans (show _ = some (.string (bs sup)) from rfl)
 have x2 := (HB.out.cell 2).trans (show _ = some (.slice AI ifs.length cI) from rfl)
 have x3 := (HB.out.cell 3).trans (show _ = some (.int .i64 fl) from rfl)
 have x4 := (HB.out.cell 4).trans (show _ = some (.int .i64 ld) from rfl)
 have x5 := (HB.out.cell 5).trans (show _ = some (.slice AM ms.length cM) from rfl)
 have x6 := (HB.out.cell 6).trans (show _ = some (.slice AI (ifs.length + 2) cI) from rfl)
 have x7 := (HB.out.cell 7).trans (show _ = some (.slice AM (ms.length + 2) cM) from rfl)
 have x8 := (HB.out.cell 8).trans (show _ = some (.slice AC ms.length capC) from rfl)
 have x9 := (HB.out.cell 9).trans (show _ = some (.string (bs nm)) from rfl)
 have x10 := (HB.out.cell 10).trans (show _ = some (.string (bs sup)) from rfl)
 have x11 := (HB.out.cell 11).trans (show _ = some (.slice BI ifs.length dI) from rfl)
 have x12 := (HB.out.cell 12).trans (show _ = some (.int .i64 fl) from rfl)
 have x13 := (HB.out.cell 13).trans (show _ = some (.int .i64 ld) from rfl)
 have x14 := (HB.out.cell 14).trans (show _ = some (.slice BM ms.length dM) from rfl)
 obtain ⟨gI, cI', hvI, -, -, hgI⟩ := own_form hoi (by omega)
 obtain ⟨gM, cM', hvM, -, -, hgM⟩ := own_form hom (by omega)
 cases hvI
 cases hvM
 have s1 : w.cell? ⟨gI, ifs.length, none⟩ = some (.string ⟨#[35, 55, 49]⟩) := by
  have h := hoi.cellAt ifs.length (by omega)
  rw [List.getElem?_append_right (by simp)] at h
  simp at h
  exact h
 have s2 : w.cell? ⟨gI, ifs.length + 1, none⟩ = some (.string ⟨#[35, 55, 50]⟩) := by
  have h := hoi.cellAt (ifs.length + 1) (by omega)
  rw [List.getElem?_append_right (by simp)] at h
  simp at h
  exact h
 have s3 : w.cell? ⟨gM, ms.length * 6, none⟩ = some (.string ⟨#[35, 55, 49]⟩) := by
  have h := hom.cellAt (ms.length * 6) (by omega)
  rw [methsV_append, List.getElem?_append_right (by rw [methsV_length]; exact Nat.le_refl _), methsV_length, Nat.sub_self] at h
  exact h
 have s4 : w.cell? ⟨gM, (ms.length + 1) * 6, none⟩ = some (.string ⟨#[35, 55, 50]⟩) := by
  have h := hom.cellAt ((ms.length + 1) * 6) (by omega)
  rw [methsV_append, List.getElem?_append_right (by rw [methsV_length]; omega), methsV_length, show (ms.length + 1) * 6 - ms.length * 6 = 6 by omega] at h
  exact h
 have HOC := hid hoc
 have HOL := hid hol
 have k0 := cell_regrown x0
 have k1 := cell_regrown x1
 have k2 := cell_regrown x2
 have k3 := cell_regrown x3
 have k4 := cell_regrown x4
 have k5 := cell_regrown x5
 have k6 := cell_regrown x6
 have k7 := cell_regrown x7
 have k8 := cell_regrown x8
 have k9 := cell_regrown x9
 have k10 := cell_regrown x10
 have k11 := cell_regrown x11
 have k12 := cell_regrown x12
 have k13 := cell_regrown x13
 have k14 := cell_regrown x14
 have l1 := cell_regrown s1
 have l2 := cell_regrown s2
 have l3 := cell_regrown s3
 have l4 := cell_regrown s4
 clear hblk hdf hwf hoi hom hoc hol hsame hs1 hs2 q6
 go_enter Tryz.func28, Tryz.ntmps28
 go_wp2
 refine wp_region_quiet_below (by kernel_rfl) (by kernel_rfl) ?_
 repeat (any_goals (first | go_big_quiet_step (exact HS.out _ _) | quiet_step (exact HS.out _ _)))
 refine wpQuiet_nil ?_
 intro _ hw'
 obtain ⟨⟨dq, osq⟩, hw''⟩ := hw'
 subst hw''
 have hV : Upd w (grow (redrawn w dq) osq) [] := Upd.of_below (below_regrown w dq osq) []
 clear x0 k0 x1 k1 x2 k2 x3 k3 x4 k4 x5 k5 x6 k6 x7 k7 x8 k8 x9 k9 x10 k10 x11 k11 x12 k12 x13 k13 x14 k14 l1 l2 l3 l4 s1 s2 s3 s4
 revert hV
 generalize grow (redrawn w dq) osq = w4
 intro hV
 have HV := hid hV
 clear hV
 go_wp2
 go_loopw [5] (fun t wr => ∃ k : Nat, t = .int .i64 k ∧ k ≤ ms.length ∧ Hid (Upd w wr [])) (fun t _ => ms.length - (intOf t).toNat)
 case atStart => exact ⟨0, rfl, Nat.zero_le _, HV⟩
 case round =>
  obtain ⟨k, rfl, hk, HU⟩ := hrel
  by_cases hlt : k < ms.length
  ·have HB4 := hid (HU.out.blk HB.out (by simp))
   have y8 := (HB4.out.cell 8).trans (show _ = some (.slice AC ms.length capC) from rfl)
   have y14 := (HB4.out.cell 14).trans (show _ = some (.slice BM ms.length dM) from rfl)
   have hlB := HB4.out.lt
   obtain ⟨bk, off, hA, hbk, hcm⟩ := HWm.out (by rintro e; rw [e] at hml; simp at hml; omega)
   subst hA
   have hk' : k < ms'.length := by omega
   have z5 := hcm k hk' 5 (by omega)
   have z5 := z5.trans (show (ms'[k].cells)[5]? = some (.slice ms'[k].A ms'[k].code.length ms'[k].cap) from rfl)
   rw [Hcode.out k hk' hlt] at z5
   have z5 : wr.cell? ⟨bk, off + k * 6 + 5, none⟩ = _ := (HU.out.cells.1 bk _ hbk).trans z5
   obtain ⟨gC, cC', hvC, -, -, hgC⟩ := own_form HOC.out (by omega)
   cases hvC
   have u := (HU.out.own HOC.out (fun _ _ => by simp)).cellAt k (by omega)
   rw [List.getElem?_map, List.getElem?_eq_getElem hlt] at u
   have hol := HU.out.own (HOL.out ms[k] (List.getElem_mem hlt)) (fun _ _ => by simp)
   have hlen := HDl.out ms[k] (List.getElem_mem hlt)
   revert z5 u hol hlen
   generalize ms'[k].A = A'
   generalize ms'[k].cap = cap'
   generalize ms[k] = m
   obtain ⟨mn, md, mf, ml, mt, MA, mc, code⟩ := m
   intro z5 u0 hol0 hlen
   simp only at z5 hlen
   have hol : wr.ownsRow 0 41 7 (.slice MA (code.length + 2) mc) (code.length + 2) (instV (code ++ markI)) := hol0
   have u : wr.cell? ⟨gC, k, none⟩ = some (.slice MA (code.length + 2) mc) := u0
   clear u0 hol0
   have hmc : code.length + 2 ≤ mc := own_cap hol
   obtain ⟨gK, cK, hvK, -, -, hgK⟩ := own_form hol (by omega)
   cases hvK
   have t1 : wr.cell? ⟨gK, code.length * 7, none⟩ = some (.int .i64 (-71)) := by
    have h := hol.cellAt (code.length * 7) (by omega)
    rw [instV_app, List.getElem?_append_right (by rw [instV_length]; exact Nat.le_refl _), instV_length, Nat.sub_self] at h
    exact h
   have t2 : wr.cell? ⟨gK, (code.length + 1) * 7, none⟩ = some (.int .i64 (-72)) := by
    have h := hol.cellAt ((code.length + 1) * 7) (by omega)
    rw [instV_app, List.getElem?_append_right (by rw [instV_length]; omega), instV_length, show (code.length + 1) * 7 - code.length * 7 = 7 by omega] at h
    exact h
   clear hol hcm
   go_wp2
   go_roundw
   case rel => exact ⟨k + 1, by go_num, by omega, HU⟩
   case measure => simp [intOf]; omega
  ·obtain rfl : k = ms.length := by omega
   go_wp2
   go_ret
   exact ⟨rfl, HU.out⟩
end Go.Proofs.YtjjdlgjofjfgmaaGreatDoor
