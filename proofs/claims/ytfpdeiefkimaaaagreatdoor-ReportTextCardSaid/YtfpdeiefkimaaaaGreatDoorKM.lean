/-
  The reader of lines: the first line of a method, walked. (Printed by gen_readE.py.)
-/
import Derived.Test.YtfpdeiefkimaaaaGreatDoorKG
import Derived.Test.YtfpdeiefkimaaaaGreatDoorKL
set_option linter.unusedSimpArgs false
set_option linter.unusedVariables false
namespace Go.Proofs.YtfpdeiefkimaaaaGreatDoor
open Go.RowKit Go.Sort

def beginPost (w0 : World) (b : Nat) (r : RdS) (w : World) (o : Option MethS) (e : Ending) (w' : World) : Prop :=
  match o with
  | some m => e = .returned (.bool true) ∧ RInv w0 b { r with ms := r.ms ++ [m], st := 5 } w'
  | none => e = .returned (.bool false) ∧ Upd w w' []
theorem infoMeth : (Tryz.prog.info? 86).map (fun i => (i.zero, i.size, i.bytes)) = some (some (.agg #[.string ⟨#[]⟩, .string ⟨#[]⟩, .int .i64 0, .int .i64 0, .int .i64 0, .slice none 0 0]), 6, 80) := by kernel_rfl
theorem empty_no {x : List UInt8} (h : x ≠ []) : (bs x).toList.isEmpty = false ∧ ¬ (bs x).toList = [] ∧ ((bs x).toList == []) = false := by
  rw [bs_toList]
  cases x with
  | nil => exact absurd rfl h
  | cons p q => exact ⟨rfl, by simp, rfl⟩
theorem empty_yes : (bs []).toList.isEmpty = true ∧ (bs []).toList = [] ∧ ((bs []).toList == []) = true := by
  rw [bs_toList]
  exact ⟨rfl, rfl, rfl⟩
theorem key_method : ((bs wMethod).toList == [109, 101, 116, 104, 111, 100]) = true := by rw [bs_toList]; rfl
theorem key_other {x : List UInt8} (h : x ≠ wMethod) : ((bs x).toList == [109, 101, 116, 104, 111, 100]) = false ∧ ¬ (bs x).toList = [109, 101, 116, 104, 111, 100] := by
  rw [bs_toList, beq_eq_false_iff_ne]
  exact ⟨h, h⟩

set_option maxHeartbeats 4000000 in
set_option maxRecDepth 100000 in
theorem begin_other (p : Value) (line : List UInt8) (w : World) (hl : line.length ≤ 40000) (hm : MaxLenAt w) (qs : List (List UInt8)) (hq : takeN 3 (splitL 32 line) = qs) (h1 : 1 ≤ qs.length) (h0 : qs[0]'(by omega) ≠ wMethod) :
    Calls Tryz.prog 193 #[p, .string (bs line)] w fun e w' => e = .returned (.bool false) ∧ Upd w w' [] := by
  have Hsp := fun w hm => hid (splitN4_any line w (by omega) hm)
  rw [hq] at Hsp
  clear hq
  go_enter Tryz.func193, Tryz.ntmps193
  go_wp2_with fail
  refine (Hsp _ hm).out.mono ?_
  rintro e w1 ⟨⟨cap, rfl⟩, hR, hU1⟩
  have x0 := hR.2 0 (by omega)
  obtain ⟨k1, k2⟩ := key_other h0
  have hi0 : (0 : Int) < qs.length := by omega
  generalize qs[0]'(by omega) = a at *
  clear hR h0
  go_wp2
  go_ret
  exact ⟨rfl, hU1⟩

set_option maxHeartbeats 4000000 in
set_option maxRecDepth 100000 in
theorem begin_short (p : Value) (line : List UInt8) (w : World) (hl : line.length ≤ 40000) (hm : MaxLenAt w) (qs : List (List UInt8)) (hq : takeN 3 (splitL 32 line) = qs) (h1 : 1 ≤ qs.length) (h0 : qs[0]'(by omega) = wMethod) (h3 : qs.length < 3) :
    Calls Tryz.prog 193 #[p, .string (bs line)] w fun e w' => e = .returned (.bool false) ∧ Upd w w' [] := by
  have Hsp := fun w hm => hid (splitN4_any line w (by omega) hm)
  rw [hq] at Hsp
  clear hq
  go_enter Tryz.func193, Tryz.ntmps193
  go_wp2_with fail
  refine (Hsp _ hm).out.mono ?_
  rintro e w1 ⟨⟨cap, rfl⟩, hR, hU1⟩
  have x0 := hR.2 0 (by omega)
  have k1 := key_method
  rw [h0] at x0
  generalize bs wMethod = bm at x0 k1
  have hi0 : (0 : Int) < qs.length := by omega
  have hi3 : (qs.length : Int) < 3 := by omega
  clear hR h0 h3 h1
  go_wp2
  go_ret
  exact ⟨rfl, hU1⟩

set_option maxHeartbeats 4000000 in
set_option maxRecDepth 100000 in
theorem begin_noname (p : Value) (line : List UInt8) (w : World) (hl : line.length ≤ 40000) (hm : MaxLenAt w) (qs : List (List UInt8)) (hq : takeN 3 (splitL 32 line) = qs) (h3 : 3 ≤ qs.length) (h0 : qs[0]'(by omega) = wMethod) (h4 : qs[1]'(by omega) = []) :
    Calls Tryz.prog 193 #[p, .string (bs line)] w fun e w' => e = .returned (.bool false) ∧ Upd w w' [] := by
  have Hsp := fun w hm => hid (splitN4_any line w (by omega) hm)
  rw [hq] at Hsp
  clear hq
  go_enter Tryz.func193, Tryz.ntmps193
  go_wp2_with fail
  refine (Hsp _ hm).out.mono ?_
  rintro e w1 ⟨⟨cap, rfl⟩, hR, hU1⟩
  have x0 := hR.2 0 (by omega)
  have x1 := hR.2 1 (by omega)
  have k1 := key_method
  rw [h0] at x0
  rw [h4] at x1
  obtain ⟨e1, e2, e3⟩ := empty_yes
  generalize bs wMethod = bm at x0 k1
  have hi0 : (0 : Int) < qs.length := by omega
  have hi1 : (1 : Int) < qs.length := by omega
  have hi3 : ¬ (qs.length : Int) < 3 := by omega
  clear hR h0 h3 h4
  go_wp2
  go_ret
  exact ⟨rfl, hU1⟩

set_option maxHeartbeats 4000000 in
set_option maxRecDepth 100000 in
theorem begin_nodesc (p : Value) (line : List UInt8) (w : World) (hl : line.length ≤ 40000) (hm : MaxLenAt w) (qs : List (List UInt8)) (hq : takeN 3 (splitL 32 line) = qs) (h3 : 3 ≤ qs.length) (h0 : qs[0]'(by omega) = wMethod) (h4 : qs[1]'(by omega) ≠ []) (h5 : qs[2]'(by omega) = []) :
    Calls Tryz.prog 193 #[p, .string (bs line)] w fun e w' => e = .returned (.bool false) ∧ Upd w w' [] := by
  have Hsp := fun w hm => hid (splitN4_any line w (by omega) hm)
  rw [hq] at Hsp
  clear hq
  go_enter Tryz.func193, Tryz.ntmps193
  go_wp2_with fail
  refine (Hsp _ hm).out.mono ?_
  rintro e w1 ⟨⟨cap, rfl⟩, hR, hU1⟩
  have x0 := hR.2 0 (by omega)
  have x1 := hR.2 1 (by omega)
  have x2 := hR.2 2 (by omega)
  have k1 := key_method
  rw [h0] at x0
  rw [h5] at x2
  obtain ⟨n1, n2, n3⟩ := empty_no h4
  generalize qs[1]'(by omega) = y at *
  obtain ⟨e1, e2, e3⟩ := empty_yes
  generalize bs wMethod = bm at x0 k1
  have hi0 : (0 : Int) < qs.length := by omega
  have hi1 : (1 : Int) < qs.length := by omega
  have hi2 : (2 : Int) < qs.length := by omega
  have hi3 : ¬ (qs.length : Int) < 3 := by omega
  clear hR h0 h3 h4 h5
  go_wp2
  go_ret
  exact ⟨rfl, hU1⟩

set_option maxHeartbeats 4000000 in
set_option maxRecDepth 100000 in
theorem begin_noflags (p : Value) (line : List UInt8) (w : World) (hl : line.length ≤ 40000) (hm : MaxLenAt w) (x y q : List UInt8) (hx : x ≠ []) (hy : y ≠ []) (hlq : q.length ≤ 40000) (hq : takeN 3 (splitL 32 line) = [wMethod, x, y, q]) (h0 : (parseF 1055 q).2 ≠ 0) :
    Calls Tryz.prog 193 #[p, .string (bs line)] w fun e w' => e = .returned (.bool false) ∧ Upd w w' [] := by
  have Hsp := fun w hm => hid (splitN4_any line w (by omega) hm)
  rw [hq] at Hsp
  have Hpm := fun w => hid (parseMethod_any q w (by omega))
  clear hq
  have k1 := key_method
  obtain ⟨n1, n2, n3⟩ := empty_no hx
  obtain ⟨n4, n5, n6⟩ := empty_no hy
  generalize parseF 1055 q = pf at Hpm h0
  obtain ⟨ff, fe⟩ := pf
  simp only at Hpm h0
  have hfe : (fe != 0) = true := bne_iff_ne.2 h0
  clear hx hy
  go_enter Tryz.func193, Tryz.ntmps193
  go_wp2_with fail
  refine (Hsp _ hm).out.mono ?_
  rintro e w1 ⟨⟨cap, rfl⟩, hR, hU1⟩
  have HU1 := hid hU1
  have hg := hR.1
  have x0 := hR.2 0 (by simp)
  have x1 := hR.2 1 (by simp)
  have x2 := hR.2 2 (by simp)
  have x3 := hR.2 3 (by simp)
  simp only [List.getElem_cons_zero, List.getElem_cons_succ, List.length_cons, List.length_nil] at x0 x1 x2 x3 ⊢
  have HR := hid hR
  clear hR hU1
  generalize bs wMethod = bm at x0 k1
  go_wp2
  go_region
  have hU2 : Upd w1 ((w1.alloc (.cells #[.string (bs x), .string (bs y), .int .i64 0, .int .i64 0, .int .i64 0, .slice none 0 0] 86)).drew) [] := ((Upd.refl w1 []).alloc _).drew
  have HU2 := hid (HU1.out.trans hU2)
  have HR2 := hid (HR.out.upd hU2)
  clear hU2
  revert HU2 HR2
  generalize (w1.alloc (.cells #[.string (bs x), .string (bs y), .int .i64 0, .int .i64 0, .int .i64 0, .slice none 0 0] 86)).drew = w2
  intro HU2 HR2
  have z3 := HR2.out.2 3 (by simp)
  simp only [List.getElem_cons_zero, List.getElem_cons_succ] at z3
  go_wp2_with fail
  refine (Hpm _).out.mono ?_
  rintro e w3 ⟨rfl, hU3⟩
  have HU3 := hid (HU2.out.trans hU3)
  have HR3 := hid (HR2.out.upd hU3)
  have y3 := HR3.out.2 3 (by simp)
  simp only [List.getElem_cons_zero, List.getElem_cons_succ] at y3
  clear hU3 z3
  go_wp2
  go_ret
  exact ⟨rfl, HU3.out⟩

set_option maxHeartbeats 4000000 in
set_option maxRecDepth 100000 in
theorem begin_blank (p : Value) (line : List UInt8) (w : World) (hl : line.length ≤ 40000) (hm : MaxLenAt w) (x y q : List UInt8) (hx : x ≠ []) (hy : y ≠ []) (hlq : q.length ≤ 40000) (hq : takeN 3 (splitL 32 line) = [wMethod, x, y, q]) (hqe : q = []) (h0 : (parseF 1055 q).2 = 0) :
    Calls Tryz.prog 193 #[p, .string (bs line)] w fun e w' => e = .returned (.bool false) ∧ Upd w w' [] := by
  have Hsp := fun w hm => hid (splitN4_any line w (by omega) hm)
  rw [hq] at Hsp
  have Hpm := fun w => hid (parseMethod_any q w (by omega))
  clear hq
  have k1 := key_method
  obtain ⟨n1, n2, n3⟩ := empty_no hx
  obtain ⟨n4, n5, n6⟩ := empty_no hy
  generalize parseF 1055 q = pf at Hpm h0
  obtain ⟨ff, fe⟩ := pf
  simp only at Hpm h0
  subst h0
  subst hqe
  obtain ⟨e1, e2, e3⟩ := empty_yes
  clear hx hy
  go_enter Tryz.func193, Tryz.ntmps193
  go_wp2_with fail
  refine (Hsp _ hm).out.mono ?_
  rintro e w1 ⟨⟨cap, rfl⟩, hR, hU1⟩
  have HU1 := hid hU1
  have hg := hR.1
  have x0 := hR.2 0 (by simp)
  have x1 := hR.2 1 (by simp)
  have x2 := hR.2 2 (by simp)
  have x3 := hR.2 3 (by simp)
  simp only [List.getElem_cons_zero, List.getElem_cons_succ, List.length_cons, List.length_nil] at x0 x1 x2 x3 ⊢
  have HR := hid hR
  clear hR hU1
  generalize bs wMethod = bm at x0 k1
  go_wp2
  go_region
  have hU2 : Upd w1 ((w1.alloc (.cells #[.string (bs x), .string (bs y), .int .i64 0, .int .i64 0, .int .i64 0, .slice none 0 0] 86)).drew) [] := ((Upd.refl w1 []).alloc _).drew
  have HU2 := hid (HU1.out.trans hU2)
  have HR2 := hid (HR.out.upd hU2)
  clear hU2
  revert HU2 HR2
  generalize (w1.alloc (.cells #[.string (bs x), .string (bs y), .int .i64 0, .int .i64 0, .int .i64 0, .slice none 0 0] 86)).drew = w2
  intro HU2 HR2
  have z3 := HR2.out.2 3 (by simp)
  simp only [List.getElem_cons_zero, List.getElem_cons_succ] at z3
  go_wp2_with fail
  refine (Hpm _).out.mono ?_
  rintro e w3 ⟨rfl, hU3⟩
  have HU3 := hid (HU2.out.trans hU3)
  have HR3 := hid (HR2.out.upd hU3)
  have y3 := HR3.out.2 3 (by simp)
  simp only [List.getElem_cons_zero, List.getElem_cons_succ] at y3
  clear hU3 z3
  go_wp2
  go_ret
  exact ⟨rfl, HU3.out⟩

set_option maxHeartbeats 4000000 in
set_option maxRecDepth 100000 in
theorem begin_3 (w0 : World) (b : Nat) (nm sup : List UInt8) (ifs : List (List UInt8)) (fl ld : Int) (ms : List MethS) (st : Nat) (line : List UInt8) (w : World) (hI : RInv w0 b ⟨nm, sup, ifs, fl, ld, ms, st⟩ w) (hl : line.length ≤ 40000) (hm : MaxLenAt w) (hms : ms.length ≤ 1000000) (x y : List UInt8) (hx : x ≠ []) (hy : y ≠ []) (hq : takeN 3 (splitL 32 line) = [wMethod, x, y]) :
    Calls Tryz.prog 193 #[.pointer (some ⟨b, 0, none⟩), .string (bs line)] w (beginPost w0 b ⟨nm, sup, ifs, fl, ld, ms, st⟩ w (some ⟨x, y, 0, 0, 0, []⟩)) := by
  obtain ⟨vi, vm, cs, hB, hL, hb, hU⟩ := hI
  have Hsp := fun w hm => hid (splitN4_any line w (by omega) hm)
  rw [hq] at Hsp
  clear hq
  have HB := hid hB
  have HL := hid hL
  have HU := hid hU
  have hlt := hB.lt
  clear hB hL hU
  have hk1 := key_method
  obtain ⟨n1, n2, n3⟩ := empty_no hx
  obtain ⟨n4, n5, n6⟩ := empty_no hy
  clear hx hy
  go_enter Tryz.func193, Tryz.ntmps193
  go_wp2_with fail
  refine (Hsp _ hm).out.mono ?_
  rintro e w1 ⟨⟨cap, rfl⟩, hR, hU1⟩
  have HB1 := hid (hU1.blk HB.out (by simp))
  have HL1 := hid (HL.out.upd hU1)
  have HU1 := hid (HU.out.trans hU1)
  have hg := hR.1
  have x0 := hR.2 0 (by simp)
  have x1 := hR.2 1 (by simp)
  have x2 := hR.2 2 (by simp)
  simp only [List.getElem_cons_zero, List.getElem_cons_succ, List.length_cons, List.length_nil] at x0 x1 x2 ⊢
  have HR := hid hR
  clear hR hU1
  generalize bs wMethod = bm at x0 hk1
  go_wp2
  go_region
  have HB2 := hid (show Blk ((w1.alloc (.cells #[.string (bs x), .string (bs y), .int .i64 0, .int .i64 0, .int .i64 0, .slice none 0 0] 86)).drew) b _ _ from HB1.out.alloc _)
  have hU2 : Upd w1 ((w1.alloc (.cells #[.string (bs x), .string (bs y), .int .i64 0, .int .i64 0, .int .i64 0, .slice none 0 0] 86)).drew) [] := ((Upd.refl w1 []).alloc _).drew
  have HL2 := hid (HL1.out.upd hU2)
  have HU2 := hid (HU1.out.trans hU2)
  have HBm := hid (show Blk ((w1.alloc (.cells #[.string (bs x), .string (bs y), .int .i64 0, .int .i64 0, .int .i64 0, .slice none 0 0] 86)).drew) w1.heap.size 86 #[.string (bs x), .string (bs y), .int .i64 0, .int .i64 0, .int .i64 0, .slice none 0 0] from Blk.new _ _ _)
  have HR2 := hid (HR.out.upd hU2)
  have hz2 : w1.heap.size ≥ w0.heap.size := HU1.out.size
  clear hU2
  revert HB2 HL2 HU2 HBm HR2
  generalize (w1.alloc (.cells #[.string (bs x), .string (bs y), .int .i64 0, .int .i64 0, .int .i64 0, .slice none 0 0] 86)).drew = w2
  intro HB2 HL2 HU2 HBm HR2
  obtain ⟨A, capm, rfl, -, -⟩ := own_slice HL2.out.om
  have d5 := HB2.out.cell 5
  have hlt2 := HB2.out.lt
  have hltm := HBm.out.lt
  have m0 := HBm.out.cell 0
  have m1 := HBm.out.cell 1
  have m2 := HBm.out.cell 2
  have m3 := HBm.out.cell 3
  have m4 := HBm.out.cell 4
  have m5 := HBm.out.cell 5
  simp [rdCells] at d5 m0 m1 m2 m3 m4 m5
  have hne : Hid (b ∉ Value.ob (.slice A ms.length capm)) := fun h => own_blk_ne HL2.out.om HB2.out ne_mr (mem_ob.1 h)
  obtain ⟨i0, hi0, hz0, hz1, hz2⟩ := info_parts infoMeth
  go_wp2
  go_region_law (refine step_append_one _ rfl (.tmp 64) (.tmp 66) 44 rfl 86 i0 _ 6 80 Tryz.underlying44 hi0 hz0 hz1 hz2 rfl (by decide) (by decide) (.slice A ms.length capm) ms.length (methRows ms cs) rfl (by exact HL2.out.om.alloc _) (by omega) w2.heap.size 86 #[.string (bs x), .string (bs y), .int .i64 0, .int .i64 0, .int .i64 0, .slice none 0 0] rfl (by exact Blk.new_at (by simp)) rfl rfl ?_; intro g' cap' w' hown' hg' hat'; have hU' : Upd w2 w' (Value.ob (.slice A ms.length capm)) := (((Upd.refl w2 _).alloc _).drew).grown hg' (fun k hk => .inl (mem_ob.2 hk)); have HB' := hU'.blk HB2.out hne.out; have c5' := HB'.cell 5; have f5' := HB'.frozen 5; have c6' := HB'.cell 6; have f6' := HB'.frozen 6; have hlt' := HB'.lt; simp [rdCells] at c5' c6')
  all_goals
    go_wp2
    go_ret
    have hLa := HL2.out.upd (((Upd.refl w2 []).alloc (.cells #[.string (bs x), .string (bs y), .int .i64 0, .int .i64 0, .int .i64 0, .slice none 0 0] 86)).drew)
    have hzz := HU2.out.size
    have hLm := hLa.meth (w' := w') ⟨x, y, 0, 0, 0, []⟩ rfl (.slice (some ⟨g', 0, none⟩) (ms.length + 1) cap') (by simp; omega) hown' hg' (fun k hk => by
      simp [Value.ownBlock] at hk
      subst hk
      exact hat')
    have q1 := HB'.set_ 5 (.slice (some ⟨g', 0, none⟩) (ms.length + 1) cap')
    have q2 := hLm.far HB' ne_sr ne_mr ne_ir 5 (.slice (some ⟨g', 0, none⟩) (ms.length + 1) cap')
    obtain ⟨q3, q4⟩ := RInv.store (r := ⟨nm, sup, ifs, fl, ld, ms ++ [⟨x, y, 0, 0, 0, []⟩], st⟩) (r' := ⟨nm, sup, ifs, fl, ld, ms ++ [⟨x, y, 0, 0, 0, []⟩], 5⟩) (vi := vi) (vm := .slice (some ⟨g', 0, none⟩) (ms.length + 1) cap') q1 q2 6 (.int .i64 5) rfl rfl rfl
    refine ⟨rfl, vi, _, _, q3, q4, hb, ?_⟩
    have hw0 : Upd w0 w' [] := ⟨hU'.os.trans HU2.out.os, hU'.tape.trans HU2.out.tape, hU'.output.trans HU2.out.output, Nat.le_trans HU2.out.size hU'.size, fun k hk _ => by
      refine (hU'.block k (Nat.lt_of_lt_of_le hk HU2.out.size) (fun hm => ?_)).trans (HU2.out.block k hk (by simp))
      have := HL2.out.bm k (mem_ob.1 hm)
      omega⟩
    exact (hw0.setCell (p := ⟨b, 5, none⟩) (.inr hb) _).setCell (p := ⟨b, 6, none⟩) (.inr hb) _

set_option maxHeartbeats 4000000 in
set_option maxRecDepth 100000 in
theorem begin_4 (w0 : World) (b : Nat) (nm sup : List UInt8) (ifs : List (List UInt8)) (fl ld : Int) (ms : List MethS) (st : Nat) (line : List UInt8) (w : World) (hI : RInv w0 b ⟨nm, sup, ifs, fl, ld, ms, st⟩ w) (hl : line.length ≤ 40000) (hm : MaxLenAt w) (hms : ms.length ≤ 1000000) (x y : List UInt8) (hx : x ≠ []) (hy : y ≠ []) (q : List UInt8) (hqe : q ≠ []) (hlq : q.length ≤ 40000) (ff : Int) (h0 : parseF 1055 q = (ff, 0)) (hq : takeN 3 (splitL 32 line) = [wMethod, x, y, q]) :
    Calls Tryz.prog 193 #[.pointer (some ⟨b, 0, none⟩), .string (bs line)] w (beginPost w0 b ⟨nm, sup, ifs, fl, ld, ms, st⟩ w (some ⟨x, y, ff, 0, 0, []⟩)) := by
  obtain ⟨vi, vm, cs, hB, hL, hb, hU⟩ := hI
  have Hsp := fun w hm => hid (splitN4_any line w (by omega) hm)
  rw [hq] at Hsp
  clear hq
  have HB := hid hB
  have HL := hid hL
  have HU := hid hU
  have hlt := hB.lt
  clear hB hL hU
  have hk1 := key_method
  obtain ⟨n1, n2, n3⟩ := empty_no hx
  obtain ⟨n4, n5, n6⟩ := empty_no hy
  have Hpm := fun w => hid (parseMethod_any q w (by omega))
  rw [h0] at Hpm
  obtain ⟨n7, n8, n9⟩ := empty_no hqe
  clear h0 hqe
  clear hx hy
  go_enter Tryz.func193, Tryz.ntmps193
  go_wp2_with fail
  refine (Hsp _ hm).out.mono ?_
  rintro e w1 ⟨⟨cap, rfl⟩, hR, hU1⟩
  have HB1 := hid (hU1.blk HB.out (by simp))
  have HL1 := hid (HL.out.upd hU1)
  have HU1 := hid (HU.out.trans hU1)
  have hg := hR.1
  have x0 := hR.2 0 (by simp)
  have x1 := hR.2 1 (by simp)
  have x2 := hR.2 2 (by simp)
  simp only [List.getElem_cons_zero, List.getElem_cons_succ, List.length_cons, List.length_nil] at x0 x1 x2 ⊢
  have HR := hid hR
  clear hR hU1
  generalize bs wMethod = bm at x0 hk1
  go_wp2
  go_region
  have HB2 := hid (show Blk ((w1.alloc (.cells #[.string (bs x), .string (bs y), .int .i64 0, .int .i64 0, .int .i64 0, .slice none 0 0] 86)).drew) b _ _ from HB1.out.alloc _)
  have hU2 : Upd w1 ((w1.alloc (.cells #[.string (bs x), .string (bs y), .int .i64 0, .int .i64 0, .int .i64 0, .slice none 0 0] 86)).drew) [] := ((Upd.refl w1 []).alloc _).drew
  have HL2 := hid (HL1.out.upd hU2)
  have HU2 := hid (HU1.out.trans hU2)
  have HBm := hid (show Blk ((w1.alloc (.cells #[.string (bs x), .string (bs y), .int .i64 0, .int .i64 0, .int .i64 0, .slice none 0 0] 86)).drew) w1.heap.size 86 #[.string (bs x), .string (bs y), .int .i64 0, .int .i64 0, .int .i64 0, .slice none 0 0] from Blk.new _ _ _)
  have HR2 := hid (HR.out.upd hU2)
  have hz2 : w1.heap.size ≥ w0.heap.size := HU1.out.size
  clear hU2
  revert HB2 HL2 HU2 HBm HR2
  generalize (w1.alloc (.cells #[.string (bs x), .string (bs y), .int .i64 0, .int .i64 0, .int .i64 0, .slice none 0 0] 86)).drew = w2
  intro HB2 HL2 HU2 HBm HR2
  have z3 := HR2.out.2 3 (by simp)
  simp only [List.getElem_cons_zero, List.getElem_cons_succ] at z3
  go_wp2_with fail
  refine (Hpm _).out.mono ?_
  rintro e w3 ⟨rfl, hU3⟩
  have HB3 := hid (hU3.blk HB2.out (by simp))
  have HL3 := hid (HL2.out.upd hU3)
  have HU3 := hid (HU2.out.trans hU3)
  have HBm3 := hid (hU3.blk HBm.out (by simp))
  have HR3 := hid (HR2.out.upd hU3)
  have y3 := HR3.out.2 3 (by simp)
  simp only [List.getElem_cons_zero, List.getElem_cons_succ] at y3
  have m2 := HBm3.out.cell 2
  have fm2 := HBm3.out.frozen 2
  have hltm := HBm3.out.lt
  simp at m2
  clear hU3 z3 HB2 HL2 HU2 HBm HR2
  go_wp2
  have hbm : ¬ b = w1.heap.size := fun h => by
    have := HB1.out.lt
    omega
  have HB2 := hid (HB3.out.far (p := ⟨w1.heap.size, 2, none⟩) hbm (.int .i64 ff))
  have HBm := hid (HBm3.out.set_ 2 (.int .i64 ff))
  have HU2 := hid (HU3.out.setCell (p := ⟨w1.heap.size, 2, none⟩) (.inr hz2) (.int .i64 ff))
  have HL2 : Hid (Lists (w3.setCell ⟨w1.heap.size, 2, none⟩ (.int .i64 ff)) w0.heap.size ⟨nm, sup, ifs, fl, ld, ms, st⟩ vi vm cs) := by
    have hno := HL1.out
    have hL := HL3.out
    refine hid ⟨hL.len, ownsRow_setCell_other hL.oi ?_ _, ownsRow_setCell_other hL.om ?_ _, fun i hi => ownsRow_setCell_other (hL.oc i hi) ?_ _, hL.bi, hL.bm, hL.bc, hL.dis⟩
    · intro h
      have := (hno.oi.lt _ h).2
      simp at this
    · intro h
      have := (hno.om.lt _ h).2
      simp at this
    · intro h
      have := ((hno.oc i hi).lt _ h).2
      simp at this
  clear HB3 HL3 HU3 HBm3 HR3 m2 fm2 hltm y3
  revert HB2 HL2 HU2 HBm
  generalize w3.setCell ⟨w1.heap.size, 2, none⟩ (.int .i64 ff) = w2
  intro HB2 HBm HU2 HL2
  obtain ⟨A, capm, rfl, -, -⟩ := own_slice HL2.out.om
  have d5 := HB2.out.cell 5
  have hlt2 := HB2.out.lt
  have hltm := HBm.out.lt
  have m0 := HBm.out.cell 0
  have m1 := HBm.out.cell 1
  have m2 := HBm.out.cell 2
  have m3 := HBm.out.cell 3
  have m4 := HBm.out.cell 4
  have m5 := HBm.out.cell 5
  simp [rdCells] at d5 m0 m1 m2 m3 m4 m5
  have hne : Hid (b ∉ Value.ob (.slice A ms.length capm)) := fun h => own_blk_ne HL2.out.om HB2.out ne_mr (mem_ob.1 h)
  obtain ⟨i0, hi0, hz0, hz1, hz2⟩ := info_parts infoMeth
  go_wp2
  go_region_law (refine step_append_one _ rfl (.tmp 64) (.tmp 66) 44 rfl 86 i0 _ 6 80 Tryz.underlying44 hi0 hz0 hz1 hz2 rfl (by decide) (by decide) (.slice A ms.length capm) ms.length (methRows ms cs) rfl (by exact HL2.out.om.alloc _) (by omega) w2.heap.size 86 #[.string (bs x), .string (bs y), .int .i64 ff, .int .i64 0, .int .i64 0, .slice none 0 0] rfl (by exact Blk.new_at (by simp)) rfl rfl ?_; intro g' cap' w' hown' hg' hat'; have hU' : Upd w2 w' (Value.ob (.slice A ms.length capm)) := (((Upd.refl w2 _).alloc _).drew).grown hg' (fun k hk => .inl (mem_ob.2 hk)); have HB' := hU'.blk HB2.out hne.out; have c5' := HB'.cell 5; have f5' := HB'.frozen 5; have c6' := HB'.cell 6; have f6' := HB'.frozen 6; have hlt' := HB'.lt; simp [rdCells] at c5' c6')
  all_goals
    go_wp2
    go_ret
    have hLa := HL2.out.upd (((Upd.refl w2 []).alloc (.cells #[.string (bs x), .string (bs y), .int .i64 ff, .int .i64 0, .int .i64 0, .slice none 0 0] 86)).drew)
    have hzz := HU2.out.size
    have hLm := hLa.meth (w' := w') ⟨x, y, ff, 0, 0, []⟩ rfl (.slice (some ⟨g', 0, none⟩) (ms.length + 1) cap') (by simp; omega) hown' hg' (fun k hk => by
      simp [Value.ownBlock] at hk
      subst hk
      exact hat')
    have q1 := HB'.set_ 5 (.slice (some ⟨g', 0, none⟩) (ms.length + 1) cap')
    have q2 := hLm.far HB' ne_sr ne_mr ne_ir 5 (.slice (some ⟨g', 0, none⟩) (ms.length + 1) cap')
    obtain ⟨q3, q4⟩ := RInv.store (r := ⟨nm, sup, ifs, fl, ld, ms ++ [⟨x, y, ff, 0, 0, []⟩], st⟩) (r' := ⟨nm, sup, ifs, fl, ld, ms ++ [⟨x, y, ff, 0, 0, []⟩], 5⟩) (vi := vi) (vm := .slice (some ⟨g', 0, none⟩) (ms.length + 1) cap') q1 q2 6 (.int .i64 5) rfl rfl rfl
    refine ⟨rfl, vi, _, _, q3, q4, hb, ?_⟩
    have hw0 : Upd w0 w' [] := ⟨hU'.os.trans HU2.out.os, hU'.tape.trans HU2.out.tape, hU'.output.trans HU2.out.output, Nat.le_trans HU2.out.size hU'.size, fun k hk _ => by
      refine (hU'.block k (Nat.lt_of_lt_of_le hk HU2.out.size) (fun hm => ?_)).trans (HU2.out.block k hk (by simp))
      have := HL2.out.bm k (mem_ob.1 hm)
      omega⟩
    exact (hw0.setCell (p := ⟨b, 5, none⟩) (.inr hb) _).setCell (p := ⟨b, 6, none⟩) (.inr hb) _

theorem begin_any (w0 : World) (b : Nat) (nm sup : List UInt8) (ifs : List (List UInt8)) (fl ld : Int) (ms : List MethS) (st : Nat) (line : List UInt8) (w : World) (hI : RInv w0 b ⟨nm, sup, ifs, fl, ld, ms, st⟩ w) (hl : line.length ≤ 40000) (hm : MaxLenAt w) (hms : ms.length ≤ 1000000) :
    Calls Tryz.prog 193 #[.pointer (some ⟨b, 0, none⟩), .string (bs line)] w (beginPost w0 b ⟨nm, sup, ifs, fl, ld, ms, st⟩ w (beginP (splitL 32 line))) := by
  rw [begin_law]
  have hne : 1 ≤ (takeN 3 (splitL 32 line)).length := by
    cases h : splitL 32 line with
    | nil => exact absurd h (splitL_ne 32 line)
    | cons a t => cases t <;> simp [takeN]
  have hle : ∀ q, q ∈ takeN 3 (splitL 32 line) → q.length ≤ 40000 := by
    intro q hq
    rw [← splitK_takeN] at hq
    exact Nat.le_trans (splitK_le 3 line q hq) hl
  obtain ⟨qs, hq⟩ : ∃ qs, takeN 3 (splitL 32 line) = qs := ⟨_, rfl⟩
  rw [hq] at hne hle ⊢
  have hlen : qs.length ≤ 4 := by rw [← hq, ← splitK_takeN]; exact splitK_len 3 line
  have bad : beginQ qs = none → (Calls Tryz.prog 193 #[.pointer (some ⟨b, 0, none⟩), .string (bs line)] w fun e w' => e = .returned (.bool false) ∧ Upd w w' []) → Calls Tryz.prog 193 #[.pointer (some ⟨b, 0, none⟩), .string (bs line)] w (beginPost w0 b ⟨nm, sup, ifs, fl, ld, ms, st⟩ w (beginQ qs)) := fun h1 h2 => by rw [h1]; exact h2
  by_cases h0 : qs[0]'(by omega) = wMethod
  · by_cases h3 : qs.length < 3
    · refine bad ?_ (begin_short _ line w hl hm qs hq hne h0 h3)
      match qs, hne, h3 with
      | [a], _, _ => rfl
      | [a, c], _, _ => rfl
      | a :: c :: d :: t, _, h => exact absurd h (by simp)
    · have hsh : (∃ a x y, qs = [a, x, y]) ∨ ∃ a x y q, qs = [a, x, y, q] := by
        match qs, h3, hlen with
        | [], h, _ => exact absurd (by simp) h
        | [a], h, _ => exact absurd (by simp) h
        | [a, c], h, _ => exact absurd (by simp) h
        | [a, x, y], _, _ => exact .inl ⟨a, x, y, rfl⟩
        | [a, x, y, q], _, _ => exact .inr ⟨a, x, y, q, rfl⟩
        | a :: c :: d :: e :: f :: t, _, h => exact absurd h (by simp)
      by_cases h4 : qs[1]'(by omega) = []
      · refine bad ?_ (begin_noname _ line w hl hm qs hq (by omega) h0 h4)
        rcases hsh with ⟨a, x, y, rfl⟩ | ⟨a, x, y, q, rfl⟩
        · simp only [List.getElem_cons_succ, List.getElem_cons_zero] at h4
          show (if a = wMethod ∧ x ≠ [] ∧ y ≠ [] then _ else none) = none
          rw [if_neg (fun h => h.2.1 h4)]
        · simp only [List.getElem_cons_succ, List.getElem_cons_zero] at h4
          show (if (a = wMethod ∧ x ≠ [] ∧ y ≠ []) ∧ _ then _ else none) = none
          rw [if_neg (fun h => h.1.2.1 h4)]
      · by_cases h5 : qs[2]'(by omega) = []
        · refine bad ?_ (begin_nodesc _ line w hl hm qs hq (by omega) h0 h4 h5)
          rcases hsh with ⟨a, x, y, rfl⟩ | ⟨a, x, y, q, rfl⟩
          · simp only [List.getElem_cons_succ, List.getElem_cons_zero] at h5
            show (if a = wMethod ∧ x ≠ [] ∧ y ≠ [] then _ else none) = none
            rw [if_neg (fun h => h.2.2 h5)]
          · simp only [List.getElem_cons_succ, List.getElem_cons_zero] at h5
            show (if (a = wMethod ∧ x ≠ [] ∧ y ≠ []) ∧ _ then _ else none) = none
            rw [if_neg (fun h => h.1.2.2 h5)]
        · rcases hsh with ⟨a, x, y, rfl⟩ | ⟨a, x, y, q, rfl⟩
          · simp only [List.getElem_cons_succ, List.getElem_cons_zero] at h0 h4 h5
            subst h0
            have hQ : beginQ [wMethod, x, y] = some ⟨x, y, 0, 0, 0, []⟩ := by
              show (if wMethod = wMethod ∧ x ≠ [] ∧ y ≠ [] then _ else none) = _
              rw [if_pos ⟨rfl, h4, h5⟩]
            rw [hQ]
            exact begin_3 w0 b nm sup ifs fl ld ms st line w hI hl hm hms x y h4 h5 hq
          · simp only [List.getElem_cons_succ, List.getElem_cons_zero] at h0 h4 h5
            subst h0
            have hlq := hle q (by simp)
            have hQ : beginQ [wMethod, x, y, q] = if (wMethod = wMethod ∧ x ≠ [] ∧ y ≠ []) ∧ (parseF 1055 q).2 = 0 ∧ q ≠ [] then some ⟨x, y, (parseF 1055 q).1, 0, 0, []⟩ else none := rfl
            by_cases h6 : (parseF 1055 q).2 = 0
            · by_cases h7 : q = []
              · exact bad (by rw [hQ, if_neg (fun h => h.2.2 h7)]) (begin_blank _ line w hl hm x y q h4 h5 hlq hq h7 h6)
              · rw [hQ, if_pos ⟨⟨rfl, h4, h5⟩, h6, h7⟩]
                exact begin_4 w0 b nm sup ifs fl ld ms st line w hI hl hm hms x y h4 h5 q h7 hlq _ (by rw [← h6]) hq
            · exact bad (by rw [hQ, if_neg (fun h => h6 h.2.1)]) (begin_noflags _ line w hl hm x y q h4 h5 hlq hq h6)
  · refine bad ?_ (begin_other _ line w hl hm qs hq hne h0)
    match qs, hne, hlen, h0 with
    | [a], _, _, _ => rfl
    | [a, c], _, _, _ => rfl
    | [a, x, y], _, _, h0 =>
      show (if a = wMethod ∧ x ≠ [] ∧ y ≠ [] then _ else none) = none
      rw [if_neg (fun h => h0 h.1)]
    | [a, x, y, q], _, _, h0 =>
      show (if (a = wMethod ∧ x ≠ [] ∧ y ≠ []) ∧ _ then _ else none) = none
      rw [if_neg (fun h => h0 h.1.1)]
    | a :: c :: d :: e :: f :: t, _, h, _ => exact absurd h (by simp)
end Go.Proofs.YtfpdeiefkimaaaaGreatDoor
/-
  The reader of lines: an instruction.
-/
set_option linter.unusedSimpArgs false
set_option linter.unusedVariables false
namespace Go.Proofs.YtfpdeiefkimaaaaGreatDoor
open Go.RowKit Go.Sort

theorem infoInst7 : (Tryz.prog.info? 90).map (fun i => (i.zero, i.size, i.bytes)) = some (some (.agg #[.int .i64 0, .int .i64 0, .string ⟨#[]⟩, .bool false, .string ⟨#[]⟩, .string ⟨#[]⟩, .string ⟨#[]⟩]), 7, 88) := by kernel_rfl

theorem Lists.heap {w w' : World} {n0 : Nat} {r : RdS} {vi vm : Value} {cs : List Value} (h : Lists w n0 r vi vm cs) (hh : w'.heap = w.heap) : Lists w' n0 r vi vm cs := by
  have key : ∀ base e size v n xs, w.ownsRow base e size v n xs → w'.ownsRow base e size v n xs := fun base e size v n xs ho => by
    unfold World.ownsRow at ho ⊢
    rw [hh]
    exact ho
  exact ⟨h.len, key _ _ _ _ _ _ h.oi, key _ _ _ _ _ _ h.om, fun i hi => key _ _ _ _ _ _ (h.oc i hi), h.bi, h.bm, h.bc, h.dis⟩

set_option maxHeartbeats 4000000 in
set_option maxRecDepth 100000 in
theorem instruction_any (w0 : World) (b : Nat) (nm sup : List UInt8) (ifs : List (List UInt8)) (fl ld : Int) (ms : List MethS) (line : List UInt8) (w : World) (hI : RInv w0 b ⟨nm, sup, ifs, fl, ld, ms, 7⟩ w) (hl : line.length ≤ 40000) (hm : Rdy w) (he : ErrsAt w) (hms : 1 ≤ ms.length) (hmn : ms.length ≤ 1000000) (hcd : (codeOf ms (ms.length - 1)).length ≤ 1000000) :
    Calls Tryz.prog 194 #[.pointer (some ⟨b, 0, none⟩), .string (bs line)] w (stepPost w0 b (if (parseOut line).2 = 0 then some ⟨nm, sup, ifs, fl, ld, ms.modify (ms.length - 1) fun m => { m with code := m.code ++ [(parseOut line).1] }, 7⟩ else none)) := by
  obtain ⟨vi, vm, cs, hB, hL, hb, hU⟩ := hI
  have Hpa := fun w hm he => hid (parseI_any line w (by omega) hm he)
  have HB := hid hB
  have HL := hid hL
  have HU := hid hU
  have HM := hid hm
  have HE := hid he
  have hlt := hB.lt
  clear hB hL hU hm he
  generalize parseOut line = PO at Hpa ⊢
  obtain ⟨⟨po, pn, pt, ⟨pi, pc, pm, pd⟩⟩, pe⟩ := PO
  unfold InstL.v InstL.cells at Hpa
  simp only at Hpa ⊢
  by_cases hpe : pe = 0
  · subst hpe
    rw [if_pos rfl]
    go_enter Tryz.func194, Tryz.ntmps194
    go_wp2_with fail
    refine (Hpa _ HM.out HE.out).out.mono ?_
    rintro e w1 ⟨rfl, hU1⟩
    have hUa := hU1.alloc (.cells #[.int .i64 po, .int .i64 pn, .string (bs pt), .bool pi, .string (bs pc), .string (bs pm), .string (bs pd)] 90)
    have HB2 := hid (hUa.blk HB.out (by simp))
    have HL2 := hid (HL.out.upd hUa)
    have HU2 := hid (HU.out.trans hUa)
    have HI2 := hid (Blk.new w1 90 #[.int .i64 po, .int .i64 pn, .string (bs pt), .bool pi, .string (bs pc), .string (bs pm), .string (bs pd)])
    clear hU1 hUa
    go_upto_region 3 with (fail)
    revert HB2 HL2 HU2 HI2
    generalize w1.alloc (.cells #[.int .i64 po, .int .i64 pn, .string (bs pt), .bool pi, .string (bs pc), .string (bs pm), .string (bs pd)] 90) = w2
    intro HB2 HL2 HU2 HI2
    obtain ⟨g, cap, hvm, hcap1, hcap2, hgl⟩ := own_form HL2.out.om (by exact hms)
    subst hvm
    have hli : ms.length - 1 < cs.length := by have := HL2.out.len; simp only at this; omega
    have Hla := fun w hB => hid (last_any b g ms.length cap (.string (bs nm)) (.string (bs sup)) vi (.int .i64 fl) (.int .i64 ld) (.int .i64 7) w hB hms hmn)
    have x5 := HL2.out.om.cellAt ((ms.length - 1) * 6 + 5) (by show (ms.length - 1) * 6 + 5 < ms.length * 6; omega)
    rw [methRows_get (ms.length - 1) (by show ms.length - 1 < ms.length; omega) hli 5 (by omega)] at x5
    simp only [methRow] at x5
    have hoc := HL2.out.oc (ms.length - 1) hli
    obtain ⟨cv, hcv⟩ : ∃ cv, cs[ms.length - 1] = cv := ⟨_, rfl⟩
    rw [hcv] at x5 hoc
    have Hcv := hid hcv
    clear hcv
    obtain ⟨A, capc, rfl, -, -⟩ := own_slice hoc
    have Hoc := hid hoc
    clear hoc
    have m0 := HI2.out.cell 0
    have m1 := HI2.out.cell 1
    have m2 := HI2.out.cell 2
    have m3 := HI2.out.cell 3
    have m4 := HI2.out.cell 4
    have m5 := HI2.out.cell 5
    have m6 := HI2.out.cell 6
    have hltm := HI2.out.lt
    simp at x5 m0 m1 m2 m3 m4 m5 m6
    obtain ⟨i0, hi0, hz0, hz1, hz2⟩ := info_parts infoInst7
    have Hrow : Hid (∀ W w' : World, W.grownBy w' (Value.slice A (codeOf ms (ms.length - 1)).length capc).ownBlock → W.heap = (w2.alloc (.cells #[.int .i64 po, .int .i64 pn, .string (bs pt), .bool pi, .string (bs pc), .string (bs pm), .string (bs pd)] 90)).heap → w'.ownsRow 0 86 6 (.slice (some ⟨g, 0, none⟩) ms.length cap) ms.length (methRows ms cs)) := hid (fun W w' hg hh => by
      have hLa : Lists (w2.alloc (.cells #[.int .i64 po, .int .i64 pn, .string (bs pt), .bool pi, .string (bs pc), .string (bs pm), .string (bs pd)] 90)) w0.heap.size _ _ _ cs := HL2.out.upd ((Upd.refl w2 []).alloc _)
      have hLW := hLa.heap hh
      have hoc := hLW.oc (ms.length - 1) hli
      rw [Hcv.out] at hoc
      exact own_grown_own hLW.om hg hoc (by decide))
    have Hins : Hid (∀ (W w' : World) (g' cap' : Nat), W.grownBy w' (Value.slice A (codeOf ms (ms.length - 1)).length capc).ownBlock → W.heap = (w2.alloc (.cells #[.int .i64 po, .int .i64 pn, .string (bs pt), .bool pi, .string (bs pc), .string (bs pm), .string (bs pd)] 90)).heap → w'.ownsRow 0 90 7 (.slice (some ⟨g', 0, none⟩) ((codeOf ms (ms.length - 1)).length + 1) cap') ((codeOf ms (ms.length - 1)).length + 1) (instV (codeOf ms (ms.length - 1)) ++ (#[.int .i64 po, .int .i64 pn, .string (bs pt), .bool pi, .string (bs pc), .string (bs pm), .string (bs pd)] : Array Value).toList) → ((Value.slice A (codeOf ms (ms.length - 1)).length capc).ownBlock = some g' ∨ g' = W.heap.size) →
        Lists (w'.setCell ⟨g, (ms.length - 1) * 6 + 5, none⟩ (.slice (some ⟨g', 0, none⟩) ((codeOf ms (ms.length - 1)).length + 1) cap')) w0.heap.size ⟨nm, sup, ifs, fl, ld, ms.modify (ms.length - 1) fun m => { m with code := m.code ++ [⟨po, pn, pt, ⟨pi, pc, pm, pd⟩⟩] }, 7⟩ vi (.slice (some ⟨g, 0, none⟩) ms.length cap) (cs.set (ms.length - 1) (.slice (some ⟨g', 0, none⟩) ((codeOf ms (ms.length - 1)).length + 1) cap'))) := hid (fun W w' g' cap' hg hh ho ha => by
      have hLa : Lists (w2.alloc (.cells #[.int .i64 po, .int .i64 pn, .string (bs pt), .bool pi, .string (bs pc), .string (bs pm), .string (bs pd)] 90)) w0.heap.size _ _ _ cs := HL2.out.upd ((Upd.refl w2 []).alloc _)
      have hLW := hLa.heap hh
      have hUw := HU2.out.size
      have hsz : W.heap.size = w2.heap.size + 1 := by rw [hh]; simp
      exact hLW.inst (w' := w') (ms.length - 1) hli ⟨po, pn, pt, ⟨pi, pc, pm, pd⟩⟩ (.slice (some ⟨g', 0, none⟩) ((codeOf ms (ms.length - 1)).length + 1) cap') (by omega) ho (by rw [Hcv.out]; exact hg) (fun k hk => by
        simp [Value.ownBlock] at hk
        subst hk
        rw [Hcv.out]
        exact ha))
    have Hbg : Hid (b ≠ g) := hid (fun h => own_blk_ne HL2.out.om HB2.out ne_mr (by rw [h]; rfl))
    have Hbm := hid (HL2.out.bm g rfl)
    have Hblk : Hid (∀ W w' : World, W.grownBy w' (Value.slice A (codeOf ms (ms.length - 1)).length capc).ownBlock → W.heap = (w2.alloc (.cells #[.int .i64 po, .int .i64 pn, .string (bs pt), .bool pi, .string (bs pc), .string (bs pm), .string (bs pd)] 90)).heap → W.os = w2.os → W.tape = w2.tape → W.output = w2.output → Blk w' b 149 (rdCells ⟨nm, sup, ifs, fl, ld, ms, 7⟩ vi (.slice (some ⟨g, 0, none⟩) ms.length cap)) ∧ Upd w0 w' []) := hid (fun W w' hg hh ho1 ho2 ho3 => by
      have hBW : Blk W b 149 (rdCells ⟨nm, sup, ifs, fl, ld, ms, 7⟩ vi (.slice (some ⟨g, 0, none⟩) ms.length cap)) := by
        unfold Blk
        rw [hh]
        exact HB2.out.alloc _
      have hoc : W.ownsRow 0 90 7 (.slice A (codeOf ms (ms.length - 1)).length capc) (codeOf ms (ms.length - 1)).length (instV (codeOf ms (ms.length - 1))) := by
        have hLa : Lists (w2.alloc (.cells #[.int .i64 po, .int .i64 pn, .string (bs pt), .bool pi, .string (bs pc), .string (bs pm), .string (bs pd)] 90)) w0.heap.size _ _ _ cs := HL2.out.upd ((Upd.refl w2 []).alloc _)
        have := (hLa.heap hh).oc (ms.length - 1) hli
        rw [Hcv.out] at this
        exact this
      refine ⟨hBW.grown_own hg hoc ne_ir, ?_⟩
      have hbc := HL2.out.bc (ms.length - 1) hli
      rw [Hcv.out] at hbc
      have hsz : W.heap.size = w2.heap.size + 1 := by rw [hh]; simp
      have hUw := HU2.out
      refine ⟨(hg.os.trans ho1).trans hUw.os, (hg.tape.trans ho2).trans hUw.tape, (hg.output.trans ho3).trans hUw.output, by have := hUw.size; have := hg.size; omega, fun k hk _ => ?_⟩
      have hk2 : k < w2.heap.size := Nat.lt_of_lt_of_le hk hUw.size
      refine (hg.block k (by omega) (fun e => ?_)).trans (Eq.trans ?_ (hUw.block k hk (by simp)))
      · have := hbc k e.symm
        omega
      · rw [hh]
        exact Below.heap_alloc w2 _ k hk2)
    have Hkeep : Hid (∀ W w' : World, W.grownBy w' (Value.slice A (codeOf ms (ms.length - 1)).length capc).ownBlock → W.heap = (w2.alloc (.cells #[.int .i64 po, .int .i64 pn, .string (bs pt), .bool pi, .string (bs pc), .string (bs pm), .string (bs pd)] 90)).heap → w'.cell? ⟨g, (ms.length - 1) * 6 + 5, none⟩ = some (.slice A (codeOf ms (ms.length - 1)).length capc) ∧ w'.frozen? ⟨g, (ms.length - 1) * 6 + 5, none⟩ = false) := hid (fun W w' hg hh => by
      have hom := Hrow.out W w' hg hh
      have h1 := hom.cellAt ((ms.length - 1) * 6 + 5) (by omega)
      rw [methRows_get (ms.length - 1) (by omega) hli 5 (by omega)] at h1
      simp [methRow] at h1
      rw [Hcv.out] at h1
      exact ⟨h1, hom.frozenAt _⟩)
    have hx5n : ∀ n, ((w2.drewN n).alloc (.cells #[.int .i64 po, .int .i64 pn, .string (bs pt), .bool pi, .string (bs pc), .string (bs pm), .string (bs pd)] 90)).cell? ⟨g, (ms.length - 1) * 6 + 5, none⟩ = some (.slice A (codeOf ms (ms.length - 1)).length capc) := fun n => (World.cell?_of_block (Below.heap_alloc (w2.drewN n) _ g hgl)).trans x5
    go_region_law (first
      | (refine step_append_one _ rfl (.tmp 20) (.tmp 22) 84 rfl 90 i0 _ 7 88 Tryz.underlying84 hi0 hz0 hz1 hz2 rfl (by decide) (by decide) (.slice A (codeOf ms (ms.length - 1)).length capc) (codeOf ms (ms.length - 1)).length (instV (codeOf ms (ms.length - 1))) rfl (by exact Hoc.out.alloc _) (by omega) w2.heap.size 90 #[.int .i64 po, .int .i64 pn, .string (bs pt), .bool pi, .string (bs pc), .string (bs pm), .string (bs pd)] rfl (by exact Blk.new_at (by simp)) rfl rfl ?_; intro g' cap' w' hown' hg' hat'; obtain ⟨c5', f5'⟩ := Hkeep.out _ _ hg' rfl)
      | (go_simp; go_wp2_with (go_at_call 192; refine (Hla _ (by first | exact HB2.out | exact HB2.out.alloc _)).out.mono ?_; rintro e w' ⟨rfl, k', rfl⟩)))
    all_goals
      go_wp2
      go_ret
      have hLi := Hins.out _ w' g' cap' hg' rfl hown' hat'
      have hUB := Hblk.out _ w' hg' rfl rfl rfl rfl
      refine ⟨rfl, vi, _, _, hUB.1.far (p := ⟨g, (ms.length - 1) * 6 + 5, none⟩) Hbg.out _, hLi, hb, hUB.2.setCell (p := ⟨g, (ms.length - 1) * 6 + 5, none⟩) (.inr Hbm.out) _⟩
  · rw [if_neg hpe]
    have hpb : (pe == 0) = false := by rw [beq_eq_false_iff_ne]; exact hpe
    go_enter Tryz.func194, Tryz.ntmps194
    go_wp2_with fail
    refine (Hpa _ HM.out HE.out).out.mono ?_
    rintro e w1 ⟨rfl, hU1⟩
    have HU2 := hid ((HU.out.trans hU1).alloc (.cells #[.int .i64 po, .int .i64 pn, .string (bs pt), .bool pi, .string (bs pc), .string (bs pm), .string (bs pd)] 90))
    have HB2 := hid ((hU1.blk HB.out (by simp)).alloc (.cells #[.int .i64 po, .int .i64 pn, .string (bs pt), .bool pi, .string (bs pc), .string (bs pm), .string (bs pd)] 90))
    clear hU1
    go_wp2
    go_ret
    exact ⟨rfl, HU2.out, rdBad_of HB2.out HL.out⟩
end Go.Proofs.YtfpdeiefkimaaaaGreatDoor
/-
  The reader of lines: body; the lines of interfaces and flags.
-/
set_option linter.unusedSimpArgs false
set_option linter.unusedVariables false
namespace Go.Proofs.YtfpdeiefkimaaaaGreatDoor
open Go.RowKit Go.Sort

theorem key_end (line : List UInt8) : ((bs line).toList == [101, 110, 100]) = decide (line = wEnd) := by
  have := bs_beq line wEnd
  rw [bs_toList wEnd] at this
  exact this

set_option maxHeartbeats 4000000 in
set_option maxRecDepth 100000 in
theorem body4_any (w0 : World) (b : Nat) (nm sup : List UInt8) (ifs : List (List UInt8)) (fl ld : Int) (ms : List MethS) (line : List UInt8) (w : World) (hI : RInv w0 b ⟨nm, sup, ifs, fl, ld, ms, 4⟩ w) (hl : line.length ≤ 40000) (hm : Rdy w) (hmn : ms.length ≤ 1000000) :
    Calls Tryz.prog 157 #[.pointer (some ⟨b, 0, none⟩), .string (bs line)] w (stepPost w0 b (stepL ⟨nm, sup, ifs, fl, ld, ms, 4⟩ line)) := by
  have hS : stepL ⟨nm, sup, ifs, fl, ld, ms, 4⟩ line = if line = wEnd then some ⟨nm, sup, ifs, fl, ld, ms, 8⟩ else (beginP (splitL 32 line)).map fun m => ⟨nm, sup, ifs, fl, ld, ms ++ [m], 5⟩ := rfl
  have hkey := key_end line
  by_cases he : line = wEnd
  · rw [hS, if_pos he]
    rw [decide_eq_true he] at hkey
    obtain ⟨vi, vm, cs, hB, hL, hb, hU⟩ := hI
    have HB := hid hB
    have c6 := hB.cell 6
    have f6 := hB.frozen 6
    have hlt := hB.lt
    simp [rdCells] at c6
    clear hS he
    go_enter Tryz.func157, Tryz.ntmps157
    go_wp2
    go_ret
    obtain ⟨q1, q2⟩ := RInv.store (r' := ⟨nm, sup, ifs, fl, ld, ms, 8⟩) HB.out hL 6 (.int .i64 8) rfl rfl rfl
    exact ⟨rfl, vi, vm, cs, q1, q2, hb, hU.setCell (p := ⟨b, 6, none⟩) (.inr hb) _⟩
  · rw [hS, if_neg he]
    rw [decide_eq_false he] at hkey
    have hkn : ¬ (bs line).toList = [101, 110, 100] := by rw [beq_eq_false_iff_ne] at hkey; exact hkey
    have Hbe := hid (begin_any w0 b nm sup ifs fl ld ms 4 line w hI hl hm.max hmn)
    obtain ⟨vi, vm, cs, hB, hL, hb, hU⟩ := hI
    have HB := hid hB
    have HU := hid hU
    have HL := hid hL
    clear hS he hm hL hB hU
    cases hO : beginP (splitL 32 line) with
    | some m =>
      rw [hO] at Hbe
      clear hO
      go_enter Tryz.func157, Tryz.ntmps157
      go_wp2_with fail
      refine Hbe.out.mono ?_
      rintro e w1 ⟨rfl, hR⟩
      have HR := hid hR
      clear hR
      go_wp2
      go_ret
      exact ⟨rfl, HR.out⟩
    | none =>
      rw [hO] at Hbe
      clear hO
      go_enter Tryz.func157, Tryz.ntmps157
      go_wp2_with fail
      refine Hbe.out.mono ?_
      rintro e w1 ⟨rfl, hU1⟩
      have HB1 := hid (hU1.blk HB.out (by simp))
      have HU1 := hid (HU.out.trans hU1)
      have c6 := HB1.out.cell 6
      have hlt := HB1.out.lt
      simp [rdCells] at c6
      clear hU1
      go_wp2
      go_ret
      exact ⟨rfl, HU1.out, rdBad_of HB1.out HL.out⟩

set_option maxHeartbeats 4000000 in
set_option maxRecDepth 100000 in
theorem body7_any (w0 : World) (b : Nat) (nm sup : List UInt8) (ifs : List (List UInt8)) (fl ld : Int) (ms : List MethS) (line : List UInt8) (w : World) (hI : RInv w0 b ⟨nm, sup, ifs, fl, ld, ms, 7⟩ w) (hl : line.length ≤ 40000) (hm : Rdy w) (he : ErrsAt w) (hms : 1 ≤ ms.length) (hmn : ms.length ≤ 1000000) (hcd : (codeOf ms (ms.length - 1)).length ≤ 1000000) :
    Calls Tryz.prog 157 #[.pointer (some ⟨b, 0, none⟩), .string (bs line)] w (stepPost w0 b (stepL ⟨nm, sup, ifs, fl, ld, ms, 7⟩ line)) := by
  have hS : stepL ⟨nm, sup, ifs, fl, ld, ms, 7⟩ line = if line = wEnd then some ⟨nm, sup, ifs, fl, ld, ms, 8⟩ else match beginP (splitL 32 line) with
    | some m => some ⟨nm, sup, ifs, fl, ld, ms ++ [m], 5⟩
    | none => if (parseOut line).2 = 0 then some ⟨nm, sup, ifs, fl, ld, ms.modify (ms.length - 1) fun m => { m with code := m.code ++ [(parseOut line).1] }, 7⟩ else none := rfl
  have hkey := key_end line
  by_cases hend : line = wEnd
  · rw [hS, if_pos hend]
    rw [decide_eq_true hend] at hkey
    obtain ⟨vi, vm, cs, hB, hL, hb, hU⟩ := hI
    have HB := hid hB
    have c6 := hB.cell 6
    have f6 := hB.frozen 6
    have hlt := hB.lt
    simp [rdCells] at c6
    clear hS hend
    go_enter Tryz.func157, Tryz.ntmps157
    go_wp2
    go_ret
    obtain ⟨q1, q2⟩ := RInv.store (r' := ⟨nm, sup, ifs, fl, ld, ms, 8⟩) HB.out hL 6 (.int .i64 8) rfl rfl rfl
    exact ⟨rfl, vi, vm, cs, q1, q2, hb, hU.setCell (p := ⟨b, 6, none⟩) (.inr hb) _⟩
  · rw [hS, if_neg hend]
    rw [decide_eq_false hend] at hkey
    have hkn : ¬ (bs line).toList = [101, 110, 100] := by rw [beq_eq_false_iff_ne] at hkey; exact hkey
    have Hbe := hid (begin_any w0 b nm sup ifs fl ld ms 7 line w hI hl hm.max hmn)
    have Hin : Hid (∀ w', Upd w w' [] → Hid (Calls Tryz.prog 194 #[.pointer (some ⟨b, 0, none⟩), .string (bs line)] w' (stepPost w0 b (if (parseOut line).2 = 0 then some ⟨nm, sup, ifs, fl, ld, ms.modify (ms.length - 1) fun m => { m with code := m.code ++ [(parseOut line).1] }, 7⟩ else none)))) := hid (fun w' u => hid (instruction_any w0 b nm sup ifs fl ld ms line w' (hI.upd u) hl (hm.upd u) (he.upd u) hms hmn hcd))
    obtain ⟨vi, vm, cs, hB, hL, hb, hU⟩ := hI
    have HB := hid hB
    have HU := hid hU
    clear hS hend hm hL hB hU he hms hcd
    cases hO : beginP (splitL 32 line) with
    | some m =>
      rw [hO] at Hbe
      clear hO
      go_enter Tryz.func157, Tryz.ntmps157
      go_wp2_with fail
      refine Hbe.out.mono ?_
      rintro e w1 ⟨rfl, hR⟩
      have HR := hid hR
      clear hR
      go_wp2
      go_ret
      exact ⟨rfl, HR.out⟩
    | none =>
      rw [hO] at Hbe
      clear hO
      simp only
      generalize (if (parseOut line).2 = 0 then some (⟨nm, sup, ifs, fl, ld, ms.modify (ms.length - 1) fun m => { m with code := m.code ++ [(parseOut line).1] }, 7⟩ : RdS) else none) = O at Hin ⊢
      go_enter Tryz.func157, Tryz.ntmps157
      go_wp2_with fail
      refine Hbe.out.mono ?_
      rintro e w1 ⟨rfl, hU1⟩
      have HB1 := hid (hU1.blk HB.out (by simp))
      have HU1 := hid hU1
      have c6 := HB1.out.cell 6
      have hlt := HB1.out.lt
      simp [rdCells] at c6
      clear hU1
      go_wp2_with fail
      refine (Hin.out _ HU1.out).out.mono ?_
      intro e w2 hp
      cases O with
      | none =>
        obtain ⟨rfl, hU2⟩ := hp
        have HU2 := hid hU2
        clear hU2
        go_wp2
        go_ret
        exact ⟨rfl, HU2.out⟩
      | some r' =>
        obtain ⟨rfl, hR⟩ := hp
        have HR := hid hR
        clear hR
        go_wp2
        go_ret
        exact ⟨rfl, HR.out⟩

set_option maxHeartbeats 4000000 in
set_option maxRecDepth 100000 in
theorem line2_any (w0 : World) (b : Nat) (nm sup : List UInt8) (ifs : List (List UInt8)) (fl ld : Int) (ms : List MethS) (line : List UInt8) (w : World) (hI : RInv w0 b ⟨nm, sup, ifs, fl, ld, ms, 2⟩ w) (hl : line.length ≤ 40000) (hn : ifs.length ≤ 1000000) :
    Calls Tryz.prog 105 #[.pointer (some ⟨b, 0, none⟩), .string (bs line)] w (stepPost w0 b (stepL ⟨nm, sup, ifs, fl, ld, ms, 2⟩ line)) := by
  obtain ⟨vi, vm, cs, hB, hL, hb, hU⟩ := hI
  have hS : stepL ⟨nm, sup, ifs, fl, ld, ms, 2⟩ line = match namedP wIface (splitL 32 line) with
    | some s => some ⟨nm, sup, ifs ++ [s], fl, ld, ms, 2⟩
    | none => (clsFlagsP (splitL 32 line)).map fun f => ⟨nm, sup, ifs, f, ld, ms, 3⟩ := rfl
  have hN := named_law wIface line (by decide)
  have Hnm := fun w => hid (named5_any line wIface w (by omega) (by decide))
  have Hfo := fun w => hid (flagsOf5_any line w (by omega))
  rw [hN] at hS
  rw [hS]
  clear hS hN
  have hwd : (⟨#[105, 102, 97, 99, 101]⟩ : ByteArray) = bs wIface := rfl
  have HB := hid hB
  have HL := hid hL
  have HU := hid hU
  have c6 := hB.cell 6
  have hlt := hB.lt
  simp [rdCells] at c6
  clear hB hL hU
  generalize clsFlagsP (splitL 32 line) = O at Hfo ⊢
  generalize takenB wIface line = tk at Hnm ⊢
  generalize Lib.trimPrefix line (wIface ++ [32]) = s at Hnm ⊢
  cases tk with
  | true =>
    simp only [if_true]
    go_enter Tryz.func105, Tryz.ntmps105
    go_wp2_with fail
    refine (Hnm _).out.mono ?_
    rintro e w1 ⟨rfl, hU1⟩
    have HB1 := hid (hU1.blk HB.out (by simp))
    have HL1 := hid (HL.out.upd hU1)
    have HU1 := hid (HU.out.trans hU1)
    obtain ⟨A, cap, rfl, -, -⟩ := own_slice HL1.out.oi
    have d2 := HB1.out.cell 2
    have hlt1 := HB1.out.lt
    simp [rdCells] at d2
    have hne : Hid (b ∉ Value.ob (.slice A ifs.length cap)) := fun h => own_blk_ne HL1.out.oi HB1.out ne_sr (mem_ob.1 h)
    obtain ⟨i0, hi0, hz0, hz1, hz2⟩ := info_parts infoString
    clear hU1 c6
    go_wp2_with (at_builtin; go_must (refine wpList_append_one _ rfl (.tmp 46) (.tmp 48) 43 rfl 9 i0 _ 1 16 Tryz.underlying43 hi0 hz0 hz1 hz2 rfl (by decide) (by decide) (.slice A ifs.length cap) ifs.length (ifs.map strV) rfl (by exact HL1.out.oi.alloc _) (by omega) w1.heap.size 9 #[.string (bs s)] rfl (by exact Blk.new_at (by simp)) rfl rfl ?_); intro g' cap' w' hown' hg' hat'; have hU' : Upd w1 w' (Value.ob (.slice A ifs.length cap)) := ((Upd.refl w1 _).alloc _).grown hg' (fun k hk => .inl (mem_ob.2 hk)); have HB' := hU'.blk HB1.out hne.out; have c2' := HB'.cell 2; have f2' := HB'.frozen 2; have hlt' := HB'.lt; simp [rdCells] at c2')
    go_ret
    have hLa := HL1.out.upd ((Upd.refl w1 []).alloc (.cells #[.string (bs s)] 9))
    have hzz := HU1.out.size
    have hLm := hLa.iface (w' := w') s (.slice (some ⟨g', 0, none⟩) (ifs.length + 1) cap') (by simp; omega) hown' hg' (fun k hk => by
      simp [Value.ownBlock] at hk
      subst hk
      exact hat')
    have q1 := HB'.set_ 2 (.slice (some ⟨g', 0, none⟩) (ifs.length + 1) cap')
    have q2 := hLm.far HB' ne_sr ne_mr ne_ir 2 (.slice (some ⟨g', 0, none⟩) (ifs.length + 1) cap')
    refine ⟨rfl, _, vm, cs, q1, q2, hb, ?_⟩
    have hw0 : Upd w0 w' [] := ⟨hU'.os.trans HU1.out.os, hU'.tape.trans HU1.out.tape, hU'.output.trans HU1.out.output, Nat.le_trans HU1.out.size hU'.size, fun k hk _ => by
      refine (hU'.block k (Nat.lt_of_lt_of_le hk HU1.out.size) (fun hm => ?_)).trans (HU1.out.block k hk (by simp))
      have := HL1.out.bi k (mem_ob.1 hm)
      omega⟩
    exact hw0.setCell (p := ⟨b, 2, none⟩) (.inr hb) _
  | false =>
    simp only [Bool.false_eq_true, if_false]
    go_enter Tryz.func105, Tryz.ntmps105
    go_wp2_with fail
    refine (Hnm _).out.mono ?_
    rintro e w1 ⟨rfl, hU1⟩
    have HB1 := hid (hU1.blk HB.out (by simp))
    have HL1 := hid (HL.out.upd hU1)
    have HU1 := hid (HU.out.trans hU1)
    clear hU1 c6
    go_wp2_with fail
    refine (Hfo _).out.mono ?_
    rintro e w2 ⟨⟨f, rfl, hf⟩, hU2⟩
    have HB2 := hid (hU2.blk HB1.out (by simp))
    have HL2 := hid (HL1.out.upd hU2)
    have HU2 := hid (HU1.out.trans hU2)
    have d3 := HB2.out.cell 3
    have d6 := HB2.out.cell 6
    have f3 := HB2.out.frozen 3
    have f6 := HB2.out.frozen 6
    have hlt2 := HB2.out.lt
    simp [rdCells] at d3 d6
    clear hU2
    have HF := hid hf
    clear hf
    cases O with
    | none =>
      go_wp2
      go_ret
      exact ⟨rfl, (HU2.out.setCell (p := ⟨b, 3, none⟩) (.inr hb) (.int .i64 f)).setCell (p := ⟨b, 6, none⟩) (.inr hb) (.int .i64 3), rdBad_of (r := ⟨nm, sup, ifs, f, ld, ms, 3⟩) ((HB2.out.set_ 3 (.int .i64 f)).set_ 6 (.int .i64 3)) HL2.out⟩
    | some m =>
      go_wp2
      go_ret
      obtain rfl : f = m := HF.out m rfl
      obtain ⟨q1, q2⟩ := RInv.store (r' := ⟨nm, sup, ifs, f, ld, ms, 2⟩) HB2.out HL2.out 3 (.int .i64 f) rfl rfl rfl
      obtain ⟨q3, q4⟩ := RInv.store (r' := ⟨nm, sup, ifs, f, ld, ms, 3⟩) q1 q2 6 (.int .i64 3) rfl rfl rfl
      exact ⟨rfl, vi, vm, cs, q3, q4, hb, (HU2.out.setCell (p := ⟨b, 3, none⟩) (.inr hb) (.int .i64 f)).setCell (p := ⟨b, 6, none⟩) (.inr hb) (.int .i64 3)⟩
end Go.Proofs.YtfpdeiefkimaaaaGreatDoor
/-
  The reader of lines: every line. (Printed by gen_readH.py.)
-/
set_option linter.unusedSimpArgs false
set_option linter.unusedVariables false
namespace Go.Proofs.YtfpdeiefkimaaaaGreatDoor
open Go.RowKit Go.Sort

set_option maxHeartbeats 4000000 in
set_option maxRecDepth 100000 in
theorem line3_any (w0 : World) (b : Nat) (nm sup : List UInt8) (ifs : List (List UInt8)) (fl ld : Int) (ms : List MethS) (line : List UInt8) (w : World) (hI : RInv w0 b ⟨nm, sup, ifs, fl, ld, ms, 3⟩ w) (hl : line.length ≤ 40000) (hm : Rdy w) (he : ErrsAt w) :
    Calls Tryz.prog 105 #[.pointer (some ⟨b, 0, none⟩), .string (bs line)] w (stepPost w0 b (stepL ⟨nm, sup, ifs, fl, ld, ms, 3⟩ line)) := by
  have Hc := hid (counted3_any w0 b nm sup ifs fl ld ms line w hI hl hm he)
  generalize stepL ⟨nm, sup, ifs, fl, ld, ms, 3⟩ line = O at Hc ⊢
  obtain ⟨vi, vm, cs, hB, hL, hb, hU⟩ := hI
  have c6 := hB.cell 6
  have hlt := hB.lt
  simp [rdCells] at c6
  clear hB hL hU hm
  go_enter Tryz.func105, Tryz.ntmps105
  go_wp2_with fail
  refine Hc.out.mono ?_
  intro e w1 hp
  cases O with
  | none =>
    obtain ⟨rfl, hU1⟩ := hp
    have HU1 := hid hU1
    clear hU1
    go_wp2
    go_ret
    exact ⟨rfl, HU1.out⟩
  | some r' =>
    obtain ⟨rfl, hR⟩ := hp
    have HR := hid hR
    clear hR
    go_wp2
    go_ret
    exact ⟨rfl, HR.out⟩

set_option maxHeartbeats 4000000 in
set_option maxRecDepth 100000 in
theorem line5_any (w0 : World) (b : Nat) (nm sup : List UInt8) (ifs : List (List UInt8)) (fl ld : Int) (ms : List MethS) (line : List UInt8) (w : World) (hI : RInv w0 b ⟨nm, sup, ifs, fl, ld, ms, 5⟩ w) (hl : line.length ≤ 40000) (hm : Rdy w) (he : ErrsAt w) (hms : 1 ≤ ms.length) (hmn : ms.length ≤ 1000000) :
    Calls Tryz.prog 105 #[.pointer (some ⟨b, 0, none⟩), .string (bs line)] w (stepPost w0 b (stepL ⟨nm, sup, ifs, fl, ld, ms, 5⟩ line)) := by
  have Hc := hid (counted5_any w0 b nm sup ifs fl ld ms line w hI hl hm he hms hmn)
  generalize stepL ⟨nm, sup, ifs, fl, ld, ms, 5⟩ line = O at Hc ⊢
  obtain ⟨vi, vm, cs, hB, hL, hb, hU⟩ := hI
  have c6 := hB.cell 6
  have hlt := hB.lt
  simp [rdCells] at c6
  clear hB hL hU hm
  go_enter Tryz.func105, Tryz.ntmps105
  go_wp2_with fail
  refine Hc.out.mono ?_
  intro e w1 hp
  cases O with
  | none =>
    obtain ⟨rfl, hU1⟩ := hp
    have HU1 := hid hU1
    clear hU1
    go_wp2
    go_ret
    exact ⟨rfl, HU1.out⟩
  | some r' =>
    obtain ⟨rfl, hR⟩ := hp
    have HR := hid hR
    clear hR
    go_wp2
    go_ret
    exact ⟨rfl, HR.out⟩

set_option maxHeartbeats 4000000 in
set_option maxRecDepth 100000 in
theorem line6_any (w0 : World) (b : Nat) (nm sup : List UInt8) (ifs : List (List UInt8)) (fl ld : Int) (ms : List MethS) (line : List UInt8) (w : World) (hI : RInv w0 b ⟨nm, sup, ifs, fl, ld, ms, 6⟩ w) (hl : line.length ≤ 40000) (hm : Rdy w) (he : ErrsAt w) (hms : 1 ≤ ms.length) (hmn : ms.length ≤ 1000000) :
    Calls Tryz.prog 105 #[.pointer (some ⟨b, 0, none⟩), .string (bs line)] w (stepPost w0 b (stepL ⟨nm, sup, ifs, fl, ld, ms, 6⟩ line)) := by
  have Hc := hid (counted6_any w0 b nm sup ifs fl ld ms line w hI hl hm he hms hmn)
  generalize stepL ⟨nm, sup, ifs, fl, ld, ms, 6⟩ line = O at Hc ⊢
  obtain ⟨vi, vm, cs, hB, hL, hb, hU⟩ := hI
  have c6 := hB.cell 6
  have hlt := hB.lt
  simp [rdCells] at c6
  clear hB hL hU hm
  go_enter Tryz.func105, Tryz.ntmps105
  go_wp2_with fail
  refine Hc.out.mono ?_
  intro e w1 hp
  cases O with
  | none =>
    obtain ⟨rfl, hU1⟩ := hp
    have HU1 := hid hU1
    clear hU1
    go_wp2
    go_ret
    exact ⟨rfl, HU1.out⟩
  | some r' =>
    obtain ⟨rfl, hR⟩ := hp
    have HR := hid hR
    clear hR
    go_wp2
    go_ret
    exact ⟨rfl, HR.out⟩

set_option maxHeartbeats 4000000 in
set_option maxRecDepth 100000 in
theorem line4_any (w0 : World) (b : Nat) (nm sup : List UInt8) (ifs : List (List UInt8)) (fl ld : Int) (ms : List MethS) (line : List UInt8) (w : World) (hI : RInv w0 b ⟨nm, sup, ifs, fl, ld, ms, 4⟩ w) (hl : line.length ≤ 40000) (hm : Rdy w) (hmn : ms.length ≤ 1000000) :
    Calls Tryz.prog 105 #[.pointer (some ⟨b, 0, none⟩), .string (bs line)] w (stepPost w0 b (stepL ⟨nm, sup, ifs, fl, ld, ms, 4⟩ line)) := by
  have Hc := hid (body4_any w0 b nm sup ifs fl ld ms line w hI hl hm hmn)
  generalize stepL ⟨nm, sup, ifs, fl, ld, ms, 4⟩ line = O at Hc ⊢
  obtain ⟨vi, vm, cs, hB, hL, hb, hU⟩ := hI
  have c6 := hB.cell 6
  have hlt := hB.lt
  simp [rdCells] at c6
  clear hB hL hU hm
  go_enter Tryz.func105, Tryz.ntmps105
  go_wp2_with fail
  refine Hc.out.mono ?_
  intro e w1 hp
  cases O with
  | none =>
    obtain ⟨rfl, hU1⟩ := hp
    have HU1 := hid hU1
    clear hU1
    go_wp2
    go_ret
    exact ⟨rfl, HU1.out⟩
  | some r' =>
    obtain ⟨rfl, hR⟩ := hp
    have HR := hid hR
    clear hR
    go_wp2
    go_ret
    exact ⟨rfl, HR.out⟩

set_option maxHeartbeats 4000000 in
set_option maxRecDepth 100000 in
theorem line7_any (w0 : World) (b : Nat) (nm sup : List UInt8) (ifs : List (List UInt8)) (fl ld : Int) (ms : List MethS) (line : List UInt8) (w : World) (hI : RInv w0 b ⟨nm, sup, ifs, fl, ld, ms, 7⟩ w) (hl : line.length ≤ 40000) (hm : Rdy w) (he : ErrsAt w) (hms : 1 ≤ ms.length) (hmn : ms.length ≤ 1000000) (hcd : (codeOf ms (ms.length - 1)).length ≤ 1000000) :
    Calls Tryz.prog 105 #[.pointer (some ⟨b, 0, none⟩), .string (bs line)] w (stepPost w0 b (stepL ⟨nm, sup, ifs, fl, ld, ms, 7⟩ line)) := by
  have Hc := hid (body7_any w0 b nm sup ifs fl ld ms line w hI hl hm he hms hmn hcd)
  generalize stepL ⟨nm, sup, ifs, fl, ld, ms, 7⟩ line = O at Hc ⊢
  obtain ⟨vi, vm, cs, hB, hL, hb, hU⟩ := hI
  have c6 := hB.cell 6
  have hlt := hB.lt
  simp [rdCells] at c6
  clear hB hL hU hm
  go_enter Tryz.func105, Tryz.ntmps105
  go_wp2_with fail
  refine Hc.out.mono ?_
  intro e w1 hp
  cases O with
  | none =>
    obtain ⟨rfl, hU1⟩ := hp
    have HU1 := hid hU1
    clear hU1
    go_wp2
    go_ret
    exact ⟨rfl, HU1.out⟩
  | some r' =>
    obtain ⟨rfl, hR⟩ := hp
    have HR := hid hR
    clear hR
    go_wp2
    go_ret
    exact ⟨rfl, HR.out⟩

set_option maxHeartbeats 4000000 in
set_option maxRecDepth 100000 in
theorem line8_any (w0 : World) (b : Nat) (nm sup : List UInt8) (ifs : List (List UInt8)) (fl ld : Int) (ms : List MethS) (line : List UInt8) (w : World) (hI : RInv w0 b ⟨nm, sup, ifs, fl, ld, ms, 8⟩ w) :
    Calls Tryz.prog 105 #[.pointer (some ⟨b, 0, none⟩), .string (bs line)] w (stepPost w0 b (stepL ⟨nm, sup, ifs, fl, ld, ms, 8⟩ line)) := by
  show Calls _ _ _ _ (stepPost w0 b none)
  obtain ⟨vi, vm, cs, hB, hL, hb, hU⟩ := hI
  have c6 := hB.cell 6
  have f6 := hB.frozen 6
  have hlt := hB.lt
  simp [rdCells] at c6
  have HU := hid hU
  have HB := hid hB
  have HL := hid hL
  clear hB hL hU
  go_enter Tryz.func105, Tryz.ntmps105
  go_wp2
  go_ret
  exact ⟨rfl, HU.out.setCell (p := ⟨b, 6, none⟩) (.inr hb) _, rdBad_of (r := ⟨nm, sup, ifs, fl, ld, ms, 9⟩) (HB.out.set_ 6 (.int .i64 9)) HL.out⟩

/-- What holds of a reader that has read k lines. -/
structure RdS.wf (r : RdS) (k : Nat) : Prop where
  ifs : r.ifs.length ≤ k
  ms : r.ms.length ≤ k
  code : ∀ m, m ∈ r.ms → m.code.length ≤ k
  st : r.st ≤ 8
  has : r.st = 5 ∨ r.st = 6 ∨ r.st = 7 → 1 ≤ r.ms.length
theorem wf0 : rd0.wf 0 := ⟨Nat.le_refl _, Nat.le_refl _, (fun m h => by cases h), Nat.zero_le _, (fun h => by rcases h with h | h | h <;> cases h)⟩
theorem codeOf_le {ms : List MethS} {k : Nat} (h : ∀ m, m ∈ ms → m.code.length ≤ k) (i : Nat) : (codeOf ms i).length ≤ k := by
  unfold codeOf
  cases hm : ms[i]? with
  | none => simp
  | some m => simpa using h m (List.mem_of_getElem? hm)
theorem lineAt_any (w0 : World) (b : Nat) (r : RdS) (k : Nat) (line : List UInt8) (w : World) (hI : RInv w0 b r w) (hw : r.wf k) (hk : k ≤ 1000000) (hl : line.length ≤ 40000) (hm : Rdy w) (he : ErrsAt w) :
    Calls Tryz.prog 105 #[.pointer (some ⟨b, 0, none⟩), .string (bs line)] w (stepPost w0 b (stepL r line)) := by
  obtain ⟨h1, h2, h3, h4, h5⟩ := hw
  have hc := codeOf_le h3 (r.ms.length - 1)
  obtain ⟨nm, sup, ifs, fl, ld, ms, st⟩ := r
  simp only at h1 h2 h3 h4 h5 hc
  match st, h4, h5, hI with
  | 0, _, _, hI => exact line0_any w0 b nm sup ifs fl ld ms line w hI hl
  | 1, _, _, hI => exact line1_any w0 b nm sup ifs fl ld ms line w hI hl
  | 2, _, _, hI => exact line2_any w0 b nm sup ifs fl ld ms line w hI hl (by omega)
  | 3, _, _, hI => exact line3_any w0 b nm sup ifs fl ld ms line w hI hl hm he
  | 4, _, _, hI => exact line4_any w0 b nm sup ifs fl ld ms line w hI hl hm (by omega)
  | 5, _, h5, hI => exact line5_any w0 b nm sup ifs fl ld ms line w hI hl hm he (h5 (.inl rfl)) (by omega)
  | 6, _, h5, hI => exact line6_any w0 b nm sup ifs fl ld ms line w hI hl hm he (h5 (.inr (.inl rfl))) (by omega)
  | 7, _, h5, hI => exact line7_any w0 b nm sup ifs fl ld ms line w hI hl hm he (h5 (.inr (.inr rfl))) (by omega) (by omega)
  | 8, _, _, hI => exact line8_any w0 b nm sup ifs fl ld ms line w hI
  | n + 9, h, _, _ => exact absurd h (by omega)

theorem wf_modify {ms : List MethS} {k : Nat} (h : ∀ m, m ∈ ms → m.code.length ≤ k) (i : Nat) (f : MethS → MethS) (hf : ∀ m, (f m).code.length ≤ m.code.length + 1) : ∀ m, m ∈ ms.modify i f → m.code.length ≤ k + 1 := by
  intro m hm
  obtain ⟨j, hj, rfl⟩ := List.getElem_of_mem hm
  have hj' : j < ms.length := by simpa using hj
  rw [List.getElem_modify]
  have h1 := h _ (List.getElem_mem hj')
  split
  · have := hf ms[j]; omega
  · omega
theorem step_wf {r r' : RdS} {k : Nat} {line : List UInt8} (hw : r.wf k) (h : stepL r line = some r') : r'.wf (k + 1) := by
  obtain ⟨h1, h2, h3, h4, h5⟩ := hw
  obtain ⟨nm, sup, ifs, fl, ld, ms, st⟩ := r
  simp only at h1 h2 h3 h4 h5
  have h3' : ∀ m, m ∈ ms → m.code.length ≤ k + 1 := fun m hm => Nat.le_succ_of_le (h3 m hm)
  have h6 : ∀ m : MethS, m.code = [] → ∀ x, x ∈ ms ++ [m] → x.code.length ≤ k + 1 := fun m hm x hx => by
    rcases List.mem_append.1 hx with hx | hx
    · exact h3' x hx
    · simp only [List.mem_singleton] at hx
      rw [hx, hm]
      simp
  have hbc : ∀ ps m, beginP ps = some m → m.code = [] := fun ps m hb => by
    unfold beginP at hb
    split at hb
    · split at hb
      · cases hf : flagsP 1055 _ with
        | none => rw [hf] at hb; cases hb
        | some f => rw [hf] at hb; cases hb; rfl
      · cases hb
    · cases hb
  unfold stepL at h
  split at h
  · obtain ⟨s, -, rfl⟩ := Option.map_eq_some_iff.1 h
    exact ⟨Nat.le_succ_of_le h1, Nat.le_succ_of_le h2, h3', (Nat.le_of_ble_eq_true rfl), (fun h => by rcases h with h | h | h <;> cases h)⟩
  · obtain ⟨s, -, rfl⟩ := Option.map_eq_some_iff.1 h
    exact ⟨Nat.le_succ_of_le h1, Nat.le_succ_of_le h2, h3', (Nat.le_of_ble_eq_true rfl), (fun h => by rcases h with h | h | h <;> cases h)⟩
  · rename_i hst
    simp only at hst
    split at h
    · cases h
      exact ⟨(by show (ifs ++ [_]).length ≤ _; simp; omega), Nat.le_succ_of_le h2, h3', h4, fun h => by
        have hh : st = 5 ∨ st = 6 ∨ st = 7 := h
        omega⟩
    · obtain ⟨s, -, rfl⟩ := Option.map_eq_some_iff.1 h
      exact ⟨Nat.le_succ_of_le h1, Nat.le_succ_of_le h2, h3', (Nat.le_of_ble_eq_true rfl), (fun h => by rcases h with h | h | h <;> cases h)⟩
  · obtain ⟨s, -, rfl⟩ := Option.map_eq_some_iff.1 h
    exact ⟨Nat.le_succ_of_le h1, Nat.le_succ_of_le h2, h3', (Nat.le_of_ble_eq_true rfl), (fun h => by rcases h with h | h | h <;> cases h)⟩
  · split at h
    · cases h
      exact ⟨Nat.le_succ_of_le h1, Nat.le_succ_of_le h2, h3', (Nat.le_of_ble_eq_true rfl), (fun h => by rcases h with h | h | h <;> cases h)⟩
    · obtain ⟨m, hm, rfl⟩ := Option.map_eq_some_iff.1 h
      exact ⟨Nat.le_succ_of_le h1, (by show (ms ++ [m]).length ≤ _; simp; omega), h6 m (hbc _ _ hm), (Nat.le_of_ble_eq_true rfl), fun _ => by show 1 ≤ (ms ++ [m]).length; simp⟩
  · rename_i hst
    simp only at hst
    obtain ⟨n, -, rfl⟩ := Option.map_eq_some_iff.1 h
    exact ⟨Nat.le_succ_of_le h1, (by show (ms.modify _ _).length ≤ _; simp; omega), wf_modify h3 _ _ (fun m => Nat.le_succ _), (Nat.le_of_ble_eq_true rfl), fun _ => by show 1 ≤ (ms.modify _ _).length; rw [List.length_modify]; exact h5 (by omega)⟩
  · rename_i hst
    simp only at hst
    obtain ⟨n, -, rfl⟩ := Option.map_eq_some_iff.1 h
    exact ⟨Nat.le_succ_of_le h1, (by show (ms.modify _ _).length ≤ _; simp; omega), wf_modify h3 _ _ (fun m => Nat.le_succ _), (Nat.le_of_ble_eq_true rfl), fun _ => by show 1 ≤ (ms.modify _ _).length; rw [List.length_modify]; exact h5 (by omega)⟩
  · rename_i hst
    simp only at hst
    split at h
    · cases h
      exact ⟨Nat.le_succ_of_le h1, Nat.le_succ_of_le h2, h3', (Nat.le_of_ble_eq_true rfl), (fun h => by rcases h with h | h | h <;> cases h)⟩
    · split at h
      · rename_i m hm
        cases h
        exact ⟨Nat.le_succ_of_le h1, (by show (ms ++ [m]).length ≤ _; simp; omega), h6 m (hbc _ _ hm), (Nat.le_of_ble_eq_true rfl), fun _ => by show 1 ≤ (ms ++ [m]).length; simp⟩
      · split at h
        · cases h
          exact ⟨Nat.le_succ_of_le h1, (by show (ms.modify _ _).length ≤ _; simp; omega), wf_modify h3 _ _ (fun m => by simp), h4, fun _ => by show 1 ≤ (ms.modify _ _).length; rw [List.length_modify]; exact h5 (by omega)⟩
        · cases h
  · cases h
end Go.Proofs.YtfpdeiefkimaaaaGreatDoor
/-
  Package shapes' read, walked.
-/
set_option linter.unusedSimpArgs false
set_option linter.unusedVariables false
namespace Go.Proofs.YtfpdeiefkimaaaaGreatDoor
open Go.RowKit Go.Sort

def strLen : Value → Nat
  | .string s => s.size
  | _ => 0
theorem strLen_bs (l : List UInt8) : strLen (.string (bs l)) = l.length := bs_size l
def readRel (l : List UInt8) (wA : World) (b : Nat) (ts tn : Value) (wr : World) : Prop :=
  ∃ (l' : List UInt8) (n : Nat) (r : RdS), ts = .string (bs l') ∧ tn = .int .i64 n ∧ 1 ≤ n ∧ n + l'.length ≤ 1 + l.length ∧ r.wf (n - 1) ∧ Hid (readL rd0 (splitL 10 l) 1 = readL r (splitL 10 l') n) ∧ RInv wA b r wr
/-- The error that names line n. -/
def FaultAt (w : World) (n : Nat) (ev : Value) : Prop := ∃ rb fb, ev = .iface 152 (.pointer (some ⟨rb, 0, none⟩)) ∧ Blk w rb 154 #[.iface 107 (.pointer (some ⟨fb, 0, none⟩))] ∧ Blk w fb 111 #[.int .i64 n]
def readOutPost (l : List UInt8) (w : World) (e : Ending) (w' : World) : Prop :=
  match readL rd0 (splitL 10 l) 1 with
  | .inl r => ∃ vi vm cs, e = .returned (.tuple #[.agg #[.string (bs r.nm), .string (bs r.sup), vi, .int .i64 r.fl, .int .i64 r.ld, vm], .nilIface]) ∧ Lists w' w.heap.size r vi vm cs ∧ Upd w w' []
  | .inr n => ∃ s0 s1 A1 n1 c1 f1 d1 A2 n2 c2 ev, e = .returned (.tuple #[.agg #[.string s0, .string s1, .slice A1 n1 c1, .int .i64 f1, .int .i64 d1, .slice A2 n2 c2], ev]) ∧ FaultAt w' n ev ∧ Upd w w' []

theorem ne_sc : 9 ≠ 46 := by decide
theorem ne_mc : 86 ≠ 46 := by decide
theorem ne_ic : 90 ≠ 46 := by decide
theorem Lists.mono {w : World} {n0 n1 : Nat} {r : RdS} {vi vm : Value} {cs : List Value} (h : Lists w n0 r vi vm cs) (hn : n1 ≤ n0) : Lists w n1 r vi vm cs :=
  ⟨h.len, h.oi, h.om, h.oc, fun k hk => Nat.le_trans hn (h.bi k hk), fun k hk => Nat.le_trans hn (h.bm k hk), fun i hi k hk => Nat.le_trans hn (h.bc i hi k hk), h.dis⟩

set_option maxHeartbeats 8000000 in
set_option maxRecDepth 100000 in
theorem readCls_any (l : List UInt8) (w : World) (hl : l.length ≤ 40000) (hm : Rdy w) (he : ErrsAt w) :
    Calls Tryz.prog 56 #[.string (bs l)] w (readOutPost l w) := by
  have HM := hid hm
  have HE := hid he
  obtain ⟨O, hO⟩ : ∃ O, readL rd0 (splitL 10 l) 1 = O := ⟨_, rfl⟩
  unfold readOutPost
  rw [hO]
  have HO := hid hO
  clear hm he hO
  go_enter Tryz.func56, Tryz.ntmps56
  go_wp2
  obtain ⟨wA, hwA⟩ : ∃ x, x = w.alloc (.cells #[.string ⟨#[]⟩, .string ⟨#[]⟩, .slice none 0 0, .int .i64 0, .int .i64 0, .slice none 0 0] 46) := ⟨_, rfl⟩
  have HC := hid (show Blk wA w.heap.size 46 #[.string ⟨#[]⟩, .string ⟨#[]⟩, .slice none 0 0, .int .i64 0, .int .i64 0, .slice none 0 0] by rw [hwA]; exact Blk.new _ _ _)
  have HUA := hid (show Upd w wA [] by rw [hwA]; exact (Upd.refl _ _).alloc _)
  have hsA : wA.heap.size = w.heap.size + 1 := by rw [hwA]; simp
  have hBA := Blk.new wA 149 #[.string ⟨#[]⟩, .string ⟨#[]⟩, .slice none 0 0, .int .i64 0, .int .i64 0, .slice none 0 0, .int .i64 0]
  have hI0 : RInv wA (w.heap.size + 1) rd0 (wA.alloc (.cells #[.string ⟨#[]⟩, .string ⟨#[]⟩, .slice none 0 0, .int .i64 0, .int .i64 0, .slice none 0 0, .int .i64 0] 149)) := ⟨.slice none 0 0, .slice none 0 0, [], by rw [hsA] at hBA; exact hBA, Lists.start _ _ _ rfl rfl, by omega, (Upd.refl _ _).alloc _⟩
  rw [← hwA]
  clear hBA hwA
  revert hI0
  generalize wA.alloc (.cells #[.string ⟨#[]⟩, .string ⟨#[]⟩, .slice none 0 0, .int .i64 0, .int .i64 0, .slice none 0 0, .int .i64 0] 149) = w1
  intro hI0
  go_loopw [0, 5] (fun ts tn wr => readRel l wA (w.heap.size + 1) ts tn wr) (fun ts _ _ => strLen ts)
  case atStart => exact ⟨l, 1, rd0, rfl, rfl, Nat.le_refl _, Nat.le_refl _, wf0, hid rfl, hI0⟩
  case round =>
    obtain ⟨l', n, r, rfl, rfl, hn1, hnl, hwf, hRL, hI⟩ := hrel
    have HI := hid hI
    obtain ⟨vi, vm, cs, hB, hL, hb, hU⟩ := hI
    have c6 := hB.cell 6
    have hlt := hB.lt
    simp [rdCells] at c6
    have HB := hid hB
    have HL := hid hL
    have HU := hid hU
    have HUw := hid (HUA.out.trans hU)
    have HMr := hid (HM.out.upd (HUA.out.trans hU))
    have HEr := hid (HE.out.upd (HUA.out.trans hU))
    clear hB hL hU hI0
    by_cases hdone : l' = [] ∧ r.st = 8
    · have he1 : ((bs l').toList != []) = false := by rw [bs_toList, hdone.1]; rfl
      have he2 : (bs l').toList.isEmpty = true := by rw [bs_toList, hdone.1]; rfl
      have he3 : (bs l').toList = [] := by rw [bs_toList, hdone.1]
      have hst8 : ((r.st : Int) != 8) = false := by rw [hdone.2]; rfl
      have hst9 : (r.st : Int) = 8 := by rw [hdone.2]; rfl
      have hOn : O = .inl r := by
        rw [← HO.out, hRL.out, hdone.1]
        show (if ([] : List UInt8) = [] ∧ r.st = 8 then _ else _) = _
        rw [if_pos ⟨rfl, hdone.2⟩]
      subst hOn
      clear hdone hRL hwf HO
      have HCx := hid (HU.out.blk HC.out (by simp))
      have HUx := HUw
      obtain ⟨A1, cc1, rfl, -, -⟩ := own_slice HL.out.oi
      obtain ⟨A2, cc2, rfl, -, -⟩ := own_slice HL.out.om
      have k0 := HB.out.cell 0
      have k1 := HB.out.cell 1
      have k2 := HB.out.cell 2
      have k3 := HB.out.cell 3
      have k4 := HB.out.cell 4
      have k5 := HB.out.cell 5
      simp [rdCells] at k0 k1 k2 k3 k4 k5
      have z0 := HCx.out.cell 0
      have z1 := HCx.out.cell 1
      have z2 := HCx.out.cell 2
      have z3 := HCx.out.cell 3
      have z4 := HCx.out.cell 4
      have z5 := HCx.out.cell 5
      have v0 := HCx.out.frozen 0
      have v1 := HCx.out.frozen 1
      have v2 := HCx.out.frozen 2
      have v3 := HCx.out.frozen 3
      have v4 := HCx.out.frozen 4
      have v5 := HCx.out.frozen 5
      have hltc := HCx.out.lt
      simp at z0 z1 z2 z3 z4 z5
      go_wp2
      have HCf := hid (((((((HCx.out.set_ 0 (.string (bs r.nm))).set_ 1 (.string (bs r.sup))).set_ 2 (.slice A1 r.ifs.length cc1)).set_ 3 (.int .i64 r.fl)).set_ 4 (.int .i64 r.ld)).set_ 5 (.slice A2 r.ms.length cc2)))
      have g0 := HCf.out.cell 0
      have g1 := HCf.out.cell 1
      have g2 := HCf.out.cell 2
      have g3 := HCf.out.cell 3
      have g4 := HCf.out.cell 4
      have g5 := HCf.out.cell 5
      simp at g0 g1 g2 g3 g4 g5
      have hUf := ((((((HUx.out.setCell (p := ⟨w.heap.size, 0, none⟩) (.inr (Nat.le_refl _)) (.string (bs r.nm))).setCell (p := ⟨w.heap.size, 1, none⟩) (.inr (Nat.le_refl _)) (.string (bs r.sup))).setCell (p := ⟨w.heap.size, 2, none⟩) (.inr (Nat.le_refl _)) (.slice A1 r.ifs.length cc1)).setCell (p := ⟨w.heap.size, 3, none⟩) (.inr (Nat.le_refl _)) (.int .i64 r.fl)).setCell (p := ⟨w.heap.size, 4, none⟩) (.inr (Nat.le_refl _)) (.int .i64 r.ld)).setCell (p := ⟨w.heap.size, 5, none⟩) (.inr (Nat.le_refl _)) (.slice A2 r.ms.length cc2))
      have hL0 := HL.out.mono (n1 := w.heap.size) (by omega)
      refine bodyPost_ret (v := .tuple #[.agg #[.string (bs r.nm), .string (bs r.sup), .slice A1 r.ifs.length cc1, .int .i64 r.fl, .int .i64 r.ld, .slice A2 r.ms.length cc2], .nilIface]) (by simp [results, Tryz.results56, go_sem, g0, g1, g2, g3, g4, g5]) rfl ?_
      exact ⟨_, _, rfl, ⟨cs, ((((((hL0.far HCx.out ne_sc ne_mc ne_ic 0 (.string (bs r.nm))).far (HCx.out.set_ 0 (.string (bs r.nm))) ne_sc ne_mc ne_ic 1 (.string (bs r.sup))).far ((HCx.out.set_ 0 (.string (bs r.nm))).set_ 1 (.string (bs r.sup))) ne_sc ne_mc ne_ic 2 (.slice A1 r.ifs.length cc1)).far (((HCx.out.set_ 0 (.string (bs r.nm))).set_ 1 (.string (bs r.sup))).set_ 2 (.slice A1 r.ifs.length cc1)) ne_sc ne_mc ne_ic 3 (.int .i64 r.fl)).far ((((HCx.out.set_ 0 (.string (bs r.nm))).set_ 1 (.string (bs r.sup))).set_ 2 (.slice A1 r.ifs.length cc1)).set_ 3 (.int .i64 r.fl)) ne_sc ne_mc ne_ic 4 (.int .i64 r.ld)).far (((((HCx.out.set_ 0 (.string (bs r.nm))).set_ 1 (.string (bs r.sup))).set_ 2 (.slice A1 r.ifs.length cc1)).set_ 3 (.int .i64 r.fl)).set_ 4 (.int .i64 r.ld)) ne_sc ne_mc ne_ic 5 (.slice A2 r.ms.length cc2))⟩, hUf⟩
    · have hg1 : Hid (((bs l').toList != []) = false → ((r.st : Int) != 8) = true) := hid (fun h => by
        rw [bs_toList] at h
        have h1 : l' = [] := by simpa using h
        exact bne_iff_ne.2 (fun e => hdone ⟨h1, by omega⟩))
      have Hct := fun w hm => hid (cut1_any 10 l' w (by omega) hm)
      by_cases h10 : (10 : UInt8) ∈ l'
      · obtain ⟨a, t, rfl, ha⟩ := List.eq_append_cons_of_mem h10
        have hco : cutO 10 (a ++ 10 :: t) = (a, t, true) := by unfold cutO; rw [cutL_cut 10 a t ha]
        rw [hco] at Hct
        simp only at Hct
        have hlen : a.length + 1 + t.length + n ≤ 1 + l.length := by simp at hnl; omega
        have Hli := fun w2 (u : Upd wr w2 []) hm he => hid (lineAt_any wA (w.heap.size + 1) r (n - 1) a w2 (HI.out.upd u) hwf (by omega) (by omega) hm he)
        have hsp : splitL 10 (a ++ 10 :: t) = a :: splitL 10 t := splitL_cut 10 a t ha
        have he1 : ((bs (a ++ 10 :: t)).toList != []) = true := by rw [bs_toList, bne_iff_ne]; simp
        have he2 : (bs (a ++ 10 :: t)).toList.isEmpty = false := by rw [bs_toList]; cases a <;> rfl
        have he3 : ¬ (bs (a ++ 10 :: t)).toList = [] := by rw [bs_toList]; simp
        have hne := splitL_ne 10 t
        have hRL2 : Hid (readL rd0 (splitL 10 l) 1 = match stepL r a with
          | none => .inr n
          | some r' => readL r' (splitL 10 t) (n + 1)) := hid (by
          rw [hRL.out, hsp]
          cases hs : splitL 10 t with
          | nil => exact absurd hs hne
          | cons y u => rfl)
        have Hlen := hid hlen
        have Hwf := hid hwf
        have hml := strLen_bs (a ++ 10 :: t)
        have Hml := hid (show strLen (.string (bs (a ++ 10 :: t))) = a.length + 1 + t.length by rw [hml]; simp; omega)
        clear hco h10 hdone hg1 hsp hne hnl hlen hml ha hRL
        generalize bs (a ++ 10 :: t) = sv at *
        have hwrap : wrap64 ((n : Int) + 1) = (n : Int) + 1 := by
          have := Hlen.out
          unfold wrap64
          omega
        go_wp2_with fail
        refine (Hct _ HMr.out.max).out.mono ?_
        rintro e w2 ⟨rfl, hU2⟩
        have HU2 := hid hU2
        have HMx := hid (HMr.out.upd hU2)
        have HEx := hid (HEr.out.upd hU2)
        clear hU2 c6
        go_wp2_with fail
        refine (Hli _ HU2.out HMx.out HEx.out).out.mono ?_
        intro e w3 hp
        cases hs : stepL r a with
        | none =>
          rw [hs] at hp
          obtain ⟨rfl, hU3, hbad⟩ := hp
          have hOn : O = .inr n := by rw [← HO.out, hRL2.out, hs]
          subst hOn
          have HCx := hid (hU3.blk HC.out (by simp))
          have HUx := hid (HUA.out.trans hU3)
          have HN := hid (show n ≤ 40001 by have := Hlen.out; omega)
          clear hs hU3 HO hRL2 hwf
          obtain ⟨s0, s1, A1, n1, c1, f1, d1, A2, n2, c2, st1, hBx⟩ := hbad
          have HBx := hid hBx
          clear hBx
          have k0 := HBx.out.cell 0
          have k1 := HBx.out.cell 1
          have k2 := HBx.out.cell 2
          have k3 := HBx.out.cell 3
          have k4 := HBx.out.cell 4
          have k5 := HBx.out.cell 5
          have hltx := HBx.out.lt
          simp at k0 k1 k2 k3 k4 k5
          have z0 := HCx.out.cell 0
          have z1 := HCx.out.cell 1
          have z2 := HCx.out.cell 2
          have z3 := HCx.out.cell 3
          have z4 := HCx.out.cell 4
          have z5 := HCx.out.cell 5
          have v0 := HCx.out.frozen 0
          have v1 := HCx.out.frozen 1
          have v2 := HCx.out.frozen 2
          have v3 := HCx.out.frozen 3
          have v4 := HCx.out.frozen 4
          have v5 := HCx.out.frozen 5
          have hltc := HCx.out.lt
          simp at z0 z1 z2 z3 z4 z5
          go_wp2
          have HCf := hid (((((((((HCx.out.set_ 0 (.string s0)).set_ 1 (.string s1)).set_ 2 (.slice A1 n1 c1)).set_ 3 (.int .i64 f1)).set_ 4 (.int .i64 d1)).set_ 5 (.slice A2 n2 c2))).alloc (.cells #[.int .i64 (n : Int)] 111)).alloc (.cells #[.iface 107 (.pointer (some ⟨w3.heap.size, 0, none⟩))] 154))
          have g0 := HCf.out.cell 0
          have g1 := HCf.out.cell 1
          have g2 := HCf.out.cell 2
          have g3 := HCf.out.cell 3
          have g4 := HCf.out.cell 4
          have g5 := HCf.out.cell 5
          simp at g0 g1 g2 g3 g4 g5
          have hUf := (((((((((HUx.out.setCell (p := ⟨w.heap.size, 0, none⟩) (.inr (Nat.le_refl _)) (.string s0)).setCell (p := ⟨w.heap.size, 1, none⟩) (.inr (Nat.le_refl _)) (.string s1)).setCell (p := ⟨w.heap.size, 2, none⟩) (.inr (Nat.le_refl _)) (.slice A1 n1 c1)).setCell (p := ⟨w.heap.size, 3, none⟩) (.inr (Nat.le_refl _)) (.int .i64 f1)).setCell (p := ⟨w.heap.size, 4, none⟩) (.inr (Nat.le_refl _)) (.int .i64 d1)).setCell (p := ⟨w.heap.size, 5, none⟩) (.inr (Nat.le_refl _)) (.slice A2 n2 c2))).alloc (.cells #[.int .i64 (n : Int)] 111)).alloc (.cells #[.iface 107 (.pointer (some ⟨w3.heap.size, 0, none⟩))] 154))
          refine bodyPost_ret (v := .tuple #[.agg #[.string s0, .string s1, .slice A1 n1 c1, .int .i64 f1, .int .i64 d1, .slice A2 n2 c2], .iface 152 (.pointer (some ⟨w3.heap.size + 1, 0, none⟩))]) (by simp [results, Tryz.results56, go_sem, g0, g1, g2, g3, g4, g5]) rfl ?_
          exact ⟨_, _, _, _, _, _, _, _, _, _, _, rfl, ⟨_, _, rfl, Blk.new_at (by simp [World.setCell]), (Blk.new_at (by simp [World.setCell])).alloc _⟩, hUf⟩
        | some r' =>
          rw [hs] at hp
          obtain ⟨rfl, hR⟩ := hp
          have HR := hid hR
          have HRL3 : Hid (readL rd0 (splitL 10 l) 1 = readL r' (splitL 10 t) (n + 1)) := hid (by rw [hRL2.out, hs])
          have Hwf' := hid (step_wf Hwf.out hs)
          clear hs hR hRL2 hwf
          go_wp2
          go_roundw
          case rel => exact ⟨t, n + 1, r', rfl, by go_num, by omega, by have := Hlen.out; omega, by rw [show n + 1 - 1 = n - 1 + 1 by omega]; exact Hwf'.out, HRL3, HR.out⟩
          case measure =>
            rw [Hml.out, strLen_bs]
            omega
      · have hco : cutO 10 l' = (l', [], false) := by unfold cutO; rw [cutL_none 10 l' h10]
        rw [hco] at Hct
        simp only at Hct
        have hOn : O = .inr n := by
          rw [← HO.out, hRL.out, splitL_none 10 l' h10]
          show (if l' = [] ∧ r.st = 8 then _ else _) = _
          rw [if_neg hdone]
        subst hOn
        have HN := hid (show n ≤ 40001 by omega)
        clear hco h10 hRL hwf hnl hdone HO
        by_cases hnil : l' = []
        · have hst := hg1.out (by rw [bs_toList, hnil]; rfl)
          have he1 : ((bs l').toList != []) = false := by rw [bs_toList, hnil]; rfl
          have he2 : (bs l').toList.isEmpty = true := by rw [bs_toList, hnil]; rfl
          have he3 : (bs l').toList = [] := by rw [bs_toList, hnil]
          have hst2 : ¬ (r.st : Int) = 8 := by simpa using hst
          clear hg1 hnil
          go_wp2_with fail
          refine (Hct _ HMr.out.max).out.mono ?_
          rintro e w2 ⟨rfl, hU2⟩
          have HBx := hid (hU2.blk HB.out (by simp))
          have HCx := hid ((HU.out.trans hU2).blk HC.out (by simp))
          have HUx := hid (HUw.out.trans hU2)
          have hbad := rdBad_of HBx.out HL.out
          clear hU2 c6 HBx
          obtain ⟨s0, s1, A1, n1, c1, f1, d1, A2, n2, c2, st1, hBx⟩ := hbad
          have HBx := hid hBx
          clear hBx
          have k0 := HBx.out.cell 0
          have k1 := HBx.out.cell 1
          have k2 := HBx.out.cell 2
          have k3 := HBx.out.cell 3
          have k4 := HBx.out.cell 4
          have k5 := HBx.out.cell 5
          have hltx := HBx.out.lt
          simp at k0 k1 k2 k3 k4 k5
          have z0 := HCx.out.cell 0
          have z1 := HCx.out.cell 1
          have z2 := HCx.out.cell 2
          have z3 := HCx.out.cell 3
          have z4 := HCx.out.cell 4
          have z5 := HCx.out.cell 5
          have v0 := HCx.out.frozen 0
          have v1 := HCx.out.frozen 1
          have v2 := HCx.out.frozen 2
          have v3 := HCx.out.frozen 3
          have v4 := HCx.out.frozen 4
          have v5 := HCx.out.frozen 5
          have hltc := HCx.out.lt
          simp at z0 z1 z2 z3 z4 z5
          go_wp2
          have HCf := hid (((((((((HCx.out.set_ 0 (.string s0)).set_ 1 (.string s1)).set_ 2 (.slice A1 n1 c1)).set_ 3 (.int .i64 f1)).set_ 4 (.int .i64 d1)).set_ 5 (.slice A2 n2 c2))).alloc (.cells #[.int .i64 (n : Int)] 111)).alloc (.cells #[.iface 107 (.pointer (some ⟨w2.heap.size, 0, none⟩))] 154))
          have g0 := HCf.out.cell 0
          have g1 := HCf.out.cell 1
          have g2 := HCf.out.cell 2
          have g3 := HCf.out.cell 3
          have g4 := HCf.out.cell 4
          have g5 := HCf.out.cell 5
          simp at g0 g1 g2 g3 g4 g5
          have hUf := (((((((((HUx.out.setCell (p := ⟨w.heap.size, 0, none⟩) (.inr (Nat.le_refl _)) (.string s0)).setCell (p := ⟨w.heap.size, 1, none⟩) (.inr (Nat.le_refl _)) (.string s1)).setCell (p := ⟨w.heap.size, 2, none⟩) (.inr (Nat.le_refl _)) (.slice A1 n1 c1)).setCell (p := ⟨w.heap.size, 3, none⟩) (.inr (Nat.le_refl _)) (.int .i64 f1)).setCell (p := ⟨w.heap.size, 4, none⟩) (.inr (Nat.le_refl _)) (.int .i64 d1)).setCell (p := ⟨w.heap.size, 5, none⟩) (.inr (Nat.le_refl _)) (.slice A2 n2 c2))).alloc (.cells #[.int .i64 (n : Int)] 111)).alloc (.cells #[.iface 107 (.pointer (some ⟨w2.heap.size, 0, none⟩))] 154))
          refine bodyPost_ret (v := .tuple #[.agg #[.string s0, .string s1, .slice A1 n1 c1, .int .i64 f1, .int .i64 d1, .slice A2 n2 c2], .iface 152 (.pointer (some ⟨w2.heap.size + 1, 0, none⟩))]) (by simp [results, Tryz.results56, go_sem, g0, g1, g2, g3, g4, g5]) rfl ?_
          exact ⟨_, _, _, _, _, _, _, _, _, _, _, rfl, ⟨_, _, rfl, Blk.new_at (by simp [World.setCell]), (Blk.new_at (by simp [World.setCell])).alloc _⟩, hUf⟩
        · have he1 : ((bs l').toList != []) = true := by rw [bs_toList, bne_iff_ne]; exact hnil
          have he2 : (bs l').toList.isEmpty = false := (empty_no hnil).1
          have he3 : ¬ (bs l').toList = [] := (empty_no hnil).2.1
          clear hg1 hnil
          go_wp2_with fail
          refine (Hct _ HMr.out.max).out.mono ?_
          rintro e w2 ⟨rfl, hU2⟩
          have HBx := hid (hU2.blk HB.out (by simp))
          have HCx := hid ((HU.out.trans hU2).blk HC.out (by simp))
          have HUx := hid (HUw.out.trans hU2)
          have hbad := rdBad_of HBx.out HL.out
          clear hU2 c6 HBx
          obtain ⟨s0, s1, A1, n1, c1, f1, d1, A2, n2, c2, st1, hBx⟩ := hbad
          have HBx := hid hBx
          clear hBx
          have k0 := HBx.out.cell 0
          have k1 := HBx.out.cell 1
          have k2 := HBx.out.cell 2
          have k3 := HBx.out.cell 3
          have k4 := HBx.out.cell 4
          have k5 := HBx.out.cell 5
          have hltx := HBx.out.lt
          simp at k0 k1 k2 k3 k4 k5
          have z0 := HCx.out.cell 0
          have z1 := HCx.out.cell 1
          have z2 := HCx.out.cell 2
          have z3 := HCx.out.cell 3
          have z4 := HCx.out.cell 4
          have z5 := HCx.out.cell 5
          have v0 := HCx.out.frozen 0
          have v1 := HCx.out.frozen 1
          have v2 := HCx.out.frozen 2
          have v3 := HCx.out.frozen 3
          have v4 := HCx.out.frozen 4
          have v5 := HCx.out.frozen 5
          have hltc := HCx.out.lt
          simp at z0 z1 z2 z3 z4 z5
          go_wp2
          have HCf := hid (((((((((HCx.out.set_ 0 (.string s0)).set_ 1 (.string s1)).set_ 2 (.slice A1 n1 c1)).set_ 3 (.int .i64 f1)).set_ 4 (.int .i64 d1)).set_ 5 (.slice A2 n2 c2))).alloc (.cells #[.int .i64 (n : Int)] 111)).alloc (.cells #[.iface 107 (.pointer (some ⟨w2.heap.size, 0, none⟩))] 154))
          have g0 := HCf.out.cell 0
          have g1 := HCf.out.cell 1
          have g2 := HCf.out.cell 2
          have g3 := HCf.out.cell 3
          have g4 := HCf.out.cell 4
          have g5 := HCf.out.cell 5
          simp at g0 g1 g2 g3 g4 g5
          have hUf := (((((((((HUx.out.setCell (p := ⟨w.heap.size, 0, none⟩) (.inr (Nat.le_refl _)) (.string s0)).setCell (p := ⟨w.heap.size, 1, none⟩) (.inr (Nat.le_refl _)) (.string s1)).setCell (p := ⟨w.heap.size, 2, none⟩) (.inr (Nat.le_refl _)) (.slice A1 n1 c1)).setCell (p := ⟨w.heap.size, 3, none⟩) (.inr (Nat.le_refl _)) (.int .i64 f1)).setCell (p := ⟨w.heap.size, 4, none⟩) (.inr (Nat.le_refl _)) (.int .i64 d1)).setCell (p := ⟨w.heap.size, 5, none⟩) (.inr (Nat.le_refl _)) (.slice A2 n2 c2))).alloc (.cells #[.int .i64 (n : Int)] 111)).alloc (.cells #[.iface 107 (.pointer (some ⟨w2.heap.size, 0, none⟩))] 154))
          refine bodyPost_ret (v := .tuple #[.agg #[.string s0, .string s1, .slice A1 n1 c1, .int .i64 f1, .int .i64 d1, .slice A2 n2 c2], .iface 152 (.pointer (some ⟨w2.heap.size + 1, 0, none⟩))]) (by simp [results, Tryz.results56, go_sem, g0, g1, g2, g3, g4, g5]) rfl ?_
          exact ⟨_, _, _, _, _, _, _, _, _, _, _, rfl, ⟨_, _, rfl, Blk.new_at (by simp [World.setCell]), (Blk.new_at (by simp [World.setCell])).alloc _⟩, hUf⟩
end Go.Proofs.YtfpdeiefkimaaaaGreatDoor
