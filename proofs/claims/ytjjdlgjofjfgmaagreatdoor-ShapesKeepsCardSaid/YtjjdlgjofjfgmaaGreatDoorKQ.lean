/-
 The text of a class, line by line: what is read of it is written so again, and it is read as the class; plain laws. No program text.
-/
import Derived.Test.YtjjdlgjofjfgmaaGreatDoorKD
import Derived.Test.YtjjdlgjofjfgmaaGreatDoorKE
import Derived.Test.YtjjdlgjofjfgmaaGreatDoorKI
import Derived.Test.YtjjdlgjofjfgmaaGreatDoorKJ
import Derived.Test.YtjjdlgjofjfgmaaGreatDoorKN
set_option linter.unusedSimpArgs false
set_option linter.unusedVariables false
namespace Go.Proofs.YtjjdlgjofjfgmaaGreatDoor
open Go.RowKit
/-! ### Lines -/
def wd2 (a b : List UInt8) : List UInt8 := a ++ 32 :: b
def mHead (m : MethS) : List UInt8 := wordT (methB ++ m.nm ++ [32] ++ m.ds) (flagText m.fl 1055).1
def mLines (m : MethS) : List (List UInt8) := mHead m :: wd2 wLocals (Lib.itoa m.lo) :: wd2 wStack (Lib.itoa m.st) :: m.code.map InstL.text
def flLine (f : Int) : List UInt8 := wordT wFlags (flagText f 1585).1
def rHead (r : RdS) : List (List UInt8) := wd2 wClass r.nm :: wd2 wSuper r.sup :: r.ifs.map (wd2 wIface)
def rTop (r : RdS) : List (List UInt8) := rHead r ++ [flLine r.fl, wd2 wLoader (Lib.itoa r.ld)]
def rLines (r : RdS) : List (List UInt8) := rTop r ++ r.ms.flatMap mLines ++ [wEnd]
def ends (ls : List (List UInt8)) : List UInt8 := ls.flatMap fun x => x ++ [10]
/-! ### Line after line -/
def stepsL : RdS → List (List UInt8) → Option RdS
 | r, [] => some r
 | r, x :: t => (stepL r x).bind fun r' => stepsL r' t
/-! ### What each line says -/
/-! ### Flags -/
/-! ### What has been read, as lines -/
def lastM_ (ms : List MethS) (k : Nat) : List (List UInt8) := match ms.getLast? with
 | none => []
 | some m => (mLines m).take k
def preT (r : RdS) : List (List UInt8) :=
 match r.st with
 | 0 => []
 | 1 => [wd2 wClass r.nm]
 | 2 => rHead r
 | 3 => rHead r ++ [flLine r.fl]
 | 4 => rTop r
 | 5 => rTop r ++ (r.ms.dropLast.flatMap mLines ++ lastM_ r.ms 1)
 | 6 => rTop r ++ (r.ms.dropLast.flatMap mLines ++ lastM_ r.ms 2)
 | 7 => rTop r ++ r.ms.flatMap mLines
 | _ => rLines r
structure RdS.ord (r : RdS) : Prop where
 ifs : r.st ≤ 1 → r.ifs = []
 ms : r.st ≤ 4 → r.ms = []
 ne : 5 ≤ r.st → r.st ≤ 7 → r.ms ≠ []
 code : r.st = 5 ∨ r.st = 6 → ∀ m, r.ms.getLast? = some m → m.code = []
end Go.Proofs.YtjjdlgjofjfgmaaGreatDoor
/-
 A sound class's text is read as it; plain laws. No program text.
-/
set_option linter.unusedSimpArgs false
set_option linter.unusedVariables false
namespace Go.Proofs.YtjjdlgjofjfgmaaGreatDoor
open Go.RowKit
def word0 (l : List UInt8) : Prop := l ≠ [] ∧ ∀ b, b ∈ l → noWs b
structure MethS.snd (m : MethS) : Prop where
 nm : word0 m.nm
 ds : word0 m.ds
 fl : outF m.fl 1055 = false ∧ rng m.fl
 lo : 0 ≤ m.lo ∧ m.lo ≤ 40
 st : 0 ≤ m.st ∧ m.st ≤ 40
 code : ∀ i, i ∈ m.code → i.ok = true ∧ i.num
structure RdS.snd (r : RdS) : Prop where
 nm : word0 r.nm
 sup : word0 r.sup
 ifs : ∀ x, x ∈ r.ifs → word0 x
 fl : outF r.fl 1585 = false ∧ rng r.fl
 ld : 0 ≤ r.ld ∧ r.ld ≤ 9
 ms : ∀ m, m ∈ r.ms → m.snd
/-! ### No line holds an end of line -/
/-! ### A class in memory -/
def methSOf (m : MethL) : MethS := ⟨m.nm, m.ds, m.fl, m.lo, m.st, m.code⟩
def rdOf (c : ClassL) : RdS := ⟨c.nm, c.sup, c.ifs, c.fl, c.ld, c.ms.map methSOf, 8⟩
def slOf (m : MethL) : Value := .slice m.A m.code.length m.cap
theorem meths_of : ∀ ms : List MethL, List.zipWith methOf (ms.map methSOf) (ms.map slOf) = ms
 | [] => rfl
 | m :: t => by
  show methOf (methSOf m) (slOf m) :: List.zipWith methOf (t.map methSOf) (t.map slOf) = m :: t
  rw [meths_of t]
  rfl
theorem cls_of (c : ClassL) : clsOf (rdOf c) (.slice c.AI c.ifs.length c.cI) (.slice c.AM c.ms.length c.cM) (c.ms.map slOf) = c := by
 unfold clsOf rdOf
 show ClassL.mk _ _ _ _ _ _ _ _ _ (List.zipWith methOf (c.ms.map methSOf) (c.ms.map slOf)) = c
 rw [meths_of]
 rfl
theorem check_of (c : ClassL) : checkB (clsS (rdOf c)) = checkB c := by
 have := check_same (rdOf c) (.slice c.AI c.ifs.length c.cI) (.slice c.AM c.ms.length c.cM) (c.ms.map slOf) (by simp [rdOf])
 rw [cls_of] at this
 exact this.symm
theorem printMs_of : ∀ ms : List MethL, ((ms.map methSOf).map methS0).flatMap methT = ms.flatMap methT
 | [] => rfl
 | m :: t => by
  rw [List.map_cons, List.map_cons, List.flatMap_cons, List.flatMap_cons, printMs_of t]
  rfl
theorem print_of (c : ClassL) : printL (clsS (rdOf c)) = printL c := by
 show midT c ++ ((c.ms.map methSOf).map methS0).flatMap methT ++ lineT [endB] = _
 rw [printMs_of]
 rfl
end Go.Proofs.YtjjdlgjofjfgmaaGreatDoor
/-
 The document's Same at two classes of one content, walked. (Printed by gen_sameC.py.)
-/
set_option linter.unusedSimpArgs false
set_option linter.unusedVariables false
namespace Go.Proofs.YtjjdlgjofjfgmaaGreatDoor
open Go.RowKit Go.Sort
def eqRel (n : Nat) (w : World) (t : Value) (wr : World) : Prop := ∃ k : Nat, t = .int .i64 k ∧ k ≤ n ∧ Hid (Upd w wr [])
set_option maxHeartbeats 4000000 in
set_option maxRecDepth 100000 in
theorem sameTexts_any (A B : Option Addr) (c1 c2 : Nat) (l : List (List UInt8)) (w : World) (hA : StrsAt w A l) (hB : StrsAt w B l) (hl : l.length ≤ 9000000000000) :
  Calls Tryz.prog 71 #[.slice A l.length c1, .slice B l.length c2] w fun e w' => e = .returned (.bool true) ∧ Upd w w' [] := by
 have HA := hid hA
 have HB := hid hB
 clear hA hB
 go_enter Tryz.func71, Tryz.ntmps71
 go_wp2
 go_loopw [5] (fun t wr => eqRel l.length w t wr) (fun t _ => l.length - (intOf t).toNat)
 case atStart => exact ⟨0, rfl, Nat.zero_le _, hid (Upd.refl _ _)⟩
 case round =>
  obtain ⟨k, rfl, hk, HU⟩ := hrel
  by_cases hlt : k < l.length
  ·have hne : l ≠ [] := by rintro rfl; simp at hlt
   obtain ⟨b1, o1, rfl, hb1, hc1⟩ := HA.out hne
   obtain ⟨b2, o2, rfl, hb2, hc2⟩ := HB.out hne
   have hr1 : b1 < wr.heap.size := Nat.lt_of_lt_of_le hb1 HU.out.size
   have hr2 : b2 < wr.heap.size := Nat.lt_of_lt_of_le hb2 HU.out.size
   have x0 : wr.cell? ⟨b1, o1 + k, none⟩ = some (.string (bs l[k])) := by rw [HU.out.cells.1 _ _ hb1]; exact hc1 k hlt
   have y0 : wr.cell? ⟨b2, o2 + k, none⟩ = some (.string (bs l[k])) := by rw [HU.out.cells.1 _ _ hb2]; exact hc2 k hlt
   have HS := hid (show ∀ _ _ : Nat, True from fun _ _ => trivial)
   clear hc1 hc2 HA HB
   generalize l[k] = s at x0 y0
   have hss : ((bs s).toList == (bs s).toList) = true := by simp
   have k0 := cell_regrown x0
   have l0 := cell_regrown y0
   go_wp2
   refine wp_region_quiet_below (by kernel_rfl) (by kernel_rfl) ?_
   repeat (any_goals (first
    | go_big_quiet_step (exact HS.out _ _)
    | quiet_step (exact HS.out _ _)))
   refine wpQuiet_nil ?_
   intro _ hw'
   obtain ⟨⟨dq, osq⟩, hw''⟩ := hw'
   subst hw''
   have hV4 : Upd wr (grow (redrawn wr dq) osq) [] := Upd.of_below (below_regrown wr dq osq) []
   have hV5 := HU.out.trans hV4
   clear hV4
   revert hV5
   generalize grow (redrawn wr dq) osq = w4
   intro hV5
   go_wp2
   go_roundw
   case rel => exact ⟨k + 1, by go_num, by omega, hid hV5⟩
   case measure => simp [intOf]; omega
  ·obtain rfl : k = l.length := by omega
   go_wp2
   go_ret
   exact ⟨rfl, HU.out⟩
set_option maxHeartbeats 4000000 in
set_option maxRecDepth 100000 in
theorem sameMethod_any (nm ds : List UInt8) (fl lo st : Int) (A B : Option Addr) (c1 c2 : Nat) (code : List InstL) (w : World) (hA : InstsAt w A code) (hB : InstsAt w B code) (hl : code.length ≤ 2000000000000) :
  Calls Tryz.prog 72 #[(MethL.mk nm ds fl lo st A c1 code).v, (MethL.mk nm ds fl lo st B c2 code).v] w fun e w' => e = .returned (.bool true) ∧ Upd w w' [] := by
 have Hsc := hid (fun W (hU : Upd w W []) => hid (sameCode_any A B c1 c2 code W (hA.upd hU) (hB.upd hU) hl))
 have h1 : ((bs nm).toList == (bs nm).toList) = true := by simp
 have h2 : ((bs ds).toList == (bs ds).toList) = true := by simp
 have HU2 := hid (show Upd w ((w.alloc (.cells #[.string (bs nm), .string (bs ds), .int .i64 fl, .int .i64 lo, .int .i64 st, .slice A code.length c1] 34)).alloc (.cells #[.string (bs nm), .string (bs ds), .int .i64 fl, .int .i64 lo, .int .i64 st, .slice B code.length c2] 34)) [] from ((Upd.refl _ _).alloc _).alloc _)
 clear hA hB
 unfold MethL.v MethL.cells
 simp only
 go_enter Tryz.func72, Tryz.ntmps72
 go_wp2_with fail
 refine (Hsc.out _ HU2.out).out.mono ?_
 rintro e w3 ⟨rfl, hU3⟩
 have HU3 := hid (HU2.out.trans hU3)
 clear hU3 Hsc
 go_wp2
 go_ret
 exact ⟨rfl, HU3.out⟩
theorem rd_parts {c d : ClassL} (h : rdOf c = rdOf d) : c.nm = d.nm ∧ c.sup = d.sup ∧ c.ifs = d.ifs ∧ c.fl = d.fl ∧ c.ld = d.ld ∧ c.ms.map methSOf = d.ms.map methSOf := by
 unfold rdOf at h
 injection h with h1 h2 h3 h4 h5 h6
 exact ⟨h1, h2, h3, h4, h5, h6⟩
set_option maxHeartbeats 8000000 in
set_option maxRecDepth 100000 in
theorem sameCls_any (c d : ClassL) (w : World) (hc : c.fit w) (hd : d.fit w) (h : rdOf c = rdOf d) :
  Calls Tryz.prog 26 #[c.v, d.v] w fun e w' => e = .returned (.bool true) ∧ Upd w w' [] := by
 obtain ⟨e1, e2, e3, e4, e5, e6⟩ := rd_parts h
 obtain ⟨nm, sup, AI, cI, ifs, fl, ld, AM, cM, ms⟩ := c
 obtain ⟨nm', sup', BI, dI, ifs', fl', ld', BM, dM, ms'⟩ := d
 simp only at e1 e2 e3 e4 e5 e6
 subst e1 e2 e3 e4 e5
 have hml : ms.length = ms'.length := by have := congrArg List.length e6; simpa using this
 have Hlm := hid hml
 have Hst := hid (fun W (hU : Upd w W []) => hid (sameTexts_any AI BI cI dI ifs W (hc.ifs.upd hU) (hd.ifs.upd hU) hc.lenI))
 have Hms : Hid (∀ k (h1 : k < ms.length) (h2 : k < ms'.length), methSOf ms[k] = methSOf ms'[k]) := hid (fun k h1 h2 => by
  have := congrArg (fun l : List MethS => l[k]?) e6
  simp only [List.getElem?_map, List.getElem?_eq_getElem h1, List.getElem?_eq_getElem h2] at this
  exact Option.some.inj this)
 have HMA := hid hc.ms
 have HMB := hid hd.ms
 have Hfa := hid hc.meths
 have Hfb := hid hd.meths
 have hlM := hc.lenM
 simp only at hlM HMA HMB Hfa Hfb
 have h1 : ((bs nm).toList == (bs nm).toList) = true := by simp
 have h2 : ((bs sup).toList == (bs sup).toList) = true := by simp
 have hbx : Blk (w.alloc (.cells #[.string (bs nm), .string (bs sup), .slice AI ifs.length cI, .int .i64 fl, .int .i64 ld, .slice AM ms.length cM] 25)) w.heap.size 25 #[.string (bs nm), .string (bs sup), .slice AI ifs.length cI, .int .i64 fl, .int .i64 ld, .slice AM ms.length cM] := Blk.new _ _ _
 generalize hwa : w.alloc (.cells #[.string (bs nm), .string (bs sup), .slice AI ifs.length cI, .int .i64 fl, .int .i64 ld, .slice AM ms.length cM] 25) = wa at hbx
 have hUa : Upd w wa [] := by rw [← hwa]; exact (Upd.refl _ _).alloc _
 have hsa : wa.heap.size = w.heap.size + 1 := by rw [← hwa]; simp
 have Hwa := hid hwa
 clear hwa
 have HX := hid (hbx.alloc (.cells #[.string (bs nm), .string (bs sup), .slice BI ifs.length dI, .int .i64 fl, .int .i64 ld, .slice BM ms'.length dM] 25))
 have HY := hid (Blk.new_at (w := wa) (t := 25) (cs := #[.string (bs nm), .string (bs sup), .slice BI ifs.length dI, .int .i64 fl, .int .i64 ld, .slice BM ms'.length dM]) (g := w.heap.size + 1) (by omega))
 have HU2 := hid (hUa.alloc (.cells #[.string (bs nm), .string (bs sup), .slice BI ifs.length dI, .int .i64 fl, .int .i64 ld, .slice BM ms'.length dM] 25))
 rw [← Hwa.out] at HX HY HU2
 clear hbx hUa hsa Hwa hc hd h e6 hml
 unfold ClassL.v ClassL.cells
 simp only
 go_enter Tryz.func26, Tryz.ntmps26
 go_wp2_with fail
 refine (Hst.out _ HU2.out).out.mono ?_
 rintro e w3 ⟨rfl, hU3⟩
 have HX3 := hid (hU3.blk HX.out (by simp))
 have HY3 := hid (hU3.blk HY.out (by simp))
 have HU3 := hid (HU2.out.trans hU3)
 have c5 := (HX3.out.cell 5).trans (show _ = some (.slice AM ms.length cM) from rfl)
 have d5 := (HY3.out.cell 5).trans (show _ = some (.slice BM ms'.length dM) from rfl)
 have hltx := HX3.out.lt
 have hlty := HY3.out.lt
 clear hU3 Hst HX HY HU2 h1 h2
 rw [← Hlm.out] at d5
 go_wp2
 go_loopw [5] (fun t wr => eqRel ms.length w3 t wr) (fun t _ => ms.length - (intOf t).toNat)
 case atStart => exact ⟨0, rfl, Nat.zero_le _, hid (Upd.refl _ _)⟩
 case round =>
  obtain ⟨k, rfl, hk, HU⟩ := hrel
  have hcw := HU.out.cells.1
  have g5 : wr.cell? ⟨w.heap.size, 5, none⟩ = some (.slice AM ms.length cM) := by rw [hcw _ _ hltx]; exact c5
  have r5 : wr.cell? ⟨w.heap.size + 1, 5, none⟩ = some (.slice BM ms.length dM) := by rw [hcw _ _ hlty]; exact d5
  have hltx2 : w.heap.size < wr.heap.size := Nat.lt_of_lt_of_le hltx HU.out.size
  have hlty2 : w.heap.size + 1 < wr.heap.size := Nat.lt_of_lt_of_le hlty HU.out.size
  have HUw := hid (HU3.out.trans HU.out)
  clear hcw c5 d5
  by_cases hlt : k < ms.length
  ·have hlt2 : k < ms'.length := by have := Hlm.out; omega
   obtain ⟨b1, o1, rfl, hb1, hc1⟩ := (HMA.out.upd HUw.out) (by rintro rfl; simp at hlt)
   obtain ⟨b2, o2, rfl, hb2, hc2⟩ := (HMB.out.upd HUw.out) (by rintro rfl; simp at hlt2)
   have hfa := (Hfa.out _ (List.getElem_mem hlt)).upd HUw.out
   have hfb := (Hfb.out _ (List.getElem_mem hlt2)).upd HUw.out
   have heq := Hms.out k hlt hlt2
   obtain ⟨mn, md, mf, ml, mt, MA, mc, code, ea⟩ : ∃ mn md mf ml mt MA mc code, ms[k] = MethL.mk mn md mf ml mt MA mc code := ⟨_, _, _, _, _, _, _, _, rfl⟩
   obtain ⟨nn, nd, nf, nl, nt, NA, nc, code2, eb⟩ : ∃ nn nd nf nl nt NA nc code2, ms'[k] = MethL.mk nn nd nf nl nt NA nc code2 := ⟨_, _, _, _, _, _, _, _, rfl⟩
   rw [ea, eb] at heq
   injection heq with q1 q2 q3 q4 q5 q6
   simp only at q1 q2 q3 q4 q5 q6
   subst q1 q2 q3 q4 q5 q6
   rw [ea] at hfa
   rw [eb] at hfb
   have Hsm := hid (fun W (hU : Upd wr W []) => hid (sameMethod_any mn md mf ml mt MA NA mc nc code W (hfa.at_.upd hU) (hfb.at_.upd hU) hfa.len))
   unfold MethL.v MethL.cells at Hsm
   simp only at Hsm
   obtain ⟨x0, x1, x2, x3, x4, x5⟩ := MethsAt.six hc1 hlt ea
   obtain ⟨y0, y1, y2, y3, y4, y5⟩ := MethsAt.six hc2 hlt2 eb
   have qs := fun d os => quiet_of (W := wr) (d := d) (os := os) fun W hW => (Hsm.out W hW).out
   have HS := hid qs
   clear qs hc1 hc2 hfa hfb ea eb Hsm HUw
   have k0 := cell_regrown (x0)
   have k1 := cell_regrown (x1)
   have k2 := cell_regrown (x2)
   have k3 := cell_regrown (x3)
   have k4 := cell_regrown (x4)
   have k5 := cell_regrown (x5)
   have l0 := cell_regrown (y0)
   have l1 := cell_regrown (y1)
   have l2 := cell_regrown (y2)
   have l3 := cell_regrown (y3)
   have l4 := cell_regrown (y4)
   have l5 := cell_regrown (y5)
   have kg := cell_regrown g5
   have kr := cell_regrown r5
   go_wp2
   refine wp_region_quiet_below (by kernel_rfl) (by kernel_rfl) ?_
   repeat (any_goals (first
    | go_big_quiet_step (exact HS.out _ _)
    | quiet_step (exact HS.out _ _)))
   refine wpQuiet_nil ?_
   intro _ hw'
   obtain ⟨⟨dq, osq⟩, hw''⟩ := hw'
   subst hw''
   have hV4 : Upd wr (grow (redrawn wr dq) osq) [] := Upd.of_below (below_regrown wr dq osq) []
   have hV5 := HU.out.trans hV4
   clear hV4
   revert hV5
   generalize grow (redrawn wr dq) osq = w4
   intro hV5
   go_wp2
   go_roundw
   case rel => exact ⟨k + 1, by go_num, by omega, hid hV5⟩
   case measure => simp [intOf]; omega
  ·obtain rfl : k = ms.length := by omega
   go_wp2
   go_ret
   exact ⟨rfl, HUw.out⟩
end Go.Proofs.YtjjdlgjofjfgmaaGreatDoor
